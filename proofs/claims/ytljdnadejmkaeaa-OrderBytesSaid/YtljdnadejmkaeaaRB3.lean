/- RB: Ord11, LiveL, Live3, Live12, Live11, Live13. -/
import Derived.Test.YtljdnadejmkaeaaRB1
import Derived.Test.YtljdnadejmkaeaaRB2
import Derived.Deep.DrawnRows
import Derived.StillTailTactics
/- order: what is wrong with one order, and what it leaves written. -/
namespace Go.Proofs.Ytljdnadejmkaeaa
open Go.RowKit
attribute [local go_sem ↓] Go.wp_at_zero Go.wp_at_succ

theorem Ord.right_ok {x : RO} {slots : Int} {nex : Nat} (h : Ord.right (Ord.theForm x.op) x slots nex = true) :
    (x.op = 3 ∨ x.op = 4 → 0 ≤ x.n ∧ x.n < slots) ∧ (0 ≤ Ord.writes x → Ord.writes x < 8) ∧ (0 ≤ x.exit → x.exit < nex) := by
  unfold Ord.right at h
  by_cases h4 : Ord.c4 (Ord.theForm x.op) x = true
  · rw [if_pos h4] at h; cases h
  rw [if_neg h4] at h
  by_cases h5 : Ord.c5 (Ord.theForm x.op) x = true
  · rw [if_pos h5] at h; cases h
  rw [if_neg h5] at h
  by_cases h7 : Ord.c7 (Ord.theForm x.op) x = true
  · rw [if_pos h7] at h; cases h
  rw [if_neg h7] at h
  by_cases h8 : Ord.c8 (Ord.theForm x.op) x = true
  · rw [if_pos h8] at h; cases h
  rw [if_neg h8] at h
  by_cases h10 : Ord.c10 (Ord.theForm x.op) x = true
  · rw [if_pos h10] at h; cases h
  rw [if_neg h10] at h
  by_cases h11 : Ord.c11 (Ord.theForm x.op) x = true
  · rw [if_pos h11] at h; cases h
  rw [if_neg h11] at h
  by_cases h13 : Ord.c13 x slots = true
  · rw [if_pos h13] at h; cases h
  rw [if_neg h13] at h
  refine ⟨fun hop => ?_, fun hw => ?_, fun he => ?_⟩
  · have hlo : (Ord.theForm x.op).low = 0 := by rcases hop with e | e <;> rw [e] <;> rfl
    simp only [Ord.c8, Bool.or_eq_true, decide_eq_true_eq, not_or, hlo] at h8
    simp only [Ord.c13, Bool.and_eq_true, Bool.or_eq_true, beq_iff_eq, decide_eq_true_eq, not_and] at h13
    have := h13 hop
    omega
  · unfold Ord.writes at hw ⊢
    unfold Ord.c7 at h7
    cases hf : (Ord.theForm x.op).wr with
    | false => rw [hf] at hw; simp at hw
    | true =>
      rw [hf] at h7
      simp [Ord.isReg] at h7
      simp only [if_true]
      exact h7.2
  · split at h
    · simp at h; omega
    · simp at h; exact h.2

/-- a register's order is known by what it asks -/
theorem Ord.readOk_no {st : Ord.St} {r : Int} (h : Ord.isReg r = false) : Ord.readOk st r = false := by unfold Ord.readOk; rw [h]; rfl
theorem Ord.readOk_reg {st : Ord.St} {r : Nat} {b : Bool} (hr : r < 8) (h : st.regs[r]? = some b) : Ord.readOk st (r : Int) = b := by
  unfold Ord.readOk Ord.isReg
  rw [Int.toNat_natCast, List.getD_eq_getElem?_getD, h]
  rw [decide_eq_true (by omega : (0 : Int) ≤ (r : Int) ∧ (r : Int) < 8)]; rfl

def OrdPost (st : Ord.St) (x : RO) (slots : Int) (exits : List RE) (base G : Nat) (w : World) (e : Ending) (w' : World) : Prop :=
  e = .returned (.int .i64 (Ord.orderErr st x slots exits)) ∧ (Ord.orderErr st x slots exits = 0 → Ws w' base G (Ord.after st x)) ∧ Below base w w'

set_option maxHeartbeats 6400000 in
set_option maxRecDepth 100000 in
theorem order_any (base G B slots ec : Nat) (EA : Option Addr) (st : Ord.St) (x : RO) (exits : List RE) (v0 v1 v2 v4 v6 v7 v8 v9 v10 v11 v12 v13 : Value) (w : World) (h : Ws w base G st) (hbG : base ≤ G) (hE : At w B EA exits) (hB : B ≤ base) (hsl : st.slots.length = slots)
    (hN : ∀ y ∈ exits, (Ord.places y).length * 16 ≤ 140737488355328) (hxi : I64 x.a ∧ I64 x.b ∧ I64 x.c) (hki : I64 x.k.1 ∧ I64 x.k.2) :
    Calls Try.prog 95 #[.pointer (some ⟨G, 0, none⟩), .agg #[.int .i64 x.op, .int .i64 x.a, .int .i64 x.b, .int .i64 x.c, .int .i64 x.n, .int .i64 x.exit, .int .i64 x.k.1, .int .i64 x.k.2], .agg #[v0, v1, v2, .int .i64 (slots : Int), v4, .slice EA exits.length ec, v6, v7, v8, v9, v10, v11, v12, v13]] w (OrdPost st x slots exits base G w) := by
  obtain ⟨P, hP⟩ : ∃ P, OrdPost st x slots exits base G w = P := ⟨_, rfl⟩
  rw [hP]
  have hGl := h.lt
  have HP := Lib.hid (And.intro hP.symm (And.intro hN (And.intro hxi hki))); clear hP hN hxi hki
  have H := Lib.hid (And.intro h (And.intro hE hsl)); clear h hE hsl
  go_enter Try.func95, Try.ntmps95
  go_wp2_with fail
  refine calls_world (fun W => Blk W w.heap.size 146 #[.int .i64 x.op, .int .i64 x.a, .int .i64 x.b, .int .i64 x.c, .int .i64 x.n, .int .i64 x.exit, .int .i64 x.k.1, .int .i64 x.k.2] ∧ Blk W (w.heap.size + 1) 104 #[v0, v1, v2, .int .i64 (slots : Int), v4, .slice EA exits.length ec, v6, v7, v8, v9, v10, v11, v12, v13] ∧ Below w.heap.size w W ∧ w.heap.size + 2 ≤ W.heap.size) ⟨(Blk.new _ _ _).alloc _, Blk.at_ _ _ _ (by simp), ((Below.refl _ _).alloc (Nat.le_refl _) _).alloc (by simp) _, by simp⟩ ?_
  rintro W ⟨hX, hC, hb0, hs0⟩
  refine (form_call x.op W).mono ?_
  rintro e w1 ⟨fr, fw, fl, fh, fn, fk, fe, b, hf, rfl, hb1⟩
  have hs1 := hb1.size
  have hbl := hb0.trans (hb1.mono (by omega))
  have H1 := Lib.hid (And.intro (H.out.1.fresh hbl) (And.intro (hX.fresh hb1) (hC.fresh hb1))); clear hX hC
  cases b with
  | false =>
    have he : Ord.orderErr st x slots exits = 7 := by unfold Ord.orderErr; rw [if_pos]; have := hf.out.2; cases hh : Ord.form x.op <;> rw [hh] at this <;> simp_all
    have HZ := Lib.hid he; clear he
    go_wp2_with fail
    rw [HP.out.1]
    exact ⟨by rw [HZ.out]; rfl, fun h => by rw [HZ.out] at h; exact absurd h (by decide), (hbl.mono (by omega)).alloc (by omega) _⟩
  | true =>
    have hro : ∀ i ∈ fr, i < 3 := by have := rd_ok x.op; rw [hf.out.1] at this; exact this
    have HR := Lib.hid hro; clear hro
    have hH1 : Ws (w1.alloc (.cells #[.string (Ord.lets fr), .bool fw, .int .i64 fl, .int .i64 fh, .bool fn, .bool fk, .int .i64 fe] 197)) base G st ∧ Blk (w1.alloc (.cells #[.string (Ord.lets fr), .bool fw, .int .i64 fl, .int .i64 fh, .bool fn, .bool fk, .int .i64 fe] 197)) w.heap.size 146 #[.int .i64 x.op, .int .i64 x.a, .int .i64 x.b, .int .i64 x.c, .int .i64 x.n, .int .i64 x.exit, .int .i64 x.k.1, .int .i64 x.k.2] ∧ Blk (w1.alloc (.cells #[.string (Ord.lets fr), .bool fw, .int .i64 fl, .int .i64 fh, .bool fn, .bool fk, .int .i64 fe] 197)) (w.heap.size + 1) 104 #[v0, v1, v2, .int .i64 (slots : Int), v4, .slice EA exits.length ec, v6, v7, v8, v9, v10, v11, v12, v13] ∧ Below w.heap.size w (w1.alloc (.cells #[.string (Ord.lets fr), .bool fw, .int .i64 fl, .int .i64 fh, .bool fn, .bool fk, .int .i64 fe] 197)) := ⟨H1.out.1.alloc _, H1.out.2.1.alloc _, H1.out.2.2.alloc _, hbl.alloc (by omega) _⟩
    have H2 := Lib.hid hH1; clear hH1
    go_wp2_with (first | (refine wpList_ld rfl 197 (.tmp 7) rfl w1.heap.size rfl (Blk.new w1 _ _) Try.underlying197 rfl (by kernel_rfl) ?_) | (refine wpList_ld rfl 146 (.tmp 4) rfl w.heap.size rfl H2.out.2.1 Try.underlying146 rfl (by kernel_rfl) ?_) | (refine wpList_ld rfl 104 (.tmp 5) rfl (w.heap.size + 1) rfl H2.out.2.2.1 Try.underlying104 rfl (by kernel_rfl) ?_))
    refine (right_any fr fw fl fh fn fk fe x slots exits.length ec EA v0 v1 v2 v4 v6 v7 v8 v9 v10 v11 v12 v13 _ HR.out HP.out.2.2.1 HP.out.2.2.2).mono ?_
    rintro e w2 ⟨he, hb2⟩
    obtain ⟨rb, hrb⟩ : ∃ rb, Ord.right (Ord.theForm x.op) x slots exits.length = rb := ⟨_, rfl⟩
    rw [← hf.out.1, hrb] at he
    subst he
    have hs2 := hb2.size
    simp only [World.size_alloc] at hs2
    have hbl2 : Below w.heap.size w w2 := H2.out.2.2.2.trans (hb2.mono (by simp; omega))
    have H3 := Lib.hid (And.intro (H2.out.1.fresh hb2) (And.intro (H2.out.2.1.fresh hb2) (H2.out.2.2.1.fresh hb2))); clear H1 H2 hb2 HR
    have hsome : (Ord.form x.op).isNone = false := by have := hf.out.2; cases hh : Ord.form x.op <;> rw [hh] at this <;> simp_all
    cases rb with
    | false =>
      have he : Ord.orderErr st x slots exits = 3 := by unfold Ord.orderErr; rw [if_neg (by rw [hsome]; decide), if_pos (by rw [hrb]; rfl)]
      have HZ := Lib.hid he; clear he hrb hsome
      go_wp2_with fail
      rw [HP.out.1]
      exact ⟨by rw [HZ.out]; rfl, fun h => by rw [HZ.out] at h; exact absurd h (by decide), hbl2.mono (by omega)⟩
    | true =>
      have hro := Ord.right_ok hrb
      have herr : Ord.orderErr st x slots exits = if (Ord.reads x).any (fun r => !Ord.readOk st r) then 3 else if x.op == 4 && !st.slots.getD x.n.toNat false then 3 else if Ord.exitBad st x exits then 3 else 0 := by
        unfold Ord.orderErr; rw [if_neg (by rw [hsome]; decide), if_neg (by rw [hrb]; decide)]
      have HE := Lib.hid (And.intro herr hro); clear herr hro hrb hsome
      go_wp2_with (refine wpList_ld rfl 146 (.tmp 4) rfl w.heap.size rfl H3.out.2.1 Try.underlying146 rfl (by kernel_rfl) ?_)
      refine (reads_any x w2 HP.out.2.2.1).mono ?_
      rintro e w3 ⟨RA, rc, m, rfl, hm, ho3, hb3⟩
      have hs3 := hb3.size
      have hrok : ∀ z ∈ Ord.reads x, I64 z := fun z hz => by
        unfold Ord.reads at hz
        obtain ⟨i, -, rfl⟩ := List.mem_map.1 hz
        exact fld_ok x HP.out.2.2.1 i
      have hbl3 : Below w.heap.size w w3 := hbl2.trans (hb3.mono (by omega))
      have H4 := Lib.hid (And.intro (H3.out.1.fresh hb3) (And.intro (H3.out.2.1.fresh hb3) (And.intro (H3.out.2.2.fresh hb3) (And.intro (ho3.at_ hrok) (And.intro hm hf.out))))); clear ho3 hb3 hm hrok H3 hf
      have hml : m ≤ 3 := by rw [← H4.out.2.2.2.2.1]; unfold Ord.reads; rw [List.length_map]; exact rd_len x.op
      go_wp2_with fail
      go_loopg [28] m (fun gk iv wr => ∃ (k : Nat), k ≤ m ∧ gk = m - k ∧ iv = .int .i64 k ∧ Hid (((Ord.reads x).take k).any (fun r => !Ord.readOk st r) = false) ∧ Below w3.heap.size w3 wr)
      case atStart => exact ⟨0, Nat.zero_le _, rfl, rfl, by simp [Hid], Below.refl _ _⟩
      case round =>
        obtain ⟨k, hk, rfl, rfl, hno, hbr⟩ := hrel
        have hsr := hbr.size
        have hbw : Below w.heap.size w wr := hbl3.trans (hbr.mono (by omega))
        by_cases hlt : k < m
        · obtain ⟨bb, o, r, rfl, hbb, hx, hor, r0⟩ := (H4.out.2.2.2.1.below hbr).int_ (k := k) (by have := H4.out.2.2.2.2.1; omega)
          have hsn := any_snoc (fun r => !Ord.readOk st r) (Ord.reads x) k r hx
          rw [hno.out, Bool.false_or] at hsn
          have hbad : Ord.readOk st r = false → Ord.orderErr st x slots exits = 3 := fun hh => by
            rw [HE.out.1, if_pos]
            exact List.any_eq_true.2 ⟨r, List.mem_of_getElem? hx, by rw [hh]; rfl⟩
          have hk0 : (0 : Int) ≤ (k : Int) := by omega
          have hk1 : (k : Int) < (m : Int) := by omega
          have HS := Lib.hid (And.intro hsn hbad); clear hsn hbad hx hno
          cases hreg : Ord.isReg r with
          | false =>
            have HZ := Lib.hid (HS.out.2 (Ord.readOk_no hreg))
            have HRG := Lib.hid hreg; clear hreg
            go_wp2_with (go_at_call 133; refine (isReg_any r _).mono ?_; rintro e w5 ⟨he5, rfl⟩; rw [HRG.out] at he5; subst he5)
            rw [HP.out.1]
            exact ⟨by rw [HZ.out]; rfl, fun h => by rw [HZ.out] at h; exact absurd h (by decide), hbw.mono (by omega)⟩
          | true =>
            have hr8 : 0 ≤ r ∧ r < 8 := by simpa [Ord.isReg] using hreg
            obtain ⟨q, rfl⟩ := Int.eq_ofNat_of_zero_le hr8.1
            have hq8 : q < 8 := by omega
            obtain ⟨A, c, hG, hO, h8⟩ := H4.out.1.fresh hbr
            obtain ⟨vb, hvb⟩ : ∃ vb, st.regs[q]? = some vb := ⟨_, List.getElem?_eq_getElem (by omega)⟩
            have g0 := hG.cell q (wrC_reg hvb)
            have hrk := Ord.readOk_reg hq8 hvb
            have ltG := hG.lt
            have HRG := Lib.hid (And.intro hreg hrk); clear hreg hrk hG hO h8 hvb
            obtain ⟨hr0, hr7⟩ := hr8
            cases vb with
            | false =>
              have HZ := Lib.hid (HS.out.2 HRG.out.2)
              go_wp2_with (go_at_call 133; refine (isReg_any _ _).mono ?_; rintro e w5 ⟨he5, rfl⟩; rw [HRG.out.1] at he5; subst he5)
              rw [HP.out.1]
              exact ⟨by rw [HZ.out]; rfl, fun h => by rw [HZ.out] at h; exact absurd h (by decide), hbw.mono (by omega)⟩
            | true =>
              go_wp2_with (go_at_call 133; refine (isReg_any _ _).mono ?_; rintro e w5 ⟨he5, rfl⟩; rw [HRG.out.1] at he5; subst he5)
              go_roundg (m - (k + 1))
              case measure => omega
              case rel => exact ⟨k + 1, by omega, rfl, by go_num, by unfold Hid; rw [HS.out.1, HRG.out.2]; rfl, hbr⟩
        · have hra := hno.out
          rw [List.take_of_length_le (by have := H4.out.2.2.2.2.1; omega)] at hra
          have herr : Ord.orderErr st x slots exits = if x.op == 4 && !st.slots.getD x.n.toNat false then 3 else if Ord.exitBad st x exits then 3 else 0 := by rw [HE.out.1, if_neg (by rw [hra]; decide)]
          have HF := Lib.hid (And.intro herr HE.out.2); clear herr hra hno HE
          have H5 := Lib.hid (And.intro (H4.out.1.fresh hbr) (And.intro (H4.out.2.1.fresh hbr) (H4.out.2.2.1.fresh hbr))); clear H4
          go_upto_region 12 with fail
          have x0 := H5.out.2.1.cell 0 (v := .int .i64 x.op) rfl
          have x4 := H5.out.2.1.cell 4 (v := .int .i64 x.n) rfl
          have x5 := H5.out.2.1.cell 5 (v := .int .i64 x.exit) rfl
          have c5 := H5.out.2.2.cell 5 (v := .slice EA exits.length ec) rfl
          have ltX : w.heap.size < wr.heap.size := by omega
          have ltC : w.heap.size + 1 < wr.heap.size := by omega
          obtain ⟨bb, hbb⟩ : ∃ bb, (x.op == 4 && !st.slots.getD x.n.toNat false || Ord.exitBad st x exits) = bb := ⟨_, rfl⟩
          have hErr : Ord.orderErr st x slots exits = if bb then 3 else 0 := by
            rw [HF.out.1, ← hbb]
            cases (x.op == 4 && !st.slots.getD x.n.toNat false) <;> cases Ord.exitBad st x exits <;> rfl
          have HBB := Lib.hid (And.intro hbb hErr); clear hbb hErr
          have hEw := H.out.2.1.below (hbw.mono (show B ≤ w.heap.size by omega))
          have HEX := Lib.hid hEw; clear hEw
          have hexb : (0 ≤ x.exit → False) → Ord.exitBad st x exits = false := fun hh => by unfold Ord.exitBad; rw [decide_eq_false (fun h => hh h)]; rfl
          have HXB := Lib.hid hexb; clear hexb
          go_cut [74] (fun ov W2 => ov = .bool bb ∧ Below wr.heap.size wr W2)
          case first =>
            cases d1 : (x.op == 4) with
            | false =>
              by_cases hx0 : 0 ≤ x.exit
              · have hx1 := HF.out.2.2.2 hx0
                obtain ⟨y, hy⟩ : ∃ y : Nat, x.exit = (y : Int) := ⟨x.exit.toNat, by omega⟩
                have hyl : y < exits.length := by omega
                obtain ⟨be, oe, ey, SA, sc, MA, mc, rfl, hbE, hey, e0, e1, e2, e3, as_, -, am_, -, -, -⟩ := HEX.out.rE_ hyl
                obtain ⟨N, hN⟩ : ∃ N, (Ord.places ey).length = N := ⟨_, rfl⟩
                have hNb := HP.out.2.1 ey (List.mem_of_getElem? hey)
                rw [hN] at hNb
                have hxe : Ord.exitBad st x exits = !Ord.all_ st ey := by unfold Ord.exitBad; rw [decide_eq_true hx0, hy, Int.toNat_natCast, hey]; rfl
                have HY := Lib.hid (And.intro as_ (And.intro am_ (And.intro hN (And.intro hNb hy))))
                have ltE : be < wr.heap.size := by omega
                have hd2 : decide (0 ≤ x.exit) = true := by simpa using hx0
                have hy0 : (0 : Int) ≤ (y : Int) := by omega
                have hy1 : (y : Int) < (exits.length : Int) := by omega
                rw [hy] at x5
                clear as_ am_ hN hNb hey hy hx0 hx1 hd2
                cases hav : Ord.all_ st ey with
                | true =>
                  have ht : bb = false := by rw [← HBB.out.1, hxe, hav, d1]; rfl
                  have HT := Lib.hid ht; have HV := Lib.hid hav; clear ht hav hxe
                  refine wp_region_held_drew (S := (fun w' => w'.cell? ⟨w.heap.size, 0, none⟩ = some (.int .i64 x.op) ∧ w'.cell? ⟨w.heap.size, 5, none⟩ = some (.int .i64 (y : Int)) ∧ w'.cell? ⟨w.heap.size + 1, 5, none⟩ = some (.slice (some ⟨be, oe, none⟩) exits.length ec) ∧ w'.cell? ⟨be, oe + y * 4, none⟩ = some (.int .i64 ey.at_) ∧ w'.cell? ⟨be, oe + y * 4 + 1, none⟩ = some (.int .i64 ey.steps) ∧ w'.cell? ⟨be, oe + y * 4 + 2, none⟩ = some (.slice SA ey.sets.length sc) ∧ w'.cell? ⟨be, oe + y * 4 + 3, none⟩ = some (.slice MA ey.makes.length mc))) (by kernel_rfl) ?_ (fun hHeld0 => ?_)
                  · first | trivial | ((try dsimp only); (exact ⟨x0, x5, c5, e0, e1, e2, e3⟩))
                  refine held_take (v := ?_) 0 rfl (by kernel_rfl) (by kernel_rfl) (by kernel_rfl) (fun _ _ _ h => h) (by rfl) ?_ (by assumption) ?_
                  rotate_left
                  · (intro w hSw; (try dsimp only at hSw); go_simp; try with_reducible rfl)
                  try simp only [Act.put, List.setIfInBounds_toArray, List.set_cons_zero, List.set_cons_succ]
                  refine held_take (v := ?_) 1 rfl (by kernel_rfl) (by kernel_rfl) (by kernel_rfl) (fun _ _ _ h => h) (by rfl) ?_ (by assumption) ?_
                  rotate_left
                  · (intro w hSw; (try dsimp only at hSw); go_simp; try with_reducible rfl)
                  try simp only [Act.put, List.setIfInBounds_toArray, List.set_cons_zero, List.set_cons_succ]
                  refine held_take (v := ?_) 2 rfl (by kernel_rfl) (by kernel_rfl) (by kernel_rfl) (fun _ _ _ h => h) (by rfl) ?_ (by assumption) ?_
                  rotate_left
                  · (intro w hSw; (try dsimp only at hSw); go_simp; try with_reducible rfl)
                  try simp only [Act.put, List.setIfInBounds_toArray, List.set_cons_zero, List.set_cons_succ]
                  refine held_take (v := ?_) 3 rfl (by kernel_rfl) (by kernel_rfl) (by kernel_rfl) (fun _ _ _ h => h) (by rfl) ?_ (by assumption) ?_
                  rotate_left
                  · (intro w hSw; (try dsimp only at hSw); go_simp; try with_reducible rfl)
                  try simp only [Act.put, List.setIfInBounds_toArray, List.set_cons_zero, List.set_cons_succ]
                  refine held_skip 4 rfl (by kernel_rfl) (by kernel_rfl) (by kernel_rfl) (fun _ _ _ h => h) (by rfl) (by assumption) ?_
                  try simp only [Act.put, List.setIfInBounds_toArray, List.set_cons_zero, List.set_cons_succ]
                  refine held_skip 5 rfl (by kernel_rfl) (by kernel_rfl) (by kernel_rfl) (fun _ _ _ h => h) (by rfl) (by assumption) ?_
                  try simp only [Act.put, List.setIfInBounds_toArray, List.set_cons_zero, List.set_cons_succ]
                  refine held_skip 6 rfl (by kernel_rfl) (by kernel_rfl) (by kernel_rfl) (fun _ _ _ h => h) (by rfl) (by assumption) ?_
                  try simp only [Act.put, List.setIfInBounds_toArray, List.set_cons_zero, List.set_cons_succ]
                  refine held_skip 7 rfl (by kernel_rfl) (by kernel_rfl) (by kernel_rfl) (fun _ _ _ h => h) (by rfl) (by assumption) ?_
                  try simp only [Act.put, List.setIfInBounds_toArray, List.set_cons_zero, List.set_cons_succ]
                  refine held_skip 8 rfl (by kernel_rfl) (by kernel_rfl) (by kernel_rfl) (fun _ _ _ h => h) (by rfl) (by assumption) ?_
                  try simp only [Act.put, List.setIfInBounds_toArray, List.set_cons_zero, List.set_cons_succ]
                  refine held_skip 9 rfl (by kernel_rfl) (by kernel_rfl) (by kernel_rfl) (fun _ _ _ h => h) (by rfl) (by assumption) ?_
                  try simp only [Act.put, List.setIfInBounds_toArray, List.set_cons_zero, List.set_cons_succ]
                  refine held_skip 10 rfl (by kernel_rfl) (by kernel_rfl) (by kernel_rfl) (fun _ _ _ h => h) (by rfl) (by assumption) ?_
                  try simp only [Act.put, List.setIfInBounds_toArray, List.set_cons_zero, List.set_cons_succ]
                  refine held_skip 11 rfl (by kernel_rfl) (by kernel_rfl) (by kernel_rfl) (fun _ _ _ h => h) (by rfl) (by assumption) ?_
                  try simp only [Act.put, List.setIfInBounds_toArray, List.set_cons_zero, List.set_cons_succ]
                  refine held_skip 12 rfl (by kernel_rfl) (by kernel_rfl) (by kernel_rfl) (fun _ _ _ h => h) (by rfl) (by assumption) ?_
                  try simp only [Act.put, List.setIfInBounds_toArray, List.set_cons_zero, List.set_cons_succ]
                  refine held_take (v := ?_) 13 rfl (by kernel_rfl) (by kernel_rfl) (by kernel_rfl) (fun _ _ _ h => h) (by rfl) ?_ (by assumption) ?_
                  rotate_left
                  · (intro w hSw; (try dsimp only at hSw); go_simp; try with_reducible rfl)
                  try simp only [Act.put, List.setIfInBounds_toArray, List.set_cons_zero, List.set_cons_succ]
                  refine held_take (v := ?_) 14 rfl (by kernel_rfl) (by kernel_rfl) (by kernel_rfl) (fun _ _ _ h => h) (by rfl) ?_ (by assumption) ?_
                  rotate_left
                  · (intro w hSw; (try dsimp only at hSw); go_simp; try with_reducible rfl)
                  try simp only [Act.put, List.setIfInBounds_toArray, List.set_cons_zero, List.set_cons_succ]
                  refine held_take (v := ?_) 15 rfl (by kernel_rfl) (by kernel_rfl) (by kernel_rfl) (fun _ _ _ h => h) (by rfl) ?_ (by assumption) ?_
                  rotate_left
                  · (intro w hSw; (try dsimp only at hSw); go_simp; try with_reducible rfl)
                  try simp only [Act.put, List.setIfInBounds_toArray, List.set_cons_zero, List.set_cons_succ]
                  refine held_take (v := ?_) 16 rfl (by kernel_rfl) (by kernel_rfl) (by kernel_rfl) (fun _ _ _ h => h) (by rfl) ?_ (by assumption) ?_
                  rotate_left
                  · (intro w hSw; (try dsimp only at hSw); go_simp; try with_reducible rfl)
                  try simp only [Act.put, List.setIfInBounds_toArray, List.set_cons_zero, List.set_cons_succ]
                  refine held_take (v := ?_) 17 rfl (by kernel_rfl) (by kernel_rfl) (by kernel_rfl) (fun _ _ _ h => h) (by rfl) ?_ (by assumption) ?_
                  rotate_left
                  · (intro w hSw; (try dsimp only at hSw); go_simp; try with_reducible rfl)
                  try simp only [Act.put, List.setIfInBounds_toArray, List.set_cons_zero, List.set_cons_succ]
                  refine held_take (v := ?_) 18 rfl (by kernel_rfl) (by kernel_rfl) (by kernel_rfl) (fun _ _ _ h => h) (by rfl) ?_ (by assumption) ?_
                  rotate_left
                  · (intro w hSw; (try dsimp only at hSw); go_simp; try with_reducible rfl)
                  try simp only [Act.put, List.setIfInBounds_toArray, List.set_cons_zero, List.set_cons_succ]
                  refine held_take (v := ?_) 19 rfl (by kernel_rfl) (by kernel_rfl) (by kernel_rfl) (fun _ _ _ h => h) (by rfl) ?_ (by assumption) ?_
                  rotate_left
                  · (intro w hSw; (try dsimp only at hSw); go_simp; try with_reducible rfl)
                  try simp only [Act.put, List.setIfInBounds_toArray, List.set_cons_zero, List.set_cons_succ]
                  refine held_take (v := ?_) 20 rfl (by kernel_rfl) (by kernel_rfl) (by kernel_rfl) (fun _ _ _ h => h) (by rfl) ?_ (by assumption) ?_
                  rotate_left
                  · (intro w hSw; (try dsimp only at hSw); go_simp; try with_reducible rfl)
                  try simp only [Act.put, List.setIfInBounds_toArray, List.set_cons_zero, List.set_cons_succ]
                  refine held_take (v := ?_) 21 rfl (by kernel_rfl) (by kernel_rfl) (by kernel_rfl) (fun _ _ _ h => h) (by rfl) ?_ (by assumption) ?_
                  rotate_left
                  · (intro w hSw; (try dsimp only at hSw); go_simp; try with_reducible rfl)
                  try simp only [Act.put, List.setIfInBounds_toArray, List.set_cons_zero, List.set_cons_succ]
                  refine held_take (v := ?_) 22 rfl (by kernel_rfl) (by kernel_rfl) (by kernel_rfl) (fun _ _ _ h => h) (by rfl) ?_ (by assumption) ?_
                  rotate_left
                  · (intro w hSw; (try dsimp only at hSw); go_simp; try with_reducible rfl)
                  try simp only [Act.put, List.setIfInBounds_toArray, List.set_cons_zero, List.set_cons_succ]
                  refine held_take (v := ?_) 23 rfl (by kernel_rfl) (by kernel_rfl) (by kernel_rfl) (fun _ _ _ h => h) (by rfl) ?_ (by assumption) ?_
                  rotate_left
                  · (intro w hSw; (try dsimp only at hSw); go_simp; try with_reducible rfl)
                  try simp only [Act.put, List.setIfInBounds_toArray, List.set_cons_zero, List.set_cons_succ]
                  refine held_take (v := ?_) 24 rfl (by kernel_rfl) (by kernel_rfl) (by kernel_rfl) (fun _ _ _ h => h) (by rfl) ?_ (by assumption) ?_
                  rotate_left
                  · (intro w hSw; (try dsimp only at hSw); go_simp; try with_reducible rfl)
                  try simp only [Act.put, List.setIfInBounds_toArray, List.set_cons_zero, List.set_cons_succ]
                  refine held_take (v := ?_) 25 rfl (by kernel_rfl) (by kernel_rfl) (by kernel_rfl) (fun _ _ _ h => h) (by rfl) ?_ (by assumption) ?_
                  rotate_left
                  · (intro w hSw; (try dsimp only at hSw); go_simp; try with_reducible rfl)
                  try simp only [Act.put, List.setIfInBounds_toArray, List.set_cons_zero, List.set_cons_succ]
                  refine held_call 26 (by kernel_rfl) rfl (fun K hK => ?_)
                  go_simp
                  go_at_call 94; refine (all_any base G B sc mc N SA MA st ey _ (H5.out.1.drew) (HY.out.1.drew) (HY.out.2.1.drew) (show B ≤ wr.heap.size by omega) HY.out.2.2.1 HY.out.2.2.2.1).mono ?_; rintro e w4 ⟨he, hb4d⟩; obtain rfl : e = .returned (.bool true) := (by (rw [he, HV.out])); clear he; have hb4 : Below wr.heap.size wr w4 := undrew hb4d; clear hb4d
                  try (go_wp2_with fail)
                  refine hK.out _ _ ?_ (fun hHeld1 => ?_)
                  · first | trivial | ((try dsimp only); (exact ⟨(hb4.cell (p := ⟨w.heap.size, 0, none⟩) ltX).trans x0, (hb4.cell (p := ⟨w.heap.size, 5, none⟩) ltX).trans x5, (hb4.cell (p := ⟨w.heap.size + 1, 5, none⟩) ltC).trans c5, (hb4.cell (p := ⟨be, oe + y * 4, none⟩) ltE).trans e0, (hb4.cell (p := ⟨be, oe + y * 4 + 1, none⟩) ltE).trans e1, (hb4.cell (p := ⟨be, oe + y * 4 + 2, none⟩) ltE).trans e2, (hb4.cell (p := ⟨be, oe + y * 4 + 3, none⟩) ltE).trans e3⟩))
                  clear hK K hHeld0
                  try simp only [Act.put, List.setIfInBounds_toArray, List.set_cons_zero, List.set_cons_succ]
                  refine held_take (v := ?_) 27 rfl (by kernel_rfl) (by kernel_rfl) (by kernel_rfl) (fun _ _ _ h => h) (by rfl) ?_ (by assumption) ?_
                  rotate_left
                  · (intro w hSw; (try dsimp only at hSw); go_simp; try with_reducible rfl)
                  try simp only [Act.put, List.setIfInBounds_toArray, List.set_cons_zero, List.set_cons_succ]
                  refine held_take (v := ?_) 28 rfl (by kernel_rfl) (by kernel_rfl) (by kernel_rfl) (fun _ _ _ h => h) (by rfl) ?_ (by assumption) ?_
                  rotate_left
                  · (intro w hSw; (try dsimp only at hSw); go_simp; try with_reducible rfl)
                  try simp only [Act.put, List.setIfInBounds_toArray, List.set_cons_zero, List.set_cons_succ]
                  refine held_take (v := ?_) 29 rfl (by kernel_rfl) (by kernel_rfl) (by kernel_rfl) (fun _ _ _ h => h) (by rfl) ?_ (by assumption) ?_
                  rotate_left
                  · (intro w hSw; (try dsimp only at hSw); go_simp; try with_reducible rfl)
                  try simp only [Act.put, List.setIfInBounds_toArray, List.set_cons_zero, List.set_cons_succ]
                  refine wpAnyH_done (by kernel_rfl) ?_ _
                  go_wp2_with fail
                  go_meet
                  exact ⟨by rw [HT.out], hb4⟩
                | false =>
                  have ht : bb = true := by rw [← HBB.out.1, hxe, hav, d1]; rfl
                  have HT := Lib.hid ht; have HV := Lib.hid hav; clear ht hav hxe
                  refine wp_region_held_drew (S := (fun w' => w'.cell? ⟨w.heap.size, 0, none⟩ = some (.int .i64 x.op) ∧ w'.cell? ⟨w.heap.size, 5, none⟩ = some (.int .i64 (y : Int)) ∧ w'.cell? ⟨w.heap.size + 1, 5, none⟩ = some (.slice (some ⟨be, oe, none⟩) exits.length ec) ∧ w'.cell? ⟨be, oe + y * 4, none⟩ = some (.int .i64 ey.at_) ∧ w'.cell? ⟨be, oe + y * 4 + 1, none⟩ = some (.int .i64 ey.steps) ∧ w'.cell? ⟨be, oe + y * 4 + 2, none⟩ = some (.slice SA ey.sets.length sc) ∧ w'.cell? ⟨be, oe + y * 4 + 3, none⟩ = some (.slice MA ey.makes.length mc))) (by kernel_rfl) ?_ (fun hHeld0 => ?_)
                  · first | trivial | ((try dsimp only); (exact ⟨x0, x5, c5, e0, e1, e2, e3⟩))
                  refine held_take (v := ?_) 0 rfl (by kernel_rfl) (by kernel_rfl) (by kernel_rfl) (fun _ _ _ h => h) (by rfl) ?_ (by assumption) ?_
                  rotate_left
                  · (intro w hSw; (try dsimp only at hSw); go_simp; try with_reducible rfl)
                  try simp only [Act.put, List.setIfInBounds_toArray, List.set_cons_zero, List.set_cons_succ]
                  refine held_take (v := ?_) 1 rfl (by kernel_rfl) (by kernel_rfl) (by kernel_rfl) (fun _ _ _ h => h) (by rfl) ?_ (by assumption) ?_
                  rotate_left
                  · (intro w hSw; (try dsimp only at hSw); go_simp; try with_reducible rfl)
                  try simp only [Act.put, List.setIfInBounds_toArray, List.set_cons_zero, List.set_cons_succ]
                  refine held_take (v := ?_) 2 rfl (by kernel_rfl) (by kernel_rfl) (by kernel_rfl) (fun _ _ _ h => h) (by rfl) ?_ (by assumption) ?_
                  rotate_left
                  · (intro w hSw; (try dsimp only at hSw); go_simp; try with_reducible rfl)
                  try simp only [Act.put, List.setIfInBounds_toArray, List.set_cons_zero, List.set_cons_succ]
                  refine held_take (v := ?_) 3 rfl (by kernel_rfl) (by kernel_rfl) (by kernel_rfl) (fun _ _ _ h => h) (by rfl) ?_ (by assumption) ?_
                  rotate_left
                  · (intro w hSw; (try dsimp only at hSw); go_simp; try with_reducible rfl)
                  try simp only [Act.put, List.setIfInBounds_toArray, List.set_cons_zero, List.set_cons_succ]
                  refine held_skip 4 rfl (by kernel_rfl) (by kernel_rfl) (by kernel_rfl) (fun _ _ _ h => h) (by rfl) (by assumption) ?_
                  try simp only [Act.put, List.setIfInBounds_toArray, List.set_cons_zero, List.set_cons_succ]
                  refine held_skip 5 rfl (by kernel_rfl) (by kernel_rfl) (by kernel_rfl) (fun _ _ _ h => h) (by rfl) (by assumption) ?_
                  try simp only [Act.put, List.setIfInBounds_toArray, List.set_cons_zero, List.set_cons_succ]
                  refine held_skip 6 rfl (by kernel_rfl) (by kernel_rfl) (by kernel_rfl) (fun _ _ _ h => h) (by rfl) (by assumption) ?_
                  try simp only [Act.put, List.setIfInBounds_toArray, List.set_cons_zero, List.set_cons_succ]
                  refine held_skip 7 rfl (by kernel_rfl) (by kernel_rfl) (by kernel_rfl) (fun _ _ _ h => h) (by rfl) (by assumption) ?_
                  try simp only [Act.put, List.setIfInBounds_toArray, List.set_cons_zero, List.set_cons_succ]
                  refine held_skip 8 rfl (by kernel_rfl) (by kernel_rfl) (by kernel_rfl) (fun _ _ _ h => h) (by rfl) (by assumption) ?_
                  try simp only [Act.put, List.setIfInBounds_toArray, List.set_cons_zero, List.set_cons_succ]
                  refine held_skip 9 rfl (by kernel_rfl) (by kernel_rfl) (by kernel_rfl) (fun _ _ _ h => h) (by rfl) (by assumption) ?_
                  try simp only [Act.put, List.setIfInBounds_toArray, List.set_cons_zero, List.set_cons_succ]
                  refine held_skip 10 rfl (by kernel_rfl) (by kernel_rfl) (by kernel_rfl) (fun _ _ _ h => h) (by rfl) (by assumption) ?_
                  try simp only [Act.put, List.setIfInBounds_toArray, List.set_cons_zero, List.set_cons_succ]
                  refine held_skip 11 rfl (by kernel_rfl) (by kernel_rfl) (by kernel_rfl) (fun _ _ _ h => h) (by rfl) (by assumption) ?_
                  try simp only [Act.put, List.setIfInBounds_toArray, List.set_cons_zero, List.set_cons_succ]
                  refine held_skip 12 rfl (by kernel_rfl) (by kernel_rfl) (by kernel_rfl) (fun _ _ _ h => h) (by rfl) (by assumption) ?_
                  try simp only [Act.put, List.setIfInBounds_toArray, List.set_cons_zero, List.set_cons_succ]
                  refine held_take (v := ?_) 13 rfl (by kernel_rfl) (by kernel_rfl) (by kernel_rfl) (fun _ _ _ h => h) (by rfl) ?_ (by assumption) ?_
                  rotate_left
                  · (intro w hSw; (try dsimp only at hSw); go_simp; try with_reducible rfl)
                  try simp only [Act.put, List.setIfInBounds_toArray, List.set_cons_zero, List.set_cons_succ]
                  refine held_take (v := ?_) 14 rfl (by kernel_rfl) (by kernel_rfl) (by kernel_rfl) (fun _ _ _ h => h) (by rfl) ?_ (by assumption) ?_
                  rotate_left
                  · (intro w hSw; (try dsimp only at hSw); go_simp; try with_reducible rfl)
                  try simp only [Act.put, List.setIfInBounds_toArray, List.set_cons_zero, List.set_cons_succ]
                  refine held_take (v := ?_) 15 rfl (by kernel_rfl) (by kernel_rfl) (by kernel_rfl) (fun _ _ _ h => h) (by rfl) ?_ (by assumption) ?_
                  rotate_left
                  · (intro w hSw; (try dsimp only at hSw); go_simp; try with_reducible rfl)
                  try simp only [Act.put, List.setIfInBounds_toArray, List.set_cons_zero, List.set_cons_succ]
                  refine held_take (v := ?_) 16 rfl (by kernel_rfl) (by kernel_rfl) (by kernel_rfl) (fun _ _ _ h => h) (by rfl) ?_ (by assumption) ?_
                  rotate_left
                  · (intro w hSw; (try dsimp only at hSw); go_simp; try with_reducible rfl)
                  try simp only [Act.put, List.setIfInBounds_toArray, List.set_cons_zero, List.set_cons_succ]
                  refine held_take (v := ?_) 17 rfl (by kernel_rfl) (by kernel_rfl) (by kernel_rfl) (fun _ _ _ h => h) (by rfl) ?_ (by assumption) ?_
                  rotate_left
                  · (intro w hSw; (try dsimp only at hSw); go_simp; try with_reducible rfl)
                  try simp only [Act.put, List.setIfInBounds_toArray, List.set_cons_zero, List.set_cons_succ]
                  refine held_take (v := ?_) 18 rfl (by kernel_rfl) (by kernel_rfl) (by kernel_rfl) (fun _ _ _ h => h) (by rfl) ?_ (by assumption) ?_
                  rotate_left
                  · (intro w hSw; (try dsimp only at hSw); go_simp; try with_reducible rfl)
                  try simp only [Act.put, List.setIfInBounds_toArray, List.set_cons_zero, List.set_cons_succ]
                  refine held_take (v := ?_) 19 rfl (by kernel_rfl) (by kernel_rfl) (by kernel_rfl) (fun _ _ _ h => h) (by rfl) ?_ (by assumption) ?_
                  rotate_left
                  · (intro w hSw; (try dsimp only at hSw); go_simp; try with_reducible rfl)
                  try simp only [Act.put, List.setIfInBounds_toArray, List.set_cons_zero, List.set_cons_succ]
                  refine held_take (v := ?_) 20 rfl (by kernel_rfl) (by kernel_rfl) (by kernel_rfl) (fun _ _ _ h => h) (by rfl) ?_ (by assumption) ?_
                  rotate_left
                  · (intro w hSw; (try dsimp only at hSw); go_simp; try with_reducible rfl)
                  try simp only [Act.put, List.setIfInBounds_toArray, List.set_cons_zero, List.set_cons_succ]
                  refine held_take (v := ?_) 21 rfl (by kernel_rfl) (by kernel_rfl) (by kernel_rfl) (fun _ _ _ h => h) (by rfl) ?_ (by assumption) ?_
                  rotate_left
                  · (intro w hSw; (try dsimp only at hSw); go_simp; try with_reducible rfl)
                  try simp only [Act.put, List.setIfInBounds_toArray, List.set_cons_zero, List.set_cons_succ]
                  refine held_take (v := ?_) 22 rfl (by kernel_rfl) (by kernel_rfl) (by kernel_rfl) (fun _ _ _ h => h) (by rfl) ?_ (by assumption) ?_
                  rotate_left
                  · (intro w hSw; (try dsimp only at hSw); go_simp; try with_reducible rfl)
                  try simp only [Act.put, List.setIfInBounds_toArray, List.set_cons_zero, List.set_cons_succ]
                  refine held_take (v := ?_) 23 rfl (by kernel_rfl) (by kernel_rfl) (by kernel_rfl) (fun _ _ _ h => h) (by rfl) ?_ (by assumption) ?_
                  rotate_left
                  · (intro w hSw; (try dsimp only at hSw); go_simp; try with_reducible rfl)
                  try simp only [Act.put, List.setIfInBounds_toArray, List.set_cons_zero, List.set_cons_succ]
                  refine held_take (v := ?_) 24 rfl (by kernel_rfl) (by kernel_rfl) (by kernel_rfl) (fun _ _ _ h => h) (by rfl) ?_ (by assumption) ?_
                  rotate_left
                  · (intro w hSw; (try dsimp only at hSw); go_simp; try with_reducible rfl)
                  try simp only [Act.put, List.setIfInBounds_toArray, List.set_cons_zero, List.set_cons_succ]
                  refine held_take (v := ?_) 25 rfl (by kernel_rfl) (by kernel_rfl) (by kernel_rfl) (fun _ _ _ h => h) (by rfl) ?_ (by assumption) ?_
                  rotate_left
                  · (intro w hSw; (try dsimp only at hSw); go_simp; try with_reducible rfl)
                  try simp only [Act.put, List.setIfInBounds_toArray, List.set_cons_zero, List.set_cons_succ]
                  refine held_call 26 (by kernel_rfl) rfl (fun K hK => ?_)
                  go_simp
                  go_at_call 94; refine (all_any base G B sc mc N SA MA st ey _ (H5.out.1.drew) (HY.out.1.drew) (HY.out.2.1.drew) (show B ≤ wr.heap.size by omega) HY.out.2.2.1 HY.out.2.2.2.1).mono ?_; rintro e w4 ⟨he, hb4d⟩; obtain rfl : e = .returned (.bool false) := (by (rw [he, HV.out])); clear he; have hb4 : Below wr.heap.size wr w4 := undrew hb4d; clear hb4d
                  try (go_wp2_with fail)
                  refine hK.out _ _ ?_ (fun hHeld1 => ?_)
                  · first | trivial | ((try dsimp only); (exact ⟨(hb4.cell (p := ⟨w.heap.size, 0, none⟩) ltX).trans x0, (hb4.cell (p := ⟨w.heap.size, 5, none⟩) ltX).trans x5, (hb4.cell (p := ⟨w.heap.size + 1, 5, none⟩) ltC).trans c5, (hb4.cell (p := ⟨be, oe + y * 4, none⟩) ltE).trans e0, (hb4.cell (p := ⟨be, oe + y * 4 + 1, none⟩) ltE).trans e1, (hb4.cell (p := ⟨be, oe + y * 4 + 2, none⟩) ltE).trans e2, (hb4.cell (p := ⟨be, oe + y * 4 + 3, none⟩) ltE).trans e3⟩))
                  clear hK K hHeld0
                  try simp only [Act.put, List.setIfInBounds_toArray, List.set_cons_zero, List.set_cons_succ]
                  refine held_take (v := ?_) 27 rfl (by kernel_rfl) (by kernel_rfl) (by kernel_rfl) (fun _ _ _ h => h) (by rfl) ?_ (by assumption) ?_
                  rotate_left
                  · (intro w hSw; (try dsimp only at hSw); go_simp; try with_reducible rfl)
                  try simp only [Act.put, List.setIfInBounds_toArray, List.set_cons_zero, List.set_cons_succ]
                  refine held_take (v := ?_) 28 rfl (by kernel_rfl) (by kernel_rfl) (by kernel_rfl) (fun _ _ _ h => h) (by rfl) ?_ (by assumption) ?_
                  rotate_left
                  · (intro w hSw; (try dsimp only at hSw); go_simp; try with_reducible rfl)
                  try simp only [Act.put, List.setIfInBounds_toArray, List.set_cons_zero, List.set_cons_succ]
                  refine held_take (v := ?_) 29 rfl (by kernel_rfl) (by kernel_rfl) (by kernel_rfl) (fun _ _ _ h => h) (by rfl) ?_ (by assumption) ?_
                  rotate_left
                  · (intro w hSw; (try dsimp only at hSw); go_simp; try with_reducible rfl)
                  try simp only [Act.put, List.setIfInBounds_toArray, List.set_cons_zero, List.set_cons_succ]
                  refine wpAnyH_done (by kernel_rfl) ?_ _
                  go_wp2_with fail
                  go_meet
                  exact ⟨by rw [HT.out], hb4⟩
              · have ht : bb = false := by rw [← HBB.out.1, HXB.out hx0, d1]; rfl
                have hd2 : decide (0 ≤ x.exit) = false := by simpa using hx0
                have HT := Lib.hid ht; clear ht hx0
                refine wp_region_held_drew (S := (fun w' => w'.cell? ⟨w.heap.size, 0, none⟩ = some (.int .i64 x.op) ∧ w'.cell? ⟨w.heap.size, 5, none⟩ = some (.int .i64 x.exit))) (by kernel_rfl) ?_ (fun hHeld0 => ?_)
                · first | trivial | ((try dsimp only); (exact ⟨x0, x5⟩))
                refine held_take (v := ?_) 0 rfl (by kernel_rfl) (by kernel_rfl) (by kernel_rfl) (fun _ _ _ h => h) (by rfl) ?_ (by assumption) ?_
                rotate_left
                · (intro w hSw; (try dsimp only at hSw); go_simp; try with_reducible rfl)
                try simp only [Act.put, List.setIfInBounds_toArray, List.set_cons_zero, List.set_cons_succ]
                refine held_take (v := ?_) 1 rfl (by kernel_rfl) (by kernel_rfl) (by kernel_rfl) (fun _ _ _ h => h) (by rfl) ?_ (by assumption) ?_
                rotate_left
                · (intro w hSw; (try dsimp only at hSw); go_simp; try with_reducible rfl)
                try simp only [Act.put, List.setIfInBounds_toArray, List.set_cons_zero, List.set_cons_succ]
                refine held_take (v := ?_) 2 rfl (by kernel_rfl) (by kernel_rfl) (by kernel_rfl) (fun _ _ _ h => h) (by rfl) ?_ (by assumption) ?_
                rotate_left
                · (intro w hSw; (try dsimp only at hSw); go_simp; try with_reducible rfl)
                try simp only [Act.put, List.setIfInBounds_toArray, List.set_cons_zero, List.set_cons_succ]
                refine held_take (v := ?_) 3 rfl (by kernel_rfl) (by kernel_rfl) (by kernel_rfl) (fun _ _ _ h => h) (by rfl) ?_ (by assumption) ?_
                rotate_left
                · (intro w hSw; (try dsimp only at hSw); go_simp; try with_reducible rfl)
                try simp only [Act.put, List.setIfInBounds_toArray, List.set_cons_zero, List.set_cons_succ]
                refine held_skip 4 rfl (by kernel_rfl) (by kernel_rfl) (by kernel_rfl) (fun _ _ _ h => h) (by rfl) (by assumption) ?_
                try simp only [Act.put, List.setIfInBounds_toArray, List.set_cons_zero, List.set_cons_succ]
                refine held_skip 5 rfl (by kernel_rfl) (by kernel_rfl) (by kernel_rfl) (fun _ _ _ h => h) (by rfl) (by assumption) ?_
                try simp only [Act.put, List.setIfInBounds_toArray, List.set_cons_zero, List.set_cons_succ]
                refine held_skip 6 rfl (by kernel_rfl) (by kernel_rfl) (by kernel_rfl) (fun _ _ _ h => h) (by rfl) (by assumption) ?_
                try simp only [Act.put, List.setIfInBounds_toArray, List.set_cons_zero, List.set_cons_succ]
                refine held_skip 7 rfl (by kernel_rfl) (by kernel_rfl) (by kernel_rfl) (fun _ _ _ h => h) (by rfl) (by assumption) ?_
                try simp only [Act.put, List.setIfInBounds_toArray, List.set_cons_zero, List.set_cons_succ]
                refine held_skip 8 rfl (by kernel_rfl) (by kernel_rfl) (by kernel_rfl) (fun _ _ _ h => h) (by rfl) (by assumption) ?_
                try simp only [Act.put, List.setIfInBounds_toArray, List.set_cons_zero, List.set_cons_succ]
                refine held_skip 9 rfl (by kernel_rfl) (by kernel_rfl) (by kernel_rfl) (fun _ _ _ h => h) (by rfl) (by assumption) ?_
                try simp only [Act.put, List.setIfInBounds_toArray, List.set_cons_zero, List.set_cons_succ]
                refine held_skip 10 rfl (by kernel_rfl) (by kernel_rfl) (by kernel_rfl) (fun _ _ _ h => h) (by rfl) (by assumption) ?_
                try simp only [Act.put, List.setIfInBounds_toArray, List.set_cons_zero, List.set_cons_succ]
                refine held_skip 11 rfl (by kernel_rfl) (by kernel_rfl) (by kernel_rfl) (fun _ _ _ h => h) (by rfl) (by assumption) ?_
                try simp only [Act.put, List.setIfInBounds_toArray, List.set_cons_zero, List.set_cons_succ]
                refine held_skip 12 rfl (by kernel_rfl) (by kernel_rfl) (by kernel_rfl) (fun _ _ _ h => h) (by rfl) (by assumption) ?_
                try simp only [Act.put, List.setIfInBounds_toArray, List.set_cons_zero, List.set_cons_succ]
                refine held_take (v := ?_) 13 rfl (by kernel_rfl) (by kernel_rfl) (by kernel_rfl) (fun _ _ _ h => h) (by rfl) ?_ (by assumption) ?_
                rotate_left
                · (intro w hSw; (try dsimp only at hSw); go_simp; try with_reducible rfl)
                try simp only [Act.put, List.setIfInBounds_toArray, List.set_cons_zero, List.set_cons_succ]
                refine held_take (v := ?_) 14 rfl (by kernel_rfl) (by kernel_rfl) (by kernel_rfl) (fun _ _ _ h => h) (by rfl) ?_ (by assumption) ?_
                rotate_left
                · (intro w hSw; (try dsimp only at hSw); go_simp; try with_reducible rfl)
                try simp only [Act.put, List.setIfInBounds_toArray, List.set_cons_zero, List.set_cons_succ]
                refine held_take (v := ?_) 15 rfl (by kernel_rfl) (by kernel_rfl) (by kernel_rfl) (fun _ _ _ h => h) (by rfl) ?_ (by assumption) ?_
                rotate_left
                · (intro w hSw; (try dsimp only at hSw); go_simp; try with_reducible rfl)
                try simp only [Act.put, List.setIfInBounds_toArray, List.set_cons_zero, List.set_cons_succ]
                refine held_take (v := ?_) 16 rfl (by kernel_rfl) (by kernel_rfl) (by kernel_rfl) (fun _ _ _ h => h) (by rfl) ?_ (by assumption) ?_
                rotate_left
                · (intro w hSw; (try dsimp only at hSw); go_simp; try with_reducible rfl)
                try simp only [Act.put, List.setIfInBounds_toArray, List.set_cons_zero, List.set_cons_succ]
                refine held_take (v := ?_) 17 rfl (by kernel_rfl) (by kernel_rfl) (by kernel_rfl) (fun _ _ _ h => h) (by rfl) ?_ (by assumption) ?_
                rotate_left
                · (intro w hSw; (try dsimp only at hSw); go_simp; try with_reducible rfl)
                try simp only [Act.put, List.setIfInBounds_toArray, List.set_cons_zero, List.set_cons_succ]
                refine held_take (v := ?_) 18 rfl (by kernel_rfl) (by kernel_rfl) (by kernel_rfl) (fun _ _ _ h => h) (by rfl) ?_ (by assumption) ?_
                rotate_left
                · (intro w hSw; (try dsimp only at hSw); go_simp; try with_reducible rfl)
                try simp only [Act.put, List.setIfInBounds_toArray, List.set_cons_zero, List.set_cons_succ]
                refine held_skip 19 rfl (by kernel_rfl) (by kernel_rfl) (by kernel_rfl) (fun _ _ _ h => h) (by rfl) (by assumption) ?_
                try simp only [Act.put, List.setIfInBounds_toArray, List.set_cons_zero, List.set_cons_succ]
                refine held_skip 20 rfl (by kernel_rfl) (by kernel_rfl) (by kernel_rfl) (fun _ _ _ h => h) (by rfl) (by assumption) ?_
                try simp only [Act.put, List.setIfInBounds_toArray, List.set_cons_zero, List.set_cons_succ]
                refine held_skip 21 rfl (by kernel_rfl) (by kernel_rfl) (by kernel_rfl) (fun _ _ _ h => h) (by rfl) (by assumption) ?_
                try simp only [Act.put, List.setIfInBounds_toArray, List.set_cons_zero, List.set_cons_succ]
                refine held_skip 22 rfl (by kernel_rfl) (by kernel_rfl) (by kernel_rfl) (fun _ _ _ h => h) (by rfl) (by assumption) ?_
                try simp only [Act.put, List.setIfInBounds_toArray, List.set_cons_zero, List.set_cons_succ]
                refine held_skip 23 rfl (by kernel_rfl) (by kernel_rfl) (by kernel_rfl) (fun _ _ _ h => h) (by rfl) (by assumption) ?_
                try simp only [Act.put, List.setIfInBounds_toArray, List.set_cons_zero, List.set_cons_succ]
                refine held_skip 24 rfl (by kernel_rfl) (by kernel_rfl) (by kernel_rfl) (fun _ _ _ h => h) (by rfl) (by assumption) ?_
                try simp only [Act.put, List.setIfInBounds_toArray, List.set_cons_zero, List.set_cons_succ]
                refine held_skip 25 rfl (by kernel_rfl) (by kernel_rfl) (by kernel_rfl) (fun _ _ _ h => h) (by rfl) (by assumption) ?_
                try simp only [Act.put, List.setIfInBounds_toArray, List.set_cons_zero, List.set_cons_succ]
                refine held_skip 26 rfl (by kernel_rfl) (by kernel_rfl) (by kernel_rfl) (fun _ _ _ h => h) (by rfl) (by assumption) ?_
                try simp only [Act.put, List.setIfInBounds_toArray, List.set_cons_zero, List.set_cons_succ]
                refine held_skip 27 rfl (by kernel_rfl) (by kernel_rfl) (by kernel_rfl) (fun _ _ _ h => h) (by rfl) (by assumption) ?_
                try simp only [Act.put, List.setIfInBounds_toArray, List.set_cons_zero, List.set_cons_succ]
                refine held_take (v := ?_) 28 rfl (by kernel_rfl) (by kernel_rfl) (by kernel_rfl) (fun _ _ _ h => h) (by rfl) ?_ (by assumption) ?_
                rotate_left
                · (intro w hSw; (try dsimp only at hSw); go_simp; try with_reducible rfl)
                try simp only [Act.put, List.setIfInBounds_toArray, List.set_cons_zero, List.set_cons_succ]
                refine held_take (v := ?_) 29 rfl (by kernel_rfl) (by kernel_rfl) (by kernel_rfl) (fun _ _ _ h => h) (by rfl) ?_ (by assumption) ?_
                rotate_left
                · (intro w hSw; (try dsimp only at hSw); go_simp; try with_reducible rfl)
                try simp only [Act.put, List.setIfInBounds_toArray, List.set_cons_zero, List.set_cons_succ]
                refine wpAnyH_done (by kernel_rfl) ?_ _
                go_wp2_with fail
                go_meet
                exact ⟨by rw [HT.out], (Below.refl _ _).drew⟩
            | true =>
              have hop4 : x.op = 4 := by simpa using d1
              obtain ⟨hn0, hn1⟩ := HF.out.2.1 (.inr hop4)
              obtain ⟨j, hj⟩ : ∃ j : Nat, x.n = (j : Int) := ⟨x.n.toNat, by omega⟩
              have hjl : j < slots := by omega
              obtain ⟨SA0, sc0, hG, hO, h8⟩ := H5.out.1
              have hsl := H.out.2.2
              rw [hsl] at hG
              obtain ⟨sv, hsv0⟩ : ∃ sv, st.slots[j]? = some sv := ⟨_, List.getElem?_eq_getElem (by omega)⟩
              obtain ⟨gs, rfl, hgs1, ltS⟩ := hO.some_ (by omega)
              have s0 := hO.cell_bool hsv0
              have g8 := hG.cell 8 (wrC_slots h8)
              have ltG := hG.lt
              have hsv : st.slots.getD x.n.toNat false = sv := by rw [hj, Int.toNat_natCast, List.getD_eq_getElem?_getD, hsv0]; rfl
              rw [hj] at x4
              have hj0 : (0 : Int) ≤ (j : Int) := by omega
              have hj1 : (j : Int) < (slots : Int) := by omega
              clear hop4 hn0 hn1 hj hG hO h8 hsl hsv0
              cases sv with
              | false =>
                have ht : bb = true := by rw [← HBB.out.1, d1, hsv]; rfl
                have HT := Lib.hid ht; clear ht hsv
                refine wp_region_held_drew (S := (fun w' => w'.cell? ⟨w.heap.size, 0, none⟩ = some (.int .i64 x.op) ∧ w'.cell? ⟨w.heap.size, 5, none⟩ = some (.int .i64 x.exit) ∧ w'.cell? ⟨w.heap.size, 4, none⟩ = some (.int .i64 (j : Int)) ∧ w'.cell? ⟨G, 8, none⟩ = some (.slice (some ⟨gs, 0, none⟩) slots sc0) ∧ w'.cell? ⟨gs, j, none⟩ = some (.bool false))) (by kernel_rfl) ?_ (fun hHeld0 => ?_)
                · first | trivial | ((try dsimp only); (exact ⟨x0, x5, x4, g8, s0⟩))
                refine held_take (v := ?_) 0 rfl (by kernel_rfl) (by kernel_rfl) (by kernel_rfl) (fun _ _ _ h => h) (by rfl) ?_ (by assumption) ?_
                rotate_left
                · (intro w hSw; (try dsimp only at hSw); go_simp; try with_reducible rfl)
                try simp only [Act.put, List.setIfInBounds_toArray, List.set_cons_zero, List.set_cons_succ]
                refine held_take (v := ?_) 1 rfl (by kernel_rfl) (by kernel_rfl) (by kernel_rfl) (fun _ _ _ h => h) (by rfl) ?_ (by assumption) ?_
                rotate_left
                · (intro w hSw; (try dsimp only at hSw); go_simp; try with_reducible rfl)
                try simp only [Act.put, List.setIfInBounds_toArray, List.set_cons_zero, List.set_cons_succ]
                refine held_take (v := ?_) 2 rfl (by kernel_rfl) (by kernel_rfl) (by kernel_rfl) (fun _ _ _ h => h) (by rfl) ?_ (by assumption) ?_
                rotate_left
                · (intro w hSw; (try dsimp only at hSw); go_simp; try with_reducible rfl)
                try simp only [Act.put, List.setIfInBounds_toArray, List.set_cons_zero, List.set_cons_succ]
                refine held_take (v := ?_) 3 rfl (by kernel_rfl) (by kernel_rfl) (by kernel_rfl) (fun _ _ _ h => h) (by rfl) ?_ (by assumption) ?_
                rotate_left
                · (intro w hSw; (try dsimp only at hSw); go_simp; try with_reducible rfl)
                try simp only [Act.put, List.setIfInBounds_toArray, List.set_cons_zero, List.set_cons_succ]
                refine held_take (v := ?_) 4 rfl (by kernel_rfl) (by kernel_rfl) (by kernel_rfl) (fun _ _ _ h => h) (by rfl) ?_ (by assumption) ?_
                rotate_left
                · (intro w hSw; (try dsimp only at hSw); go_simp; try with_reducible rfl)
                try simp only [Act.put, List.setIfInBounds_toArray, List.set_cons_zero, List.set_cons_succ]
                refine held_take (v := ?_) 5 rfl (by kernel_rfl) (by kernel_rfl) (by kernel_rfl) (fun _ _ _ h => h) (by rfl) ?_ (by assumption) ?_
                rotate_left
                · (intro w hSw; (try dsimp only at hSw); go_simp; try with_reducible rfl)
                try simp only [Act.put, List.setIfInBounds_toArray, List.set_cons_zero, List.set_cons_succ]
                refine held_take (v := ?_) 6 rfl (by kernel_rfl) (by kernel_rfl) (by kernel_rfl) (fun _ _ _ h => h) (by rfl) ?_ (by assumption) ?_
                rotate_left
                · (intro w hSw; (try dsimp only at hSw); go_simp; try with_reducible rfl)
                try simp only [Act.put, List.setIfInBounds_toArray, List.set_cons_zero, List.set_cons_succ]
                refine held_take (v := ?_) 7 rfl (by kernel_rfl) (by kernel_rfl) (by kernel_rfl) (fun _ _ _ h => h) (by rfl) ?_ (by assumption) ?_
                rotate_left
                · (intro w hSw; (try dsimp only at hSw); go_simp; try with_reducible rfl)
                try simp only [Act.put, List.setIfInBounds_toArray, List.set_cons_zero, List.set_cons_succ]
                refine held_take (v := ?_) 8 rfl (by kernel_rfl) (by kernel_rfl) (by kernel_rfl) (fun _ _ _ h => h) (by rfl) ?_ (by assumption) ?_
                rotate_left
                · (intro w hSw; (try dsimp only at hSw); go_simp; try with_reducible rfl)
                try simp only [Act.put, List.setIfInBounds_toArray, List.set_cons_zero, List.set_cons_succ]
                refine held_take (v := ?_) 9 rfl (by kernel_rfl) (by kernel_rfl) (by kernel_rfl) (fun _ _ _ h => h) (by rfl) ?_ (by assumption) ?_
                rotate_left
                · (intro w hSw; (try dsimp only at hSw); go_simp; try with_reducible rfl)
                try simp only [Act.put, List.setIfInBounds_toArray, List.set_cons_zero, List.set_cons_succ]
                refine held_take (v := ?_) 10 rfl (by kernel_rfl) (by kernel_rfl) (by kernel_rfl) (fun _ _ _ h => h) (by rfl) ?_ (by assumption) ?_
                rotate_left
                · (intro w hSw; (try dsimp only at hSw); go_simp; try with_reducible rfl)
                try simp only [Act.put, List.setIfInBounds_toArray, List.set_cons_zero, List.set_cons_succ]
                refine held_take (v := ?_) 11 rfl (by kernel_rfl) (by kernel_rfl) (by kernel_rfl) (fun _ _ _ h => h) (by rfl) ?_ (by assumption) ?_
                rotate_left
                · (intro w hSw; (try dsimp only at hSw); go_simp; try with_reducible rfl)
                try simp only [Act.put, List.setIfInBounds_toArray, List.set_cons_zero, List.set_cons_succ]
                refine held_take (v := ?_) 12 rfl (by kernel_rfl) (by kernel_rfl) (by kernel_rfl) (fun _ _ _ h => h) (by rfl) ?_ (by assumption) ?_
                rotate_left
                · (intro w hSw; (try dsimp only at hSw); go_simp; try with_reducible rfl)
                try simp only [Act.put, List.setIfInBounds_toArray, List.set_cons_zero, List.set_cons_succ]
                refine held_take (v := ?_) 13 rfl (by kernel_rfl) (by kernel_rfl) (by kernel_rfl) (fun _ _ _ h => h) (by rfl) ?_ (by assumption) ?_
                rotate_left
                · (intro w hSw; (try dsimp only at hSw); go_simp; try with_reducible rfl)
                try simp only [Act.put, List.setIfInBounds_toArray, List.set_cons_zero, List.set_cons_succ]
                refine held_take (v := ?_) 14 rfl (by kernel_rfl) (by kernel_rfl) (by kernel_rfl) (fun _ _ _ h => h) (by rfl) ?_ (by assumption) ?_
                rotate_left
                · (intro w hSw; (try dsimp only at hSw); go_simp; try with_reducible rfl)
                try simp only [Act.put, List.setIfInBounds_toArray, List.set_cons_zero, List.set_cons_succ]
                refine held_skip 15 rfl (by kernel_rfl) (by kernel_rfl) (by kernel_rfl) (fun _ _ _ h => h) (by rfl) (by assumption) ?_
                try simp only [Act.put, List.setIfInBounds_toArray, List.set_cons_zero, List.set_cons_succ]
                refine held_skip 16 rfl (by kernel_rfl) (by kernel_rfl) (by kernel_rfl) (fun _ _ _ h => h) (by rfl) (by assumption) ?_
                try simp only [Act.put, List.setIfInBounds_toArray, List.set_cons_zero, List.set_cons_succ]
                refine held_skip 17 rfl (by kernel_rfl) (by kernel_rfl) (by kernel_rfl) (fun _ _ _ h => h) (by rfl) (by assumption) ?_
                try simp only [Act.put, List.setIfInBounds_toArray, List.set_cons_zero, List.set_cons_succ]
                refine held_skip 18 rfl (by kernel_rfl) (by kernel_rfl) (by kernel_rfl) (fun _ _ _ h => h) (by rfl) (by assumption) ?_
                try simp only [Act.put, List.setIfInBounds_toArray, List.set_cons_zero, List.set_cons_succ]
                refine held_skip 19 rfl (by kernel_rfl) (by kernel_rfl) (by kernel_rfl) (fun _ _ _ h => h) (by rfl) (by assumption) ?_
                try simp only [Act.put, List.setIfInBounds_toArray, List.set_cons_zero, List.set_cons_succ]
                refine held_skip 20 rfl (by kernel_rfl) (by kernel_rfl) (by kernel_rfl) (fun _ _ _ h => h) (by rfl) (by assumption) ?_
                try simp only [Act.put, List.setIfInBounds_toArray, List.set_cons_zero, List.set_cons_succ]
                refine held_skip 21 rfl (by kernel_rfl) (by kernel_rfl) (by kernel_rfl) (fun _ _ _ h => h) (by rfl) (by assumption) ?_
                try simp only [Act.put, List.setIfInBounds_toArray, List.set_cons_zero, List.set_cons_succ]
                refine held_skip 22 rfl (by kernel_rfl) (by kernel_rfl) (by kernel_rfl) (fun _ _ _ h => h) (by rfl) (by assumption) ?_
                try simp only [Act.put, List.setIfInBounds_toArray, List.set_cons_zero, List.set_cons_succ]
                refine held_skip 23 rfl (by kernel_rfl) (by kernel_rfl) (by kernel_rfl) (fun _ _ _ h => h) (by rfl) (by assumption) ?_
                try simp only [Act.put, List.setIfInBounds_toArray, List.set_cons_zero, List.set_cons_succ]
                refine held_skip 24 rfl (by kernel_rfl) (by kernel_rfl) (by kernel_rfl) (fun _ _ _ h => h) (by rfl) (by assumption) ?_
                try simp only [Act.put, List.setIfInBounds_toArray, List.set_cons_zero, List.set_cons_succ]
                refine held_skip 25 rfl (by kernel_rfl) (by kernel_rfl) (by kernel_rfl) (fun _ _ _ h => h) (by rfl) (by assumption) ?_
                try simp only [Act.put, List.setIfInBounds_toArray, List.set_cons_zero, List.set_cons_succ]
                refine held_skip 26 rfl (by kernel_rfl) (by kernel_rfl) (by kernel_rfl) (fun _ _ _ h => h) (by rfl) (by assumption) ?_
                try simp only [Act.put, List.setIfInBounds_toArray, List.set_cons_zero, List.set_cons_succ]
                refine held_skip 27 rfl (by kernel_rfl) (by kernel_rfl) (by kernel_rfl) (fun _ _ _ h => h) (by rfl) (by assumption) ?_
                try simp only [Act.put, List.setIfInBounds_toArray, List.set_cons_zero, List.set_cons_succ]
                refine held_skip 28 rfl (by kernel_rfl) (by kernel_rfl) (by kernel_rfl) (fun _ _ _ h => h) (by rfl) (by assumption) ?_
                try simp only [Act.put, List.setIfInBounds_toArray, List.set_cons_zero, List.set_cons_succ]
                refine held_take (v := ?_) 29 rfl (by kernel_rfl) (by kernel_rfl) (by kernel_rfl) (fun _ _ _ h => h) (by rfl) ?_ (by assumption) ?_
                rotate_left
                · (intro w hSw; (try dsimp only at hSw); go_simp; try with_reducible rfl)
                try simp only [Act.put, List.setIfInBounds_toArray, List.set_cons_zero, List.set_cons_succ]
                refine wpAnyH_done (by kernel_rfl) ?_ _
                go_wp2_with fail
                go_meet
                exact ⟨by rw [HT.out], (Below.refl _ _).drew⟩
              | true =>
                by_cases hx0 : 0 ≤ x.exit
                · have hx1 := HF.out.2.2.2 hx0
                  obtain ⟨y, hy⟩ : ∃ y : Nat, x.exit = (y : Int) := ⟨x.exit.toNat, by omega⟩
                  have hyl : y < exits.length := by omega
                  obtain ⟨be, oe, ey, SA, sc, MA, mc, rfl, hbE, hey, e0, e1, e2, e3, as_, -, am_, -, -, -⟩ := HEX.out.rE_ hyl
                  obtain ⟨N, hN⟩ : ∃ N, (Ord.places ey).length = N := ⟨_, rfl⟩
                  have hNb := HP.out.2.1 ey (List.mem_of_getElem? hey)
                  rw [hN] at hNb
                  have hxe : Ord.exitBad st x exits = !Ord.all_ st ey := by unfold Ord.exitBad; rw [decide_eq_true hx0, hy, Int.toNat_natCast, hey]; rfl
                  have HY := Lib.hid (And.intro as_ (And.intro am_ (And.intro hN (And.intro hNb hy))))
                  have ltE : be < wr.heap.size := by omega
                  have hd2 : decide (0 ≤ x.exit) = true := by simpa using hx0
                  have hy0 : (0 : Int) ≤ (y : Int) := by omega
                  have hy1 : (y : Int) < (exits.length : Int) := by omega
                  rw [hy] at x5
                  clear as_ am_ hN hNb hey hy hx0 hx1 hd2
                  cases hav : Ord.all_ st ey with
                  | true =>
                    have ht : bb = false := by rw [← HBB.out.1, hxe, hav, d1, hsv]; rfl
                    have HT := Lib.hid ht; have HV := Lib.hid hav; clear ht hav hxe hsv
                    refine wp_region_held_drew (S := (fun w' => w'.cell? ⟨w.heap.size, 0, none⟩ = some (.int .i64 x.op) ∧ w'.cell? ⟨w.heap.size, 5, none⟩ = some (.int .i64 (y : Int)) ∧ w'.cell? ⟨w.heap.size, 4, none⟩ = some (.int .i64 (j : Int)) ∧ w'.cell? ⟨G, 8, none⟩ = some (.slice (some ⟨gs, 0, none⟩) slots sc0) ∧ w'.cell? ⟨gs, j, none⟩ = some (.bool true) ∧ w'.cell? ⟨w.heap.size + 1, 5, none⟩ = some (.slice (some ⟨be, oe, none⟩) exits.length ec) ∧ w'.cell? ⟨be, oe + y * 4, none⟩ = some (.int .i64 ey.at_) ∧ w'.cell? ⟨be, oe + y * 4 + 1, none⟩ = some (.int .i64 ey.steps) ∧ w'.cell? ⟨be, oe + y * 4 + 2, none⟩ = some (.slice SA ey.sets.length sc) ∧ w'.cell? ⟨be, oe + y * 4 + 3, none⟩ = some (.slice MA ey.makes.length mc))) (by kernel_rfl) ?_ (fun hHeld0 => ?_)
                    · first | trivial | ((try dsimp only); (exact ⟨x0, x5, x4, g8, s0, c5, e0, e1, e2, e3⟩))
                    refine held_take (v := ?_) 0 rfl (by kernel_rfl) (by kernel_rfl) (by kernel_rfl) (fun _ _ _ h => h) (by rfl) ?_ (by assumption) ?_
                    rotate_left
                    · (intro w hSw; (try dsimp only at hSw); go_simp; try with_reducible rfl)
                    try simp only [Act.put, List.setIfInBounds_toArray, List.set_cons_zero, List.set_cons_succ]
                    refine held_take (v := ?_) 1 rfl (by kernel_rfl) (by kernel_rfl) (by kernel_rfl) (fun _ _ _ h => h) (by rfl) ?_ (by assumption) ?_
                    rotate_left
                    · (intro w hSw; (try dsimp only at hSw); go_simp; try with_reducible rfl)
                    try simp only [Act.put, List.setIfInBounds_toArray, List.set_cons_zero, List.set_cons_succ]
                    refine held_take (v := ?_) 2 rfl (by kernel_rfl) (by kernel_rfl) (by kernel_rfl) (fun _ _ _ h => h) (by rfl) ?_ (by assumption) ?_
                    rotate_left
                    · (intro w hSw; (try dsimp only at hSw); go_simp; try with_reducible rfl)
                    try simp only [Act.put, List.setIfInBounds_toArray, List.set_cons_zero, List.set_cons_succ]
                    refine held_take (v := ?_) 3 rfl (by kernel_rfl) (by kernel_rfl) (by kernel_rfl) (fun _ _ _ h => h) (by rfl) ?_ (by assumption) ?_
                    rotate_left
                    · (intro w hSw; (try dsimp only at hSw); go_simp; try with_reducible rfl)
                    try simp only [Act.put, List.setIfInBounds_toArray, List.set_cons_zero, List.set_cons_succ]
                    refine held_take (v := ?_) 4 rfl (by kernel_rfl) (by kernel_rfl) (by kernel_rfl) (fun _ _ _ h => h) (by rfl) ?_ (by assumption) ?_
                    rotate_left
                    · (intro w hSw; (try dsimp only at hSw); go_simp; try with_reducible rfl)
                    try simp only [Act.put, List.setIfInBounds_toArray, List.set_cons_zero, List.set_cons_succ]
                    refine held_take (v := ?_) 5 rfl (by kernel_rfl) (by kernel_rfl) (by kernel_rfl) (fun _ _ _ h => h) (by rfl) ?_ (by assumption) ?_
                    rotate_left
                    · (intro w hSw; (try dsimp only at hSw); go_simp; try with_reducible rfl)
                    try simp only [Act.put, List.setIfInBounds_toArray, List.set_cons_zero, List.set_cons_succ]
                    refine held_take (v := ?_) 6 rfl (by kernel_rfl) (by kernel_rfl) (by kernel_rfl) (fun _ _ _ h => h) (by rfl) ?_ (by assumption) ?_
                    rotate_left
                    · (intro w hSw; (try dsimp only at hSw); go_simp; try with_reducible rfl)
                    try simp only [Act.put, List.setIfInBounds_toArray, List.set_cons_zero, List.set_cons_succ]
                    refine held_take (v := ?_) 7 rfl (by kernel_rfl) (by kernel_rfl) (by kernel_rfl) (fun _ _ _ h => h) (by rfl) ?_ (by assumption) ?_
                    rotate_left
                    · (intro w hSw; (try dsimp only at hSw); go_simp; try with_reducible rfl)
                    try simp only [Act.put, List.setIfInBounds_toArray, List.set_cons_zero, List.set_cons_succ]
                    refine held_take (v := ?_) 8 rfl (by kernel_rfl) (by kernel_rfl) (by kernel_rfl) (fun _ _ _ h => h) (by rfl) ?_ (by assumption) ?_
                    rotate_left
                    · (intro w hSw; (try dsimp only at hSw); go_simp; try with_reducible rfl)
                    try simp only [Act.put, List.setIfInBounds_toArray, List.set_cons_zero, List.set_cons_succ]
                    refine held_take (v := ?_) 9 rfl (by kernel_rfl) (by kernel_rfl) (by kernel_rfl) (fun _ _ _ h => h) (by rfl) ?_ (by assumption) ?_
                    rotate_left
                    · (intro w hSw; (try dsimp only at hSw); go_simp; try with_reducible rfl)
                    try simp only [Act.put, List.setIfInBounds_toArray, List.set_cons_zero, List.set_cons_succ]
                    refine held_take (v := ?_) 10 rfl (by kernel_rfl) (by kernel_rfl) (by kernel_rfl) (fun _ _ _ h => h) (by rfl) ?_ (by assumption) ?_
                    rotate_left
                    · (intro w hSw; (try dsimp only at hSw); go_simp; try with_reducible rfl)
                    try simp only [Act.put, List.setIfInBounds_toArray, List.set_cons_zero, List.set_cons_succ]
                    refine held_take (v := ?_) 11 rfl (by kernel_rfl) (by kernel_rfl) (by kernel_rfl) (fun _ _ _ h => h) (by rfl) ?_ (by assumption) ?_
                    rotate_left
                    · (intro w hSw; (try dsimp only at hSw); go_simp; try with_reducible rfl)
                    try simp only [Act.put, List.setIfInBounds_toArray, List.set_cons_zero, List.set_cons_succ]
                    refine held_take (v := ?_) 12 rfl (by kernel_rfl) (by kernel_rfl) (by kernel_rfl) (fun _ _ _ h => h) (by rfl) ?_ (by assumption) ?_
                    rotate_left
                    · (intro w hSw; (try dsimp only at hSw); go_simp; try with_reducible rfl)
                    try simp only [Act.put, List.setIfInBounds_toArray, List.set_cons_zero, List.set_cons_succ]
                    refine held_take (v := ?_) 13 rfl (by kernel_rfl) (by kernel_rfl) (by kernel_rfl) (fun _ _ _ h => h) (by rfl) ?_ (by assumption) ?_
                    rotate_left
                    · (intro w hSw; (try dsimp only at hSw); go_simp; try with_reducible rfl)
                    try simp only [Act.put, List.setIfInBounds_toArray, List.set_cons_zero, List.set_cons_succ]
                    refine held_take (v := ?_) 14 rfl (by kernel_rfl) (by kernel_rfl) (by kernel_rfl) (fun _ _ _ h => h) (by rfl) ?_ (by assumption) ?_
                    rotate_left
                    · (intro w hSw; (try dsimp only at hSw); go_simp; try with_reducible rfl)
                    try simp only [Act.put, List.setIfInBounds_toArray, List.set_cons_zero, List.set_cons_succ]
                    refine held_take (v := ?_) 15 rfl (by kernel_rfl) (by kernel_rfl) (by kernel_rfl) (fun _ _ _ h => h) (by rfl) ?_ (by assumption) ?_
                    rotate_left
                    · (intro w hSw; (try dsimp only at hSw); go_simp; try with_reducible rfl)
                    try simp only [Act.put, List.setIfInBounds_toArray, List.set_cons_zero, List.set_cons_succ]
                    refine held_take (v := ?_) 16 rfl (by kernel_rfl) (by kernel_rfl) (by kernel_rfl) (fun _ _ _ h => h) (by rfl) ?_ (by assumption) ?_
                    rotate_left
                    · (intro w hSw; (try dsimp only at hSw); go_simp; try with_reducible rfl)
                    try simp only [Act.put, List.setIfInBounds_toArray, List.set_cons_zero, List.set_cons_succ]
                    refine held_take (v := ?_) 17 rfl (by kernel_rfl) (by kernel_rfl) (by kernel_rfl) (fun _ _ _ h => h) (by rfl) ?_ (by assumption) ?_
                    rotate_left
                    · (intro w hSw; (try dsimp only at hSw); go_simp; try with_reducible rfl)
                    try simp only [Act.put, List.setIfInBounds_toArray, List.set_cons_zero, List.set_cons_succ]
                    refine held_take (v := ?_) 18 rfl (by kernel_rfl) (by kernel_rfl) (by kernel_rfl) (fun _ _ _ h => h) (by rfl) ?_ (by assumption) ?_
                    rotate_left
                    · (intro w hSw; (try dsimp only at hSw); go_simp; try with_reducible rfl)
                    try simp only [Act.put, List.setIfInBounds_toArray, List.set_cons_zero, List.set_cons_succ]
                    refine held_take (v := ?_) 19 rfl (by kernel_rfl) (by kernel_rfl) (by kernel_rfl) (fun _ _ _ h => h) (by rfl) ?_ (by assumption) ?_
                    rotate_left
                    · (intro w hSw; (try dsimp only at hSw); go_simp; try with_reducible rfl)
                    try simp only [Act.put, List.setIfInBounds_toArray, List.set_cons_zero, List.set_cons_succ]
                    refine held_take (v := ?_) 20 rfl (by kernel_rfl) (by kernel_rfl) (by kernel_rfl) (fun _ _ _ h => h) (by rfl) ?_ (by assumption) ?_
                    rotate_left
                    · (intro w hSw; (try dsimp only at hSw); go_simp; try with_reducible rfl)
                    try simp only [Act.put, List.setIfInBounds_toArray, List.set_cons_zero, List.set_cons_succ]
                    refine held_take (v := ?_) 21 rfl (by kernel_rfl) (by kernel_rfl) (by kernel_rfl) (fun _ _ _ h => h) (by rfl) ?_ (by assumption) ?_
                    rotate_left
                    · (intro w hSw; (try dsimp only at hSw); go_simp; try with_reducible rfl)
                    try simp only [Act.put, List.setIfInBounds_toArray, List.set_cons_zero, List.set_cons_succ]
                    refine held_take (v := ?_) 22 rfl (by kernel_rfl) (by kernel_rfl) (by kernel_rfl) (fun _ _ _ h => h) (by rfl) ?_ (by assumption) ?_
                    rotate_left
                    · (intro w hSw; (try dsimp only at hSw); go_simp; try with_reducible rfl)
                    try simp only [Act.put, List.setIfInBounds_toArray, List.set_cons_zero, List.set_cons_succ]
                    refine held_take (v := ?_) 23 rfl (by kernel_rfl) (by kernel_rfl) (by kernel_rfl) (fun _ _ _ h => h) (by rfl) ?_ (by assumption) ?_
                    rotate_left
                    · (intro w hSw; (try dsimp only at hSw); go_simp; try with_reducible rfl)
                    try simp only [Act.put, List.setIfInBounds_toArray, List.set_cons_zero, List.set_cons_succ]
                    refine held_take (v := ?_) 24 rfl (by kernel_rfl) (by kernel_rfl) (by kernel_rfl) (fun _ _ _ h => h) (by rfl) ?_ (by assumption) ?_
                    rotate_left
                    · (intro w hSw; (try dsimp only at hSw); go_simp; try with_reducible rfl)
                    try simp only [Act.put, List.setIfInBounds_toArray, List.set_cons_zero, List.set_cons_succ]
                    refine held_take (v := ?_) 25 rfl (by kernel_rfl) (by kernel_rfl) (by kernel_rfl) (fun _ _ _ h => h) (by rfl) ?_ (by assumption) ?_
                    rotate_left
                    · (intro w hSw; (try dsimp only at hSw); go_simp; try with_reducible rfl)
                    try simp only [Act.put, List.setIfInBounds_toArray, List.set_cons_zero, List.set_cons_succ]
                    refine held_call 26 (by kernel_rfl) rfl (fun K hK => ?_)
                    go_simp
                    go_at_call 94; refine (all_any base G B sc mc N SA MA st ey _ (H5.out.1.drew) (HY.out.1.drew) (HY.out.2.1.drew) (show B ≤ wr.heap.size by omega) HY.out.2.2.1 HY.out.2.2.2.1).mono ?_; rintro e w4 ⟨he, hb4d⟩; obtain rfl : e = .returned (.bool true) := (by (rw [he, HV.out])); clear he; have hb4 : Below wr.heap.size wr w4 := undrew hb4d; clear hb4d
                    try (go_wp2_with fail)
                    refine hK.out _ _ ?_ (fun hHeld1 => ?_)
                    · first | trivial | ((try dsimp only); (exact ⟨(hb4.cell (p := ⟨w.heap.size, 0, none⟩) ltX).trans x0, (hb4.cell (p := ⟨w.heap.size, 5, none⟩) ltX).trans x5, (hb4.cell (p := ⟨w.heap.size, 4, none⟩) ltX).trans x4, (hb4.cell (p := ⟨G, 8, none⟩) ltG).trans g8, (hb4.cell (p := ⟨gs, j, none⟩) ltS).trans s0, (hb4.cell (p := ⟨w.heap.size + 1, 5, none⟩) ltC).trans c5, (hb4.cell (p := ⟨be, oe + y * 4, none⟩) ltE).trans e0, (hb4.cell (p := ⟨be, oe + y * 4 + 1, none⟩) ltE).trans e1, (hb4.cell (p := ⟨be, oe + y * 4 + 2, none⟩) ltE).trans e2, (hb4.cell (p := ⟨be, oe + y * 4 + 3, none⟩) ltE).trans e3⟩))
                    clear hK K hHeld0
                    try simp only [Act.put, List.setIfInBounds_toArray, List.set_cons_zero, List.set_cons_succ]
                    refine held_take (v := ?_) 27 rfl (by kernel_rfl) (by kernel_rfl) (by kernel_rfl) (fun _ _ _ h => h) (by rfl) ?_ (by assumption) ?_
                    rotate_left
                    · (intro w hSw; (try dsimp only at hSw); go_simp; try with_reducible rfl)
                    try simp only [Act.put, List.setIfInBounds_toArray, List.set_cons_zero, List.set_cons_succ]
                    refine held_take (v := ?_) 28 rfl (by kernel_rfl) (by kernel_rfl) (by kernel_rfl) (fun _ _ _ h => h) (by rfl) ?_ (by assumption) ?_
                    rotate_left
                    · (intro w hSw; (try dsimp only at hSw); go_simp; try with_reducible rfl)
                    try simp only [Act.put, List.setIfInBounds_toArray, List.set_cons_zero, List.set_cons_succ]
                    refine held_take (v := ?_) 29 rfl (by kernel_rfl) (by kernel_rfl) (by kernel_rfl) (fun _ _ _ h => h) (by rfl) ?_ (by assumption) ?_
                    rotate_left
                    · (intro w hSw; (try dsimp only at hSw); go_simp; try with_reducible rfl)
                    try simp only [Act.put, List.setIfInBounds_toArray, List.set_cons_zero, List.set_cons_succ]
                    refine wpAnyH_done (by kernel_rfl) ?_ _
                    go_wp2_with fail
                    go_meet
                    exact ⟨by rw [HT.out], hb4⟩
                  | false =>
                    have ht : bb = true := by rw [← HBB.out.1, hxe, hav, d1, hsv]; rfl
                    have HT := Lib.hid ht; have HV := Lib.hid hav; clear ht hav hxe hsv
                    refine wp_region_held_drew (S := (fun w' => w'.cell? ⟨w.heap.size, 0, none⟩ = some (.int .i64 x.op) ∧ w'.cell? ⟨w.heap.size, 5, none⟩ = some (.int .i64 (y : Int)) ∧ w'.cell? ⟨w.heap.size, 4, none⟩ = some (.int .i64 (j : Int)) ∧ w'.cell? ⟨G, 8, none⟩ = some (.slice (some ⟨gs, 0, none⟩) slots sc0) ∧ w'.cell? ⟨gs, j, none⟩ = some (.bool true) ∧ w'.cell? ⟨w.heap.size + 1, 5, none⟩ = some (.slice (some ⟨be, oe, none⟩) exits.length ec) ∧ w'.cell? ⟨be, oe + y * 4, none⟩ = some (.int .i64 ey.at_) ∧ w'.cell? ⟨be, oe + y * 4 + 1, none⟩ = some (.int .i64 ey.steps) ∧ w'.cell? ⟨be, oe + y * 4 + 2, none⟩ = some (.slice SA ey.sets.length sc) ∧ w'.cell? ⟨be, oe + y * 4 + 3, none⟩ = some (.slice MA ey.makes.length mc))) (by kernel_rfl) ?_ (fun hHeld0 => ?_)
                    · first | trivial | ((try dsimp only); (exact ⟨x0, x5, x4, g8, s0, c5, e0, e1, e2, e3⟩))
                    refine held_take (v := ?_) 0 rfl (by kernel_rfl) (by kernel_rfl) (by kernel_rfl) (fun _ _ _ h => h) (by rfl) ?_ (by assumption) ?_
                    rotate_left
                    · (intro w hSw; (try dsimp only at hSw); go_simp; try with_reducible rfl)
                    try simp only [Act.put, List.setIfInBounds_toArray, List.set_cons_zero, List.set_cons_succ]
                    refine held_take (v := ?_) 1 rfl (by kernel_rfl) (by kernel_rfl) (by kernel_rfl) (fun _ _ _ h => h) (by rfl) ?_ (by assumption) ?_
                    rotate_left
                    · (intro w hSw; (try dsimp only at hSw); go_simp; try with_reducible rfl)
                    try simp only [Act.put, List.setIfInBounds_toArray, List.set_cons_zero, List.set_cons_succ]
                    refine held_take (v := ?_) 2 rfl (by kernel_rfl) (by kernel_rfl) (by kernel_rfl) (fun _ _ _ h => h) (by rfl) ?_ (by assumption) ?_
                    rotate_left
                    · (intro w hSw; (try dsimp only at hSw); go_simp; try with_reducible rfl)
                    try simp only [Act.put, List.setIfInBounds_toArray, List.set_cons_zero, List.set_cons_succ]
                    refine held_take (v := ?_) 3 rfl (by kernel_rfl) (by kernel_rfl) (by kernel_rfl) (fun _ _ _ h => h) (by rfl) ?_ (by assumption) ?_
                    rotate_left
                    · (intro w hSw; (try dsimp only at hSw); go_simp; try with_reducible rfl)
                    try simp only [Act.put, List.setIfInBounds_toArray, List.set_cons_zero, List.set_cons_succ]
                    refine held_take (v := ?_) 4 rfl (by kernel_rfl) (by kernel_rfl) (by kernel_rfl) (fun _ _ _ h => h) (by rfl) ?_ (by assumption) ?_
                    rotate_left
                    · (intro w hSw; (try dsimp only at hSw); go_simp; try with_reducible rfl)
                    try simp only [Act.put, List.setIfInBounds_toArray, List.set_cons_zero, List.set_cons_succ]
                    refine held_take (v := ?_) 5 rfl (by kernel_rfl) (by kernel_rfl) (by kernel_rfl) (fun _ _ _ h => h) (by rfl) ?_ (by assumption) ?_
                    rotate_left
                    · (intro w hSw; (try dsimp only at hSw); go_simp; try with_reducible rfl)
                    try simp only [Act.put, List.setIfInBounds_toArray, List.set_cons_zero, List.set_cons_succ]
                    refine held_take (v := ?_) 6 rfl (by kernel_rfl) (by kernel_rfl) (by kernel_rfl) (fun _ _ _ h => h) (by rfl) ?_ (by assumption) ?_
                    rotate_left
                    · (intro w hSw; (try dsimp only at hSw); go_simp; try with_reducible rfl)
                    try simp only [Act.put, List.setIfInBounds_toArray, List.set_cons_zero, List.set_cons_succ]
                    refine held_take (v := ?_) 7 rfl (by kernel_rfl) (by kernel_rfl) (by kernel_rfl) (fun _ _ _ h => h) (by rfl) ?_ (by assumption) ?_
                    rotate_left
                    · (intro w hSw; (try dsimp only at hSw); go_simp; try with_reducible rfl)
                    try simp only [Act.put, List.setIfInBounds_toArray, List.set_cons_zero, List.set_cons_succ]
                    refine held_take (v := ?_) 8 rfl (by kernel_rfl) (by kernel_rfl) (by kernel_rfl) (fun _ _ _ h => h) (by rfl) ?_ (by assumption) ?_
                    rotate_left
                    · (intro w hSw; (try dsimp only at hSw); go_simp; try with_reducible rfl)
                    try simp only [Act.put, List.setIfInBounds_toArray, List.set_cons_zero, List.set_cons_succ]
                    refine held_take (v := ?_) 9 rfl (by kernel_rfl) (by kernel_rfl) (by kernel_rfl) (fun _ _ _ h => h) (by rfl) ?_ (by assumption) ?_
                    rotate_left
                    · (intro w hSw; (try dsimp only at hSw); go_simp; try with_reducible rfl)
                    try simp only [Act.put, List.setIfInBounds_toArray, List.set_cons_zero, List.set_cons_succ]
                    refine held_take (v := ?_) 10 rfl (by kernel_rfl) (by kernel_rfl) (by kernel_rfl) (fun _ _ _ h => h) (by rfl) ?_ (by assumption) ?_
                    rotate_left
                    · (intro w hSw; (try dsimp only at hSw); go_simp; try with_reducible rfl)
                    try simp only [Act.put, List.setIfInBounds_toArray, List.set_cons_zero, List.set_cons_succ]
                    refine held_take (v := ?_) 11 rfl (by kernel_rfl) (by kernel_rfl) (by kernel_rfl) (fun _ _ _ h => h) (by rfl) ?_ (by assumption) ?_
                    rotate_left
                    · (intro w hSw; (try dsimp only at hSw); go_simp; try with_reducible rfl)
                    try simp only [Act.put, List.setIfInBounds_toArray, List.set_cons_zero, List.set_cons_succ]
                    refine held_take (v := ?_) 12 rfl (by kernel_rfl) (by kernel_rfl) (by kernel_rfl) (fun _ _ _ h => h) (by rfl) ?_ (by assumption) ?_
                    rotate_left
                    · (intro w hSw; (try dsimp only at hSw); go_simp; try with_reducible rfl)
                    try simp only [Act.put, List.setIfInBounds_toArray, List.set_cons_zero, List.set_cons_succ]
                    refine held_take (v := ?_) 13 rfl (by kernel_rfl) (by kernel_rfl) (by kernel_rfl) (fun _ _ _ h => h) (by rfl) ?_ (by assumption) ?_
                    rotate_left
                    · (intro w hSw; (try dsimp only at hSw); go_simp; try with_reducible rfl)
                    try simp only [Act.put, List.setIfInBounds_toArray, List.set_cons_zero, List.set_cons_succ]
                    refine held_take (v := ?_) 14 rfl (by kernel_rfl) (by kernel_rfl) (by kernel_rfl) (fun _ _ _ h => h) (by rfl) ?_ (by assumption) ?_
                    rotate_left
                    · (intro w hSw; (try dsimp only at hSw); go_simp; try with_reducible rfl)
                    try simp only [Act.put, List.setIfInBounds_toArray, List.set_cons_zero, List.set_cons_succ]
                    refine held_take (v := ?_) 15 rfl (by kernel_rfl) (by kernel_rfl) (by kernel_rfl) (fun _ _ _ h => h) (by rfl) ?_ (by assumption) ?_
                    rotate_left
                    · (intro w hSw; (try dsimp only at hSw); go_simp; try with_reducible rfl)
                    try simp only [Act.put, List.setIfInBounds_toArray, List.set_cons_zero, List.set_cons_succ]
                    refine held_take (v := ?_) 16 rfl (by kernel_rfl) (by kernel_rfl) (by kernel_rfl) (fun _ _ _ h => h) (by rfl) ?_ (by assumption) ?_
                    rotate_left
                    · (intro w hSw; (try dsimp only at hSw); go_simp; try with_reducible rfl)
                    try simp only [Act.put, List.setIfInBounds_toArray, List.set_cons_zero, List.set_cons_succ]
                    refine held_take (v := ?_) 17 rfl (by kernel_rfl) (by kernel_rfl) (by kernel_rfl) (fun _ _ _ h => h) (by rfl) ?_ (by assumption) ?_
                    rotate_left
                    · (intro w hSw; (try dsimp only at hSw); go_simp; try with_reducible rfl)
                    try simp only [Act.put, List.setIfInBounds_toArray, List.set_cons_zero, List.set_cons_succ]
                    refine held_take (v := ?_) 18 rfl (by kernel_rfl) (by kernel_rfl) (by kernel_rfl) (fun _ _ _ h => h) (by rfl) ?_ (by assumption) ?_
                    rotate_left
                    · (intro w hSw; (try dsimp only at hSw); go_simp; try with_reducible rfl)
                    try simp only [Act.put, List.setIfInBounds_toArray, List.set_cons_zero, List.set_cons_succ]
                    refine held_take (v := ?_) 19 rfl (by kernel_rfl) (by kernel_rfl) (by kernel_rfl) (fun _ _ _ h => h) (by rfl) ?_ (by assumption) ?_
                    rotate_left
                    · (intro w hSw; (try dsimp only at hSw); go_simp; try with_reducible rfl)
                    try simp only [Act.put, List.setIfInBounds_toArray, List.set_cons_zero, List.set_cons_succ]
                    refine held_take (v := ?_) 20 rfl (by kernel_rfl) (by kernel_rfl) (by kernel_rfl) (fun _ _ _ h => h) (by rfl) ?_ (by assumption) ?_
                    rotate_left
                    · (intro w hSw; (try dsimp only at hSw); go_simp; try with_reducible rfl)
                    try simp only [Act.put, List.setIfInBounds_toArray, List.set_cons_zero, List.set_cons_succ]
                    refine held_take (v := ?_) 21 rfl (by kernel_rfl) (by kernel_rfl) (by kernel_rfl) (fun _ _ _ h => h) (by rfl) ?_ (by assumption) ?_
                    rotate_left
                    · (intro w hSw; (try dsimp only at hSw); go_simp; try with_reducible rfl)
                    try simp only [Act.put, List.setIfInBounds_toArray, List.set_cons_zero, List.set_cons_succ]
                    refine held_take (v := ?_) 22 rfl (by kernel_rfl) (by kernel_rfl) (by kernel_rfl) (fun _ _ _ h => h) (by rfl) ?_ (by assumption) ?_
                    rotate_left
                    · (intro w hSw; (try dsimp only at hSw); go_simp; try with_reducible rfl)
                    try simp only [Act.put, List.setIfInBounds_toArray, List.set_cons_zero, List.set_cons_succ]
                    refine held_take (v := ?_) 23 rfl (by kernel_rfl) (by kernel_rfl) (by kernel_rfl) (fun _ _ _ h => h) (by rfl) ?_ (by assumption) ?_
                    rotate_left
                    · (intro w hSw; (try dsimp only at hSw); go_simp; try with_reducible rfl)
                    try simp only [Act.put, List.setIfInBounds_toArray, List.set_cons_zero, List.set_cons_succ]
                    refine held_take (v := ?_) 24 rfl (by kernel_rfl) (by kernel_rfl) (by kernel_rfl) (fun _ _ _ h => h) (by rfl) ?_ (by assumption) ?_
                    rotate_left
                    · (intro w hSw; (try dsimp only at hSw); go_simp; try with_reducible rfl)
                    try simp only [Act.put, List.setIfInBounds_toArray, List.set_cons_zero, List.set_cons_succ]
                    refine held_take (v := ?_) 25 rfl (by kernel_rfl) (by kernel_rfl) (by kernel_rfl) (fun _ _ _ h => h) (by rfl) ?_ (by assumption) ?_
                    rotate_left
                    · (intro w hSw; (try dsimp only at hSw); go_simp; try with_reducible rfl)
                    try simp only [Act.put, List.setIfInBounds_toArray, List.set_cons_zero, List.set_cons_succ]
                    refine held_call 26 (by kernel_rfl) rfl (fun K hK => ?_)
                    go_simp
                    go_at_call 94; refine (all_any base G B sc mc N SA MA st ey _ (H5.out.1.drew) (HY.out.1.drew) (HY.out.2.1.drew) (show B ≤ wr.heap.size by omega) HY.out.2.2.1 HY.out.2.2.2.1).mono ?_; rintro e w4 ⟨he, hb4d⟩; obtain rfl : e = .returned (.bool false) := (by (rw [he, HV.out])); clear he; have hb4 : Below wr.heap.size wr w4 := undrew hb4d; clear hb4d
                    try (go_wp2_with fail)
                    refine hK.out _ _ ?_ (fun hHeld1 => ?_)
                    · first | trivial | ((try dsimp only); (exact ⟨(hb4.cell (p := ⟨w.heap.size, 0, none⟩) ltX).trans x0, (hb4.cell (p := ⟨w.heap.size, 5, none⟩) ltX).trans x5, (hb4.cell (p := ⟨w.heap.size, 4, none⟩) ltX).trans x4, (hb4.cell (p := ⟨G, 8, none⟩) ltG).trans g8, (hb4.cell (p := ⟨gs, j, none⟩) ltS).trans s0, (hb4.cell (p := ⟨w.heap.size + 1, 5, none⟩) ltC).trans c5, (hb4.cell (p := ⟨be, oe + y * 4, none⟩) ltE).trans e0, (hb4.cell (p := ⟨be, oe + y * 4 + 1, none⟩) ltE).trans e1, (hb4.cell (p := ⟨be, oe + y * 4 + 2, none⟩) ltE).trans e2, (hb4.cell (p := ⟨be, oe + y * 4 + 3, none⟩) ltE).trans e3⟩))
                    clear hK K hHeld0
                    try simp only [Act.put, List.setIfInBounds_toArray, List.set_cons_zero, List.set_cons_succ]
                    refine held_take (v := ?_) 27 rfl (by kernel_rfl) (by kernel_rfl) (by kernel_rfl) (fun _ _ _ h => h) (by rfl) ?_ (by assumption) ?_
                    rotate_left
                    · (intro w hSw; (try dsimp only at hSw); go_simp; try with_reducible rfl)
                    try simp only [Act.put, List.setIfInBounds_toArray, List.set_cons_zero, List.set_cons_succ]
                    refine held_take (v := ?_) 28 rfl (by kernel_rfl) (by kernel_rfl) (by kernel_rfl) (fun _ _ _ h => h) (by rfl) ?_ (by assumption) ?_
                    rotate_left
                    · (intro w hSw; (try dsimp only at hSw); go_simp; try with_reducible rfl)
                    try simp only [Act.put, List.setIfInBounds_toArray, List.set_cons_zero, List.set_cons_succ]
                    refine held_take (v := ?_) 29 rfl (by kernel_rfl) (by kernel_rfl) (by kernel_rfl) (fun _ _ _ h => h) (by rfl) ?_ (by assumption) ?_
                    rotate_left
                    · (intro w hSw; (try dsimp only at hSw); go_simp; try with_reducible rfl)
                    try simp only [Act.put, List.setIfInBounds_toArray, List.set_cons_zero, List.set_cons_succ]
                    refine wpAnyH_done (by kernel_rfl) ?_ _
                    go_wp2_with fail
                    go_meet
                    exact ⟨by rw [HT.out], hb4⟩
                · have ht : bb = false := by rw [← HBB.out.1, HXB.out hx0, d1, hsv]; rfl
                  have hd2 : decide (0 ≤ x.exit) = false := by simpa using hx0
                  have HT := Lib.hid ht; clear ht hx0 hsv
                  refine wp_region_held_drew (S := (fun w' => w'.cell? ⟨w.heap.size, 0, none⟩ = some (.int .i64 x.op) ∧ w'.cell? ⟨w.heap.size, 5, none⟩ = some (.int .i64 x.exit) ∧ w'.cell? ⟨w.heap.size, 4, none⟩ = some (.int .i64 (j : Int)) ∧ w'.cell? ⟨G, 8, none⟩ = some (.slice (some ⟨gs, 0, none⟩) slots sc0) ∧ w'.cell? ⟨gs, j, none⟩ = some (.bool true))) (by kernel_rfl) ?_ (fun hHeld0 => ?_)
                  · first | trivial | ((try dsimp only); (exact ⟨x0, x5, x4, g8, s0⟩))
                  refine held_take (v := ?_) 0 rfl (by kernel_rfl) (by kernel_rfl) (by kernel_rfl) (fun _ _ _ h => h) (by rfl) ?_ (by assumption) ?_
                  rotate_left
                  · (intro w hSw; (try dsimp only at hSw); go_simp; try with_reducible rfl)
                  try simp only [Act.put, List.setIfInBounds_toArray, List.set_cons_zero, List.set_cons_succ]
                  refine held_take (v := ?_) 1 rfl (by kernel_rfl) (by kernel_rfl) (by kernel_rfl) (fun _ _ _ h => h) (by rfl) ?_ (by assumption) ?_
                  rotate_left
                  · (intro w hSw; (try dsimp only at hSw); go_simp; try with_reducible rfl)
                  try simp only [Act.put, List.setIfInBounds_toArray, List.set_cons_zero, List.set_cons_succ]
                  refine held_take (v := ?_) 2 rfl (by kernel_rfl) (by kernel_rfl) (by kernel_rfl) (fun _ _ _ h => h) (by rfl) ?_ (by assumption) ?_
                  rotate_left
                  · (intro w hSw; (try dsimp only at hSw); go_simp; try with_reducible rfl)
                  try simp only [Act.put, List.setIfInBounds_toArray, List.set_cons_zero, List.set_cons_succ]
                  refine held_take (v := ?_) 3 rfl (by kernel_rfl) (by kernel_rfl) (by kernel_rfl) (fun _ _ _ h => h) (by rfl) ?_ (by assumption) ?_
                  rotate_left
                  · (intro w hSw; (try dsimp only at hSw); go_simp; try with_reducible rfl)
                  try simp only [Act.put, List.setIfInBounds_toArray, List.set_cons_zero, List.set_cons_succ]
                  refine held_take (v := ?_) 4 rfl (by kernel_rfl) (by kernel_rfl) (by kernel_rfl) (fun _ _ _ h => h) (by rfl) ?_ (by assumption) ?_
                  rotate_left
                  · (intro w hSw; (try dsimp only at hSw); go_simp; try with_reducible rfl)
                  try simp only [Act.put, List.setIfInBounds_toArray, List.set_cons_zero, List.set_cons_succ]
                  refine held_take (v := ?_) 5 rfl (by kernel_rfl) (by kernel_rfl) (by kernel_rfl) (fun _ _ _ h => h) (by rfl) ?_ (by assumption) ?_
                  rotate_left
                  · (intro w hSw; (try dsimp only at hSw); go_simp; try with_reducible rfl)
                  try simp only [Act.put, List.setIfInBounds_toArray, List.set_cons_zero, List.set_cons_succ]
                  refine held_take (v := ?_) 6 rfl (by kernel_rfl) (by kernel_rfl) (by kernel_rfl) (fun _ _ _ h => h) (by rfl) ?_ (by assumption) ?_
                  rotate_left
                  · (intro w hSw; (try dsimp only at hSw); go_simp; try with_reducible rfl)
                  try simp only [Act.put, List.setIfInBounds_toArray, List.set_cons_zero, List.set_cons_succ]
                  refine held_take (v := ?_) 7 rfl (by kernel_rfl) (by kernel_rfl) (by kernel_rfl) (fun _ _ _ h => h) (by rfl) ?_ (by assumption) ?_
                  rotate_left
                  · (intro w hSw; (try dsimp only at hSw); go_simp; try with_reducible rfl)
                  try simp only [Act.put, List.setIfInBounds_toArray, List.set_cons_zero, List.set_cons_succ]
                  refine held_take (v := ?_) 8 rfl (by kernel_rfl) (by kernel_rfl) (by kernel_rfl) (fun _ _ _ h => h) (by rfl) ?_ (by assumption) ?_
                  rotate_left
                  · (intro w hSw; (try dsimp only at hSw); go_simp; try with_reducible rfl)
                  try simp only [Act.put, List.setIfInBounds_toArray, List.set_cons_zero, List.set_cons_succ]
                  refine held_take (v := ?_) 9 rfl (by kernel_rfl) (by kernel_rfl) (by kernel_rfl) (fun _ _ _ h => h) (by rfl) ?_ (by assumption) ?_
                  rotate_left
                  · (intro w hSw; (try dsimp only at hSw); go_simp; try with_reducible rfl)
                  try simp only [Act.put, List.setIfInBounds_toArray, List.set_cons_zero, List.set_cons_succ]
                  refine held_take (v := ?_) 10 rfl (by kernel_rfl) (by kernel_rfl) (by kernel_rfl) (fun _ _ _ h => h) (by rfl) ?_ (by assumption) ?_
                  rotate_left
                  · (intro w hSw; (try dsimp only at hSw); go_simp; try with_reducible rfl)
                  try simp only [Act.put, List.setIfInBounds_toArray, List.set_cons_zero, List.set_cons_succ]
                  refine held_take (v := ?_) 11 rfl (by kernel_rfl) (by kernel_rfl) (by kernel_rfl) (fun _ _ _ h => h) (by rfl) ?_ (by assumption) ?_
                  rotate_left
                  · (intro w hSw; (try dsimp only at hSw); go_simp; try with_reducible rfl)
                  try simp only [Act.put, List.setIfInBounds_toArray, List.set_cons_zero, List.set_cons_succ]
                  refine held_take (v := ?_) 12 rfl (by kernel_rfl) (by kernel_rfl) (by kernel_rfl) (fun _ _ _ h => h) (by rfl) ?_ (by assumption) ?_
                  rotate_left
                  · (intro w hSw; (try dsimp only at hSw); go_simp; try with_reducible rfl)
                  try simp only [Act.put, List.setIfInBounds_toArray, List.set_cons_zero, List.set_cons_succ]
                  refine held_take (v := ?_) 13 rfl (by kernel_rfl) (by kernel_rfl) (by kernel_rfl) (fun _ _ _ h => h) (by rfl) ?_ (by assumption) ?_
                  rotate_left
                  · (intro w hSw; (try dsimp only at hSw); go_simp; try with_reducible rfl)
                  try simp only [Act.put, List.setIfInBounds_toArray, List.set_cons_zero, List.set_cons_succ]
                  refine held_take (v := ?_) 14 rfl (by kernel_rfl) (by kernel_rfl) (by kernel_rfl) (fun _ _ _ h => h) (by rfl) ?_ (by assumption) ?_
                  rotate_left
                  · (intro w hSw; (try dsimp only at hSw); go_simp; try with_reducible rfl)
                  try simp only [Act.put, List.setIfInBounds_toArray, List.set_cons_zero, List.set_cons_succ]
                  refine held_take (v := ?_) 15 rfl (by kernel_rfl) (by kernel_rfl) (by kernel_rfl) (fun _ _ _ h => h) (by rfl) ?_ (by assumption) ?_
                  rotate_left
                  · (intro w hSw; (try dsimp only at hSw); go_simp; try with_reducible rfl)
                  try simp only [Act.put, List.setIfInBounds_toArray, List.set_cons_zero, List.set_cons_succ]
                  refine held_take (v := ?_) 16 rfl (by kernel_rfl) (by kernel_rfl) (by kernel_rfl) (fun _ _ _ h => h) (by rfl) ?_ (by assumption) ?_
                  rotate_left
                  · (intro w hSw; (try dsimp only at hSw); go_simp; try with_reducible rfl)
                  try simp only [Act.put, List.setIfInBounds_toArray, List.set_cons_zero, List.set_cons_succ]
                  refine held_take (v := ?_) 17 rfl (by kernel_rfl) (by kernel_rfl) (by kernel_rfl) (fun _ _ _ h => h) (by rfl) ?_ (by assumption) ?_
                  rotate_left
                  · (intro w hSw; (try dsimp only at hSw); go_simp; try with_reducible rfl)
                  try simp only [Act.put, List.setIfInBounds_toArray, List.set_cons_zero, List.set_cons_succ]
                  refine held_take (v := ?_) 18 rfl (by kernel_rfl) (by kernel_rfl) (by kernel_rfl) (fun _ _ _ h => h) (by rfl) ?_ (by assumption) ?_
                  rotate_left
                  · (intro w hSw; (try dsimp only at hSw); go_simp; try with_reducible rfl)
                  try simp only [Act.put, List.setIfInBounds_toArray, List.set_cons_zero, List.set_cons_succ]
                  refine held_skip 19 rfl (by kernel_rfl) (by kernel_rfl) (by kernel_rfl) (fun _ _ _ h => h) (by rfl) (by assumption) ?_
                  try simp only [Act.put, List.setIfInBounds_toArray, List.set_cons_zero, List.set_cons_succ]
                  refine held_skip 20 rfl (by kernel_rfl) (by kernel_rfl) (by kernel_rfl) (fun _ _ _ h => h) (by rfl) (by assumption) ?_
                  try simp only [Act.put, List.setIfInBounds_toArray, List.set_cons_zero, List.set_cons_succ]
                  refine held_skip 21 rfl (by kernel_rfl) (by kernel_rfl) (by kernel_rfl) (fun _ _ _ h => h) (by rfl) (by assumption) ?_
                  try simp only [Act.put, List.setIfInBounds_toArray, List.set_cons_zero, List.set_cons_succ]
                  refine held_skip 22 rfl (by kernel_rfl) (by kernel_rfl) (by kernel_rfl) (fun _ _ _ h => h) (by rfl) (by assumption) ?_
                  try simp only [Act.put, List.setIfInBounds_toArray, List.set_cons_zero, List.set_cons_succ]
                  refine held_skip 23 rfl (by kernel_rfl) (by kernel_rfl) (by kernel_rfl) (fun _ _ _ h => h) (by rfl) (by assumption) ?_
                  try simp only [Act.put, List.setIfInBounds_toArray, List.set_cons_zero, List.set_cons_succ]
                  refine held_skip 24 rfl (by kernel_rfl) (by kernel_rfl) (by kernel_rfl) (fun _ _ _ h => h) (by rfl) (by assumption) ?_
                  try simp only [Act.put, List.setIfInBounds_toArray, List.set_cons_zero, List.set_cons_succ]
                  refine held_skip 25 rfl (by kernel_rfl) (by kernel_rfl) (by kernel_rfl) (fun _ _ _ h => h) (by rfl) (by assumption) ?_
                  try simp only [Act.put, List.setIfInBounds_toArray, List.set_cons_zero, List.set_cons_succ]
                  refine held_skip 26 rfl (by kernel_rfl) (by kernel_rfl) (by kernel_rfl) (fun _ _ _ h => h) (by rfl) (by assumption) ?_
                  try simp only [Act.put, List.setIfInBounds_toArray, List.set_cons_zero, List.set_cons_succ]
                  refine held_skip 27 rfl (by kernel_rfl) (by kernel_rfl) (by kernel_rfl) (fun _ _ _ h => h) (by rfl) (by assumption) ?_
                  try simp only [Act.put, List.setIfInBounds_toArray, List.set_cons_zero, List.set_cons_succ]
                  refine held_take (v := ?_) 28 rfl (by kernel_rfl) (by kernel_rfl) (by kernel_rfl) (fun _ _ _ h => h) (by rfl) ?_ (by assumption) ?_
                  rotate_left
                  · (intro w hSw; (try dsimp only at hSw); go_simp; try with_reducible rfl)
                  try simp only [Act.put, List.setIfInBounds_toArray, List.set_cons_zero, List.set_cons_succ]
                  refine held_take (v := ?_) 29 rfl (by kernel_rfl) (by kernel_rfl) (by kernel_rfl) (fun _ _ _ h => h) (by rfl) ?_ (by assumption) ?_
                  rotate_left
                  · (intro w hSw; (try dsimp only at hSw); go_simp; try with_reducible rfl)
                  try simp only [Act.put, List.setIfInBounds_toArray, List.set_cons_zero, List.set_cons_succ]
                  refine wpAnyH_done (by kernel_rfl) ?_ _
                  go_wp2_with fail
                  go_meet
                  exact ⟨by rw [HT.out], (Below.refl _ _).drew⟩
          case rest =>
            obtain ⟨rfl, hbc⟩ := hcut
            have hsc := hbc.size
            have hbwc : Below w.heap.size w wc := hbw.trans (hbc.mono (by omega))
            have H6 := Lib.hid (And.intro (H5.out.1.fresh hbc) (H5.out.2.1.fresh hbc)); clear H5 x4 x5 c5 HEX HXB
            cases bb with
            | true =>
              go_wp2_with fail
              rw [HP.out.1]
              exact ⟨by rw [HBB.out.2]; rfl, fun h => by rw [HBB.out.2] at h; exact absurd h (by decide), hbwc.mono (by omega)⟩
            | false =>
              have x0 := H6.out.2.cell 0 (v := .int .i64 x.op) rfl
              have x4 := H6.out.2.cell 4 (v := .int .i64 x.n) rfl
              have ltXc : w.heap.size < wc.heap.size := by omega
              obtain ⟨s1, hs1e⟩ : ∃ s1, (if x.op = 3 then st.slots.set x.n.toNat true else st.slots) = s1 := ⟨_, rfl⟩
              have HS1 := Lib.hid hs1e; clear hs1e
              go_upto_if 77 with fail
              go_cut [] (fun W2 => Hid (Ws W2 base G ⟨st.regs, s1⟩ ∧ Blk W2 w.heap.size 146 #[.int .i64 x.op, .int .i64 x.a, .int .i64 x.b, .int .i64 x.c, .int .i64 x.n, .int .i64 x.exit, .int .i64 x.k.1, .int .i64 x.k.2]) ∧ Below base w W2 ∧ w.heap.size < W2.heap.size)
              case first =>
                cases d1 : (x.op == 3) with
                | false =>
                  have hop3 : ¬ x.op = 3 := by simpa using d1
                  have hst : s1 = st.slots := by rw [← HS1.out, if_neg hop3]
                  have HST := Lib.hid hst; clear hst hop3
                  go_wp2_with fail
                  go_meet
                  exact ⟨⟨by rw [HST.out]; exact H6.out.1, H6.out.2⟩, hbwc.mono (by omega), ltXc⟩
                | true =>
                  have hop3 : x.op = 3 := by simpa using d1
                  obtain ⟨hn0, hn1⟩ := HF.out.2.1 (.inl hop3)
                  obtain ⟨j, hj⟩ : ∃ j : Nat, x.n = (j : Int) := ⟨x.n.toNat, by omega⟩
                  have hjl : j < slots := by omega
                  obtain ⟨SA0, sc0, hG, hO, h8⟩ := H6.out.1
                  have hsl := H.out.2.2
                  obtain ⟨gs, rfl, hgs1, ltS⟩ := hO.some_ (by omega)
                  have hst : s1 = st.slots.set j true := by rw [← HS1.out, if_pos hop3, hj, Int.toNat_natCast]
                  have s0 := hO.set_bool true (i := j) (by omega)
                  have g8 := hG.cell 8 (wrC_slots h8)
                  rw [hsl] at g8
                  have z0 := hO.frozen (g := gs) rfl j
                  obtain ⟨ov, hov⟩ : ∃ ov, st.slots[j]? = some ov := ⟨_, List.getElem?_eq_getElem (by omega)⟩
                  have y0 := hO.cell_bool hov
                  have ltG := hG.lt
                  have hneG : G ≠ gs := fun e => own_ne_ty hO hG (by decide) (by rw [e]; rfl)
                  have hneX : w.heap.size ≠ gs := fun e => own_ne_ty hO H6.out.2 (by decide) (by rw [e]; rfl)
                  rw [hj] at x4
                  have hj0 : (0 : Int) ≤ (j : Int) := by omega
                  have hj1 : (j : Int) < (slots : Int) := by omega
                  have HT := Lib.hid (And.intro hst (And.intro s0 (And.intro hG (And.intro h8 (And.intro hneG (And.intro hneX hsl)))))); clear hop3 hn0 hn1 hj hst s0 hG hO h8 hneG hneX hsl hov
                  go_wp2_with fail
                  go_still_tail 7, (by kernel_rfl)
                  change wpList _ _ _ _ _ (World.drew _)
                  go_wp2
                  go_meet
                  refine ⟨⟨⟨some ⟨gs, 0, none⟩, sc0, ?_, ?_, HT.out.2.2.2.1⟩, ?_⟩, ?_, ?_⟩
                  · rw [HT.out.1, List.length_set]; exact (HT.out.2.2.1.far HT.out.2.2.2.2.1 _)
                  · rw [HT.out.1]; exact HT.out.2.1
                  · exact H6.out.2.far HT.out.2.2.2.2.2.1 _
                  · exact ((hbwc.mono (by omega : base ≤ w.heap.size)).setCell hgs1 _).drew
                  · simp [World.drew]; omega
              case rest =>
                obtain ⟨hkp, hbB, ltV⟩ := hcut
                clear x0 x4 hbc hsc hbwc ltXc
                have H7 := Lib.hid hkp; clear hkp H6
                have hwr := HF.out.2.2.1
                obtain ⟨wv, hwv⟩ : ∃ wv, Ord.writes x = wv := ⟨_, rfl⟩
                rw [hwv] at hwr
                have HW := Lib.hid (And.intro hwv HS1.out); clear hwv HS1
                go_wp2_with (refine wpList_ld rfl 146 (.tmp 4) rfl w.heap.size rfl H7.out.2 Try.underlying146 rfl (by kernel_rfl) ?_)
                refine (writes_any x _).mono ?_
                rintro e w5 ⟨rfl, hb5⟩
                rw [HW.out.1]
                have hs5 := hb5.size
                have hbB5 : Below base w w5 := hbB.trans (hb5.mono (by omega))
                have H8 := Lib.hid (H7.out.1.fresh hb5); clear H7
                have he0 : Ord.orderErr st x slots exits = 0 := HBB.out.2
                by_cases hw0 : 0 ≤ wv
                · have hw8 := hwr hw0
                  obtain ⟨q, rfl⟩ := Int.eq_ofNat_of_zero_le hw0
                  have hq8 : q < 8 := by omega
                  have haf : Ord.after st x = ⟨st.regs.set q true, s1⟩ := by unfold Ord.after; rw [HW.out.1, if_pos hw0, HW.out.2, Int.toNat_natCast]
                  obtain ⟨A8, c8, hG, hO, h8⟩ := H8.out
                  have h8' : st.regs.length = 8 := h8
                  obtain ⟨ov, hov⟩ : ∃ ov, st.regs[q]? = some ov := ⟨_, List.getElem?_eq_getElem (by omega)⟩
                  have y0 := hG.cell q (wrC_reg hov)
                  have z0 := hG.frozen q
                  have ltG := hG.lt
                  have hset := hG.set_ q (.bool true)
                  rw [wrC_set h8' hq8] at hset
                  have hOs := hO.setCell ⟨G, q, none⟩ (.bool true) (own_ne_ty hO hG (by decide))
                  have HT := Lib.hid (And.intro haf (And.intro he0 (And.intro hset (And.intro hOs h8')))); clear haf he0 hG hO h8 h8' hov hset hOs hwr
                  go_wp2_with fail
                  rw [HP.out.1]
                  exact ⟨by rw [HT.out.2.1]; rfl, fun _ => by rw [HT.out.1]; exact ⟨A8, c8, HT.out.2.2.1, HT.out.2.2.2.1, by rw [List.length_set]; exact HT.out.2.2.2.2⟩, hbB5.setCell hbG _⟩
                · have haf : Ord.after st x = ⟨st.regs, s1⟩ := by unfold Ord.after; rw [HW.out.1, if_neg hw0, HW.out.2]
                  have HT := Lib.hid (And.intro haf he0); clear haf he0 hwr
                  go_wp2_with fail
                  rw [HP.out.1]
                  exact ⟨by rw [HT.out.2]; rfl, fun _ => by rw [HT.out.1]; exact H8.out, hbB5⟩

end Go.Proofs.Ytljdnadejmkaeaa

/- live: the plain law: a trace's fault, and a value's span, the program's and the reference's. -/
namespace Go.Proofs.Ytljdnadejmkaeaa
open Go.RowKit

namespace Liv
/-- what an instruction's exit asks -/
def exitVals (exits : List Ex) (e : Int) : List Int := if e < 0 then [] else (exits[e.toNat]?).elim [] vals
/-- the fault of one instruction -/
def oneF (ins : List TI) (exits : List Ex) (k : Nat) (x : TI) : Int :=
  if isOp x.op = false then 7
  else if ((asks x).any (bad ins k) || decide (x.exit < -1) || decide ((exits.length : Int) ≤ x.exit)) = true then 3
  else if (exitVals exits x.exit).any (bad ins k) = true then 3 else 0
def ones (ins : List TI) (exits : List Ex) : List Int := ins.zipIdx.map fun p => oneF ins exits p.2 p.1
/-- the first that is not nought -/
def fst (l : List Int) : Int := (l.find? (fun e => e != 0)).getD 0
theorem fst_hit (l : List Int) (k : Nat) (e : Int) (h : l[k]? = some e) (he : e ≠ 0) (hno : (l.take k).any (fun e => e != 0) = false) : fst l = e := by
  unfold fst
  have : l = l.take k ++ l.drop k := (List.take_append_drop k l).symm
  rw [this, List.find?_append]
  have h1 : (l.take k).find? (fun e => e != 0) = none := by
    rw [List.find?_eq_none]; intro x hx hx2
    exact absurd (List.any_eq_true.2 ⟨x, hx, hx2⟩) (by rw [hno]; decide)
  have h2 : (l.drop k).find? (fun e => e != 0) = some e := by
    have hk := (List.getElem?_eq_some_iff.1 h).1
    rw [List.drop_eq_getElem_cons hk]
    have : l[k] = e := by rw [List.getElem?_eq_getElem hk] at h; exact Option.some.inj h
    rw [this, List.find?_cons_of_pos (by simpa using he)]
  rw [h1, h2]; rfl
theorem fst_no (l : List Int) (hno : l.any (fun e => e != 0) = false) : fst l = 0 := by
  unfold fst
  rw [List.find?_eq_none.2 (fun x hx hx2 => absurd (List.any_eq_true.2 ⟨x, hx, hx2⟩) (by rw [hno]; decide))]; rfl
theorem ones_get (ins : List TI) (exits : List Ex) (k : Nat) (x : TI) (h : ins[k]? = some x) : (ones ins exits)[k]? = some (oneF ins exits k x) := by
  unfold ones; rw [List.getElem?_map, List.getElem?_zipIdx, h]; simp
theorem ones_length (ins : List TI) (exits : List Ex) : (ones ins exits).length = ins.length := by unfold ones; rw [List.length_map, List.length_zipIdx]
/-- the fault of what stands behind the instructions -/
def tailF (ins : List TI) (exits : List Ex) (turn back : Ex) (loop : Int) : Int :=
  if (decide (0 < loop) && (vals turn).any (bad ins loop)) = true then 3
  else if ((vals back).any (bad ins ins.length) || exits.any (fun x => (vals x).any (bad ins ins.length))) = true then 3
  else if (large turn || large back || exits.any large) = true then 2 else 0
def fault (ins : List TI) (exits : List Ex) (turn back : Ex) (loop : Int) : Int :=
  if 300 < ins.length ∨ 200 < exits.length then 2
  else if loop < 0 ∨ (ins.length : Int) < loop then 3
  else if fst (ones ins exits) ≠ 0 then fst (ones ins exits) else tailF ins exits turn back loop

/-! ### spans -/
def updE (o : List (Int × Int)) (e : Int × Int) : List (Int × Int) := o.set e.1.toNat (e.1, max (o.getD e.1.toNat (-1, -1)).2 e.2)
def runE (es : List (Int × Int)) (o : List (Int × Int)) : List (Int × Int) := es.foldl updE o
def evs (n loop at_ : Int) (l : List Int) : List (Int × Int) := l.map fun v => (v, if v < loop ∧ loop ≤ at_ then n else at_)
def insEvs (n loop : Int) (exits : List Ex) (k : Nat) (x : TI) : List (Int × Int) := evs n loop k (asks x) ++ evs n loop k (exitVals exits x.exit)
def turnEvs (turn : Ex) (loop : Int) : List (Int × Int) := if 0 < loop then (vals turn).map (fun v => (v, loop)) else []
def allEvs (ins : List TI) (exits : List Ex) (turn back : Ex) (loop : Int) : List (Int × Int) :=
  ins.zipIdx.flatMap (fun p => insEvs ins.length loop exits p.2 p.1) ++ evs ins.length loop ins.length (vals back) ++ turnEvs turn loop
def spans (ins : List TI) (exits : List Ex) (turn back : Ex) (loop : Int) : List (Int × Int) := runE (allEvs ins exits turn back loop) (List.replicate ins.length (-1, -1))

theorem updE_length (o : List (Int × Int)) (e : Int × Int) : (updE o e).length = o.length := by unfold updE; rw [List.length_set]
theorem runE_length (es : List (Int × Int)) : ∀ o : List (Int × Int), (runE es o).length = o.length := by
  induction es with
  | nil => intro o; rfl
  | cons e es ih => intro o; show (runE es (updE o e)).length = _; rw [ih, updE_length]
theorem runE_snoc (es : List (Int × Int)) (e : Int × Int) (o : List (Int × Int)) : runE (es ++ [e]) o = updE (runE es o) e := by unfold runE; rw [List.foldl_append]; rfl
theorem runE_app (es fs : List (Int × Int)) (o : List (Int × Int)) : runE (es ++ fs) o = runE fs (runE es o) := by unfold runE; rw [List.foldl_append]
theorem runE_take (es : List (Int × Int)) (k : Nat) (e : Int × Int) (o : List (Int × Int)) (h : es[k]? = some e) : runE (es.take (k + 1)) o = updE (runE (es.take k) o) e := by
  rw [List.take_add_one, h]; exact runE_snoc _ _ _

/-- what events make of one place -/
def stepK (k : Int) (s : Int × Int) (e : Int × Int) : Int × Int := if e.1 = k then (k, max s.2 e.2) else s
def res (k : Int) (es : List (Int × Int)) : Int × Int := es.foldl (stepK k) (-1, -1)
theorem runE_get (k : Nat) (es : List (Int × Int)) (n : Nat) (hk : k < n) : ∀ (o : List (Int × Int)) (s : Int × Int), o.length = n → o[k]? = some s → (∀ e ∈ es, 0 ≤ e.1 ∧ e.1 < n) → (runE es o)[k]? = some (es.foldl (stepK k) s) := by
  induction es with
  | nil => intro o s _ h _; exact h
  | cons e es ih =>
    intro o s ho h hes
    obtain ⟨h0, h1⟩ := hes e (List.mem_cons_self ..)
    show (runE es (updE o e))[k]? = some (es.foldl (stepK k) (stepK k s e))
    refine ih _ _ (by rw [updE_length]; exact ho) ?_ (fun e' he' => hes e' (List.mem_cons_of_mem _ he'))
    unfold updE stepK
    obtain ⟨j, hj⟩ : ∃ j : Nat, e.1 = (j : Int) := ⟨e.1.toNat, by omega⟩
    rw [hj, Int.toNat_natCast]
    by_cases hjk : j = k
    · subst hjk
      rw [List.getElem?_set_self (by omega), if_pos rfl, List.getD_eq_getElem?_getD, h]; rfl
    · rw [List.getElem?_set_ne hjk, if_neg (by omega)]; exact h
theorem fold_none (k : Int) (es : List (Int × Int)) (h : ∀ e ∈ es, e.1 ≠ k) : ∀ s, es.foldl (stepK k) s = s := by
  induction es with
  | nil => intro s; rfl
  | cons e es ih =>
    intro s
    rw [List.foldl_cons]
    unfold stepK
    rw [if_neg (h e (List.mem_cons_self ..))]
    exact ih (fun e' he' => h e' (List.mem_cons_of_mem _ he')) s
theorem fold_max (k M : Int) (es : List (Int × Int)) : ∀ s : Int × Int, (∀ e ∈ es, e.1 = k → e.2 ≤ M) → s.2 ≤ M → ((∃ e ∈ es, e.1 = k ∧ e.2 = M) ∨ s = (k, M)) → es.foldl (stepK k) s = (k, M) := by
  induction es with
  | nil =>
    intro s _ _ h
    rcases h with ⟨e, he, -⟩ | h
    · cases he
    · exact h
  | cons e es ih =>
    intro s hle hs h
    rw [List.foldl_cons]
    refine ih _ (fun e' he' => hle e' (List.mem_cons_of_mem _ he')) ?_ ?_
    · unfold stepK; split
      · have := hle e (List.mem_cons_self ..) (by assumption)
        show max s.2 e.2 ≤ M
        omega
      · exact hs
    · rcases h with ⟨e', he', h1, h2⟩ | h
      · rcases List.mem_cons.1 he' with rfl | he'
        · right; unfold stepK; rw [if_pos h1, h2]; congr 1; omega
        · exact .inl ⟨e', he', h1, h2⟩
      · right
        subst h
        unfold stepK; split
        · have := hle e (List.mem_cons_self ..) (by assumption)
          congr 1; show max M e.2 = M; omega
        · rfl
theorem res_none (k : Int) (es : List (Int × Int)) (h : ∀ e ∈ es, e.1 ≠ k) : res k es = (-1, -1) := fold_none k es h _
theorem res_max (k M : Int) (es : List (Int × Int)) (h1 : ∀ e ∈ es, e.1 = k → e.2 ≤ M) (hM : 0 ≤ M) (h : ∃ e ∈ es, e.1 = k ∧ e.2 = M) : res k es = (k, M) := fold_max k M es _ h1 (by show (-1 : Int) ≤ M; omega) (.inl h)

/-! ### the reference's span -/
def insAsk (ins : List TI) (exits : List Ex) (v : Int) (a : Nat) : Bool := (ins[a]?).elim false fun x => (asks x).contains v || (exitVals exits x.exit).contains v
def asked (ins : List TI) (exits : List Ex) (turn back : Ex) (loop : Int) (v : Int) (a : Nat) : Bool :=
  if a = ins.length then (vals back).contains v || (decide (loop = a) && decide (0 < a) && (vals turn).contains v)
  else insAsk ins exits v a || (decide (0 < loop) && decide ((a : Int) = loop) && (vals turn).contains v)
def within (ins : List TI) (exits : List Ex) (back : Ex) (loop : Int) (v : Int) (a : Nat) : Bool :=
  if a = ins.length then (vals back).contains v else decide (loop ≤ a) && insAsk ins exits v a
def lastR (p : Nat → Bool) : Nat → Int
  | 0 => -1
  | a + 1 => if p a = true then (a : Int) else lastR p a
def brk (ins : List TI) (exits : List Ex) (turn back : Ex) (loop : Int) (v : Int) (a : Nat) : Bool := asked ins exits turn back loop v a && within ins exits back loop v a && decide (v < loop)
def lastOf (ins : List TI) (exits : List Ex) (turn back : Ex) (loop : Int) (v : Int) : Int :=
  if (List.range (ins.length + 1)).any (brk ins exits turn back loop v) = true then ins.length else lastR (asked ins exits turn back loop v) (ins.length + 1)
def spanR (ins : List TI) (exits : List Ex) (turn back : Ex) (loop : Int) (v : Int) : Int × Int :=
  if lastOf ins exits turn back loop v < 0 then (-1, -1) else (v, lastOf ins exits turn back loop v)

theorem lastR_le (p : Nat → Bool) (n : Nat) : -1 ≤ lastR p n ∧ lastR p n < n := by
  induction n with
  | zero => exact ⟨Int.le_refl _, by show (-1 : Int) < 0; omega⟩
  | succ a ih => unfold lastR; split <;> omega
theorem lastR_spec (p : Nat → Bool) (n : Nat) : (lastR p n = -1 ∧ ∀ a, a < n → p a = false) ∨ ∃ a : Nat, a < n ∧ lastR p n = a ∧ p a = true ∧ ∀ b, b < n → p b = true → b ≤ a := by
  induction n with
  | zero => exact .inl ⟨rfl, fun a h => by omega⟩
  | succ m ih =>
    unfold lastR
    cases hp : p m with
    | true => exact .inr ⟨m, by omega, rfl, hp, fun b hb _ => by omega⟩
    | false =>
      rw [if_neg (by decide)]
      rcases ih with ⟨h1, h2⟩ | ⟨a, h1, h2, h3, h4⟩
      · refine .inl ⟨h1, fun a ha => ?_⟩
        by_cases h : a = m
        · rw [h]; exact hp
        · exact h2 a (by omega)
      · refine .inr ⟨a, by omega, h2, h3, fun b hb hb2 => ?_⟩
        by_cases h : b = m
        · rw [h, hp] at hb2; cases hb2
        · exact h4 b (by omega) hb2

theorem mem_ins (ins : List TI) (exits : List Ex) (n loop : Int) (e : Int × Int) :
    e ∈ ins.zipIdx.flatMap (fun p => insEvs n loop exits p.2 p.1) ↔ ∃ (a : Nat), a < ins.length ∧ insAsk ins exits e.1 a = true ∧ e.2 = if e.1 < loop ∧ loop ≤ a then n else (a : Int) := by
  rw [List.mem_flatMap]
  constructor
  · rintro ⟨⟨x, a⟩, hm, he⟩
    rw [List.mem_zipIdx_iff_getElem?] at hm
    have ha := (List.getElem?_eq_some_iff.1 hm).1
    refine ⟨a, ha, ?_, ?_⟩
    · unfold insAsk; rw [hm]
      unfold insEvs evs at he
      rw [← List.map_append, List.mem_map] at he
      obtain ⟨v, hv, rfl⟩ := he
      rw [List.mem_append] at hv
      simpa using hv
    · unfold insEvs evs at he
      rw [← List.map_append, List.mem_map] at he
      obtain ⟨v, hv, rfl⟩ := he
      rfl
  · rintro ⟨a, ha, hq, he⟩
    obtain ⟨x, hx⟩ : ∃ x, ins[a]? = some x := ⟨_, List.getElem?_eq_getElem ha⟩
    refine ⟨(x, a), by rw [List.mem_zipIdx_iff_getElem?]; exact hx, ?_⟩
    unfold insEvs evs
    rw [← List.map_append, List.mem_map]
    refine ⟨e.1, ?_, ?_⟩
    · unfold insAsk at hq; rw [hx] at hq
      rw [List.mem_append]
      simpa using hq
    · show (e.1, _) = e
      rw [← he]
theorem mem_back (n loop : Int) (l : List Int) (e : Int × Int) : e ∈ evs n loop n l ↔ e.1 ∈ l ∧ e.2 = n := by
  unfold evs
  rw [List.mem_map]
  constructor
  · rintro ⟨v, hv, rfl⟩; exact ⟨hv, by show (if _ then n else n) = n; split <;> rfl⟩
  · rintro ⟨h1, h2⟩; exact ⟨e.1, h1, by rw [show (if e.1 < loop ∧ loop ≤ n then n else n) = n by split <;> rfl, ← h2]⟩
theorem mem_turn (turn : Ex) (loop : Int) (e : Int × Int) : e ∈ turnEvs turn loop ↔ 0 < loop ∧ e.1 ∈ vals turn ∧ e.2 = loop := by
  unfold turnEvs
  split
  · rename_i h
    rw [List.mem_map]
    constructor
    · rintro ⟨v, hv, rfl⟩; exact ⟨h, hv, rfl⟩
    · rintro ⟨-, h1, h2⟩; exact ⟨e.1, h1, by rw [← h2]⟩
  · rename_i h
    constructor
    · intro h; cases h
    · rintro ⟨h1, -⟩; exact absurd h1 h

/-- the program's span is the reference's -/
theorem res_span (ins : List TI) (exits : List Ex) (turn back : Ex) (loop : Int) (v : Int) (hl0 : 0 ≤ loop) (hl1 : loop ≤ ins.length) :
    res v (allEvs ins exits turn back loop) = spanR ins exits turn back loop v := by
  have hmem : ∀ e : Int × Int, e ∈ allEvs ins exits turn back loop ↔ (∃ (a : Nat), a < ins.length ∧ insAsk ins exits e.1 a = true ∧ e.2 = if e.1 < loop ∧ loop ≤ a then (ins.length : Int) else (a : Int)) ∨ (e.1 ∈ vals back ∧ e.2 = ins.length) ∨ (0 < loop ∧ e.1 ∈ vals turn ∧ e.2 = loop) := by
    intro e
    unfold allEvs
    rw [List.mem_append, List.mem_append, mem_ins, mem_back, mem_turn, or_assoc]
  have hle : ∀ e ∈ allEvs ins exits turn back loop, e.1 = v → e.2 ≤ ins.length := by
    intro e he _
    rcases (hmem e).1 he with ⟨a, h1, -, h3⟩ | ⟨-, h3⟩ | ⟨-, -, h3⟩
    · rw [h3]; split <;> omega
    · omega
    · omega
  unfold spanR
  by_cases hb : (List.range (ins.length + 1)).any (brk ins exits turn back loop v) = true
  · have hlast : lastOf ins exits turn back loop v = ins.length := by unfold lastOf; rw [if_pos hb]
    rw [hlast, if_neg (by omega)]
    refine res_max v _ _ hle (by omega) ?_
    obtain ⟨a, ha, hq⟩ := List.any_eq_true.1 hb
    rw [List.mem_range] at ha
    unfold brk at hq
    rw [Bool.and_eq_true, Bool.and_eq_true, decide_eq_true_eq] at hq
    obtain ⟨⟨-, hw⟩, hv⟩ := hq
    unfold within at hw
    split at hw
    · exact ⟨(v, ins.length), (hmem _).2 (.inr (.inl ⟨by simpa using hw, rfl⟩)), rfl, rfl⟩
    · rw [Bool.and_eq_true, decide_eq_true_eq] at hw
      exact ⟨(v, ins.length), (hmem _).2 (.inl ⟨a, by omega, hw.2, by show (ins.length : Int) = if v < loop ∧ loop ≤ a then _ else _; rw [if_pos ⟨hv, hw.1⟩]⟩), rfl, rfl⟩
  · have hlast : lastOf ins exits turn back loop v = lastR (asked ins exits turn back loop v) (ins.length + 1) := by unfold lastOf; rw [if_neg hb]
    rw [hlast]
    have hnb : ∀ a, a < ins.length + 1 → brk ins exits turn back loop v a = false := by
      intro a ha
      cases hq : brk ins exits turn back loop v a with
      | false => rfl
      | true => exact absurd (List.any_eq_true.2 ⟨a, List.mem_range.2 ha, hq⟩) hb
    -- an event of v is a place at which it is asked
    have hev : ∀ e ∈ allEvs ins exits turn back loop, e.1 = v → ∃ a : Nat, a < ins.length + 1 ∧ asked ins exits turn back loop v a = true ∧ e.2 = a := by
      intro e he hv
      rcases (hmem e).1 he with ⟨a, h1, h2, h3⟩ | ⟨h2, h3⟩ | ⟨h0, h2, h3⟩
      · rw [hv] at h2 h3
        have hask : asked ins exits turn back loop v a = true := by unfold asked; rw [if_neg (by omega), h2]; rfl
        have := hnb a (by omega)
        unfold brk at this
        rw [hask] at this
        have hn : ¬ (v < loop ∧ loop ≤ a) := by
          rintro ⟨k1, k2⟩
          have : within ins exits back loop v a = true := by unfold within; rw [if_neg (by omega), h2]; simp [k2]
          simp_all
        rw [if_neg hn] at h3
        exact ⟨a, by omega, hask, h3⟩
      · rw [hv] at h2
        exact ⟨ins.length, by omega, by unfold asked; rw [if_pos rfl]; simp [h2], h3⟩
      · rw [hv] at h2
        refine ⟨loop.toNat, by omega, ?_, by omega⟩
        unfold asked
        have e1 : (loop.toNat : Int) = loop := by omega
        split
        · simp [h2, e1]; right; omega
        · simp [h2, e1, h0]
    have hae : ∀ a, a < ins.length + 1 → asked ins exits turn back loop v a = true → ∃ e ∈ allEvs ins exits turn back loop, e.1 = v ∧ e.2 = a := by
      intro a ha hq
      have hq' := hq
      unfold asked at hq
      split at hq
      · rename_i h
        rw [Bool.or_eq_true] at hq
        rcases hq with h1 | h1
        · exact ⟨(v, ins.length), (hmem _).2 (.inr (.inl ⟨by simpa using h1, rfl⟩)), rfl, by rw [h]⟩
        · simp only [Bool.and_eq_true, decide_eq_true_eq] at h1
          exact ⟨(v, loop), (hmem _).2 (.inr (.inr ⟨by omega, by simpa using h1.2, rfl⟩)), rfl, h1.1.1⟩
      · rename_i h
        rw [Bool.or_eq_true] at hq
        rcases hq with h1 | h1
        · refine ⟨(v, a), (hmem _).2 (.inl ⟨a, by omega, h1, ?_⟩), rfl, rfl⟩
          have hb2 := hnb a (by omega)
          unfold brk at hb2
          rw [hq'] at hb2
          have hn : ¬ (v < loop ∧ loop ≤ a) := by
            rintro ⟨k1, k2⟩
            have : within ins exits back loop v a = true := by unfold within; rw [if_neg h, h1]; simp [k2]
            simp_all
          rw [if_neg hn]
        · simp only [Bool.and_eq_true, decide_eq_true_eq] at h1
          exact ⟨(v, loop), (hmem _).2 (.inr (.inr ⟨h1.1.1, by simpa using h1.2, rfl⟩)), rfl, h1.1.2.symm⟩
    rcases lastR_spec (asked ins exits turn back loop v) (ins.length + 1) with ⟨h1, h2⟩ | ⟨a, h1, h2, h3, h4⟩
    · rw [h1, if_pos (by omega)]
      refine res_none v _ fun e he hv => ?_
      obtain ⟨a, ha, hq, -⟩ := hev e he hv
      rw [h2 a ha] at hq; cases hq
    · rw [h2, if_neg (by omega)]
      refine res_max v _ _ (fun e he hv => ?_) (by omega) (hae a h1 h3)
      obtain ⟨b, hb1, hb2, hb3⟩ := hev e he hv
      have := h4 b hb1 hb2
      omega

theorem spans_get (ins : List TI) (exits : List Ex) (turn back : Ex) (loop : Int) (k : Nat) (hk : k < ins.length) (hl0 : 0 ≤ loop) (hl1 : loop ≤ ins.length) (hes : ∀ e ∈ allEvs ins exits turn back loop, 0 ≤ e.1 ∧ e.1 < ins.length) :
    (spans ins exits turn back loop)[k]? = some (spanR ins exits turn back loop k) := by
  unfold spans
  rw [runE_get k _ ins.length hk _ (-1, -1) (by simp) (by rw [List.getElem?_replicate, if_pos hk]) hes]
  exact congrArg some (res_span ins exits turn back loop k hl0 hl1)
theorem spans_length (ins : List TI) (exits : List Ex) (turn back : Ex) (loop : Int) : (spans ins exits turn back loop).length = ins.length := by
  unfold spans; rw [runE_length, List.length_replicate]

/-! ### of a trace that is right, all that is asked is within -/
theorem bad_in {ins : List TI} {at_ : Int} {v : Int} (h : bad ins at_ v = false) : 0 ≤ v ∧ v < at_ ∧ v < ins.length := by
  unfold bad at h
  simp only [Bool.or_eq_false_iff, decide_eq_false_iff_not] at h
  obtain ⟨⟨h1, h2⟩, h3⟩ := h
  refine ⟨by omega, by omega, ?_⟩
  by_cases h4 : v < ins.length
  · exact h4
  · rw [List.getElem?_eq_none (by omega)] at h3; cases h3
theorem any_in {ins : List TI} {at_ : Int} {l : List Int} (h : l.any (bad ins at_) = false) : ∀ v ∈ l, 0 ≤ v ∧ v < at_ ∧ v < ins.length := fun v hv =>
  bad_in (by cases hq : bad ins at_ v with
    | false => rfl
    | true => exact absurd (List.any_eq_true.2 ⟨v, hv, hq⟩) (by rw [h]; decide))
/-- what a right trace has -/
structure Right (ins : List TI) (exits : List Ex) (turn back : Ex) (loop : Int) : Prop where
  n : ins.length ≤ 300
  e : exits.length ≤ 200
  l0 : 0 ≤ loop
  l1 : loop ≤ ins.length
  one : ∀ (k : Nat) (x : TI), ins[k]? = some x → oneF ins exits k x = 0
  turn : 0 < loop → (vals turn).any (bad ins loop) = false
  back : (vals back).any (bad ins ins.length) = false
theorem right_of {ins : List TI} {exits : List Ex} {turn back : Ex} {loop : Int} (h : fault ins exits turn back loop = 0) : Right ins exits turn back loop := by
  unfold fault at h
  split at h
  · cases h
  rename_i h1
  split at h
  · cases h
  rename_i h2
  split at h
  · rename_i h3; exact absurd h h3
  rename_i h3
  unfold tailF at h
  split at h
  · cases h
  rename_i h4
  split at h
  · cases h
  rename_i h5
  refine ⟨by omega, by omega, by omega, by omega, fun k x hx => ?_, fun hl => ?_, ?_⟩
  · have hg := ones_get ins exits k x hx
    by_cases hz : oneF ins exits k x = 0
    · exact hz
    · exfalso
      apply h3
      unfold fst
      intro h6
      cases hf : (ones ins exits).find? (fun e => e != 0) with
      | none => exact absurd (List.find?_eq_none.1 hf _ (List.mem_of_getElem? hg)) (by simpa using hz)
      | some y =>
        rw [hf] at h6
        have := List.find?_some hf
        simp at this h6
        exact this h6
  · simp [hl] at h4
    cases hq : (vals turn).any (bad ins loop) with
    | false => rfl
    | true =>
      obtain ⟨v, hv, hb⟩ := List.any_eq_true.1 hq
      exact absurd (h4 v hv) (by rw [hb]; decide)
  · simp only [Bool.or_eq_true, not_or, Bool.not_eq_true] at h5
    exact h5.1
theorem one_asks {ins : List TI} {exits : List Ex} {k : Nat} {x : TI} (h : oneF ins exits k x = 0) : (∀ v ∈ asks x, 0 ≤ v ∧ v < ins.length) ∧ (∀ v ∈ exitVals exits x.exit, 0 ≤ v ∧ v < ins.length) ∧ x.exit < exits.length ∧ -1 ≤ x.exit := by
  unfold oneF at h
  split at h
  · cases h
  split at h
  · cases h
  rename_i h1
  split at h
  · cases h
  rename_i h2
  simp only [Bool.or_eq_true, not_or, Bool.not_eq_true, decide_eq_false_iff_not] at h1
  obtain ⟨⟨h3, h4⟩, h5⟩ := h1
  refine ⟨fun v hv => ?_, fun v hv => ?_, by omega, by omega⟩
  · have := any_in h3 v hv; omega
  · have := any_in (by simpa using h2 : (exitVals exits x.exit).any (bad ins k) = false) v hv; omega
theorem right_evs {ins : List TI} {exits : List Ex} {turn back : Ex} {loop : Int} (h : Right ins exits turn back loop) : ∀ e ∈ allEvs ins exits turn back loop, 0 ≤ e.1 ∧ e.1 < ins.length := by
  intro e he
  unfold allEvs at he
  rw [List.mem_append, List.mem_append, mem_ins, mem_back, mem_turn] at he
  rcases he with (⟨a, h1, h2, -⟩ | ⟨h1, -⟩) | ⟨h0, h1, -⟩
  · obtain ⟨x, hx⟩ : ∃ x, ins[a]? = some x := ⟨_, List.getElem?_eq_getElem h1⟩
    obtain ⟨k1, k2, -⟩ := one_asks (h.one a x hx)
    unfold insAsk at h2
    rw [hx] at h2
    have h2' : e.1 ∈ asks x ∨ e.1 ∈ exitVals exits x.exit := by simpa using h2
    rcases h2' with h3 | h3
    · exact k1 _ h3
    · exact k2 _ h3
  · have := any_in h.back _ h1; omega
  · have := any_in (h.turn h0) _ h1; omega
end Liv

end Go.Proofs.Ytljdnadejmkaeaa

/- The values of an exit: live's own list. -/
namespace Go.Proofs.Ytljdnadejmkaeaa
open Go.RowKit

set_option maxHeartbeats 1600000 in
set_option maxRecDepth 100000 in
theorem lvalues_any (B sc mc N : Nat) (SA MA : Option Addr) (x : Ex) (w : World) (hs : At w B SA x.sets) (hm : At w B MA x.makes) (hB : B ≤ w.heap.size) (hN : (Liv.vals x).length = N) (hl : N * 8 ≤ 140737488355328) :
    Calls Try.prog 68 #[.agg #[.int .i64 x.at_, .int .i64 x.steps, .slice SA x.sets.length sc, .slice MA x.makes.length mc]] w fun e w' => ∃ A d, e = .returned (.slice A N d) ∧ Own w' w.heap.size 3 A d (Liv.vals x) ∧ Below w.heap.size w w' := by
  obtain ⟨i0, hi, hz0, hz1, hz2⟩ := info_parts infoInt
  have hsl := Liv.vals_sets x
  have hml := Liv.vals_makes x
  rw [hN] at hsl hml
  have H := Lib.hid (And.intro hs (And.intro hm hN)); clear hs hm hN
  go_enter Try.func68, Try.ntmps68
  go_wp2_with fail
  refine wp_world (fun W => Blk W w.heap.size 31 #[.int .i64 x.at_, .int .i64 x.steps, .slice SA x.sets.length sc, .slice MA x.makes.length mc] ∧ Below w.heap.size w W ∧ w.heap.size + 1 ≤ W.heap.size) ⟨Blk.new _ _ _, (Below.refl _ _).alloc (Nat.le_refl _) _, by simp⟩ ?_
  rintro W ⟨hG, hb0, hs0⟩
  have g2 := hG.cell 2 (v := .slice SA x.sets.length sc) rfl
  have HG := Lib.hid hG; clear hG
  have ltW : w.heap.size < W.heap.size := by omega
  go_wp2_with fail
  clear g2
  go_loopg [3, 11] (x.sets.length) (fun gk ov iv wr => ∃ (k : Nat) (A2 : Option Addr) (c2 : Nat) (o1 : List Int), k ≤ x.sets.length ∧ gk = x.sets.length - k ∧ iv = .int .i64 k ∧ ov = .slice A2 o1.length c2 ∧ o1.length ≤ k ∧ Hid (o1 = (x.sets.take k).map (·.2) ∧ Own wr (w.heap.size + 1) 3 A2 c2 o1) ∧ Below (w.heap.size + 1) W wr ∧ w.heap.size + 1 ≤ wr.heap.size)
  case atStart => exact ⟨0, none, 0, [], Nat.zero_le _, rfl, rfl, rfl, Nat.le_refl _, ⟨rfl, Own.nil_⟩, Below.refl _ _, hs0⟩
  case round =>
    obtain ⟨k, A2, c2, o1, hk, rfl, rfl, rfl, ho1, hkeep, hbl, hsz⟩ := hrel
    by_cases hlt : k < x.sets.length
    · obtain ⟨b, o, a1, a2, rfl, hb, hx, hox, hoy, d0, d1⟩ := (H.out.1.below ((hb0.trans (hbl.mono (by omega))).mono hB)).pair hlt
      have hsn := Liv.mp_snoc (·.2) x.sets k _ hx
      have HX := Lib.hid (And.intro hsn (And.intro hkeep.out hoy)); clear hsn hx hox hoy hkeep
      go_wp2_with (at_builtin; go_must (refine wpList_app (α := Int) (n := o1.length) (m := 1) (B := wr.heap.size + 1 + 1) (r := [a2]) rfl (.tmp 15) (.tmp 18) _ rfl (w.heap.size + 1) 3 i0 _ 8 Try.underlying40 hi hz0 hz1 hz2 rfl (by decide) int_one (by rfl) rfl ((HX.out.2.1.2.alloc _).alloc _) (by rfl) ?_ rfl (by omega) (by simp only [maxLen]; omega) (by simp; omega) ?_))
      · have := At.built (wr.alloc (.cells #[.int .i64 a1, .int .i64 a2] 38)) #[.int .i64 a2] 3 [a2] rfl (by intro z hz; simp at hz; subst hz; exact HX.out.2.2)
        simpa using this
      intro A3 c3 w3 hown3 hgr3 hat3
      have hbl3 : Below (w.heap.size + 1) W w3 := ((hbl.alloc hsz _).alloc (by simp; omega) _).grown hgr3 (by simp; omega) (fun g hg => (HX.out.2.1.2.lt g hg).1)
      have hs3 : w.heap.size + 1 ≤ w3.heap.size := by have := hgr3.size; simp at this; omega
      have heq : o1 ++ [a2] = (x.sets.take (k + 1)).map (·.2) := by rw [HX.out.1, ← HX.out.2.1.1]
      have hl3 : (o1 ++ [a2]).length = o1.length + 1 := by rw [List.length_append]; rfl
      have H3 := Lib.hid (And.intro heq (And.intro hown3 hl3)); clear heq hown3 hl3 hgr3 hat3
      go_wp2_with fail
      go_roundg (x.sets.length - (k + 1))
      case measure => omega
      case rel => exact ⟨k + 1, A3, c3, _, by omega, rfl, by go_num, by rw [H3.out.2.2], by rw [H3.out.2.2]; omega, ⟨H3.out.1, H3.out.2.1⟩, hbl3, hs3⟩
    · obtain ⟨k1, k2⟩ := hkeep.out
      rw [List.take_of_length_le (by omega)] at k1
      have hls : o1.length = x.sets.length := by rw [k1, List.length_map]
      have HK := Lib.hid (And.intro k1 (And.intro k2 hls)); clear k1 k2 hls hkeep
      have hG2 : Blk wr w.heap.size 31 #[.int .i64 x.at_, .int .i64 x.steps, .slice SA x.sets.length sc, .slice MA x.makes.length mc] := (hbl.block _ (by omega)).trans HG.out
      have g3 := hG2.cell 3 (v := .slice MA x.makes.length mc) rfl
      have ltr : w.heap.size < wr.heap.size := by omega
      clear hG2
      obtain ⟨wo, rfl⟩ : ∃ wo : World, wo = wr := ⟨_, rfl⟩
      go_wp2_with fail
      clear g3
      go_loopg [3, 24] (x.makes.length) (fun gj ov jv wj => ∃ (j : Nat) (A5 : Option Addr) (c5 : Nat) (o2 : List Int), j ≤ x.makes.length ∧ gj = x.makes.length - j ∧ jv = .int .i64 j ∧ ov = .slice A5 o2.length c5 ∧ Hid (o2 = o1 ++ (x.makes.take j).flatMap (fun m => m.cell :: m.vals) ∧ Own wj (w.heap.size + 1) 3 A5 c5 o2) ∧ Below (w.heap.size + 1) W wj ∧ w.heap.size + 1 ≤ wj.heap.size)
      case atStart => exact ⟨0, A2, c2, o1, Nat.zero_le _, rfl, rfl, rfl, ⟨by simp, HK.out.2.1⟩, hbl, by omega⟩
      case round =>
        obtain ⟨j, A5, c5, o2, hj, rfl, rfl, rfl, hkeep, hblj, hsj⟩ := hrel
        by_cases hjt : j < x.makes.length
        · obtain ⟨b, o, m, VA, vc, rfl, hb, hx, e0, e1, e2, e3, av, hvc, j0, j1, j2⟩ := (H.out.2.1.below ((hb0.trans (hblj.mono (by omega))).mono hB)).mk_ hjt
          have hsn := Liv.fm_snoc (fun m : Mk => m.cell :: m.vals) x.makes j _ hx
          have hrm := Liv.fm_room (fun m : Mk => m.cell :: m.vals) x.makes j _ hx
          have hroom : o2.length + (m.vals.length + 1) ≤ N := by
            rw [← H.out.2.2, hkeep.out.1, List.length_append, HK.out.2.2]; unfold Liv.vals; rw [List.length_append, List.length_map]; simp only [List.length_cons] at hrm; omega
          have HX := Lib.hid (And.intro hsn (And.intro hkeep.out (And.intro j0 av))); clear hsn hx hrm hkeep j0 j1 j2 av hvc
          go_wp2_with fail
          refine wp_world (fun V => Blk V wr.heap.size 54 #[.int .i64 m.cell, .int .i64 m.kind, .int .i64 m.num, .slice VA m.vals.length vc] ∧ Own V (w.heap.size + 1) 3 A5 c5 o2 ∧ Below (w.heap.size + 1) wr V ∧ wr.heap.size + 1 ≤ V.heap.size) ⟨Blk.new _ _ _, HX.out.2.1.2.alloc _, (Below.refl _ _).alloc hsj _, by simp⟩ ?_
          rintro V ⟨hF, hO, hbV, hsV⟩
          have p0 := hF.cell 0 (v := .int .i64 m.cell) rfl
          have p3 := hF.cell 3 (v := .slice VA m.vals.length vc) rfl
          have HLB := Lib.hid (hF.drew.alloc (.cells #[.int .i64 m.cell] 3))
          have HLO := Lib.hid (hO.drew.alloc (.cells #[.int .i64 m.cell] 3))
          have HLT := Lib.hid (At.built V.drew #[.int .i64 m.cell] 3 [m.cell] rfl (by intro z hz; simp at hz; subst hz; exact HX.out.2.2.1))
          have hsV1 : w.heap.size + 1 ≤ V.heap.size := by omega
          have eV : V.drew.heap.size = V.heap.size := rfl
          have HAV := Lib.hid (fun (w3 : World) (r : Option Nat) (hg : (V.drew.alloc (.cells #[.int .i64 m.cell] 3)).grownBy w3 r) (hr : r = rowOf A5) => HX.out.2.2.2.below (((hbV.drew.alloc (show w.heap.size + 1 ≤ V.heap.size from hsV1) (.cells #[.int .i64 m.cell] 3)).grown hg (by simp; omega) (fun g hg' => (hO.lt g (by rw [← hr]; exact hg')).1)).mono (show B ≤ w.heap.size + 1 by omega)))
          have HBV := Lib.hid (And.intro hO hbV)
          clear hF hO hbV e0 e1 e2 e3
          go_region_held3 (fun w' => w'.cell? ⟨wr.heap.size, 0, none⟩ = some (.int .i64 m.cell) ∧ w'.cell? ⟨wr.heap.size, 3, none⟩ = some (.slice VA m.vals.length vc))
            (first
              | exact ⟨p0, p3⟩
              | exact ⟨HLB.out.cell 0 rfl, HLB.out.cell 3 rfl⟩
              | (have F1 := HLB.out.grown hgr3 (fun e => own_ne_ty HLO.out HLB.out (by decide) e); exact ⟨F1.cell 0 rfl, F1.cell 3 rfl⟩)
              | (have F1 := HLB.out.grown hgr3 (fun e => own_ne_ty HLO.out HLB.out (by decide) e); have F2 := F1.grown hgr4 (fun e => own_ne_ty hown3 F1 (by decide) e); exact ⟨F2.cell 0 rfl, F2.cell 3 rfl⟩)
              | go_keep)
            (first
              | (refine step_app (α := Int) (n := o2.length) (m := 1) (nm := o2.length + 1) (B := V.heap.size + 1) (r := [m.cell]) (by rfl) (.tmp 28) (.tmp 31) _ (by rfl) (w.heap.size + 1) 3 i0 _ 8 Try.underlying40 hi hz0 hz1 hz2 rfl (by decide) int_one (by rfl) rfl HLO.out (by rfl) HLT.out rfl rfl (by omega) (by simp only [maxLen]; omega) (by simp; omega) ?_; intro A3 c3 w3 hown3 hgr3 hat3)
              | (refine step_app (α := Int) (n := o2.length + 1) (m := m.vals.length) (nm := o2.length + 1 + m.vals.length) (B := B) (r := m.vals) (by rfl) (.tmp 32) (.tmp 34) _ (by rfl) (w.heap.size + 1) 3 i0 _ 8 Try.underlying40 hi hz0 hz1 hz2 rfl (by decide) int_one (by rfl) (by rw [List.length_append]; rfl) hown3 (by rfl) (HAV.out w3 _ hgr3 rfl) rfl rfl (by omega) (by simp only [maxLen]; omega) (by have := hgr3.size; simp at this; omega) ?_; intro A4 c4 w4 hown4 hgr4 hat4))
          have hs3 : V.heap.size + 1 ≤ w3.heap.size := by simpa using hgr3.size
          have hs4 := hgr4.size
          have hbl4 : Below (w.heap.size + 1) W w4 := hblj.trans (((HBV.out.2.drew.alloc (show w.heap.size + 1 ≤ V.heap.size from hsV1) (.cells #[.int .i64 m.cell] 3)).grown hgr3 (by simp; omega) (fun g hg => (HBV.out.1.lt g hg).1)).grown hgr4 (by omega) (fun g hg => (hown3.lt g hg).1))
          have heq : o2 ++ [m.cell] ++ m.vals = o1 ++ (x.makes.take (j + 1)).flatMap (fun m => m.cell :: m.vals) := by rw [HX.out.1, HX.out.2.1.1]; simp
          have hl4 : o2.length + 1 + m.vals.length = (o2 ++ [m.cell] ++ m.vals).length := by rw [List.length_append, List.length_append]; rfl
          have H4 := Lib.hid (And.intro heq (And.intro hown4 hl4)); clear heq hown4 hl4 hgr4 hat4 hown3 hgr3 hat3 p0 p3
          go_wp2_with fail
          go_roundg (x.makes.length - (j + 1))
          case measure => omega
          case rel => exact ⟨j + 1, A4, c4, _, by omega, rfl, by go_num, by rw [← H4.out.2.2], ⟨H4.out.1, H4.out.2.1⟩, hbl4, by omega⟩
        · obtain ⟨q1, q2⟩ := hkeep.out
          rw [List.take_of_length_le (by omega), HK.out.1] at q1
          have hq1 : o2 = Liv.vals x := q1
          have hq2 : o2.length = N := by rw [hq1]; exact H.out.2.2
          have hblw : Below w.heap.size w wr := hb0.trans (hblj.mono (by omega))
          have HF := Lib.hid (And.intro hq1 (And.intro hq2 q2)); clear q1 hq1 hq2 q2 hkeep
          go_wp2_with fail
          go_ret
          exact ⟨A5, c5, by rw [← HF.out.2.1]; rfl, by rw [← HF.out.1]; exact HF.out.2.2.base_le (by omega), hblw⟩

end Go.Proofs.Ytljdnadejmkaeaa

/- live.one: what is wrong with one instruction. -/
namespace Go.Proofs.Ytljdnadejmkaeaa
open Go.RowKit

attribute [local go_sem ↓] Go.wp_at_zero Go.wp_at_succ

/-- a trace's block, an instruction's block: their cells -/
def Tr (v0 v1 : Value) (loop : Int) (IA EA : Option Addr) (il ic el ec : Nat) (ts bs : Array Value) : Array Value :=
  #[v0, v1, .int .i64 loop, .slice IA il ic, .slice EA el ec] ++ ts ++ bs
theorem Blk.cells13 {w : World} {g : Nat} {t : TypeId} {a0 a1 a2 a3 a4 a5 a6 a7 a8 a9 a10 a11 a12 : Value} (h : Blk w g t #[a0, a1, a2, a3, a4, a5, a6, a7, a8, a9, a10, a11, a12]) :
    w.cell? ⟨g, 0, none⟩ = some a0 ∧ w.cell? ⟨g, 1, none⟩ = some a1 ∧ w.cell? ⟨g, 2, none⟩ = some a2 ∧ w.cell? ⟨g, 3, none⟩ = some a3 ∧ w.cell? ⟨g, 4, none⟩ = some a4 ∧ w.cell? ⟨g, 5, none⟩ = some a5 ∧ w.cell? ⟨g, 6, none⟩ = some a6 ∧ w.cell? ⟨g, 7, none⟩ = some a7 ∧ w.cell? ⟨g, 8, none⟩ = some a8 ∧ w.cell? ⟨g, 9, none⟩ = some a9 ∧ w.cell? ⟨g, 10, none⟩ = some a10 ∧ w.cell? ⟨g, 11, none⟩ = some a11 ∧ w.cell? ⟨g, 12, none⟩ = some a12 :=
  ⟨h.cell 0 rfl, h.cell 1 rfl, h.cell 2 rfl, h.cell 3 rfl, h.cell 4 rfl, h.cell 5 rfl, h.cell 6 rfl, h.cell 7 rfl, h.cell 8 rfl, h.cell 9 rfl, h.cell 10 rfl, h.cell 11 rfl, h.cell 12 rfl⟩

theorem Liv.vals_ok {w : World} {B : Nat} {As Am : Option Addr} {x : Ex} (hs : At w B As x.sets) (hm : At w B Am x.makes) : ∀ z ∈ Liv.vals x, Flat.ok z := by
  intro z hz
  unfold Liv.vals at hz
  rw [List.mem_append] at hz
  rcases hz with hz | hz
  · obtain ⟨p, hp, rfl⟩ := List.mem_map.1 hz
    exact (hs.ok_ p hp).2
  · obtain ⟨m, hm', hz⟩ := List.mem_flatMap.1 hz
    obtain ⟨i, hi⟩ := List.mem_iff_getElem?.1 hm'
    obtain ⟨b, o, m2, VA, vc, -, -, hx, -, -, -, -, av, -, j0, -⟩ := hm.mk_ (List.getElem?_eq_some_iff.1 hi).1
    obtain rfl : m2 = m := Option.some.inj (hx.symm.trans hi)
    rcases List.mem_cons.1 hz with rfl | hz
    · exact j0
    · exact av.ok_ z hz

set_option maxHeartbeats 1600000 in
set_option maxRecDepth 100000 in
theorem lone_any (B ic ec : Nat) (IA EA : Option Addr) (ins : List TI) (exits : List Ex) (k : Nat) (x : TI) (v0 v1 v2 v5 v6 v7 v8 v9 v10 v11 v12 : Value) (w : World) (hx : ins[k]? = some x) (hI : At w B IA ins) (hE : At w B EA exits) (hB : B ≤ w.heap.size)
    (hil : ins.length ≤ 300) (hel : exits.length ≤ 200) (hf : ∀ y ∈ exits, (Liv.vals y).length * 8 ≤ 140737488355328) :
    Calls Try.prog 69 #[.agg #[v0, v1, v2, .slice IA ins.length ic, .slice EA exits.length ec, v5, v6, v7, v8, v9, v10, v11, v12], .int .i64 k] w fun e w' => e = .returned (.int .i64 (Liv.oneF ins exits k x)) ∧ Below w.heap.size w w' := by
  have hk : k < ins.length := (List.getElem?_eq_some_iff.1 hx).1
  have H := Lib.hid (And.intro hI (And.intro hE hf)); clear hI hE hf
  obtain ⟨b, o, x', rfl, hb, hx', d0, d1, d2, d3, d4, d5, d6, d7, j0, j1, j2, j3, j4, j5, j6, j7⟩ := H.out.1.tI_ hk
  have hxx : x' = x := Option.some.inj (hx'.symm.trans hx)
  subst hxx
  obtain ⟨q, hq⟩ : ∃ q, Liv.oneF ins exits k x' = q := ⟨_, rfl⟩
  rw [hq]
  have HQ := Lib.hid (And.intro hq (And.intro j1 (And.intro j2 j3))); clear hq hx' hx j0 j1 j2 j3 j4 j5 j6 j7
  have hbw : b < w.heap.size := by omega
  have hk0 : (0 : Int) ≤ (k : Int) := by omega
  have hk1 : (k : Int) < (ins.length : Int) := by omega
  go_enter Try.func69, Try.ntmps69
  go_wp2_with fail
  refine calls_world (fun W => Blk W w.heap.size 72 #[v0, v1, v2, .slice (some ⟨b, o, none⟩) ins.length ic, .slice EA exits.length ec, v5, v6, v7, v8, v9, v10, v11, v12] ∧ Blk W (w.heap.size + 1) 121 #[.int .i64 x'.op, .int .i64 x'.a, .int .i64 x'.b, .int .i64 x'.c, .int .i64 x'.n, .int .i64 x'.exit, .int .i64 x'.k.1, .int .i64 x'.k.2] ∧ Below w.heap.size w W ∧ w.heap.size + 2 ≤ W.heap.size) ⟨(Blk.new _ _ _).alloc _, Blk.at_ _ _ _ (by simp), ((Below.refl _ _).alloc (Nat.le_refl _) _).alloc (by simp) _, by simp⟩ ?_
  rintro W ⟨hT, hX, hb0, hs0⟩
  have x0 := hX.cell 0 (v := .int .i64 x'.op) rfl
  have ltX : w.heap.size + 1 < W.heap.size := by omega
  have ltT : w.heap.size < W.heap.size := by omega
  have HT := Lib.hid hT; clear hT
  have HX := Lib.hid hX; clear hX
  clear d0 d1 d2 d3 d4 d5 d6 d7
  refine (known_any x'.op W).mono ?_
  rintro e W1 ⟨rfl, rfl⟩
  cases hop : Liv.isOp x'.op with
  | false =>
    have hq : q = 7 := by rw [← HQ.out.1]; unfold Liv.oneF; rw [if_pos hop]
    clear hop; subst hq
    go_wp2_with fail
    go_ret
    exact ⟨rfl, hb0⟩
  | true =>
    have HOP := Lib.hid hop; clear hop
    clear x0
    go_wp2_with fail
    have hal : (Liv.asks x').length ≤ 3 := by unfold Liv.asks; rw [List.length_take]; have := Liv.asksN_le x'.op; omega
    have hao : ∀ z ∈ Liv.asks x', Flat.ok z := by
      intro z hz; obtain ⟨j1, j2, j3⟩ := HQ.out.2
      have := List.mem_of_mem_take hz
      simp at this; rcases this with rfl | rfl | rfl <;> assumption
    have HA := Lib.hid hao; clear hao
    cases hbad : (Liv.asks x').any (Liv.bad ins k) with
    | true =>
      have hq : q = 3 := by rw [← HQ.out.1]; unfold Liv.oneF; rw [if_neg (by rw [HOP.out]; decide), if_pos (by rw [hbad]; rfl)]
      have HB := Lib.hid hbad; clear hbad
      subst hq
      refine wp_region_held_drew (S := (fun w' => w'.cell? ⟨w.heap.size, 0, none⟩ = some (v0) ∧ w'.cell? ⟨w.heap.size, 1, none⟩ = some (v1) ∧ w'.cell? ⟨w.heap.size, 2, none⟩ = some (v2) ∧ w'.cell? ⟨w.heap.size, 3, none⟩ = some (.slice (some ⟨b, o, none⟩) ins.length ic) ∧ w'.cell? ⟨w.heap.size, 4, none⟩ = some (.slice EA exits.length ec) ∧ w'.cell? ⟨w.heap.size, 5, none⟩ = some (v5) ∧ w'.cell? ⟨w.heap.size, 6, none⟩ = some (v6) ∧ w'.cell? ⟨w.heap.size, 7, none⟩ = some (v7) ∧ w'.cell? ⟨w.heap.size, 8, none⟩ = some (v8) ∧ w'.cell? ⟨w.heap.size, 9, none⟩ = some (v9) ∧ w'.cell? ⟨w.heap.size, 10, none⟩ = some (v10) ∧ w'.cell? ⟨w.heap.size, 11, none⟩ = some (v11) ∧ w'.cell? ⟨w.heap.size, 12, none⟩ = some (v12) ∧ w'.cell? ⟨w.heap.size + 1, 0, none⟩ = some (.int .i64 x'.op) ∧ w'.cell? ⟨w.heap.size + 1, 1, none⟩ = some (.int .i64 x'.a) ∧ w'.cell? ⟨w.heap.size + 1, 2, none⟩ = some (.int .i64 x'.b) ∧ w'.cell? ⟨w.heap.size + 1, 3, none⟩ = some (.int .i64 x'.c) ∧ w'.cell? ⟨w.heap.size + 1, 4, none⟩ = some (.int .i64 x'.n) ∧ w'.cell? ⟨w.heap.size + 1, 5, none⟩ = some (.int .i64 x'.exit) ∧ w'.cell? ⟨w.heap.size + 1, 6, none⟩ = some (.int .i64 x'.k.1) ∧ w'.cell? ⟨w.heap.size + 1, 7, none⟩ = some (.int .i64 x'.k.2))) (by kernel_rfl) ?_ (fun hHeld0 => ?_)
      · first | trivial | ((try dsimp only); ((obtain ⟨p0, p1, p2, p3, p4, p5, p6, p7, p8, p9, p10, p11, p12⟩ := (HT.out.drew).cells13; obtain ⟨q0, q1, q2, q3, q4, q5, q6, q7⟩ := (HX.out.drew).cells8; exact ⟨p0, p1, p2, p3, p4, p5, p6, p7, p8, p9, p10, p11, p12, q0, q1, q2, q3, q4, q5, q6, q7⟩)))
      refine held_take (v := ?_) 0 rfl (by kernel_rfl) (by kernel_rfl) (by kernel_rfl) (fun _ _ _ h => h) (by rfl) ?_ (by assumption) ?_
      rotate_left
      · (intro w hSw; (try dsimp only at hSw); go_simp; try with_reducible rfl)
      try simp only [Act.put, List.setIfInBounds_toArray, List.set_cons_zero, List.set_cons_succ]
      refine held_take (v := ?_) 1 rfl (by kernel_rfl) (by kernel_rfl) (by kernel_rfl) (fun _ _ _ h => h) (by rfl) ?_ (by assumption) ?_
      rotate_left
      · (intro w hSw; (try dsimp only at hSw); go_simp; try with_reducible rfl)
      try simp only [Act.put, List.setIfInBounds_toArray, List.set_cons_zero, List.set_cons_succ]
      refine held_take (v := ?_) 3 rfl (by kernel_rfl) (by kernel_rfl) (by kernel_rfl) (fun _ _ _ h => h) (by rfl) ?_ (by assumption) ?_
      rotate_left
      · (intro w hSw; (try dsimp only at hSw); go_simp; try with_reducible rfl)
      try simp only [Act.put, List.setIfInBounds_toArray, List.set_cons_zero, List.set_cons_succ]
      refine held_call 2 (by kernel_rfl) rfl (fun K hK => ?_)
      go_simp
      go_at_call 67; refine (irAsks_any x' HQ.out.2 _).mono ?_; rintro e w1 ⟨A1, d1, rfl, ho1, hb1d⟩; have hb1 : Below W.heap.size W w1 := undrew hb1d; clear hb1d
      try (go_wp2_with fail)
      refine hK.out _ _ ?_ (fun hHeld1 => ?_)
      · first | trivial | ((try dsimp only); ((obtain ⟨p0, p1, p2, p3, p4, p5, p6, p7, p8, p9, p10, p11, p12⟩ := (HT.out.fresh hb1).cells13; obtain ⟨q0, q1, q2, q3, q4, q5, q6, q7⟩ := (HX.out.fresh hb1).cells8; exact ⟨p0, p1, p2, p3, p4, p5, p6, p7, p8, p9, p10, p11, p12, q0, q1, q2, q3, q4, q5, q6, q7⟩)))
      clear hK K hHeld0
      try simp only [Act.put, List.setIfInBounds_toArray, List.set_cons_zero, List.set_cons_succ]
      refine held_call 4 (by kernel_rfl) rfl (fun K hK => ?_)
      go_simp
      go_at_call 70; refine (lall_any B w1.heap.size ic d1 _ _ A1 ins (Liv.asks x') k _ _ _ _ _ _ _ _ _ _ _ _ w1 (H.out.1.below ((hb0.trans (hb1.mono (by omega))).mono hB)) (by have := hb1.size; omega) (by omega) rfl (ho1.at_ HA.out) (Nat.le_refl _) (by omega)).mono ?_; rintro e w2 ⟨he, hb2⟩; obtain rfl : e = .returned (.bool false) := (by (rw [he, HB.out]; rfl)); clear he
      try (go_wp2_with fail)
      refine hK.out _ _ ?_ (fun hHeld2 => ?_)
      · first | trivial | ((try dsimp only); ((obtain ⟨p0, p1, p2, p3, p4, p5, p6, p7, p8, p9, p10, p11, p12⟩ := ((HT.out.fresh hb1).fresh hb2).cells13; obtain ⟨q0, q1, q2, q3, q4, q5, q6, q7⟩ := ((HX.out.fresh hb1).fresh hb2).cells8; exact ⟨p0, p1, p2, p3, p4, p5, p6, p7, p8, p9, p10, p11, p12, q0, q1, q2, q3, q4, q5, q6, q7⟩)))
      clear hK K hHeld1
      try simp only [Act.put, List.setIfInBounds_toArray, List.set_cons_zero, List.set_cons_succ]
      refine held_take (v := ?_) 5 rfl (by kernel_rfl) (by kernel_rfl) (by kernel_rfl) (fun _ _ _ h => h) (by rfl) ?_ (by assumption) ?_
      rotate_left
      · (intro w hSw; (try dsimp only at hSw); go_simp; try with_reducible rfl)
      try simp only [Act.put, List.setIfInBounds_toArray, List.set_cons_zero, List.set_cons_succ]
      refine held_take (v := ?_) 6 rfl (by kernel_rfl) (by kernel_rfl) (by kernel_rfl) (fun _ _ _ h => h) (by rfl) ?_ (by assumption) ?_
      rotate_left
      · (intro w hSw; (try dsimp only at hSw); go_simp; try with_reducible rfl)
      try simp only [Act.put, List.setIfInBounds_toArray, List.set_cons_zero, List.set_cons_succ]
      refine held_skip 7 rfl (by kernel_rfl) (by kernel_rfl) (by kernel_rfl) (fun _ _ _ h => h) (by rfl) (by assumption) ?_
      try simp only [Act.put, List.setIfInBounds_toArray, List.set_cons_zero, List.set_cons_succ]
      refine held_skip 8 rfl (by kernel_rfl) (by kernel_rfl) (by kernel_rfl) (fun _ _ _ h => h) (by rfl) (by assumption) ?_
      try simp only [Act.put, List.setIfInBounds_toArray, List.set_cons_zero, List.set_cons_succ]
      refine held_skip 9 rfl (by kernel_rfl) (by kernel_rfl) (by kernel_rfl) (fun _ _ _ h => h) (by rfl) (by assumption) ?_
      try simp only [Act.put, List.setIfInBounds_toArray, List.set_cons_zero, List.set_cons_succ]
      refine held_take (v := ?_) 10 rfl (by kernel_rfl) (by kernel_rfl) (by kernel_rfl) (fun _ _ _ h => h) (by rfl) ?_ (by assumption) ?_
      rotate_left
      · (intro w hSw; (try dsimp only at hSw); go_simp; try with_reducible rfl)
      try simp only [Act.put, List.setIfInBounds_toArray, List.set_cons_zero, List.set_cons_succ]
      refine held_take (v := ?_) 11 rfl (by kernel_rfl) (by kernel_rfl) (by kernel_rfl) (fun _ _ _ h => h) (by rfl) ?_ (by assumption) ?_
      rotate_left
      · (intro w hSw; (try dsimp only at hSw); go_simp; try with_reducible rfl)
      try simp only [Act.put, List.setIfInBounds_toArray, List.set_cons_zero, List.set_cons_succ]
      refine held_skip 12 rfl (by kernel_rfl) (by kernel_rfl) (by kernel_rfl) (fun _ _ _ h => h) (by rfl) (by assumption) ?_
      try simp only [Act.put, List.setIfInBounds_toArray, List.set_cons_zero, List.set_cons_succ]
      refine held_skip 13 rfl (by kernel_rfl) (by kernel_rfl) (by kernel_rfl) (fun _ _ _ h => h) (by rfl) (by assumption) ?_
      try simp only [Act.put, List.setIfInBounds_toArray, List.set_cons_zero, List.set_cons_succ]
      refine held_skip 14 rfl (by kernel_rfl) (by kernel_rfl) (by kernel_rfl) (fun _ _ _ h => h) (by rfl) (by assumption) ?_
      try simp only [Act.put, List.setIfInBounds_toArray, List.set_cons_zero, List.set_cons_succ]
      refine held_skip 15 rfl (by kernel_rfl) (by kernel_rfl) (by kernel_rfl) (fun _ _ _ h => h) (by rfl) (by assumption) ?_
      try simp only [Act.put, List.setIfInBounds_toArray, List.set_cons_zero, List.set_cons_succ]
      refine held_skip 16 rfl (by kernel_rfl) (by kernel_rfl) (by kernel_rfl) (fun _ _ _ h => h) (by rfl) (by assumption) ?_
      try simp only [Act.put, List.setIfInBounds_toArray, List.set_cons_zero, List.set_cons_succ]
      refine held_skip 17 rfl (by kernel_rfl) (by kernel_rfl) (by kernel_rfl) (fun _ _ _ h => h) (by rfl) (by assumption) ?_
      try simp only [Act.put, List.setIfInBounds_toArray, List.set_cons_zero, List.set_cons_succ]
      refine held_take (v := ?_) 18 rfl (by kernel_rfl) (by kernel_rfl) (by kernel_rfl) (fun _ _ _ h => h) (by rfl) ?_ (by assumption) ?_
      rotate_left
      · (intro w hSw; (try dsimp only at hSw); go_simp; try with_reducible rfl)
      try simp only [Act.put, List.setIfInBounds_toArray, List.set_cons_zero, List.set_cons_succ]
      refine held_take (v := ?_) 19 rfl (by kernel_rfl) (by kernel_rfl) (by kernel_rfl) (fun _ _ _ h => h) (by rfl) ?_ (by assumption) ?_
      rotate_left
      · (intro w hSw; (try dsimp only at hSw); go_simp; try with_reducible rfl)
      try simp only [Act.put, List.setIfInBounds_toArray, List.set_cons_zero, List.set_cons_succ]
      refine wpAnyH_done (by kernel_rfl) ?_ _
      have hbl : Below w.heap.size w w2 := (hb0.trans (hb1.mono (by omega))).trans (hb2.mono (by have := hb1.size; omega))
      clear ho1
      go_wp2_with fail
      go_ret
      exact ⟨rfl, hbl⟩
    | false =>
      have HB := Lib.hid hbad; clear hbad
      by_cases h1 : x'.exit < -1
      · have hq : q = 3 := by rw [← HQ.out.1]; unfold Liv.oneF; rw [if_neg (by rw [HOP.out]; decide), if_pos (by simp [h1])]
        subst hq
        refine wp_region_held_drew (S := (fun w' => w'.cell? ⟨w.heap.size, 0, none⟩ = some (v0) ∧ w'.cell? ⟨w.heap.size, 1, none⟩ = some (v1) ∧ w'.cell? ⟨w.heap.size, 2, none⟩ = some (v2) ∧ w'.cell? ⟨w.heap.size, 3, none⟩ = some (.slice (some ⟨b, o, none⟩) ins.length ic) ∧ w'.cell? ⟨w.heap.size, 4, none⟩ = some (.slice EA exits.length ec) ∧ w'.cell? ⟨w.heap.size, 5, none⟩ = some (v5) ∧ w'.cell? ⟨w.heap.size, 6, none⟩ = some (v6) ∧ w'.cell? ⟨w.heap.size, 7, none⟩ = some (v7) ∧ w'.cell? ⟨w.heap.size, 8, none⟩ = some (v8) ∧ w'.cell? ⟨w.heap.size, 9, none⟩ = some (v9) ∧ w'.cell? ⟨w.heap.size, 10, none⟩ = some (v10) ∧ w'.cell? ⟨w.heap.size, 11, none⟩ = some (v11) ∧ w'.cell? ⟨w.heap.size, 12, none⟩ = some (v12) ∧ w'.cell? ⟨w.heap.size + 1, 0, none⟩ = some (.int .i64 x'.op) ∧ w'.cell? ⟨w.heap.size + 1, 1, none⟩ = some (.int .i64 x'.a) ∧ w'.cell? ⟨w.heap.size + 1, 2, none⟩ = some (.int .i64 x'.b) ∧ w'.cell? ⟨w.heap.size + 1, 3, none⟩ = some (.int .i64 x'.c) ∧ w'.cell? ⟨w.heap.size + 1, 4, none⟩ = some (.int .i64 x'.n) ∧ w'.cell? ⟨w.heap.size + 1, 5, none⟩ = some (.int .i64 x'.exit) ∧ w'.cell? ⟨w.heap.size + 1, 6, none⟩ = some (.int .i64 x'.k.1) ∧ w'.cell? ⟨w.heap.size + 1, 7, none⟩ = some (.int .i64 x'.k.2))) (by kernel_rfl) ?_ (fun hHeld0 => ?_)
        · first | trivial | ((try dsimp only); ((obtain ⟨p0, p1, p2, p3, p4, p5, p6, p7, p8, p9, p10, p11, p12⟩ := (HT.out.drew).cells13; obtain ⟨q0, q1, q2, q3, q4, q5, q6, q7⟩ := (HX.out.drew).cells8; exact ⟨p0, p1, p2, p3, p4, p5, p6, p7, p8, p9, p10, p11, p12, q0, q1, q2, q3, q4, q5, q6, q7⟩)))
        refine held_take (v := ?_) 0 rfl (by kernel_rfl) (by kernel_rfl) (by kernel_rfl) (fun _ _ _ h => h) (by rfl) ?_ (by assumption) ?_
        rotate_left
        · (intro w hSw; (try dsimp only at hSw); go_simp; try with_reducible rfl)
        try simp only [Act.put, List.setIfInBounds_toArray, List.set_cons_zero, List.set_cons_succ]
        refine held_take (v := ?_) 1 rfl (by kernel_rfl) (by kernel_rfl) (by kernel_rfl) (fun _ _ _ h => h) (by rfl) ?_ (by assumption) ?_
        rotate_left
        · (intro w hSw; (try dsimp only at hSw); go_simp; try with_reducible rfl)
        try simp only [Act.put, List.setIfInBounds_toArray, List.set_cons_zero, List.set_cons_succ]
        refine held_take (v := ?_) 3 rfl (by kernel_rfl) (by kernel_rfl) (by kernel_rfl) (fun _ _ _ h => h) (by rfl) ?_ (by assumption) ?_
        rotate_left
        · (intro w hSw; (try dsimp only at hSw); go_simp; try with_reducible rfl)
        try simp only [Act.put, List.setIfInBounds_toArray, List.set_cons_zero, List.set_cons_succ]
        refine held_call 2 (by kernel_rfl) rfl (fun K hK => ?_)
        go_simp
        go_at_call 67; refine (irAsks_any x' HQ.out.2 _).mono ?_; rintro e w1 ⟨A1, d1, rfl, ho1, hb1d⟩; have hb1 : Below W.heap.size W w1 := undrew hb1d; clear hb1d
        try (go_wp2_with fail)
        refine hK.out _ _ ?_ (fun hHeld1 => ?_)
        · first | trivial | ((try dsimp only); ((obtain ⟨p0, p1, p2, p3, p4, p5, p6, p7, p8, p9, p10, p11, p12⟩ := (HT.out.fresh hb1).cells13; obtain ⟨q0, q1, q2, q3, q4, q5, q6, q7⟩ := (HX.out.fresh hb1).cells8; exact ⟨p0, p1, p2, p3, p4, p5, p6, p7, p8, p9, p10, p11, p12, q0, q1, q2, q3, q4, q5, q6, q7⟩)))
        clear hK K hHeld0
        try simp only [Act.put, List.setIfInBounds_toArray, List.set_cons_zero, List.set_cons_succ]
        refine held_call 4 (by kernel_rfl) rfl (fun K hK => ?_)
        go_simp
        go_at_call 70; refine (lall_any B w1.heap.size ic d1 _ _ A1 ins (Liv.asks x') k _ _ _ _ _ _ _ _ _ _ _ _ w1 (H.out.1.below ((hb0.trans (hb1.mono (by omega))).mono hB)) (by have := hb1.size; omega) (by omega) rfl (ho1.at_ HA.out) (Nat.le_refl _) (by omega)).mono ?_; rintro e w2 ⟨he, hb2⟩; obtain rfl : e = .returned (.bool true) := (by (rw [he, HB.out]; rfl)); clear he
        try (go_wp2_with fail)
        refine hK.out _ _ ?_ (fun hHeld2 => ?_)
        · first | trivial | ((try dsimp only); ((obtain ⟨p0, p1, p2, p3, p4, p5, p6, p7, p8, p9, p10, p11, p12⟩ := ((HT.out.fresh hb1).fresh hb2).cells13; obtain ⟨q0, q1, q2, q3, q4, q5, q6, q7⟩ := ((HX.out.fresh hb1).fresh hb2).cells8; exact ⟨p0, p1, p2, p3, p4, p5, p6, p7, p8, p9, p10, p11, p12, q0, q1, q2, q3, q4, q5, q6, q7⟩)))
        clear hK K hHeld1
        try simp only [Act.put, List.setIfInBounds_toArray, List.set_cons_zero, List.set_cons_succ]
        refine held_take (v := ?_) 5 rfl (by kernel_rfl) (by kernel_rfl) (by kernel_rfl) (fun _ _ _ h => h) (by rfl) ?_ (by assumption) ?_
        rotate_left
        · (intro w hSw; (try dsimp only at hSw); go_simp; try with_reducible rfl)
        try simp only [Act.put, List.setIfInBounds_toArray, List.set_cons_zero, List.set_cons_succ]
        refine held_take (v := ?_) 6 rfl (by kernel_rfl) (by kernel_rfl) (by kernel_rfl) (fun _ _ _ h => h) (by rfl) ?_ (by assumption) ?_
        rotate_left
        · (intro w hSw; (try dsimp only at hSw); go_simp; try with_reducible rfl)
        try simp only [Act.put, List.setIfInBounds_toArray, List.set_cons_zero, List.set_cons_succ]
        refine held_take (v := ?_) 7 rfl (by kernel_rfl) (by kernel_rfl) (by kernel_rfl) (fun _ _ _ h => h) (by rfl) ?_ (by assumption) ?_
        rotate_left
        · (intro w hSw; (try dsimp only at hSw); go_simp; try with_reducible rfl)
        try simp only [Act.put, List.setIfInBounds_toArray, List.set_cons_zero, List.set_cons_succ]
        refine held_take (v := ?_) 8 rfl (by kernel_rfl) (by kernel_rfl) (by kernel_rfl) (fun _ _ _ h => h) (by rfl) ?_ (by assumption) ?_
        rotate_left
        · (intro w hSw; (try dsimp only at hSw); go_simp; try with_reducible rfl)
        try simp only [Act.put, List.setIfInBounds_toArray, List.set_cons_zero, List.set_cons_succ]
        refine held_take (v := ?_) 9 rfl (by kernel_rfl) (by kernel_rfl) (by kernel_rfl) (fun _ _ _ h => h) (by rfl) ?_ (by assumption) ?_
        rotate_left
        · (intro w hSw; (try dsimp only at hSw); go_simp; try with_reducible rfl)
        try simp only [Act.put, List.setIfInBounds_toArray, List.set_cons_zero, List.set_cons_succ]
        refine held_take (v := ?_) 10 rfl (by kernel_rfl) (by kernel_rfl) (by kernel_rfl) (fun _ _ _ h => h) (by rfl) ?_ (by assumption) ?_
        rotate_left
        · (intro w hSw; (try dsimp only at hSw); go_simp; try with_reducible rfl)
        try simp only [Act.put, List.setIfInBounds_toArray, List.set_cons_zero, List.set_cons_succ]
        refine held_take (v := ?_) 11 rfl (by kernel_rfl) (by kernel_rfl) (by kernel_rfl) (fun _ _ _ h => h) (by rfl) ?_ (by assumption) ?_
        rotate_left
        · (intro w hSw; (try dsimp only at hSw); go_simp; try with_reducible rfl)
        try simp only [Act.put, List.setIfInBounds_toArray, List.set_cons_zero, List.set_cons_succ]
        refine held_skip 12 rfl (by kernel_rfl) (by kernel_rfl) (by kernel_rfl) (fun _ _ _ h => h) (by rfl) (by assumption) ?_
        try simp only [Act.put, List.setIfInBounds_toArray, List.set_cons_zero, List.set_cons_succ]
        refine held_skip 13 rfl (by kernel_rfl) (by kernel_rfl) (by kernel_rfl) (fun _ _ _ h => h) (by rfl) (by assumption) ?_
        try simp only [Act.put, List.setIfInBounds_toArray, List.set_cons_zero, List.set_cons_succ]
        refine held_skip 14 rfl (by kernel_rfl) (by kernel_rfl) (by kernel_rfl) (fun _ _ _ h => h) (by rfl) (by assumption) ?_
        try simp only [Act.put, List.setIfInBounds_toArray, List.set_cons_zero, List.set_cons_succ]
        refine held_skip 15 rfl (by kernel_rfl) (by kernel_rfl) (by kernel_rfl) (fun _ _ _ h => h) (by rfl) (by assumption) ?_
        try simp only [Act.put, List.setIfInBounds_toArray, List.set_cons_zero, List.set_cons_succ]
        refine held_skip 16 rfl (by kernel_rfl) (by kernel_rfl) (by kernel_rfl) (fun _ _ _ h => h) (by rfl) (by assumption) ?_
        try simp only [Act.put, List.setIfInBounds_toArray, List.set_cons_zero, List.set_cons_succ]
        refine held_skip 17 rfl (by kernel_rfl) (by kernel_rfl) (by kernel_rfl) (fun _ _ _ h => h) (by rfl) (by assumption) ?_
        try simp only [Act.put, List.setIfInBounds_toArray, List.set_cons_zero, List.set_cons_succ]
        refine held_take (v := ?_) 18 rfl (by kernel_rfl) (by kernel_rfl) (by kernel_rfl) (fun _ _ _ h => h) (by rfl) ?_ (by assumption) ?_
        rotate_left
        · (intro w hSw; (try dsimp only at hSw); go_simp; try with_reducible rfl)
        try simp only [Act.put, List.setIfInBounds_toArray, List.set_cons_zero, List.set_cons_succ]
        refine held_take (v := ?_) 19 rfl (by kernel_rfl) (by kernel_rfl) (by kernel_rfl) (fun _ _ _ h => h) (by rfl) ?_ (by assumption) ?_
        rotate_left
        · (intro w hSw; (try dsimp only at hSw); go_simp; try with_reducible rfl)
        try simp only [Act.put, List.setIfInBounds_toArray, List.set_cons_zero, List.set_cons_succ]
        refine wpAnyH_done (by kernel_rfl) ?_ _
        have hbl : Below w.heap.size w w2 := (hb0.trans (hb1.mono (by omega))).trans (hb2.mono (by have := hb1.size; omega))
        clear ho1
        go_wp2_with fail
        go_ret
        exact ⟨rfl, hbl⟩
      · have hd1 : decide (x'.exit < -1) = false := by simpa using h1
        by_cases h2 : (exits.length : Int) ≤ x'.exit
        · have hq : q = 3 := by rw [← HQ.out.1]; unfold Liv.oneF; rw [if_neg (by rw [HOP.out]; decide), if_pos (by simp [h2])]
          subst hq
          refine wp_region_held_drew (S := (fun w' => w'.cell? ⟨w.heap.size, 0, none⟩ = some (v0) ∧ w'.cell? ⟨w.heap.size, 1, none⟩ = some (v1) ∧ w'.cell? ⟨w.heap.size, 2, none⟩ = some (v2) ∧ w'.cell? ⟨w.heap.size, 3, none⟩ = some (.slice (some ⟨b, o, none⟩) ins.length ic) ∧ w'.cell? ⟨w.heap.size, 4, none⟩ = some (.slice EA exits.length ec) ∧ w'.cell? ⟨w.heap.size, 5, none⟩ = some (v5) ∧ w'.cell? ⟨w.heap.size, 6, none⟩ = some (v6) ∧ w'.cell? ⟨w.heap.size, 7, none⟩ = some (v7) ∧ w'.cell? ⟨w.heap.size, 8, none⟩ = some (v8) ∧ w'.cell? ⟨w.heap.size, 9, none⟩ = some (v9) ∧ w'.cell? ⟨w.heap.size, 10, none⟩ = some (v10) ∧ w'.cell? ⟨w.heap.size, 11, none⟩ = some (v11) ∧ w'.cell? ⟨w.heap.size, 12, none⟩ = some (v12) ∧ w'.cell? ⟨w.heap.size + 1, 0, none⟩ = some (.int .i64 x'.op) ∧ w'.cell? ⟨w.heap.size + 1, 1, none⟩ = some (.int .i64 x'.a) ∧ w'.cell? ⟨w.heap.size + 1, 2, none⟩ = some (.int .i64 x'.b) ∧ w'.cell? ⟨w.heap.size + 1, 3, none⟩ = some (.int .i64 x'.c) ∧ w'.cell? ⟨w.heap.size + 1, 4, none⟩ = some (.int .i64 x'.n) ∧ w'.cell? ⟨w.heap.size + 1, 5, none⟩ = some (.int .i64 x'.exit) ∧ w'.cell? ⟨w.heap.size + 1, 6, none⟩ = some (.int .i64 x'.k.1) ∧ w'.cell? ⟨w.heap.size + 1, 7, none⟩ = some (.int .i64 x'.k.2))) (by kernel_rfl) ?_ (fun hHeld0 => ?_)
          · first | trivial | ((try dsimp only); ((obtain ⟨p0, p1, p2, p3, p4, p5, p6, p7, p8, p9, p10, p11, p12⟩ := (HT.out.drew).cells13; obtain ⟨q0, q1, q2, q3, q4, q5, q6, q7⟩ := (HX.out.drew).cells8; exact ⟨p0, p1, p2, p3, p4, p5, p6, p7, p8, p9, p10, p11, p12, q0, q1, q2, q3, q4, q5, q6, q7⟩)))
          refine held_take (v := ?_) 0 rfl (by kernel_rfl) (by kernel_rfl) (by kernel_rfl) (fun _ _ _ h => h) (by rfl) ?_ (by assumption) ?_
          rotate_left
          · (intro w hSw; (try dsimp only at hSw); go_simp; try with_reducible rfl)
          try simp only [Act.put, List.setIfInBounds_toArray, List.set_cons_zero, List.set_cons_succ]
          refine held_take (v := ?_) 1 rfl (by kernel_rfl) (by kernel_rfl) (by kernel_rfl) (fun _ _ _ h => h) (by rfl) ?_ (by assumption) ?_
          rotate_left
          · (intro w hSw; (try dsimp only at hSw); go_simp; try with_reducible rfl)
          try simp only [Act.put, List.setIfInBounds_toArray, List.set_cons_zero, List.set_cons_succ]
          refine held_take (v := ?_) 3 rfl (by kernel_rfl) (by kernel_rfl) (by kernel_rfl) (fun _ _ _ h => h) (by rfl) ?_ (by assumption) ?_
          rotate_left
          · (intro w hSw; (try dsimp only at hSw); go_simp; try with_reducible rfl)
          try simp only [Act.put, List.setIfInBounds_toArray, List.set_cons_zero, List.set_cons_succ]
          refine held_call 2 (by kernel_rfl) rfl (fun K hK => ?_)
          go_simp
          go_at_call 67; refine (irAsks_any x' HQ.out.2 _).mono ?_; rintro e w1 ⟨A1, d1, rfl, ho1, hb1d⟩; have hb1 : Below W.heap.size W w1 := undrew hb1d; clear hb1d
          try (go_wp2_with fail)
          refine hK.out _ _ ?_ (fun hHeld1 => ?_)
          · first | trivial | ((try dsimp only); ((obtain ⟨p0, p1, p2, p3, p4, p5, p6, p7, p8, p9, p10, p11, p12⟩ := (HT.out.fresh hb1).cells13; obtain ⟨q0, q1, q2, q3, q4, q5, q6, q7⟩ := (HX.out.fresh hb1).cells8; exact ⟨p0, p1, p2, p3, p4, p5, p6, p7, p8, p9, p10, p11, p12, q0, q1, q2, q3, q4, q5, q6, q7⟩)))
          clear hK K hHeld0
          try simp only [Act.put, List.setIfInBounds_toArray, List.set_cons_zero, List.set_cons_succ]
          refine held_call 4 (by kernel_rfl) rfl (fun K hK => ?_)
          go_simp
          go_at_call 70; refine (lall_any B w1.heap.size ic d1 _ _ A1 ins (Liv.asks x') k _ _ _ _ _ _ _ _ _ _ _ _ w1 (H.out.1.below ((hb0.trans (hb1.mono (by omega))).mono hB)) (by have := hb1.size; omega) (by omega) rfl (ho1.at_ HA.out) (Nat.le_refl _) (by omega)).mono ?_; rintro e w2 ⟨he, hb2⟩; obtain rfl : e = .returned (.bool true) := (by (rw [he, HB.out]; rfl)); clear he
          try (go_wp2_with fail)
          refine hK.out _ _ ?_ (fun hHeld2 => ?_)
          · first | trivial | ((try dsimp only); ((obtain ⟨p0, p1, p2, p3, p4, p5, p6, p7, p8, p9, p10, p11, p12⟩ := ((HT.out.fresh hb1).fresh hb2).cells13; obtain ⟨q0, q1, q2, q3, q4, q5, q6, q7⟩ := ((HX.out.fresh hb1).fresh hb2).cells8; exact ⟨p0, p1, p2, p3, p4, p5, p6, p7, p8, p9, p10, p11, p12, q0, q1, q2, q3, q4, q5, q6, q7⟩)))
          clear hK K hHeld1
          try simp only [Act.put, List.setIfInBounds_toArray, List.set_cons_zero, List.set_cons_succ]
          refine held_take (v := ?_) 5 rfl (by kernel_rfl) (by kernel_rfl) (by kernel_rfl) (fun _ _ _ h => h) (by rfl) ?_ (by assumption) ?_
          rotate_left
          · (intro w hSw; (try dsimp only at hSw); go_simp; try with_reducible rfl)
          try simp only [Act.put, List.setIfInBounds_toArray, List.set_cons_zero, List.set_cons_succ]
          refine held_take (v := ?_) 6 rfl (by kernel_rfl) (by kernel_rfl) (by kernel_rfl) (fun _ _ _ h => h) (by rfl) ?_ (by assumption) ?_
          rotate_left
          · (intro w hSw; (try dsimp only at hSw); go_simp; try with_reducible rfl)
          try simp only [Act.put, List.setIfInBounds_toArray, List.set_cons_zero, List.set_cons_succ]
          refine held_take (v := ?_) 7 rfl (by kernel_rfl) (by kernel_rfl) (by kernel_rfl) (fun _ _ _ h => h) (by rfl) ?_ (by assumption) ?_
          rotate_left
          · (intro w hSw; (try dsimp only at hSw); go_simp; try with_reducible rfl)
          try simp only [Act.put, List.setIfInBounds_toArray, List.set_cons_zero, List.set_cons_succ]
          refine held_take (v := ?_) 8 rfl (by kernel_rfl) (by kernel_rfl) (by kernel_rfl) (fun _ _ _ h => h) (by rfl) ?_ (by assumption) ?_
          rotate_left
          · (intro w hSw; (try dsimp only at hSw); go_simp; try with_reducible rfl)
          try simp only [Act.put, List.setIfInBounds_toArray, List.set_cons_zero, List.set_cons_succ]
          refine held_take (v := ?_) 9 rfl (by kernel_rfl) (by kernel_rfl) (by kernel_rfl) (fun _ _ _ h => h) (by rfl) ?_ (by assumption) ?_
          rotate_left
          · (intro w hSw; (try dsimp only at hSw); go_simp; try with_reducible rfl)
          try simp only [Act.put, List.setIfInBounds_toArray, List.set_cons_zero, List.set_cons_succ]
          refine held_take (v := ?_) 10 rfl (by kernel_rfl) (by kernel_rfl) (by kernel_rfl) (fun _ _ _ h => h) (by rfl) ?_ (by assumption) ?_
          rotate_left
          · (intro w hSw; (try dsimp only at hSw); go_simp; try with_reducible rfl)
          try simp only [Act.put, List.setIfInBounds_toArray, List.set_cons_zero, List.set_cons_succ]
          refine held_take (v := ?_) 11 rfl (by kernel_rfl) (by kernel_rfl) (by kernel_rfl) (fun _ _ _ h => h) (by rfl) ?_ (by assumption) ?_
          rotate_left
          · (intro w hSw; (try dsimp only at hSw); go_simp; try with_reducible rfl)
          try simp only [Act.put, List.setIfInBounds_toArray, List.set_cons_zero, List.set_cons_succ]
          refine held_take (v := ?_) 12 rfl (by kernel_rfl) (by kernel_rfl) (by kernel_rfl) (fun _ _ _ h => h) (by rfl) ?_ (by assumption) ?_
          rotate_left
          · (intro w hSw; (try dsimp only at hSw); go_simp; try with_reducible rfl)
          try simp only [Act.put, List.setIfInBounds_toArray, List.set_cons_zero, List.set_cons_succ]
          refine held_take (v := ?_) 13 rfl (by kernel_rfl) (by kernel_rfl) (by kernel_rfl) (fun _ _ _ h => h) (by rfl) ?_ (by assumption) ?_
          rotate_left
          · (intro w hSw; (try dsimp only at hSw); go_simp; try with_reducible rfl)
          try simp only [Act.put, List.setIfInBounds_toArray, List.set_cons_zero, List.set_cons_succ]
          refine held_take (v := ?_) 14 rfl (by kernel_rfl) (by kernel_rfl) (by kernel_rfl) (fun _ _ _ h => h) (by rfl) ?_ (by assumption) ?_
          rotate_left
          · (intro w hSw; (try dsimp only at hSw); go_simp; try with_reducible rfl)
          try simp only [Act.put, List.setIfInBounds_toArray, List.set_cons_zero, List.set_cons_succ]
          refine held_take (v := ?_) 15 rfl (by kernel_rfl) (by kernel_rfl) (by kernel_rfl) (fun _ _ _ h => h) (by rfl) ?_ (by assumption) ?_
          rotate_left
          · (intro w hSw; (try dsimp only at hSw); go_simp; try with_reducible rfl)
          try simp only [Act.put, List.setIfInBounds_toArray, List.set_cons_zero, List.set_cons_succ]
          refine held_take (v := ?_) 16 rfl (by kernel_rfl) (by kernel_rfl) (by kernel_rfl) (fun _ _ _ h => h) (by rfl) ?_ (by assumption) ?_
          rotate_left
          · (intro w hSw; (try dsimp only at hSw); go_simp; try with_reducible rfl)
          try simp only [Act.put, List.setIfInBounds_toArray, List.set_cons_zero, List.set_cons_succ]
          refine held_take (v := ?_) 17 rfl (by kernel_rfl) (by kernel_rfl) (by kernel_rfl) (fun _ _ _ h => h) (by rfl) ?_ (by assumption) ?_
          rotate_left
          · (intro w hSw; (try dsimp only at hSw); go_simp; try with_reducible rfl)
          try simp only [Act.put, List.setIfInBounds_toArray, List.set_cons_zero, List.set_cons_succ]
          refine held_take (v := ?_) 18 rfl (by kernel_rfl) (by kernel_rfl) (by kernel_rfl) (fun _ _ _ h => h) (by rfl) ?_ (by assumption) ?_
          rotate_left
          · (intro w hSw; (try dsimp only at hSw); go_simp; try with_reducible rfl)
          try simp only [Act.put, List.setIfInBounds_toArray, List.set_cons_zero, List.set_cons_succ]
          refine held_take (v := ?_) 19 rfl (by kernel_rfl) (by kernel_rfl) (by kernel_rfl) (fun _ _ _ h => h) (by rfl) ?_ (by assumption) ?_
          rotate_left
          · (intro w hSw; (try dsimp only at hSw); go_simp; try with_reducible rfl)
          try simp only [Act.put, List.setIfInBounds_toArray, List.set_cons_zero, List.set_cons_succ]
          refine wpAnyH_done (by kernel_rfl) ?_ _
          have hbl : Below w.heap.size w w2 := (hb0.trans (hb1.mono (by omega))).trans (hb2.mono (by have := hb1.size; omega))
          clear ho1
          go_wp2_with fail
          go_ret
          exact ⟨rfl, hbl⟩
        · have hq : q = if (Liv.exitVals exits x'.exit).any (Liv.bad ins k) = true then 3 else 0 := by
            rw [← HQ.out.1]; unfold Liv.oneF; rw [if_neg (by rw [HOP.out]; decide), if_neg (by rw [HB.out]; simp; omega)]
          have HQQ := Lib.hid hq; clear hq
          have hd2 : decide ((exits.length : Int) ≤ x'.exit) = false := by simpa using h2
          refine wp_region_held_drew (S := (fun w' => w'.cell? ⟨w.heap.size, 0, none⟩ = some (v0) ∧ w'.cell? ⟨w.heap.size, 1, none⟩ = some (v1) ∧ w'.cell? ⟨w.heap.size, 2, none⟩ = some (v2) ∧ w'.cell? ⟨w.heap.size, 3, none⟩ = some (.slice (some ⟨b, o, none⟩) ins.length ic) ∧ w'.cell? ⟨w.heap.size, 4, none⟩ = some (.slice EA exits.length ec) ∧ w'.cell? ⟨w.heap.size, 5, none⟩ = some (v5) ∧ w'.cell? ⟨w.heap.size, 6, none⟩ = some (v6) ∧ w'.cell? ⟨w.heap.size, 7, none⟩ = some (v7) ∧ w'.cell? ⟨w.heap.size, 8, none⟩ = some (v8) ∧ w'.cell? ⟨w.heap.size, 9, none⟩ = some (v9) ∧ w'.cell? ⟨w.heap.size, 10, none⟩ = some (v10) ∧ w'.cell? ⟨w.heap.size, 11, none⟩ = some (v11) ∧ w'.cell? ⟨w.heap.size, 12, none⟩ = some (v12) ∧ w'.cell? ⟨w.heap.size + 1, 0, none⟩ = some (.int .i64 x'.op) ∧ w'.cell? ⟨w.heap.size + 1, 1, none⟩ = some (.int .i64 x'.a) ∧ w'.cell? ⟨w.heap.size + 1, 2, none⟩ = some (.int .i64 x'.b) ∧ w'.cell? ⟨w.heap.size + 1, 3, none⟩ = some (.int .i64 x'.c) ∧ w'.cell? ⟨w.heap.size + 1, 4, none⟩ = some (.int .i64 x'.n) ∧ w'.cell? ⟨w.heap.size + 1, 5, none⟩ = some (.int .i64 x'.exit) ∧ w'.cell? ⟨w.heap.size + 1, 6, none⟩ = some (.int .i64 x'.k.1) ∧ w'.cell? ⟨w.heap.size + 1, 7, none⟩ = some (.int .i64 x'.k.2))) (by kernel_rfl) ?_ (fun hHeld0 => ?_)
          · first | trivial | ((try dsimp only); ((obtain ⟨p0, p1, p2, p3, p4, p5, p6, p7, p8, p9, p10, p11, p12⟩ := (HT.out.drew).cells13; obtain ⟨q0, q1, q2, q3, q4, q5, q6, q7⟩ := (HX.out.drew).cells8; exact ⟨p0, p1, p2, p3, p4, p5, p6, p7, p8, p9, p10, p11, p12, q0, q1, q2, q3, q4, q5, q6, q7⟩)))
          refine held_take (v := ?_) 0 rfl (by kernel_rfl) (by kernel_rfl) (by kernel_rfl) (fun _ _ _ h => h) (by rfl) ?_ (by assumption) ?_
          rotate_left
          · (intro w hSw; (try dsimp only at hSw); go_simp; try with_reducible rfl)
          try simp only [Act.put, List.setIfInBounds_toArray, List.set_cons_zero, List.set_cons_succ]
          refine held_take (v := ?_) 1 rfl (by kernel_rfl) (by kernel_rfl) (by kernel_rfl) (fun _ _ _ h => h) (by rfl) ?_ (by assumption) ?_
          rotate_left
          · (intro w hSw; (try dsimp only at hSw); go_simp; try with_reducible rfl)
          try simp only [Act.put, List.setIfInBounds_toArray, List.set_cons_zero, List.set_cons_succ]
          refine held_take (v := ?_) 3 rfl (by kernel_rfl) (by kernel_rfl) (by kernel_rfl) (fun _ _ _ h => h) (by rfl) ?_ (by assumption) ?_
          rotate_left
          · (intro w hSw; (try dsimp only at hSw); go_simp; try with_reducible rfl)
          try simp only [Act.put, List.setIfInBounds_toArray, List.set_cons_zero, List.set_cons_succ]
          refine held_call 2 (by kernel_rfl) rfl (fun K hK => ?_)
          go_simp
          go_at_call 67; refine (irAsks_any x' HQ.out.2 _).mono ?_; rintro e w1 ⟨A1, d1, rfl, ho1, hb1d⟩; have hb1 : Below W.heap.size W w1 := undrew hb1d; clear hb1d
          try (go_wp2_with fail)
          refine hK.out _ _ ?_ (fun hHeld1 => ?_)
          · first | trivial | ((try dsimp only); ((obtain ⟨p0, p1, p2, p3, p4, p5, p6, p7, p8, p9, p10, p11, p12⟩ := (HT.out.fresh hb1).cells13; obtain ⟨q0, q1, q2, q3, q4, q5, q6, q7⟩ := (HX.out.fresh hb1).cells8; exact ⟨p0, p1, p2, p3, p4, p5, p6, p7, p8, p9, p10, p11, p12, q0, q1, q2, q3, q4, q5, q6, q7⟩)))
          clear hK K hHeld0
          try simp only [Act.put, List.setIfInBounds_toArray, List.set_cons_zero, List.set_cons_succ]
          refine held_call 4 (by kernel_rfl) rfl (fun K hK => ?_)
          go_simp
          go_at_call 70; refine (lall_any B w1.heap.size ic d1 _ _ A1 ins (Liv.asks x') k _ _ _ _ _ _ _ _ _ _ _ _ w1 (H.out.1.below ((hb0.trans (hb1.mono (by omega))).mono hB)) (by have := hb1.size; omega) (by omega) rfl (ho1.at_ HA.out) (Nat.le_refl _) (by omega)).mono ?_; rintro e w2 ⟨he, hb2⟩; obtain rfl : e = .returned (.bool true) := (by (rw [he, HB.out]; rfl)); clear he
          try (go_wp2_with fail)
          refine hK.out _ _ ?_ (fun hHeld2 => ?_)
          · first | trivial | ((try dsimp only); ((obtain ⟨p0, p1, p2, p3, p4, p5, p6, p7, p8, p9, p10, p11, p12⟩ := ((HT.out.fresh hb1).fresh hb2).cells13; obtain ⟨q0, q1, q2, q3, q4, q5, q6, q7⟩ := ((HX.out.fresh hb1).fresh hb2).cells8; exact ⟨p0, p1, p2, p3, p4, p5, p6, p7, p8, p9, p10, p11, p12, q0, q1, q2, q3, q4, q5, q6, q7⟩)))
          clear hK K hHeld1
          try simp only [Act.put, List.setIfInBounds_toArray, List.set_cons_zero, List.set_cons_succ]
          refine held_take (v := ?_) 5 rfl (by kernel_rfl) (by kernel_rfl) (by kernel_rfl) (fun _ _ _ h => h) (by rfl) ?_ (by assumption) ?_
          rotate_left
          · (intro w hSw; (try dsimp only at hSw); go_simp; try with_reducible rfl)
          try simp only [Act.put, List.setIfInBounds_toArray, List.set_cons_zero, List.set_cons_succ]
          refine held_take (v := ?_) 6 rfl (by kernel_rfl) (by kernel_rfl) (by kernel_rfl) (fun _ _ _ h => h) (by rfl) ?_ (by assumption) ?_
          rotate_left
          · (intro w hSw; (try dsimp only at hSw); go_simp; try with_reducible rfl)
          try simp only [Act.put, List.setIfInBounds_toArray, List.set_cons_zero, List.set_cons_succ]
          refine held_take (v := ?_) 7 rfl (by kernel_rfl) (by kernel_rfl) (by kernel_rfl) (fun _ _ _ h => h) (by rfl) ?_ (by assumption) ?_
          rotate_left
          · (intro w hSw; (try dsimp only at hSw); go_simp; try with_reducible rfl)
          try simp only [Act.put, List.setIfInBounds_toArray, List.set_cons_zero, List.set_cons_succ]
          refine held_take (v := ?_) 8 rfl (by kernel_rfl) (by kernel_rfl) (by kernel_rfl) (fun _ _ _ h => h) (by rfl) ?_ (by assumption) ?_
          rotate_left
          · (intro w hSw; (try dsimp only at hSw); go_simp; try with_reducible rfl)
          try simp only [Act.put, List.setIfInBounds_toArray, List.set_cons_zero, List.set_cons_succ]
          refine held_take (v := ?_) 9 rfl (by kernel_rfl) (by kernel_rfl) (by kernel_rfl) (fun _ _ _ h => h) (by rfl) ?_ (by assumption) ?_
          rotate_left
          · (intro w hSw; (try dsimp only at hSw); go_simp; try with_reducible rfl)
          try simp only [Act.put, List.setIfInBounds_toArray, List.set_cons_zero, List.set_cons_succ]
          refine held_take (v := ?_) 10 rfl (by kernel_rfl) (by kernel_rfl) (by kernel_rfl) (fun _ _ _ h => h) (by rfl) ?_ (by assumption) ?_
          rotate_left
          · (intro w hSw; (try dsimp only at hSw); go_simp; try with_reducible rfl)
          try simp only [Act.put, List.setIfInBounds_toArray, List.set_cons_zero, List.set_cons_succ]
          refine held_take (v := ?_) 11 rfl (by kernel_rfl) (by kernel_rfl) (by kernel_rfl) (fun _ _ _ h => h) (by rfl) ?_ (by assumption) ?_
          rotate_left
          · (intro w hSw; (try dsimp only at hSw); go_simp; try with_reducible rfl)
          try simp only [Act.put, List.setIfInBounds_toArray, List.set_cons_zero, List.set_cons_succ]
          refine held_take (v := ?_) 12 rfl (by kernel_rfl) (by kernel_rfl) (by kernel_rfl) (fun _ _ _ h => h) (by rfl) ?_ (by assumption) ?_
          rotate_left
          · (intro w hSw; (try dsimp only at hSw); go_simp; try with_reducible rfl)
          try simp only [Act.put, List.setIfInBounds_toArray, List.set_cons_zero, List.set_cons_succ]
          refine held_take (v := ?_) 13 rfl (by kernel_rfl) (by kernel_rfl) (by kernel_rfl) (fun _ _ _ h => h) (by rfl) ?_ (by assumption) ?_
          rotate_left
          · (intro w hSw; (try dsimp only at hSw); go_simp; try with_reducible rfl)
          try simp only [Act.put, List.setIfInBounds_toArray, List.set_cons_zero, List.set_cons_succ]
          refine held_take (v := ?_) 14 rfl (by kernel_rfl) (by kernel_rfl) (by kernel_rfl) (fun _ _ _ h => h) (by rfl) ?_ (by assumption) ?_
          rotate_left
          · (intro w hSw; (try dsimp only at hSw); go_simp; try with_reducible rfl)
          try simp only [Act.put, List.setIfInBounds_toArray, List.set_cons_zero, List.set_cons_succ]
          refine held_take (v := ?_) 15 rfl (by kernel_rfl) (by kernel_rfl) (by kernel_rfl) (fun _ _ _ h => h) (by rfl) ?_ (by assumption) ?_
          rotate_left
          · (intro w hSw; (try dsimp only at hSw); go_simp; try with_reducible rfl)
          try simp only [Act.put, List.setIfInBounds_toArray, List.set_cons_zero, List.set_cons_succ]
          refine held_take (v := ?_) 16 rfl (by kernel_rfl) (by kernel_rfl) (by kernel_rfl) (fun _ _ _ h => h) (by rfl) ?_ (by assumption) ?_
          rotate_left
          · (intro w hSw; (try dsimp only at hSw); go_simp; try with_reducible rfl)
          try simp only [Act.put, List.setIfInBounds_toArray, List.set_cons_zero, List.set_cons_succ]
          refine held_take (v := ?_) 17 rfl (by kernel_rfl) (by kernel_rfl) (by kernel_rfl) (fun _ _ _ h => h) (by rfl) ?_ (by assumption) ?_
          rotate_left
          · (intro w hSw; (try dsimp only at hSw); go_simp; try with_reducible rfl)
          try simp only [Act.put, List.setIfInBounds_toArray, List.set_cons_zero, List.set_cons_succ]
          refine held_take (v := ?_) 18 rfl (by kernel_rfl) (by kernel_rfl) (by kernel_rfl) (fun _ _ _ h => h) (by rfl) ?_ (by assumption) ?_
          rotate_left
          · (intro w hSw; (try dsimp only at hSw); go_simp; try with_reducible rfl)
          try simp only [Act.put, List.setIfInBounds_toArray, List.set_cons_zero, List.set_cons_succ]
          refine held_take (v := ?_) 19 rfl (by kernel_rfl) (by kernel_rfl) (by kernel_rfl) (fun _ _ _ h => h) (by rfl) ?_ (by assumption) ?_
          rotate_left
          · (intro w hSw; (try dsimp only at hSw); go_simp; try with_reducible rfl)
          try simp only [Act.put, List.setIfInBounds_toArray, List.set_cons_zero, List.set_cons_succ]
          refine wpAnyH_done (by kernel_rfl) ?_ _
          have hbl : Below w.heap.size w w2 := (hb0.trans (hb1.mono (by omega))).trans (hb2.mono (by have := hb1.size; omega))
          have HT2 := Lib.hid ((HT.out.fresh hb1).fresh hb2)
          have HX2 := Lib.hid ((HX.out.fresh hb1).fresh hb2)
          have x5 := HX2.out.cell 5 (v := .int .i64 x'.exit) rfl
          have hs2 : w.heap.size + 2 ≤ w2.heap.size := by have := hb1.size; have := hb2.size; omega
          have lt2 : w.heap.size < w2.heap.size := by omega
          have lt3 : w.heap.size + 1 < w2.heap.size := by omega
          clear ho1
          by_cases h3 : 0 ≤ x'.exit
          · obtain ⟨y, hy⟩ : ∃ y : Nat, x'.exit = (y : Int) := ⟨x'.exit.toNat, by omega⟩
            have hyl : y < exits.length := by omega
            obtain ⟨be, oe, ex, As, cs, Am, cm, rfl, hbE, hex, e0, e1, e2, e3, as_, -, am_, -, -⟩ := (H.out.2.1.below (hbl.mono hB)).ex_ hyl
            obtain ⟨N, hN⟩ : ∃ N, (Liv.vals ex).length = N := ⟨_, rfl⟩
            have hvb := H.out.2.2 ex (List.mem_of_getElem? hex)
            rw [hN] at hvb
            have hok := Liv.vals_ok as_ am_
            have hev : Liv.exitVals exits x'.exit = Liv.vals ex := by unfold Liv.exitVals; rw [if_neg (by omega), hy, Int.toNat_natCast, hex]; rfl
            rw [hev] at HQQ
            have HE := Lib.hid (And.intro as_ (And.intro am_ (And.intro hok (And.intro hN hvb)))); clear as_ am_ hN hvb hok hex hev
            have HY := Lib.hid hy
            have hbe : be < w2.heap.size := by omega
            have hy0 : (0 : Int) ≤ (y : Int) := by omega
            have hy1 : (y : Int) < (exits.length : Int) := by omega
            clear hd1 hd2
            rw [hy] at x5 h1 h2 h3
            clear hy
            go_wp2_with fail
            cases hv : (Liv.vals ex).any (Liv.bad ins k) with
            | true =>
              rw [hv, if_pos rfl] at HQQ
              have HV := Lib.hid hv; clear hv
              refine wp_region_held_drew (S := (fun w' => w'.cell? ⟨w.heap.size, 0, none⟩ = some (v0) ∧ w'.cell? ⟨w.heap.size, 1, none⟩ = some (v1) ∧ w'.cell? ⟨w.heap.size, 2, none⟩ = some (v2) ∧ w'.cell? ⟨w.heap.size, 3, none⟩ = some (.slice (some ⟨b, o, none⟩) ins.length ic) ∧ w'.cell? ⟨w.heap.size, 4, none⟩ = some (.slice (some ⟨be, oe, none⟩) exits.length ec) ∧ w'.cell? ⟨w.heap.size, 5, none⟩ = some (v5) ∧ w'.cell? ⟨w.heap.size, 6, none⟩ = some (v6) ∧ w'.cell? ⟨w.heap.size, 7, none⟩ = some (v7) ∧ w'.cell? ⟨w.heap.size, 8, none⟩ = some (v8) ∧ w'.cell? ⟨w.heap.size, 9, none⟩ = some (v9) ∧ w'.cell? ⟨w.heap.size, 10, none⟩ = some (v10) ∧ w'.cell? ⟨w.heap.size, 11, none⟩ = some (v11) ∧ w'.cell? ⟨w.heap.size, 12, none⟩ = some (v12) ∧ w'.cell? ⟨w.heap.size + 1, 5, none⟩ = some (.int .i64 (y : Int)) ∧ w'.cell? ⟨be, oe + y * 4, none⟩ = some (.int .i64 ex.at_) ∧ w'.cell? ⟨be, oe + y * 4 + 1, none⟩ = some (.int .i64 ex.steps) ∧ w'.cell? ⟨be, oe + y * 4 + 2, none⟩ = some (.slice As ex.sets.length cs) ∧ w'.cell? ⟨be, oe + y * 4 + 3, none⟩ = some (.slice Am ex.makes.length cm))) (by kernel_rfl) ?_ (fun hHeld0 => ?_)
              · first | trivial | ((try dsimp only); ((obtain ⟨p0, p1, p2, p3, p4, p5, p6, p7, p8, p9, p10, p11, p12⟩ := (HT2.out.drew).cells13; exact ⟨p0, p1, p2, p3, p4, p5, p6, p7, p8, p9, p10, p11, p12, (HX2.out.drew).cell 5 (by rw [HY.out]; rfl), e0, e1, e2, e3⟩)))
              refine held_take (v := ?_) 0 rfl (by kernel_rfl) (by kernel_rfl) (by kernel_rfl) (fun _ _ _ h => h) (by rfl) ?_ (by assumption) ?_
              rotate_left
              · (intro w hSw; (try dsimp only at hSw); go_simp; try with_reducible rfl)
              try simp only [Act.put, List.setIfInBounds_toArray, List.set_cons_zero, List.set_cons_succ]
              refine held_take (v := ?_) 1 rfl (by kernel_rfl) (by kernel_rfl) (by kernel_rfl) (fun _ _ _ h => h) (by rfl) ?_ (by assumption) ?_
              rotate_left
              · (intro w hSw; (try dsimp only at hSw); go_simp; try with_reducible rfl)
              try simp only [Act.put, List.setIfInBounds_toArray, List.set_cons_zero, List.set_cons_succ]
              refine held_take (v := ?_) 2 rfl (by kernel_rfl) (by kernel_rfl) (by kernel_rfl) (fun _ _ _ h => h) (by rfl) ?_ (by assumption) ?_
              rotate_left
              · (intro w hSw; (try dsimp only at hSw); go_simp; try with_reducible rfl)
              try simp only [Act.put, List.setIfInBounds_toArray, List.set_cons_zero, List.set_cons_succ]
              refine held_take (v := ?_) 3 rfl (by kernel_rfl) (by kernel_rfl) (by kernel_rfl) (fun _ _ _ h => h) (by rfl) ?_ (by assumption) ?_
              rotate_left
              · (intro w hSw; (try dsimp only at hSw); go_simp; try with_reducible rfl)
              try simp only [Act.put, List.setIfInBounds_toArray, List.set_cons_zero, List.set_cons_succ]
              refine held_take (v := ?_) 4 rfl (by kernel_rfl) (by kernel_rfl) (by kernel_rfl) (fun _ _ _ h => h) (by rfl) ?_ (by assumption) ?_
              rotate_left
              · (intro w hSw; (try dsimp only at hSw); go_simp; try with_reducible rfl)
              try simp only [Act.put, List.setIfInBounds_toArray, List.set_cons_zero, List.set_cons_succ]
              refine held_take (v := ?_) 5 rfl (by kernel_rfl) (by kernel_rfl) (by kernel_rfl) (fun _ _ _ h => h) (by rfl) ?_ (by assumption) ?_
              rotate_left
              · (intro w hSw; (try dsimp only at hSw); go_simp; try with_reducible rfl)
              try simp only [Act.put, List.setIfInBounds_toArray, List.set_cons_zero, List.set_cons_succ]
              refine held_take (v := ?_) 6 rfl (by kernel_rfl) (by kernel_rfl) (by kernel_rfl) (fun _ _ _ h => h) (by rfl) ?_ (by assumption) ?_
              rotate_left
              · (intro w hSw; (try dsimp only at hSw); go_simp; try with_reducible rfl)
              try simp only [Act.put, List.setIfInBounds_toArray, List.set_cons_zero, List.set_cons_succ]
              refine held_take (v := ?_) 7 rfl (by kernel_rfl) (by kernel_rfl) (by kernel_rfl) (fun _ _ _ h => h) (by rfl) ?_ (by assumption) ?_
              rotate_left
              · (intro w hSw; (try dsimp only at hSw); go_simp; try with_reducible rfl)
              try simp only [Act.put, List.setIfInBounds_toArray, List.set_cons_zero, List.set_cons_succ]
              refine held_take (v := ?_) 8 rfl (by kernel_rfl) (by kernel_rfl) (by kernel_rfl) (fun _ _ _ h => h) (by rfl) ?_ (by assumption) ?_
              rotate_left
              · (intro w hSw; (try dsimp only at hSw); go_simp; try with_reducible rfl)
              try simp only [Act.put, List.setIfInBounds_toArray, List.set_cons_zero, List.set_cons_succ]
              refine held_take (v := ?_) 9 rfl (by kernel_rfl) (by kernel_rfl) (by kernel_rfl) (fun _ _ _ h => h) (by rfl) ?_ (by assumption) ?_
              rotate_left
              · (intro w hSw; (try dsimp only at hSw); go_simp; try with_reducible rfl)
              try simp only [Act.put, List.setIfInBounds_toArray, List.set_cons_zero, List.set_cons_succ]
              refine held_take (v := ?_) 10 rfl (by kernel_rfl) (by kernel_rfl) (by kernel_rfl) (fun _ _ _ h => h) (by rfl) ?_ (by assumption) ?_
              rotate_left
              · (intro w hSw; (try dsimp only at hSw); go_simp; try with_reducible rfl)
              try simp only [Act.put, List.setIfInBounds_toArray, List.set_cons_zero, List.set_cons_succ]
              refine held_take (v := ?_) 12 rfl (by kernel_rfl) (by kernel_rfl) (by kernel_rfl) (fun _ _ _ h => h) (by rfl) ?_ (by assumption) ?_
              rotate_left
              · (intro w hSw; (try dsimp only at hSw); go_simp; try with_reducible rfl)
              try simp only [Act.put, List.setIfInBounds_toArray, List.set_cons_zero, List.set_cons_succ]
              refine held_call 11 (by kernel_rfl) rfl (fun K hK => ?_)
              go_simp
              go_at_call 68; refine (lvalues_any B cs cm N As Am ex _ (HE.out.1.drew) (HE.out.2.1.drew) (by show B ≤ w2.heap.size; omega) HE.out.2.2.2.1 HE.out.2.2.2.2).mono ?_; rintro e w3 ⟨A3, d3, rfl, ho3, hb3d⟩; have hb3 : Below w2.heap.size w2 w3 := undrew hb3d; clear hb3d
              try (go_wp2_with fail)
              refine hK.out _ _ ?_ (fun hHeld1 => ?_)
              · first | trivial | ((try dsimp only); ((obtain ⟨p0, p1, p2, p3, p4, p5, p6, p7, p8, p9, p10, p11, p12⟩ := (HT2.out.fresh hb3).cells13; exact ⟨p0, p1, p2, p3, p4, p5, p6, p7, p8, p9, p10, p11, p12, (HX2.out.fresh hb3).cell 5 (by rw [HY.out]; rfl), (hb3.cell (p := ⟨be, oe + y * 4, none⟩) hbe).trans e0, (hb3.cell (p := ⟨be, oe + y * 4 + 1, none⟩) hbe).trans e1, (hb3.cell (p := ⟨be, oe + y * 4 + 2, none⟩) hbe).trans e2, (hb3.cell (p := ⟨be, oe + y * 4 + 3, none⟩) hbe).trans e3⟩)))
              clear hK K hHeld0
              try simp only [Act.put, List.setIfInBounds_toArray, List.set_cons_zero, List.set_cons_succ]
              refine held_call 13 (by kernel_rfl) rfl (fun K hK => ?_)
              go_simp
              go_at_call 70; refine (lall_any B w3.heap.size ic d3 N _ A3 ins (Liv.vals ex) k _ _ _ _ _ _ _ _ _ _ _ _ w3 (H.out.1.below ((hbl.trans (hb3.mono (by omega))).mono hB)) (by have := hb3.size; omega) (by omega) HE.out.2.2.2.1 (ho3.at_ HE.out.2.2.1) (Nat.le_refl _) (by have := HE.out.2.2.2.2; omega)).mono ?_; rintro e w4 ⟨he, hb4⟩; obtain rfl : e = .returned (.bool false) := (by (rw [he, HV.out]; rfl)); clear he
              try (go_wp2_with fail)
              refine hK.out _ _ ?_ (fun hHeld2 => ?_)
              · first | trivial | ((try dsimp only); ((obtain ⟨p0, p1, p2, p3, p4, p5, p6, p7, p8, p9, p10, p11, p12⟩ := ((HT2.out.fresh hb3).fresh hb4).cells13; exact ⟨p0, p1, p2, p3, p4, p5, p6, p7, p8, p9, p10, p11, p12, ((HX2.out.fresh hb3).fresh hb4).cell 5 (by rw [HY.out]; rfl), (hb4.cell (p := ⟨be, oe + y * 4, none⟩) (show be < w3.heap.size by have := hb3.size; omega)).trans ((hb3.cell (p := ⟨be, oe + y * 4, none⟩) hbe).trans e0), (hb4.cell (p := ⟨be, oe + y * 4 + 1, none⟩) (show be < w3.heap.size by have := hb3.size; omega)).trans ((hb3.cell (p := ⟨be, oe + y * 4 + 1, none⟩) hbe).trans e1), (hb4.cell (p := ⟨be, oe + y * 4 + 2, none⟩) (show be < w3.heap.size by have := hb3.size; omega)).trans ((hb3.cell (p := ⟨be, oe + y * 4 + 2, none⟩) hbe).trans e2), (hb4.cell (p := ⟨be, oe + y * 4 + 3, none⟩) (show be < w3.heap.size by have := hb3.size; omega)).trans ((hb3.cell (p := ⟨be, oe + y * 4 + 3, none⟩) hbe).trans e3)⟩)))
              clear hK K hHeld1
              try simp only [Act.put, List.setIfInBounds_toArray, List.set_cons_zero, List.set_cons_succ]
              refine held_take (v := ?_) 14 rfl (by kernel_rfl) (by kernel_rfl) (by kernel_rfl) (fun _ _ _ h => h) (by rfl) ?_ (by assumption) ?_
              rotate_left
              · (intro w hSw; (try dsimp only at hSw); go_simp; try with_reducible rfl)
              try simp only [Act.put, List.setIfInBounds_toArray, List.set_cons_zero, List.set_cons_succ]
              refine held_take (v := ?_) 15 rfl (by kernel_rfl) (by kernel_rfl) (by kernel_rfl) (fun _ _ _ h => h) (by rfl) ?_ (by assumption) ?_
              rotate_left
              · (intro w hSw; (try dsimp only at hSw); go_simp; try with_reducible rfl)
              try simp only [Act.put, List.setIfInBounds_toArray, List.set_cons_zero, List.set_cons_succ]
              refine held_take (v := ?_) 16 rfl (by kernel_rfl) (by kernel_rfl) (by kernel_rfl) (fun _ _ _ h => h) (by rfl) ?_ (by assumption) ?_
              rotate_left
              · (intro w hSw; (try dsimp only at hSw); go_simp; try with_reducible rfl)
              try simp only [Act.put, List.setIfInBounds_toArray, List.set_cons_zero, List.set_cons_succ]
              refine wpAnyH_done (by kernel_rfl) ?_ _
              have hbl4 : Below w.heap.size w w4 := (hbl.trans (hb3.mono (by omega))).trans (hb4.mono (by have := hb3.size; omega))
              clear ho3
              go_wp2_with fail
              go_ret
              exact ⟨by rw [HQQ.out] <;> rfl, hbl4⟩
            | false =>
              rw [hv, if_neg (by decide)] at HQQ
              have HV := Lib.hid hv; clear hv
              refine wp_region_held_drew (S := (fun w' => w'.cell? ⟨w.heap.size, 0, none⟩ = some (v0) ∧ w'.cell? ⟨w.heap.size, 1, none⟩ = some (v1) ∧ w'.cell? ⟨w.heap.size, 2, none⟩ = some (v2) ∧ w'.cell? ⟨w.heap.size, 3, none⟩ = some (.slice (some ⟨b, o, none⟩) ins.length ic) ∧ w'.cell? ⟨w.heap.size, 4, none⟩ = some (.slice (some ⟨be, oe, none⟩) exits.length ec) ∧ w'.cell? ⟨w.heap.size, 5, none⟩ = some (v5) ∧ w'.cell? ⟨w.heap.size, 6, none⟩ = some (v6) ∧ w'.cell? ⟨w.heap.size, 7, none⟩ = some (v7) ∧ w'.cell? ⟨w.heap.size, 8, none⟩ = some (v8) ∧ w'.cell? ⟨w.heap.size, 9, none⟩ = some (v9) ∧ w'.cell? ⟨w.heap.size, 10, none⟩ = some (v10) ∧ w'.cell? ⟨w.heap.size, 11, none⟩ = some (v11) ∧ w'.cell? ⟨w.heap.size, 12, none⟩ = some (v12) ∧ w'.cell? ⟨w.heap.size + 1, 5, none⟩ = some (.int .i64 (y : Int)) ∧ w'.cell? ⟨be, oe + y * 4, none⟩ = some (.int .i64 ex.at_) ∧ w'.cell? ⟨be, oe + y * 4 + 1, none⟩ = some (.int .i64 ex.steps) ∧ w'.cell? ⟨be, oe + y * 4 + 2, none⟩ = some (.slice As ex.sets.length cs) ∧ w'.cell? ⟨be, oe + y * 4 + 3, none⟩ = some (.slice Am ex.makes.length cm))) (by kernel_rfl) ?_ (fun hHeld0 => ?_)
              · first | trivial | ((try dsimp only); ((obtain ⟨p0, p1, p2, p3, p4, p5, p6, p7, p8, p9, p10, p11, p12⟩ := (HT2.out.drew).cells13; exact ⟨p0, p1, p2, p3, p4, p5, p6, p7, p8, p9, p10, p11, p12, (HX2.out.drew).cell 5 (by rw [HY.out]; rfl), e0, e1, e2, e3⟩)))
              refine held_take (v := ?_) 0 rfl (by kernel_rfl) (by kernel_rfl) (by kernel_rfl) (fun _ _ _ h => h) (by rfl) ?_ (by assumption) ?_
              rotate_left
              · (intro w hSw; (try dsimp only at hSw); go_simp; try with_reducible rfl)
              try simp only [Act.put, List.setIfInBounds_toArray, List.set_cons_zero, List.set_cons_succ]
              refine held_take (v := ?_) 1 rfl (by kernel_rfl) (by kernel_rfl) (by kernel_rfl) (fun _ _ _ h => h) (by rfl) ?_ (by assumption) ?_
              rotate_left
              · (intro w hSw; (try dsimp only at hSw); go_simp; try with_reducible rfl)
              try simp only [Act.put, List.setIfInBounds_toArray, List.set_cons_zero, List.set_cons_succ]
              refine held_take (v := ?_) 2 rfl (by kernel_rfl) (by kernel_rfl) (by kernel_rfl) (fun _ _ _ h => h) (by rfl) ?_ (by assumption) ?_
              rotate_left
              · (intro w hSw; (try dsimp only at hSw); go_simp; try with_reducible rfl)
              try simp only [Act.put, List.setIfInBounds_toArray, List.set_cons_zero, List.set_cons_succ]
              refine held_take (v := ?_) 3 rfl (by kernel_rfl) (by kernel_rfl) (by kernel_rfl) (fun _ _ _ h => h) (by rfl) ?_ (by assumption) ?_
              rotate_left
              · (intro w hSw; (try dsimp only at hSw); go_simp; try with_reducible rfl)
              try simp only [Act.put, List.setIfInBounds_toArray, List.set_cons_zero, List.set_cons_succ]
              refine held_take (v := ?_) 4 rfl (by kernel_rfl) (by kernel_rfl) (by kernel_rfl) (fun _ _ _ h => h) (by rfl) ?_ (by assumption) ?_
              rotate_left
              · (intro w hSw; (try dsimp only at hSw); go_simp; try with_reducible rfl)
              try simp only [Act.put, List.setIfInBounds_toArray, List.set_cons_zero, List.set_cons_succ]
              refine held_take (v := ?_) 5 rfl (by kernel_rfl) (by kernel_rfl) (by kernel_rfl) (fun _ _ _ h => h) (by rfl) ?_ (by assumption) ?_
              rotate_left
              · (intro w hSw; (try dsimp only at hSw); go_simp; try with_reducible rfl)
              try simp only [Act.put, List.setIfInBounds_toArray, List.set_cons_zero, List.set_cons_succ]
              refine held_take (v := ?_) 6 rfl (by kernel_rfl) (by kernel_rfl) (by kernel_rfl) (fun _ _ _ h => h) (by rfl) ?_ (by assumption) ?_
              rotate_left
              · (intro w hSw; (try dsimp only at hSw); go_simp; try with_reducible rfl)
              try simp only [Act.put, List.setIfInBounds_toArray, List.set_cons_zero, List.set_cons_succ]
              refine held_take (v := ?_) 7 rfl (by kernel_rfl) (by kernel_rfl) (by kernel_rfl) (fun _ _ _ h => h) (by rfl) ?_ (by assumption) ?_
              rotate_left
              · (intro w hSw; (try dsimp only at hSw); go_simp; try with_reducible rfl)
              try simp only [Act.put, List.setIfInBounds_toArray, List.set_cons_zero, List.set_cons_succ]
              refine held_take (v := ?_) 8 rfl (by kernel_rfl) (by kernel_rfl) (by kernel_rfl) (fun _ _ _ h => h) (by rfl) ?_ (by assumption) ?_
              rotate_left
              · (intro w hSw; (try dsimp only at hSw); go_simp; try with_reducible rfl)
              try simp only [Act.put, List.setIfInBounds_toArray, List.set_cons_zero, List.set_cons_succ]
              refine held_take (v := ?_) 9 rfl (by kernel_rfl) (by kernel_rfl) (by kernel_rfl) (fun _ _ _ h => h) (by rfl) ?_ (by assumption) ?_
              rotate_left
              · (intro w hSw; (try dsimp only at hSw); go_simp; try with_reducible rfl)
              try simp only [Act.put, List.setIfInBounds_toArray, List.set_cons_zero, List.set_cons_succ]
              refine held_take (v := ?_) 10 rfl (by kernel_rfl) (by kernel_rfl) (by kernel_rfl) (fun _ _ _ h => h) (by rfl) ?_ (by assumption) ?_
              rotate_left
              · (intro w hSw; (try dsimp only at hSw); go_simp; try with_reducible rfl)
              try simp only [Act.put, List.setIfInBounds_toArray, List.set_cons_zero, List.set_cons_succ]
              refine held_take (v := ?_) 12 rfl (by kernel_rfl) (by kernel_rfl) (by kernel_rfl) (fun _ _ _ h => h) (by rfl) ?_ (by assumption) ?_
              rotate_left
              · (intro w hSw; (try dsimp only at hSw); go_simp; try with_reducible rfl)
              try simp only [Act.put, List.setIfInBounds_toArray, List.set_cons_zero, List.set_cons_succ]
              refine held_call 11 (by kernel_rfl) rfl (fun K hK => ?_)
              go_simp
              go_at_call 68; refine (lvalues_any B cs cm N As Am ex _ (HE.out.1.drew) (HE.out.2.1.drew) (by show B ≤ w2.heap.size; omega) HE.out.2.2.2.1 HE.out.2.2.2.2).mono ?_; rintro e w3 ⟨A3, d3, rfl, ho3, hb3d⟩; have hb3 : Below w2.heap.size w2 w3 := undrew hb3d; clear hb3d
              try (go_wp2_with fail)
              refine hK.out _ _ ?_ (fun hHeld1 => ?_)
              · first | trivial | ((try dsimp only); ((obtain ⟨p0, p1, p2, p3, p4, p5, p6, p7, p8, p9, p10, p11, p12⟩ := (HT2.out.fresh hb3).cells13; exact ⟨p0, p1, p2, p3, p4, p5, p6, p7, p8, p9, p10, p11, p12, (HX2.out.fresh hb3).cell 5 (by rw [HY.out]; rfl), (hb3.cell (p := ⟨be, oe + y * 4, none⟩) hbe).trans e0, (hb3.cell (p := ⟨be, oe + y * 4 + 1, none⟩) hbe).trans e1, (hb3.cell (p := ⟨be, oe + y * 4 + 2, none⟩) hbe).trans e2, (hb3.cell (p := ⟨be, oe + y * 4 + 3, none⟩) hbe).trans e3⟩)))
              clear hK K hHeld0
              try simp only [Act.put, List.setIfInBounds_toArray, List.set_cons_zero, List.set_cons_succ]
              refine held_call 13 (by kernel_rfl) rfl (fun K hK => ?_)
              go_simp
              go_at_call 70; refine (lall_any B w3.heap.size ic d3 N _ A3 ins (Liv.vals ex) k _ _ _ _ _ _ _ _ _ _ _ _ w3 (H.out.1.below ((hbl.trans (hb3.mono (by omega))).mono hB)) (by have := hb3.size; omega) (by omega) HE.out.2.2.2.1 (ho3.at_ HE.out.2.2.1) (Nat.le_refl _) (by have := HE.out.2.2.2.2; omega)).mono ?_; rintro e w4 ⟨he, hb4⟩; obtain rfl : e = .returned (.bool true) := (by (rw [he, HV.out]; rfl)); clear he
              try (go_wp2_with fail)
              refine hK.out _ _ ?_ (fun hHeld2 => ?_)
              · first | trivial | ((try dsimp only); ((obtain ⟨p0, p1, p2, p3, p4, p5, p6, p7, p8, p9, p10, p11, p12⟩ := ((HT2.out.fresh hb3).fresh hb4).cells13; exact ⟨p0, p1, p2, p3, p4, p5, p6, p7, p8, p9, p10, p11, p12, ((HX2.out.fresh hb3).fresh hb4).cell 5 (by rw [HY.out]; rfl), (hb4.cell (p := ⟨be, oe + y * 4, none⟩) (show be < w3.heap.size by have := hb3.size; omega)).trans ((hb3.cell (p := ⟨be, oe + y * 4, none⟩) hbe).trans e0), (hb4.cell (p := ⟨be, oe + y * 4 + 1, none⟩) (show be < w3.heap.size by have := hb3.size; omega)).trans ((hb3.cell (p := ⟨be, oe + y * 4 + 1, none⟩) hbe).trans e1), (hb4.cell (p := ⟨be, oe + y * 4 + 2, none⟩) (show be < w3.heap.size by have := hb3.size; omega)).trans ((hb3.cell (p := ⟨be, oe + y * 4 + 2, none⟩) hbe).trans e2), (hb4.cell (p := ⟨be, oe + y * 4 + 3, none⟩) (show be < w3.heap.size by have := hb3.size; omega)).trans ((hb3.cell (p := ⟨be, oe + y * 4 + 3, none⟩) hbe).trans e3)⟩)))
              clear hK K hHeld1
              try simp only [Act.put, List.setIfInBounds_toArray, List.set_cons_zero, List.set_cons_succ]
              refine held_take (v := ?_) 14 rfl (by kernel_rfl) (by kernel_rfl) (by kernel_rfl) (fun _ _ _ h => h) (by rfl) ?_ (by assumption) ?_
              rotate_left
              · (intro w hSw; (try dsimp only at hSw); go_simp; try with_reducible rfl)
              try simp only [Act.put, List.setIfInBounds_toArray, List.set_cons_zero, List.set_cons_succ]
              refine held_take (v := ?_) 15 rfl (by kernel_rfl) (by kernel_rfl) (by kernel_rfl) (fun _ _ _ h => h) (by rfl) ?_ (by assumption) ?_
              rotate_left
              · (intro w hSw; (try dsimp only at hSw); go_simp; try with_reducible rfl)
              try simp only [Act.put, List.setIfInBounds_toArray, List.set_cons_zero, List.set_cons_succ]
              refine held_take (v := ?_) 16 rfl (by kernel_rfl) (by kernel_rfl) (by kernel_rfl) (fun _ _ _ h => h) (by rfl) ?_ (by assumption) ?_
              rotate_left
              · (intro w hSw; (try dsimp only at hSw); go_simp; try with_reducible rfl)
              try simp only [Act.put, List.setIfInBounds_toArray, List.set_cons_zero, List.set_cons_succ]
              refine wpAnyH_done (by kernel_rfl) ?_ _
              have hbl4 : Below w.heap.size w w4 := (hbl.trans (hb3.mono (by omega))).trans (hb4.mono (by have := hb3.size; omega))
              clear ho3
              go_wp2_with fail
              go_ret
              exact ⟨by rw [HQQ.out] <;> rfl, hbl4⟩
          · have hev : Liv.exitVals exits x'.exit = [] := by unfold Liv.exitVals; rw [if_pos (by omega)]
            rw [hev, if_neg (by simp)] at HQQ
            clear hev
            have hd3 : decide (0 ≤ x'.exit) = false := by simpa using h3
            go_wp2_with fail
            refine wp_region_held_drew (S := (fun w' => w'.cell? ⟨w.heap.size + 1, 5, none⟩ = some (.int .i64 x'.exit))) (by kernel_rfl) ?_ (fun hHeld0 => ?_)
            · first | trivial | ((try dsimp only); (exact x5))
            refine held_take (v := ?_) 0 rfl (by kernel_rfl) (by kernel_rfl) (by kernel_rfl) (fun _ _ _ h => h) (by rfl) ?_ (by assumption) ?_
            rotate_left
            · (intro w hSw; (try dsimp only at hSw); go_simp; try with_reducible rfl)
            try simp only [Act.put, List.setIfInBounds_toArray, List.set_cons_zero, List.set_cons_succ]
            refine held_take (v := ?_) 1 rfl (by kernel_rfl) (by kernel_rfl) (by kernel_rfl) (fun _ _ _ h => h) (by rfl) ?_ (by assumption) ?_
            rotate_left
            · (intro w hSw; (try dsimp only at hSw); go_simp; try with_reducible rfl)
            try simp only [Act.put, List.setIfInBounds_toArray, List.set_cons_zero, List.set_cons_succ]
            refine held_take (v := ?_) 2 rfl (by kernel_rfl) (by kernel_rfl) (by kernel_rfl) (fun _ _ _ h => h) (by rfl) ?_ (by assumption) ?_
            rotate_left
            · (intro w hSw; (try dsimp only at hSw); go_simp; try with_reducible rfl)
            try simp only [Act.put, List.setIfInBounds_toArray, List.set_cons_zero, List.set_cons_succ]
            refine held_take (v := ?_) 3 rfl (by kernel_rfl) (by kernel_rfl) (by kernel_rfl) (fun _ _ _ h => h) (by rfl) ?_ (by assumption) ?_
            rotate_left
            · (intro w hSw; (try dsimp only at hSw); go_simp; try with_reducible rfl)
            try simp only [Act.put, List.setIfInBounds_toArray, List.set_cons_zero, List.set_cons_succ]
            refine held_skip 4 rfl (by kernel_rfl) (by kernel_rfl) (by kernel_rfl) (fun _ _ _ h => h) (by rfl) (by assumption) ?_
            try simp only [Act.put, List.setIfInBounds_toArray, List.set_cons_zero, List.set_cons_succ]
            refine held_skip 5 rfl (by kernel_rfl) (by kernel_rfl) (by kernel_rfl) (fun _ _ _ h => h) (by rfl) (by assumption) ?_
            try simp only [Act.put, List.setIfInBounds_toArray, List.set_cons_zero, List.set_cons_succ]
            refine held_skip 6 rfl (by kernel_rfl) (by kernel_rfl) (by kernel_rfl) (fun _ _ _ h => h) (by rfl) (by assumption) ?_
            try simp only [Act.put, List.setIfInBounds_toArray, List.set_cons_zero, List.set_cons_succ]
            refine held_skip 7 rfl (by kernel_rfl) (by kernel_rfl) (by kernel_rfl) (fun _ _ _ h => h) (by rfl) (by assumption) ?_
            try simp only [Act.put, List.setIfInBounds_toArray, List.set_cons_zero, List.set_cons_succ]
            refine held_skip 8 rfl (by kernel_rfl) (by kernel_rfl) (by kernel_rfl) (fun _ _ _ h => h) (by rfl) (by assumption) ?_
            try simp only [Act.put, List.setIfInBounds_toArray, List.set_cons_zero, List.set_cons_succ]
            refine held_skip 9 rfl (by kernel_rfl) (by kernel_rfl) (by kernel_rfl) (fun _ _ _ h => h) (by rfl) (by assumption) ?_
            try simp only [Act.put, List.setIfInBounds_toArray, List.set_cons_zero, List.set_cons_succ]
            refine held_skip 10 rfl (by kernel_rfl) (by kernel_rfl) (by kernel_rfl) (fun _ _ _ h => h) (by rfl) (by assumption) ?_
            try simp only [Act.put, List.setIfInBounds_toArray, List.set_cons_zero, List.set_cons_succ]
            refine held_skip 11 rfl (by kernel_rfl) (by kernel_rfl) (by kernel_rfl) (fun _ _ _ h => h) (by rfl) (by assumption) ?_
            try simp only [Act.put, List.setIfInBounds_toArray, List.set_cons_zero, List.set_cons_succ]
            refine held_skip 12 rfl (by kernel_rfl) (by kernel_rfl) (by kernel_rfl) (fun _ _ _ h => h) (by rfl) (by assumption) ?_
            try simp only [Act.put, List.setIfInBounds_toArray, List.set_cons_zero, List.set_cons_succ]
            refine held_skip 13 rfl (by kernel_rfl) (by kernel_rfl) (by kernel_rfl) (fun _ _ _ h => h) (by rfl) (by assumption) ?_
            try simp only [Act.put, List.setIfInBounds_toArray, List.set_cons_zero, List.set_cons_succ]
            refine held_skip 14 rfl (by kernel_rfl) (by kernel_rfl) (by kernel_rfl) (fun _ _ _ h => h) (by rfl) (by assumption) ?_
            try simp only [Act.put, List.setIfInBounds_toArray, List.set_cons_zero, List.set_cons_succ]
            refine held_take (v := ?_) 15 rfl (by kernel_rfl) (by kernel_rfl) (by kernel_rfl) (fun _ _ _ h => h) (by rfl) ?_ (by assumption) ?_
            rotate_left
            · (intro w hSw; (try dsimp only at hSw); go_simp; try with_reducible rfl)
            try simp only [Act.put, List.setIfInBounds_toArray, List.set_cons_zero, List.set_cons_succ]
            refine held_take (v := ?_) 16 rfl (by kernel_rfl) (by kernel_rfl) (by kernel_rfl) (fun _ _ _ h => h) (by rfl) ?_ (by assumption) ?_
            rotate_left
            · (intro w hSw; (try dsimp only at hSw); go_simp; try with_reducible rfl)
            try simp only [Act.put, List.setIfInBounds_toArray, List.set_cons_zero, List.set_cons_succ]
            refine wpAnyH_done (by kernel_rfl) ?_ _
            go_wp2_with fail
            go_ret
            exact ⟨by rw [HQQ.out] <;> rfl, hbl.drew⟩

end Go.Proofs.Ytljdnadejmkaeaa

/- Is an exit too large: live.large. -/
namespace Go.Proofs.Ytljdnadejmkaeaa
open Go.RowKit

set_option maxRecDepth 100000 in
theorem llarge_any (B sc mc : Nat) (SA MA : Option Addr) (x : Ex) (w : World) (hm : At w B MA x.makes) (hB : B ≤ w.heap.size) (hml : x.makes.length ≤ 9223372036854775807) :
    Calls Try.prog 73 #[.agg #[.int .i64 x.at_, .int .i64 x.steps, .slice SA x.sets.length sc, .slice MA x.makes.length mc]] w fun e w' => e = .returned (.bool (Liv.large x)) ∧ Below w.heap.size w w' := by
  have H := Lib.hid hm; clear hm
  by_cases h1 : 60 < x.sets.length
  · have hL : Liv.large x = true := by unfold Liv.large; simp [h1]
    have h2 : (60 : Int) < (x.sets.length : Int) := by omega
    have HQ := Lib.hid hL; clear hL
    go_enter Try.func73, Try.ntmps73
    go_wp2_with fail
    go_ret
    exact ⟨by rw [HQ.out]; rfl, (Below.refl _ _).alloc (Nat.le_refl _) _⟩
  · have h2 : ¬ (60 : Int) < (x.sets.length : Int) := by omega
    by_cases h3 : 300 < x.makes.length
    · have hL : Liv.large x = true := by unfold Liv.large; simp [h3]
      have h4 : (300 : Int) < (x.makes.length : Int) := by omega
      have HQ := Lib.hid hL; clear hL
      go_enter Try.func73, Try.ntmps73
      go_wp2_with fail
      go_ret
      exact ⟨by rw [HQ.out]; rfl, (Below.refl _ _).alloc (Nat.le_refl _) _⟩
    · have hL : Liv.large x = x.makes.any Liv.wide := by unfold Liv.large; simp [h1, h3]
      have h4 : ¬ (300 : Int) < (x.makes.length : Int) := by omega
      obtain ⟨q, hq⟩ : ∃ q, x.makes.any Liv.wide = q := ⟨_, rfl⟩
      rw [hq] at hL
      have HQ := Lib.hid (And.intro hL hq); clear hL hq
      go_enter Try.func73, Try.ntmps73
      go_wp2_with fail
      refine (containsFuncMk_any MA mc B 117 #[] Liv.wide x.makes _ (H.out.alloc hB _) (by simp; omega) hml egLarge (predLarge x.makes _)).mono ?_
      rintro e w1 ⟨rfl, hb1⟩
      rw [HQ.out.2]
      have hbl : Below w.heap.size w w1 := ((Below.refl _ _).alloc (Nat.le_refl _) _).trans (hb1.mono (by simp))
      cases q with
      | true =>
        go_wp2_with fail
        go_ret
        exact ⟨by rw [HQ.out.1]; rfl, hbl⟩
      | false =>
        go_wp2_with fail
        go_ret
        exact ⟨by rw [HQ.out.1]; rfl, hbl⟩

end Go.Proofs.Ytljdnadejmkaeaa

/- live.Check's tests of exits. -/
namespace Go.Proofs.Ytljdnadejmkaeaa
open Go.RowKit

attribute [local go_sem ↓] Go.wp_at_zero Go.wp_at_succ

/-- raw rows that read as a type's data: the list -/
theorem at_unraw {α : Type} [Enc α] {n : Nat} (hn : Enc.sz α = n) {w : World} {B : Nat} {A : Option Addr} {rs : List (Raw n)} {xs : List α} (h : At w B A rs) (hl : rs.length = xs.length)
    (hr : ∀ (i : Nat) (r : Raw n) (x : α), rs[i]? = some r → xs[i]? = some x → Enc.rd w B r.cs x) : At w B A xs := by
  subst hn
  intro i x hx
  have hi : i < rs.length := by rw [hl]; exact (List.getElem?_eq_some_iff.1 hx).1
  obtain ⟨b, o, cs, hA, hb, hc, hrd, -⟩ := h i rs[i] (List.getElem?_eq_getElem hi)
  have hcs : cs = rs[i].cs := hrd
  subst hcs
  exact ⟨b, o, rs[i].cs, hA, hb, hc, hr i _ x (List.getElem?_eq_getElem hi) hx⟩
theorem ex_one {w : World} {B : Nat} : ∀ cs (x : Ex), Enc.rd w B cs x → ∀ u ∈ cs, u.oneCell' = true := by
  rintro cs x ⟨c6, c7, rfl, -, -, ⟨A6, d6, e6, -⟩, ⟨A7, d7, e7, -⟩⟩ u hu
  injection e6 with e6; injection e7 with e7; subst e6 e7
  simp at hu
  rcases hu with rfl | rfl | rfl | rfl <;> rfl
def exC (x : Ex) (SA : Option Addr) (sc : Nat) (MA : Option Addr) (mc : Nat) : List Value := [.int .i64 x.at_, .int .i64 x.steps, .slice SA x.sets.length sc, .slice MA x.makes.length mc]
theorem rd_ex {w : World} {B : Nat} {x : Ex} {SA MA : Option Addr} {sc mc : Nat} (h : Enc.rd w B (exC x SA sc MA mc) x) : At w B SA x.sets ∧ At w B MA x.makes ∧ I64 x.at_ ∧ I64 x.steps := by
  obtain ⟨c6, c7, e, h0, h1, ⟨A6, d6, e6, -, -, -, t6⟩, ⟨A7, d7, e7, -, -, -, t7⟩⟩ := h
  injection e6 with e6; injection e7 with e7; subst e6 e7
  simp [exC] at e
  obtain ⟨⟨rfl, rfl⟩, ⟨rfl, rfl⟩⟩ := e
  exact ⟨t6, t7, h0, h1⟩

def PredE (P : Program) (g : Nat) (lb : Array Value) (p : Ex → Bool) (l : List Ex) (B : Nat) (w : World) : Prop :=
  ∀ (W : World) (x : Ex) (SA MA : Option Addr) (sc mc : Nat), x ∈ l → At W B SA x.sets → At W B MA x.makes → Below w.heap.size w W → Calls P g (#[.agg #[.int .i64 x.at_, .int .i64 x.steps, .slice SA x.sets.length sc, .slice MA x.makes.length mc]] ++ lb) W fun e W' => e = .returned (.bool (p x)) ∧ Below W.heap.size W W'

set_option maxHeartbeats 800000 in
set_option maxRecDepth 100000 in
theorem indexFuncEx_any (A : Option Addr) (c B g : Nat) (lb : Array Value) (p : Ex → Bool) (l : List Ex) (w : World) (h : At w B A l) (hB : B ≤ w.heap.size) (hl : l.length ≤ 9223372036854775807)
    (eg : ∀ args w, (callFunc g args).run Try.prog w = .ok (.enter g args) w) (hp : PredE Try.prog g lb p l B w) :
    Calls Try.prog 115 #[.slice A l.length c, .func (.func g) #[] lb] w fun e w' => e = .returned (.int .i64 (idxI p l)) ∧ Below w.heap.size w w' := by
  have H := Lib.hid h; clear h
  have HP := Lib.hid hp; clear hp
  go_enter Try.func115, Try.ntmps115
  go_wp2
  go_loopw [8] (fun i wr => ∃ k : Nat, k ≤ l.length ∧ i = .int .i64 k ∧ Hid ((l.take k).any p = false) ∧ Below w.heap.size w wr) (fun i _ => l.length - (intOf i).toNat)
  case atStart => exact ⟨0, Nat.zero_le _, rfl, by simp [Hid], Below.refl _ _⟩
  case round =>
    obtain ⟨k, hk, rfl, hno, hbl⟩ := hrel
    have hsz := hbl.size
    by_cases hlt : k < l.length
    · obtain ⟨b, o, x, SA, sc, MA, mc, rfl, hb, hx, h0, h1, h2, h3, as_, -, am_, -, -, -⟩ := (H.out.below (hbl.mono hB)).ex_ hlt
      have hk0 : (0 : Int) ≤ (k : Int) := by omega
      have hk1 : (k : Int) < (l.length : Int) := by omega
      have hcall := HP.out wr x SA MA sc mc (List.mem_of_getElem? hx) as_ am_ hbl
      have HX := Lib.hid hx; clear hx as_ am_
      cases hq : p x with
      | true =>
        rw [hq] at hcall
        have HC := Lib.hid hcall; clear hcall
        have HQ := Lib.hid hq; clear hq
        go_wp2_with (go_at_fn g; refine HC.out.mono ?_; rintro e w' ⟨rfl, hb'⟩)
        go_ret
        exact ⟨by rw [idxI_hit p l k x HX.out HQ.out hno.out]; rfl, hbl.trans (hb'.mono hsz)⟩
      | false =>
        rw [hq] at hcall
        have HC := Lib.hid hcall; clear hcall
        have HQ := Lib.hid hq; clear hq
        go_wp2_with (go_at_fn g; refine HC.out.mono ?_; rintro e w' ⟨rfl, hb'⟩)
        go_roundw
        case rel => exact ⟨k + 1, by omega, by go_num, by unfold Hid; rw [any_snoc _ _ _ _ HX.out, hno.out, HQ.out]; rfl, hbl.trans (hb'.mono hsz)⟩
        case measure => simp [intOf]; omega
    · go_wp2
      go_ret
      exact ⟨by have h1 := hno.out; rw [List.take_of_length_le (by omega)] at h1; unfold idxI; rw [h1]; rfl, hbl⟩

theorem containsFuncEx_any (A : Option Addr) (c B g : Nat) (lb : Array Value) (p : Ex → Bool) (l : List Ex) (w : World) (h : At w B A l) (hB : B ≤ w.heap.size) (hl : l.length ≤ 9223372036854775807)
    (eg : ∀ args w, (callFunc g args).run Try.prog w = .ok (.enter g args) w) (hp : PredE Try.prog g lb p l B w) :
    Calls Try.prog 71 #[.slice A l.length c, .func (.func g) #[] lb] w fun e w' => e = .returned (.bool (l.any p)) ∧ Below w.heap.size w w' := by
  have HC := Lib.hid (indexFuncEx_any A c B g lb p l w h hB hl eg hp)
  clear h hp eg
  cases hq : l.any p with
  | true =>
    have hi : idxI p l = (l.findIdx p : Int) := by unfold idxI; rw [if_pos hq]
    rw [hi] at HC
    go_enter Try.func71, Try.ntmps71
    go_wp2_with (go_at_call 115; refine HC.out.mono ?_; rintro e w' ⟨rfl, hb'⟩)
    go_ret
    exact ⟨ret_bool (by simp), hb'⟩
  | false =>
    have hi : idxI p l = -1 := by unfold idxI; rw [hq]; rfl
    rw [hi] at HC
    go_enter Try.func71, Try.ntmps71
    go_wp2_with (go_at_call 115; refine HC.out.mono ?_; rintro e w' ⟨rfl, hb'⟩)
    go_ret
    exact ⟨ret_bool (by simp), hb'⟩

theorem egExLarge : ∀ args w, (callFunc 73 args).run Try.prog w = .ok (.enter 73 args) w := fun _ _ => by kernel_rfl
theorem egCheck : ∀ args w, (callFunc 72 args).run Try.prog w = .ok (.enter 72 args) w := fun _ _ => by kernel_rfl
theorem predExLarge (l : List Ex) (B : Nat) (w : World) (hB : B ≤ w.heap.size) (hl : ∀ x ∈ l, x.makes.length ≤ 9223372036854775807) : PredE Try.prog 73 #[] Liv.large l B w := by
  rintro W x SA MA sc mc hx _ hm hb
  exact llarge_any B sc mc SA MA x W hm (by have := hb.size; omega) (hl x hx)

set_option maxHeartbeats 800000 in
set_option maxRecDepth 100000 in
theorem predCheck (GN GT B ic : Nat) (IA : Option Addr) (ins : List TI) (n : Int) (v0 v1 v2 v4 v5 v6 v7 v8 v9 v10 v11 v12 : Value) (l : List Ex) (w : World) (hN : Blk w GN 3 #[.int .i64 n]) (hT : Blk w GT 72 #[v0, v1, v2, .slice IA ins.length ic, v4, v5, v6, v7, v8, v9, v10, v11, v12])
    (hI : At w B IA ins) (hB : B ≤ w.heap.size) (hil : ins.length ≤ 9223372036854775807) (hl : ∀ x ∈ l, (Liv.vals x).length * 8 ≤ 140737488355328) :
    PredE Try.prog 72 #[.pointer (some ⟨GT, 0, none⟩), .pointer (some ⟨GN, 0, none⟩)] (fun x => (Liv.vals x).any (Liv.bad ins n)) l B w := by
  rintro W x SA MA sc mc hx hs hm hb
  change Calls Try.prog 72 #[.agg #[.int .i64 x.at_, .int .i64 x.steps, .slice SA x.sets.length sc, .slice MA x.makes.length mc], .pointer (some ⟨GT, 0, none⟩), .pointer (some ⟨GN, 0, none⟩)] W _
  have hsz := hb.size
  have ltN : GN < W.heap.size := by have := hN.lt; omega
  have ltT : GT < W.heap.size := by have := hT.lt; omega
  obtain ⟨N, hN0⟩ : ∃ N, (Liv.vals x).length = N := ⟨_, rfl⟩
  have hNb := hl x hx
  rw [hN0] at hNb
  have HNN := Lib.hid hN0; clear hN0
  have hok := Liv.vals_ok hs hm
  have HA0 := Lib.hid (And.intro hs (And.intro hm (And.intro (hI.below (hb.mono hB)) hok))); clear hs hm hI hok
  have HB0 := Lib.hid (And.intro (hT.fresh hb) (hN.fresh hb)); clear hT hN
  show Calls _ _ _ _ fun e W' => e = .returned (.bool ((Liv.vals x).any (Liv.bad ins n))) ∧ Below W.heap.size W W'
  go_enter Try.func72, Try.ntmps72
  go_wp2_with fail
  refine wp_world (fun V => Blk V W.heap.size 31 #[.int .i64 x.at_, .int .i64 x.steps, .slice SA x.sets.length sc, .slice MA x.makes.length mc] ∧ Below W.heap.size W V ∧ W.heap.size + 1 ≤ V.heap.size) ⟨Blk.new _ _ _, (Below.refl _ _).alloc (Nat.le_refl _) _, by simp⟩ ?_
  rintro V ⟨hX, hbV, hsV⟩
  have HB := Lib.hid (And.intro (HB0.out.1.fresh hbV) (And.intro hX (HB0.out.2.fresh hbV)))
  have HA := Lib.hid (And.intro (HA0.out.1.below (hbV.mono (by omega))) (And.intro (HA0.out.2.1.below (hbV.mono (by omega))) (And.intro (HA0.out.2.2.1.below (hbV.mono (by omega))) HA0.out.2.2.2)))
  clear hX HA0 HB0
  have hN := HNN.out
  have HH := Lib.hid hN; clear hN
  cases hq : (Liv.vals x).any (Liv.bad ins n) with
  | true =>
    have HQ := Lib.hid hq; clear hq
    · have hNN : True := trivial
      refine wp_region_held_drew (S := (fun w' => w'.cell? ⟨GT, 0, none⟩ = some (v0) ∧ w'.cell? ⟨GT, 1, none⟩ = some (v1) ∧ w'.cell? ⟨GT, 2, none⟩ = some (v2) ∧ w'.cell? ⟨GT, 3, none⟩ = some (.slice IA ins.length ic) ∧ w'.cell? ⟨GT, 4, none⟩ = some (v4) ∧ w'.cell? ⟨GT, 5, none⟩ = some (v5) ∧ w'.cell? ⟨GT, 6, none⟩ = some (v6) ∧ w'.cell? ⟨GT, 7, none⟩ = some (v7) ∧ w'.cell? ⟨GT, 8, none⟩ = some (v8) ∧ w'.cell? ⟨GT, 9, none⟩ = some (v9) ∧ w'.cell? ⟨GT, 10, none⟩ = some (v10) ∧ w'.cell? ⟨GT, 11, none⟩ = some (v11) ∧ w'.cell? ⟨GT, 12, none⟩ = some (v12) ∧ w'.cell? ⟨W.heap.size, 0, none⟩ = some (.int .i64 x.at_) ∧ w'.cell? ⟨W.heap.size, 1, none⟩ = some (.int .i64 x.steps) ∧ w'.cell? ⟨W.heap.size, 2, none⟩ = some (.slice SA x.sets.length sc) ∧ w'.cell? ⟨W.heap.size, 3, none⟩ = some (.slice MA x.makes.length mc) ∧ w'.cell? ⟨GN, 0, none⟩ = some (.int .i64 n))) (by kernel_rfl) ?_ (fun hHeld0 => ?_)
      · first | trivial | ((try dsimp only); (obtain ⟨p0, p1, p2, p3, p4, p5, p6, p7, p8, p9, p10, p11, p12⟩ := (HB.out.1.drew).cells13; obtain ⟨q0, q1, q2, q3⟩ := (HB.out.2.1.drew).cells4; exact ⟨p0, p1, p2, p3, p4, p5, p6, p7, p8, p9, p10, p11, p12, q0, q1, q2, q3, (HB.out.2.2.drew).cell 0 rfl⟩))
      refine held_take (v := ?_) 0 rfl (by kernel_rfl) (by kernel_rfl) (by kernel_rfl) (fun _ _ _ h => h) (by rfl) ?_ (by assumption) ?_
      rotate_left
      · (intro w hSw; (try dsimp only at hSw); go_simp; try with_reducible rfl)
      try simp only [Act.put, List.setIfInBounds_toArray, List.set_cons_zero, List.set_cons_succ]
      refine held_take (v := ?_) 1 rfl (by kernel_rfl) (by kernel_rfl) (by kernel_rfl) (fun _ _ _ h => h) (by rfl) ?_ (by assumption) ?_
      rotate_left
      · (intro w hSw; (try dsimp only at hSw); go_simp; try with_reducible rfl)
      try simp only [Act.put, List.setIfInBounds_toArray, List.set_cons_zero, List.set_cons_succ]
      refine held_take (v := ?_) 3 rfl (by kernel_rfl) (by kernel_rfl) (by kernel_rfl) (fun _ _ _ h => h) (by rfl) ?_ (by assumption) ?_
      rotate_left
      · (intro w hSw; (try dsimp only at hSw); go_simp; try with_reducible rfl)
      try simp only [Act.put, List.setIfInBounds_toArray, List.set_cons_zero, List.set_cons_succ]
      refine held_call 2 (by kernel_rfl) rfl (fun K hK => ?_)
      go_simp
      go_at_call 68; refine (lvalues_any B sc mc N SA MA x _ (HA.out.1.drew) (HA.out.2.1.drew) (by show B ≤ V.heap.size; omega) HH.out hNb).mono ?_; rintro e w1 ⟨A1, d1, rfl, ho1, hb1d⟩; have hb1 : Below V.heap.size V w1 := undrew hb1d; clear hb1d
      try (go_wp2_with fail)
      refine hK.out _ _ ?_ (fun hHeld1 => ?_)
      · first | trivial | ((try dsimp only); (obtain ⟨p0, p1, p2, p3, p4, p5, p6, p7, p8, p9, p10, p11, p12⟩ := (HB.out.1.fresh hb1).cells13; obtain ⟨q0, q1, q2, q3⟩ := (HB.out.2.1.fresh hb1).cells4; exact ⟨p0, p1, p2, p3, p4, p5, p6, p7, p8, p9, p10, p11, p12, q0, q1, q2, q3, (HB.out.2.2.fresh hb1).cell 0 rfl⟩))
      clear hK K hHeld0
      try simp only [Act.put, List.setIfInBounds_toArray, List.set_cons_zero, List.set_cons_succ]
      refine held_call 4 (by kernel_rfl) rfl (fun K hK => ?_)
      go_simp
      go_at_call 70; refine (lall_any B w1.heap.size ic d1 N _ A1 ins (Liv.vals x) n _ _ _ _ _ _ _ _ _ _ _ _ w1 (HA.out.2.2.1.below (hb1.mono (by omega))) (by have := hb1.size; omega) hil HH.out (ho1.at_ HA.out.2.2.2) (Nat.le_refl _) (by omega)).mono ?_; rintro e w2 ⟨he, hb2⟩; obtain rfl : e = .returned (.bool false) := (by (rw [he, HQ.out]; rfl)); clear he
      try (go_wp2_with fail)
      refine hK.out _ _ ?_ (fun hHeld2 => ?_)
      · first | trivial | ((try dsimp only); (obtain ⟨p0, p1, p2, p3, p4, p5, p6, p7, p8, p9, p10, p11, p12⟩ := ((HB.out.1.fresh hb1).fresh hb2).cells13; obtain ⟨q0, q1, q2, q3⟩ := ((HB.out.2.1.fresh hb1).fresh hb2).cells4; exact ⟨p0, p1, p2, p3, p4, p5, p6, p7, p8, p9, p10, p11, p12, q0, q1, q2, q3, ((HB.out.2.2.fresh hb1).fresh hb2).cell 0 rfl⟩))
      clear hK K hHeld1
      try simp only [Act.put, List.setIfInBounds_toArray, List.set_cons_zero, List.set_cons_succ]
      refine held_take (v := ?_) 5 rfl (by kernel_rfl) (by kernel_rfl) (by kernel_rfl) (fun _ _ _ h => h) (by rfl) ?_ (by assumption) ?_
      rotate_left
      · (intro w hSw; (try dsimp only at hSw); go_simp; try with_reducible rfl)
      try simp only [Act.put, List.setIfInBounds_toArray, List.set_cons_zero, List.set_cons_succ]
      refine held_take (v := ?_) 6 rfl (by kernel_rfl) (by kernel_rfl) (by kernel_rfl) (fun _ _ _ h => h) (by rfl) ?_ (by assumption) ?_
      rotate_left
      · (intro w hSw; (try dsimp only at hSw); go_simp; try with_reducible rfl)
      try simp only [Act.put, List.setIfInBounds_toArray, List.set_cons_zero, List.set_cons_succ]
      refine wpAnyH_done (by kernel_rfl) ?_ _
      clear ho1
      go_wp2_with fail
      go_ret
      exact ⟨by rw [HQ.out]; rfl, (hbV.trans (hb1.mono (by omega))).trans (hb2.mono (by have := hb1.size; omega))⟩
  | false =>
    have HQ := Lib.hid hq; clear hq
    · have hNN : True := trivial
      refine wp_region_held_drew (S := (fun w' => w'.cell? ⟨GT, 0, none⟩ = some (v0) ∧ w'.cell? ⟨GT, 1, none⟩ = some (v1) ∧ w'.cell? ⟨GT, 2, none⟩ = some (v2) ∧ w'.cell? ⟨GT, 3, none⟩ = some (.slice IA ins.length ic) ∧ w'.cell? ⟨GT, 4, none⟩ = some (v4) ∧ w'.cell? ⟨GT, 5, none⟩ = some (v5) ∧ w'.cell? ⟨GT, 6, none⟩ = some (v6) ∧ w'.cell? ⟨GT, 7, none⟩ = some (v7) ∧ w'.cell? ⟨GT, 8, none⟩ = some (v8) ∧ w'.cell? ⟨GT, 9, none⟩ = some (v9) ∧ w'.cell? ⟨GT, 10, none⟩ = some (v10) ∧ w'.cell? ⟨GT, 11, none⟩ = some (v11) ∧ w'.cell? ⟨GT, 12, none⟩ = some (v12) ∧ w'.cell? ⟨W.heap.size, 0, none⟩ = some (.int .i64 x.at_) ∧ w'.cell? ⟨W.heap.size, 1, none⟩ = some (.int .i64 x.steps) ∧ w'.cell? ⟨W.heap.size, 2, none⟩ = some (.slice SA x.sets.length sc) ∧ w'.cell? ⟨W.heap.size, 3, none⟩ = some (.slice MA x.makes.length mc) ∧ w'.cell? ⟨GN, 0, none⟩ = some (.int .i64 n))) (by kernel_rfl) ?_ (fun hHeld0 => ?_)
      · first | trivial | ((try dsimp only); (obtain ⟨p0, p1, p2, p3, p4, p5, p6, p7, p8, p9, p10, p11, p12⟩ := (HB.out.1.drew).cells13; obtain ⟨q0, q1, q2, q3⟩ := (HB.out.2.1.drew).cells4; exact ⟨p0, p1, p2, p3, p4, p5, p6, p7, p8, p9, p10, p11, p12, q0, q1, q2, q3, (HB.out.2.2.drew).cell 0 rfl⟩))
      refine held_take (v := ?_) 0 rfl (by kernel_rfl) (by kernel_rfl) (by kernel_rfl) (fun _ _ _ h => h) (by rfl) ?_ (by assumption) ?_
      rotate_left
      · (intro w hSw; (try dsimp only at hSw); go_simp; try with_reducible rfl)
      try simp only [Act.put, List.setIfInBounds_toArray, List.set_cons_zero, List.set_cons_succ]
      refine held_take (v := ?_) 1 rfl (by kernel_rfl) (by kernel_rfl) (by kernel_rfl) (fun _ _ _ h => h) (by rfl) ?_ (by assumption) ?_
      rotate_left
      · (intro w hSw; (try dsimp only at hSw); go_simp; try with_reducible rfl)
      try simp only [Act.put, List.setIfInBounds_toArray, List.set_cons_zero, List.set_cons_succ]
      refine held_take (v := ?_) 3 rfl (by kernel_rfl) (by kernel_rfl) (by kernel_rfl) (fun _ _ _ h => h) (by rfl) ?_ (by assumption) ?_
      rotate_left
      · (intro w hSw; (try dsimp only at hSw); go_simp; try with_reducible rfl)
      try simp only [Act.put, List.setIfInBounds_toArray, List.set_cons_zero, List.set_cons_succ]
      refine held_call 2 (by kernel_rfl) rfl (fun K hK => ?_)
      go_simp
      go_at_call 68; refine (lvalues_any B sc mc N SA MA x _ (HA.out.1.drew) (HA.out.2.1.drew) (by show B ≤ V.heap.size; omega) HH.out hNb).mono ?_; rintro e w1 ⟨A1, d1, rfl, ho1, hb1d⟩; have hb1 : Below V.heap.size V w1 := undrew hb1d; clear hb1d
      try (go_wp2_with fail)
      refine hK.out _ _ ?_ (fun hHeld1 => ?_)
      · first | trivial | ((try dsimp only); (obtain ⟨p0, p1, p2, p3, p4, p5, p6, p7, p8, p9, p10, p11, p12⟩ := (HB.out.1.fresh hb1).cells13; obtain ⟨q0, q1, q2, q3⟩ := (HB.out.2.1.fresh hb1).cells4; exact ⟨p0, p1, p2, p3, p4, p5, p6, p7, p8, p9, p10, p11, p12, q0, q1, q2, q3, (HB.out.2.2.fresh hb1).cell 0 rfl⟩))
      clear hK K hHeld0
      try simp only [Act.put, List.setIfInBounds_toArray, List.set_cons_zero, List.set_cons_succ]
      refine held_call 4 (by kernel_rfl) rfl (fun K hK => ?_)
      go_simp
      go_at_call 70; refine (lall_any B w1.heap.size ic d1 N _ A1 ins (Liv.vals x) n _ _ _ _ _ _ _ _ _ _ _ _ w1 (HA.out.2.2.1.below (hb1.mono (by omega))) (by have := hb1.size; omega) hil HH.out (ho1.at_ HA.out.2.2.2) (Nat.le_refl _) (by omega)).mono ?_; rintro e w2 ⟨he, hb2⟩; obtain rfl : e = .returned (.bool true) := (by (rw [he, HQ.out]; rfl)); clear he
      try (go_wp2_with fail)
      refine hK.out _ _ ?_ (fun hHeld2 => ?_)
      · first | trivial | ((try dsimp only); (obtain ⟨p0, p1, p2, p3, p4, p5, p6, p7, p8, p9, p10, p11, p12⟩ := ((HB.out.1.fresh hb1).fresh hb2).cells13; obtain ⟨q0, q1, q2, q3⟩ := ((HB.out.2.1.fresh hb1).fresh hb2).cells4; exact ⟨p0, p1, p2, p3, p4, p5, p6, p7, p8, p9, p10, p11, p12, q0, q1, q2, q3, ((HB.out.2.2.fresh hb1).fresh hb2).cell 0 rfl⟩))
      clear hK K hHeld1
      try simp only [Act.put, List.setIfInBounds_toArray, List.set_cons_zero, List.set_cons_succ]
      refine held_take (v := ?_) 5 rfl (by kernel_rfl) (by kernel_rfl) (by kernel_rfl) (fun _ _ _ h => h) (by rfl) ?_ (by assumption) ?_
      rotate_left
      · (intro w hSw; (try dsimp only at hSw); go_simp; try with_reducible rfl)
      try simp only [Act.put, List.setIfInBounds_toArray, List.set_cons_zero, List.set_cons_succ]
      refine held_take (v := ?_) 6 rfl (by kernel_rfl) (by kernel_rfl) (by kernel_rfl) (fun _ _ _ h => h) (by rfl) ?_ (by assumption) ?_
      rotate_left
      · (intro w hSw; (try dsimp only at hSw); go_simp; try with_reducible rfl)
      try simp only [Act.put, List.setIfInBounds_toArray, List.set_cons_zero, List.set_cons_succ]
      refine wpAnyH_done (by kernel_rfl) ?_ _
      clear ho1
      go_wp2_with fail
      go_ret
      exact ⟨by rw [HQ.out]; rfl, (hbV.trans (hb1.mono (by omega))).trans (hb2.mono (by have := hb1.size; omega))⟩

end Go.Proofs.Ytljdnadejmkaeaa
