/- RF: Ord11. -/
import Derived.Test.YtljdnadejmkaeaaRF15
import Derived.Test.YtljdnadejmkaeaaRF29
import Derived.Test.YtljdnadejmkaeaaRF31
import Derived.Deep.DrawnRows
import Derived.StillTailTactics
/- order: what is wrong with one order, and what it leaves written. -/
namespace Go.Proofs.Ytljdnadejmkaeaa
open Go.RowKit
attribute [local go_sem ↓] Go.wp_at_zero Go.wp_at_succ

theorem Ord.right_ok {x : RO} {slots : Int} {nex : Nat} (h : Ord.right (Ord.theForm x.op) x slots nex = true) :
    (x.op = 3 ∨ x.op = 4 → 0 ≤ x.n ∧ x.n < slots) ∧ (0 ≤ Ord.writes x → Ord.writes x < 8) ∧ (0 ≤ x.exit → x.exit < nex) := by
  unfold Ord.right at h
  by_cases h4 : Ord.c4 (Ord.theForm x.op) x = true
  · rw [if_pos h4] at h; cases h
  rw [if_neg h4] at h
  by_cases h5 : Ord.c5 (Ord.theForm x.op) x = true
  · rw [if_pos h5] at h; cases h
  rw [if_neg h5] at h
  by_cases h7 : Ord.c7 (Ord.theForm x.op) x = true
  · rw [if_pos h7] at h; cases h
  rw [if_neg h7] at h
  by_cases h8 : Ord.c8 (Ord.theForm x.op) x = true
  · rw [if_pos h8] at h; cases h
  rw [if_neg h8] at h
  by_cases h10 : Ord.c10 (Ord.theForm x.op) x = true
  · rw [if_pos h10] at h; cases h
  rw [if_neg h10] at h
  by_cases h11 : Ord.c11 (Ord.theForm x.op) x = true
  · rw [if_pos h11] at h; cases h
  rw [if_neg h11] at h
  by_cases h13 : Ord.c13 x slots = true
  · rw [if_pos h13] at h; cases h
  rw [if_neg h13] at h
  refine ⟨fun hop => ?_, fun hw => ?_, fun he => ?_⟩
  · have hlo : (Ord.theForm x.op).low = 0 := by rcases hop with e | e <;> rw [e] <;> rfl
    simp only [Ord.c8, Bool.or_eq_true, decide_eq_true_eq, not_or, hlo] at h8
    simp only [Ord.c13, Bool.and_eq_true, Bool.or_eq_true, beq_iff_eq, decide_eq_true_eq, not_and] at h13
    have := h13 hop
    omega
  · unfold Ord.writes at hw ⊢
    unfold Ord.c7 at h7
    cases hf : (Ord.theForm x.op).wr with
    | false => rw [hf] at hw; simp at hw
    | true =>
      rw [hf] at h7
      simp [Ord.isReg] at h7
      simp only [if_true]
      exact h7.2
  · split at h
    · simp at h; omega
    · simp at h; exact h.2

/-- a register's order is known by what it asks -/
theorem Ord.readOk_no {st : Ord.St} {r : Int} (h : Ord.isReg r = false) : Ord.readOk st r = false := by unfold Ord.readOk; rw [h]; rfl
theorem Ord.readOk_reg {st : Ord.St} {r : Nat} {b : Bool} (hr : r < 8) (h : st.regs[r]? = some b) : Ord.readOk st (r : Int) = b := by
  unfold Ord.readOk Ord.isReg
  rw [Int.toNat_natCast, List.getD_eq_getElem?_getD, h]
  rw [decide_eq_true (by omega : (0 : Int) ≤ (r : Int) ∧ (r : Int) < 8)]; rfl

def OrdPost (st : Ord.St) (x : RO) (slots : Int) (exits : List RE) (base G : Nat) (w : World) (e : Ending) (w' : World) : Prop :=
  e = .returned (.int .i64 (Ord.orderErr st x slots exits)) ∧ (Ord.orderErr st x slots exits = 0 → Ws w' base G (Ord.after st x)) ∧ Below base w w'

set_option maxHeartbeats 6400000 in
set_option maxRecDepth 100000 in
theorem order_any (base G B slots ec : Nat) (EA : Option Addr) (st : Ord.St) (x : RO) (exits : List RE) (v0 v1 v2 v4 v6 v7 v8 v9 v10 v11 v12 v13 : Value) (w : World) (h : Ws w base G st) (hbG : base ≤ G) (hE : At w B EA exits) (hB : B ≤ base) (hsl : st.slots.length = slots)
    (hN : ∀ y ∈ exits, (Ord.places y).length * 16 ≤ 140737488355328) (hxi : I64 x.a ∧ I64 x.b ∧ I64 x.c) (hki : I64 x.k.1 ∧ I64 x.k.2) :
    Calls Try.prog 95 #[.pointer (some ⟨G, 0, none⟩), .agg #[.int .i64 x.op, .int .i64 x.a, .int .i64 x.b, .int .i64 x.c, .int .i64 x.n, .int .i64 x.exit, .int .i64 x.k.1, .int .i64 x.k.2], .agg #[v0, v1, v2, .int .i64 (slots : Int), v4, .slice EA exits.length ec, v6, v7, v8, v9, v10, v11, v12, v13]] w (OrdPost st x slots exits base G w) := by
  obtain ⟨P, hP⟩ : ∃ P, OrdPost st x slots exits base G w = P := ⟨_, rfl⟩
  rw [hP]
  have hGl := h.lt
  have HP := Lib.hid (And.intro hP.symm (And.intro hN (And.intro hxi hki))); clear hP hN hxi hki
  have H := Lib.hid (And.intro h (And.intro hE hsl)); clear h hE hsl
  go_enter Try.func95, Try.ntmps95
  go_wp2_with fail
  refine calls_world (fun W => Blk W w.heap.size 146 #[.int .i64 x.op, .int .i64 x.a, .int .i64 x.b, .int .i64 x.c, .int .i64 x.n, .int .i64 x.exit, .int .i64 x.k.1, .int .i64 x.k.2] ∧ Blk W (w.heap.size + 1) 104 #[v0, v1, v2, .int .i64 (slots : Int), v4, .slice EA exits.length ec, v6, v7, v8, v9, v10, v11, v12, v13] ∧ Below w.heap.size w W ∧ w.heap.size + 2 ≤ W.heap.size) ⟨(Blk.new _ _ _).alloc _, Blk.at_ _ _ _ (by simp), ((Below.refl _ _).alloc (Nat.le_refl _) _).alloc (by simp) _, by simp⟩ ?_
  rintro W ⟨hX, hC, hb0, hs0⟩
  refine (form_call x.op W).mono ?_
  rintro e w1 ⟨fr, fw, fl, fh, fn, fk, fe, b, hf, rfl, hb1⟩
  have hs1 := hb1.size
  have hbl := hb0.trans (hb1.mono (by omega))
  have H1 := Lib.hid (And.intro (H.out.1.fresh hbl) (And.intro (hX.fresh hb1) (hC.fresh hb1))); clear hX hC
  cases b with
  | false =>
    have he : Ord.orderErr st x slots exits = 7 := by unfold Ord.orderErr; rw [if_pos]; have := hf.out.2; cases hh : Ord.form x.op <;> rw [hh] at this <;> simp_all
    have HZ := Lib.hid he; clear he
    go_wp2_with fail
    rw [HP.out.1]
    exact ⟨by rw [HZ.out]; rfl, fun h => by rw [HZ.out] at h; exact absurd h (by decide), (hbl.mono (by omega)).alloc (by omega) _⟩
  | true =>
    have hro : ∀ i ∈ fr, i < 3 := by have := rd_ok x.op; rw [hf.out.1] at this; exact this
    have HR := Lib.hid hro; clear hro
    have hH1 : Ws (w1.alloc (.cells #[.string (Ord.lets fr), .bool fw, .int .i64 fl, .int .i64 fh, .bool fn, .bool fk, .int .i64 fe] 197)) base G st ∧ Blk (w1.alloc (.cells #[.string (Ord.lets fr), .bool fw, .int .i64 fl, .int .i64 fh, .bool fn, .bool fk, .int .i64 fe] 197)) w.heap.size 146 #[.int .i64 x.op, .int .i64 x.a, .int .i64 x.b, .int .i64 x.c, .int .i64 x.n, .int .i64 x.exit, .int .i64 x.k.1, .int .i64 x.k.2] ∧ Blk (w1.alloc (.cells #[.string (Ord.lets fr), .bool fw, .int .i64 fl, .int .i64 fh, .bool fn, .bool fk, .int .i64 fe] 197)) (w.heap.size + 1) 104 #[v0, v1, v2, .int .i64 (slots : Int), v4, .slice EA exits.length ec, v6, v7, v8, v9, v10, v11, v12, v13] ∧ Below w.heap.size w (w1.alloc (.cells #[.string (Ord.lets fr), .bool fw, .int .i64 fl, .int .i64 fh, .bool fn, .bool fk, .int .i64 fe] 197)) := ⟨H1.out.1.alloc _, H1.out.2.1.alloc _, H1.out.2.2.alloc _, hbl.alloc (by omega) _⟩
    have H2 := Lib.hid hH1; clear hH1
    go_wp2_with (first | (refine wpList_ld rfl 197 (.tmp 7) rfl w1.heap.size rfl (Blk.new w1 _ _) Try.underlying197 rfl (by kernel_rfl) ?_) | (refine wpList_ld rfl 146 (.tmp 4) rfl w.heap.size rfl H2.out.2.1 Try.underlying146 rfl (by kernel_rfl) ?_) | (refine wpList_ld rfl 104 (.tmp 5) rfl (w.heap.size + 1) rfl H2.out.2.2.1 Try.underlying104 rfl (by kernel_rfl) ?_))
    refine (right_any fr fw fl fh fn fk fe x slots exits.length ec EA v0 v1 v2 v4 v6 v7 v8 v9 v10 v11 v12 v13 _ HR.out HP.out.2.2.1 HP.out.2.2.2).mono ?_
    rintro e w2 ⟨he, hb2⟩
    obtain ⟨rb, hrb⟩ : ∃ rb, Ord.right (Ord.theForm x.op) x slots exits.length = rb := ⟨_, rfl⟩
    rw [← hf.out.1, hrb] at he
    subst he
    have hs2 := hb2.size
    simp only [World.size_alloc] at hs2
    have hbl2 : Below w.heap.size w w2 := H2.out.2.2.2.trans (hb2.mono (by simp; omega))
    have H3 := Lib.hid (And.intro (H2.out.1.fresh hb2) (And.intro (H2.out.2.1.fresh hb2) (H2.out.2.2.1.fresh hb2))); clear H1 H2 hb2 HR
    have hsome : (Ord.form x.op).isNone = false := by have := hf.out.2; cases hh : Ord.form x.op <;> rw [hh] at this <;> simp_all
    cases rb with
    | false =>
      have he : Ord.orderErr st x slots exits = 3 := by unfold Ord.orderErr; rw [if_neg (by rw [hsome]; decide), if_pos (by rw [hrb]; rfl)]
      have HZ := Lib.hid he; clear he hrb hsome
      go_wp2_with fail
      rw [HP.out.1]
      exact ⟨by rw [HZ.out]; rfl, fun h => by rw [HZ.out] at h; exact absurd h (by decide), hbl2.mono (by omega)⟩
    | true =>
      have hro := Ord.right_ok hrb
      have herr : Ord.orderErr st x slots exits = if (Ord.reads x).any (fun r => !Ord.readOk st r) then 3 else if x.op == 4 && !st.slots.getD x.n.toNat false then 3 else if Ord.exitBad st x exits then 3 else 0 := by
        unfold Ord.orderErr; rw [if_neg (by rw [hsome]; decide), if_neg (by rw [hrb]; decide)]
      have HE := Lib.hid (And.intro herr hro); clear herr hro hrb hsome
      go_wp2_with (refine wpList_ld rfl 146 (.tmp 4) rfl w.heap.size rfl H3.out.2.1 Try.underlying146 rfl (by kernel_rfl) ?_)
      refine (reads_any x w2 HP.out.2.2.1).mono ?_
      rintro e w3 ⟨RA, rc, m, rfl, hm, ho3, hb3⟩
      have hs3 := hb3.size
      have hrok : ∀ z ∈ Ord.reads x, I64 z := fun z hz => by
        unfold Ord.reads at hz
        obtain ⟨i, -, rfl⟩ := List.mem_map.1 hz
        exact fld_ok x HP.out.2.2.1 i
      have hbl3 : Below w.heap.size w w3 := hbl2.trans (hb3.mono (by omega))
      have H4 := Lib.hid (And.intro (H3.out.1.fresh hb3) (And.intro (H3.out.2.1.fresh hb3) (And.intro (H3.out.2.2.fresh hb3) (And.intro (ho3.at_ hrok) (And.intro hm hf.out))))); clear ho3 hb3 hm hrok H3 hf
      have hml : m ≤ 3 := by rw [← H4.out.2.2.2.2.1]; unfold Ord.reads; rw [List.length_map]; exact rd_len x.op
      go_wp2_with fail
      go_loopg [28] m (fun gk iv wr => ∃ (k : Nat), k ≤ m ∧ gk = m - k ∧ iv = .int .i64 k ∧ Hid (((Ord.reads x).take k).any (fun r => !Ord.readOk st r) = false) ∧ Below w3.heap.size w3 wr)
      case atStart => exact ⟨0, Nat.zero_le _, rfl, rfl, by simp [Hid], Below.refl _ _⟩
      case round =>
        obtain ⟨k, hk, rfl, rfl, hno, hbr⟩ := hrel
        have hsr := hbr.size
        have hbw : Below w.heap.size w wr := hbl3.trans (hbr.mono (by omega))
        by_cases hlt : k < m
        · obtain ⟨bb, o, r, rfl, hbb, hx, hor, r0⟩ := (H4.out.2.2.2.1.below hbr).int_ (k := k) (by have := H4.out.2.2.2.2.1; omega)
          have hsn := any_snoc (fun r => !Ord.readOk st r) (Ord.reads x) k r hx
          rw [hno.out, Bool.false_or] at hsn
          have hbad : Ord.readOk st r = false → Ord.orderErr st x slots exits = 3 := fun hh => by
            rw [HE.out.1, if_pos]
            exact List.any_eq_true.2 ⟨r, List.mem_of_getElem? hx, by rw [hh]; rfl⟩
          have hk0 : (0 : Int) ≤ (k : Int) := by omega
          have hk1 : (k : Int) < (m : Int) := by omega
          have HS := Lib.hid (And.intro hsn hbad); clear hsn hbad hx hno
          cases hreg : Ord.isReg r with
          | false =>
            have HZ := Lib.hid (HS.out.2 (Ord.readOk_no hreg))
            have HRG := Lib.hid hreg; clear hreg
            go_wp2_with (go_at_call 133; refine (isReg_any r _).mono ?_; rintro e w5 ⟨he5, rfl⟩; rw [HRG.out] at he5; subst he5)
            rw [HP.out.1]
            exact ⟨by rw [HZ.out]; rfl, fun h => by rw [HZ.out] at h; exact absurd h (by decide), hbw.mono (by omega)⟩
          | true =>
            have hr8 : 0 ≤ r ∧ r < 8 := by simpa [Ord.isReg] using hreg
            obtain ⟨q, rfl⟩ := Int.eq_ofNat_of_zero_le hr8.1
            have hq8 : q < 8 := by omega
            obtain ⟨A, c, hG, hO, h8⟩ := H4.out.1.fresh hbr
            obtain ⟨vb, hvb⟩ : ∃ vb, st.regs[q]? = some vb := ⟨_, List.getElem?_eq_getElem (by omega)⟩
            have g0 := hG.cell q (wrC_reg hvb)
            have hrk := Ord.readOk_reg hq8 hvb
            have ltG := hG.lt
            have HRG := Lib.hid (And.intro hreg hrk); clear hreg hrk hG hO h8 hvb
            obtain ⟨hr0, hr7⟩ := hr8
            cases vb with
            | false =>
              have HZ := Lib.hid (HS.out.2 HRG.out.2)
              go_wp2_with (go_at_call 133; refine (isReg_any _ _).mono ?_; rintro e w5 ⟨he5, rfl⟩; rw [HRG.out.1] at he5; subst he5)
              rw [HP.out.1]
              exact ⟨by rw [HZ.out]; rfl, fun h => by rw [HZ.out] at h; exact absurd h (by decide), hbw.mono (by omega)⟩
            | true =>
              go_wp2_with (go_at_call 133; refine (isReg_any _ _).mono ?_; rintro e w5 ⟨he5, rfl⟩; rw [HRG.out.1] at he5; subst he5)
              go_roundg (m - (k + 1))
              case measure => omega
              case rel => exact ⟨k + 1, by omega, rfl, by go_num, by unfold Hid; rw [HS.out.1, HRG.out.2]; rfl, hbr⟩
        · have hra := hno.out
          rw [List.take_of_length_le (by have := H4.out.2.2.2.2.1; omega)] at hra
          have herr : Ord.orderErr st x slots exits = if x.op == 4 && !st.slots.getD x.n.toNat false then 3 else if Ord.exitBad st x exits then 3 else 0 := by rw [HE.out.1, if_neg (by rw [hra]; decide)]
          have HF := Lib.hid (And.intro herr HE.out.2); clear herr hra hno HE
          have H5 := Lib.hid (And.intro (H4.out.1.fresh hbr) (And.intro (H4.out.2.1.fresh hbr) (H4.out.2.2.1.fresh hbr))); clear H4
          go_upto_region 12 with fail
          have x0 := H5.out.2.1.cell 0 (v := .int .i64 x.op) rfl
          have x4 := H5.out.2.1.cell 4 (v := .int .i64 x.n) rfl
          have x5 := H5.out.2.1.cell 5 (v := .int .i64 x.exit) rfl
          have c5 := H5.out.2.2.cell 5 (v := .slice EA exits.length ec) rfl
          have ltX : w.heap.size < wr.heap.size := by omega
          have ltC : w.heap.size + 1 < wr.heap.size := by omega
          obtain ⟨bb, hbb⟩ : ∃ bb, (x.op == 4 && !st.slots.getD x.n.toNat false || Ord.exitBad st x exits) = bb := ⟨_, rfl⟩
          have hErr : Ord.orderErr st x slots exits = if bb then 3 else 0 := by
            rw [HF.out.1, ← hbb]
            cases (x.op == 4 && !st.slots.getD x.n.toNat false) <;> cases Ord.exitBad st x exits <;> rfl
          have HBB := Lib.hid (And.intro hbb hErr); clear hbb hErr
          have hEw := H.out.2.1.below (hbw.mono (show B ≤ w.heap.size by omega))
          have HEX := Lib.hid hEw; clear hEw
          have hexb : (0 ≤ x.exit → False) → Ord.exitBad st x exits = false := fun hh => by unfold Ord.exitBad; rw [decide_eq_false (fun h => hh h)]; rfl
          have HXB := Lib.hid hexb; clear hexb
          go_cut [74] (fun ov W2 => ov = .bool bb ∧ Below wr.heap.size wr W2)
          case first =>
            cases d1 : (x.op == 4) with
            | false =>
              by_cases hx0 : 0 ≤ x.exit
              · have hx1 := HF.out.2.2.2 hx0
                obtain ⟨y, hy⟩ : ∃ y : Nat, x.exit = (y : Int) := ⟨x.exit.toNat, by omega⟩
                have hyl : y < exits.length := by omega
                obtain ⟨be, oe, ey, SA, sc, MA, mc, rfl, hbE, hey, e0, e1, e2, e3, as_, -, am_, -, -, -⟩ := HEX.out.rE_ hyl
                obtain ⟨N, hN⟩ : ∃ N, (Ord.places ey).length = N := ⟨_, rfl⟩
                have hNb := HP.out.2.1 ey (List.mem_of_getElem? hey)
                rw [hN] at hNb
                have hxe : Ord.exitBad st x exits = !Ord.all_ st ey := by unfold Ord.exitBad; rw [decide_eq_true hx0, hy, Int.toNat_natCast, hey]; rfl
                have HY := Lib.hid (And.intro as_ (And.intro am_ (And.intro hN (And.intro hNb hy))))
                have ltE : be < wr.heap.size := by omega
                have hd2 : decide (0 ≤ x.exit) = true := by simpa using hx0
                have hy0 : (0 : Int) ≤ (y : Int) := by omega
                have hy1 : (y : Int) < (exits.length : Int) := by omega
                rw [hy] at x5
                clear as_ am_ hN hNb hey hy hx0 hx1 hd2
                cases hav : Ord.all_ st ey with
                | true =>
                  have ht : bb = false := by rw [← HBB.out.1, hxe, hav, d1]; rfl
                  have HT := Lib.hid ht; have HV := Lib.hid hav; clear ht hav hxe
                  refine wp_region_held_drew (S := (fun w' => w'.cell? ⟨w.heap.size, 0, none⟩ = some (.int .i64 x.op) ∧ w'.cell? ⟨w.heap.size, 5, none⟩ = some (.int .i64 (y : Int)) ∧ w'.cell? ⟨w.heap.size + 1, 5, none⟩ = some (.slice (some ⟨be, oe, none⟩) exits.length ec) ∧ w'.cell? ⟨be, oe + y * 4, none⟩ = some (.int .i64 ey.at_) ∧ w'.cell? ⟨be, oe + y * 4 + 1, none⟩ = some (.int .i64 ey.steps) ∧ w'.cell? ⟨be, oe + y * 4 + 2, none⟩ = some (.slice SA ey.sets.length sc) ∧ w'.cell? ⟨be, oe + y * 4 + 3, none⟩ = some (.slice MA ey.makes.length mc))) (by kernel_rfl) ?_ (fun hHeld0 => ?_)
                  · first | trivial | ((try dsimp only); (exact ⟨x0, x5, c5, e0, e1, e2, e3⟩))
                  refine held_take (v := ?_) 0 rfl (by kernel_rfl) (by kernel_rfl) (by kernel_rfl) (fun _ _ _ h => h) (by rfl) ?_ (by assumption) ?_
                  rotate_left
                  · (intro w hSw; (try dsimp only at hSw); go_simp; try with_reducible rfl)
                  try simp only [Act.put, List.setIfInBounds_toArray, List.set_cons_zero, List.set_cons_succ]
                  refine held_take (v := ?_) 1 rfl (by kernel_rfl) (by kernel_rfl) (by kernel_rfl) (fun _ _ _ h => h) (by rfl) ?_ (by assumption) ?_
                  rotate_left
                  · (intro w hSw; (try dsimp only at hSw); go_simp; try with_reducible rfl)
                  try simp only [Act.put, List.setIfInBounds_toArray, List.set_cons_zero, List.set_cons_succ]
                  refine held_take (v := ?_) 2 rfl (by kernel_rfl) (by kernel_rfl) (by kernel_rfl) (fun _ _ _ h => h) (by rfl) ?_ (by assumption) ?_
                  rotate_left
                  · (intro w hSw; (try dsimp only at hSw); go_simp; try with_reducible rfl)
                  try simp only [Act.put, List.setIfInBounds_toArray, List.set_cons_zero, List.set_cons_succ]
                  refine held_take (v := ?_) 3 rfl (by kernel_rfl) (by kernel_rfl) (by kernel_rfl) (fun _ _ _ h => h) (by rfl) ?_ (by assumption) ?_
                  rotate_left
                  · (intro w hSw; (try dsimp only at hSw); go_simp; try with_reducible rfl)
                  try simp only [Act.put, List.setIfInBounds_toArray, List.set_cons_zero, List.set_cons_succ]
                  refine held_skip 4 rfl (by kernel_rfl) (by kernel_rfl) (by kernel_rfl) (fun _ _ _ h => h) (by rfl) (by assumption) ?_
                  try simp only [Act.put, List.setIfInBounds_toArray, List.set_cons_zero, List.set_cons_succ]
                  refine held_skip 5 rfl (by kernel_rfl) (by kernel_rfl) (by kernel_rfl) (fun _ _ _ h => h) (by rfl) (by assumption) ?_
                  try simp only [Act.put, List.setIfInBounds_toArray, List.set_cons_zero, List.set_cons_succ]
                  refine held_skip 6 rfl (by kernel_rfl) (by kernel_rfl) (by kernel_rfl) (fun _ _ _ h => h) (by rfl) (by assumption) ?_
                  try simp only [Act.put, List.setIfInBounds_toArray, List.set_cons_zero, List.set_cons_succ]
                  refine held_skip 7 rfl (by kernel_rfl) (by kernel_rfl) (by kernel_rfl) (fun _ _ _ h => h) (by rfl) (by assumption) ?_
                  try simp only [Act.put, List.setIfInBounds_toArray, List.set_cons_zero, List.set_cons_succ]
                  refine held_skip 8 rfl (by kernel_rfl) (by kernel_rfl) (by kernel_rfl) (fun _ _ _ h => h) (by rfl) (by assumption) ?_
                  try simp only [Act.put, List.setIfInBounds_toArray, List.set_cons_zero, List.set_cons_succ]
                  refine held_skip 9 rfl (by kernel_rfl) (by kernel_rfl) (by kernel_rfl) (fun _ _ _ h => h) (by rfl) (by assumption) ?_
                  try simp only [Act.put, List.setIfInBounds_toArray, List.set_cons_zero, List.set_cons_succ]
                  refine held_skip 10 rfl (by kernel_rfl) (by kernel_rfl) (by kernel_rfl) (fun _ _ _ h => h) (by rfl) (by assumption) ?_
                  try simp only [Act.put, List.setIfInBounds_toArray, List.set_cons_zero, List.set_cons_succ]
                  refine held_skip 11 rfl (by kernel_rfl) (by kernel_rfl) (by kernel_rfl) (fun _ _ _ h => h) (by rfl) (by assumption) ?_
                  try simp only [Act.put, List.setIfInBounds_toArray, List.set_cons_zero, List.set_cons_succ]
                  refine held_skip 12 rfl (by kernel_rfl) (by kernel_rfl) (by kernel_rfl) (fun _ _ _ h => h) (by rfl) (by assumption) ?_
                  try simp only [Act.put, List.setIfInBounds_toArray, List.set_cons_zero, List.set_cons_succ]
                  refine held_take (v := ?_) 13 rfl (by kernel_rfl) (by kernel_rfl) (by kernel_rfl) (fun _ _ _ h => h) (by rfl) ?_ (by assumption) ?_
                  rotate_left
                  · (intro w hSw; (try dsimp only at hSw); go_simp; try with_reducible rfl)
                  try simp only [Act.put, List.setIfInBounds_toArray, List.set_cons_zero, List.set_cons_succ]
                  refine held_take (v := ?_) 14 rfl (by kernel_rfl) (by kernel_rfl) (by kernel_rfl) (fun _ _ _ h => h) (by rfl) ?_ (by assumption) ?_
                  rotate_left
                  · (intro w hSw; (try dsimp only at hSw); go_simp; try with_reducible rfl)
                  try simp only [Act.put, List.setIfInBounds_toArray, List.set_cons_zero, List.set_cons_succ]
                  refine held_take (v := ?_) 15 rfl (by kernel_rfl) (by kernel_rfl) (by kernel_rfl) (fun _ _ _ h => h) (by rfl) ?_ (by assumption) ?_
                  rotate_left
                  · (intro w hSw; (try dsimp only at hSw); go_simp; try with_reducible rfl)
                  try simp only [Act.put, List.setIfInBounds_toArray, List.set_cons_zero, List.set_cons_succ]
                  refine held_take (v := ?_) 16 rfl (by kernel_rfl) (by kernel_rfl) (by kernel_rfl) (fun _ _ _ h => h) (by rfl) ?_ (by assumption) ?_
                  rotate_left
                  · (intro w hSw; (try dsimp only at hSw); go_simp; try with_reducible rfl)
                  try simp only [Act.put, List.setIfInBounds_toArray, List.set_cons_zero, List.set_cons_succ]
                  refine held_take (v := ?_) 17 rfl (by kernel_rfl) (by kernel_rfl) (by kernel_rfl) (fun _ _ _ h => h) (by rfl) ?_ (by assumption) ?_
                  rotate_left
                  · (intro w hSw; (try dsimp only at hSw); go_simp; try with_reducible rfl)
                  try simp only [Act.put, List.setIfInBounds_toArray, List.set_cons_zero, List.set_cons_succ]
                  refine held_take (v := ?_) 18 rfl (by kernel_rfl) (by kernel_rfl) (by kernel_rfl) (fun _ _ _ h => h) (by rfl) ?_ (by assumption) ?_
                  rotate_left
                  · (intro w hSw; (try dsimp only at hSw); go_simp; try with_reducible rfl)
                  try simp only [Act.put, List.setIfInBounds_toArray, List.set_cons_zero, List.set_cons_succ]
                  refine held_take (v := ?_) 19 rfl (by kernel_rfl) (by kernel_rfl) (by kernel_rfl) (fun _ _ _ h => h) (by rfl) ?_ (by assumption) ?_
                  rotate_left
                  · (intro w hSw; (try dsimp only at hSw); go_simp; try with_reducible rfl)
                  try simp only [Act.put, List.setIfInBounds_toArray, List.set_cons_zero, List.set_cons_succ]
                  refine held_take (v := ?_) 20 rfl (by kernel_rfl) (by kernel_rfl) (by kernel_rfl) (fun _ _ _ h => h) (by rfl) ?_ (by assumption) ?_
                  rotate_left
                  · (intro w hSw; (try dsimp only at hSw); go_simp; try with_reducible rfl)
                  try simp only [Act.put, List.setIfInBounds_toArray, List.set_cons_zero, List.set_cons_succ]
                  refine held_take (v := ?_) 21 rfl (by kernel_rfl) (by kernel_rfl) (by kernel_rfl) (fun _ _ _ h => h) (by rfl) ?_ (by assumption) ?_
                  rotate_left
                  · (intro w hSw; (try dsimp only at hSw); go_simp; try with_reducible rfl)
                  try simp only [Act.put, List.setIfInBounds_toArray, List.set_cons_zero, List.set_cons_succ]
                  refine held_take (v := ?_) 22 rfl (by kernel_rfl) (by kernel_rfl) (by kernel_rfl) (fun _ _ _ h => h) (by rfl) ?_ (by assumption) ?_
                  rotate_left
                  · (intro w hSw; (try dsimp only at hSw); go_simp; try with_reducible rfl)
                  try simp only [Act.put, List.setIfInBounds_toArray, List.set_cons_zero, List.set_cons_succ]
                  refine held_take (v := ?_) 23 rfl (by kernel_rfl) (by kernel_rfl) (by kernel_rfl) (fun _ _ _ h => h) (by rfl) ?_ (by assumption) ?_
                  rotate_left
                  · (intro w hSw; (try dsimp only at hSw); go_simp; try with_reducible rfl)
                  try simp only [Act.put, List.setIfInBounds_toArray, List.set_cons_zero, List.set_cons_succ]
                  refine held_take (v := ?_) 24 rfl (by kernel_rfl) (by kernel_rfl) (by kernel_rfl) (fun _ _ _ h => h) (by rfl) ?_ (by assumption) ?_
                  rotate_left
                  · (intro w hSw; (try dsimp only at hSw); go_simp; try with_reducible rfl)
                  try simp only [Act.put, List.setIfInBounds_toArray, List.set_cons_zero, List.set_cons_succ]
                  refine held_take (v := ?_) 25 rfl (by kernel_rfl) (by kernel_rfl) (by kernel_rfl) (fun _ _ _ h => h) (by rfl) ?_ (by assumption) ?_
                  rotate_left
                  · (intro w hSw; (try dsimp only at hSw); go_simp; try with_reducible rfl)
                  try simp only [Act.put, List.setIfInBounds_toArray, List.set_cons_zero, List.set_cons_succ]
                  refine held_call 26 (by kernel_rfl) rfl (fun K hK => ?_)
                  go_simp
                  go_at_call 94; refine (all_any base G B sc mc N SA MA st ey _ (H5.out.1.drew) (HY.out.1.drew) (HY.out.2.1.drew) (show B ≤ wr.heap.size by omega) HY.out.2.2.1 HY.out.2.2.2.1).mono ?_; rintro e w4 ⟨he, hb4d⟩; obtain rfl : e = .returned (.bool true) := (by (rw [he, HV.out])); clear he; have hb4 : Below wr.heap.size wr w4 := undrew hb4d; clear hb4d
                  try (go_wp2_with fail)
                  refine hK.out _ _ ?_ (fun hHeld1 => ?_)
                  · first | trivial | ((try dsimp only); (exact ⟨(hb4.cell (p := ⟨w.heap.size, 0, none⟩) ltX).trans x0, (hb4.cell (p := ⟨w.heap.size, 5, none⟩) ltX).trans x5, (hb4.cell (p := ⟨w.heap.size + 1, 5, none⟩) ltC).trans c5, (hb4.cell (p := ⟨be, oe + y * 4, none⟩) ltE).trans e0, (hb4.cell (p := ⟨be, oe + y * 4 + 1, none⟩) ltE).trans e1, (hb4.cell (p := ⟨be, oe + y * 4 + 2, none⟩) ltE).trans e2, (hb4.cell (p := ⟨be, oe + y * 4 + 3, none⟩) ltE).trans e3⟩))
                  clear hK K hHeld0
                  try simp only [Act.put, List.setIfInBounds_toArray, List.set_cons_zero, List.set_cons_succ]
                  refine held_take (v := ?_) 27 rfl (by kernel_rfl) (by kernel_rfl) (by kernel_rfl) (fun _ _ _ h => h) (by rfl) ?_ (by assumption) ?_
                  rotate_left
                  · (intro w hSw; (try dsimp only at hSw); go_simp; try with_reducible rfl)
                  try simp only [Act.put, List.setIfInBounds_toArray, List.set_cons_zero, List.set_cons_succ]
                  refine held_take (v := ?_) 28 rfl (by kernel_rfl) (by kernel_rfl) (by kernel_rfl) (fun _ _ _ h => h) (by rfl) ?_ (by assumption) ?_
                  rotate_left
                  · (intro w hSw; (try dsimp only at hSw); go_simp; try with_reducible rfl)
                  try simp only [Act.put, List.setIfInBounds_toArray, List.set_cons_zero, List.set_cons_succ]
                  refine held_take (v := ?_) 29 rfl (by kernel_rfl) (by kernel_rfl) (by kernel_rfl) (fun _ _ _ h => h) (by rfl) ?_ (by assumption) ?_
                  rotate_left
                  · (intro w hSw; (try dsimp only at hSw); go_simp; try with_reducible rfl)
                  try simp only [Act.put, List.setIfInBounds_toArray, List.set_cons_zero, List.set_cons_succ]
                  refine wpAnyH_done (by kernel_rfl) ?_ _
                  go_wp2_with fail
                  go_meet
                  exact ⟨by rw [HT.out], hb4⟩
                | false =>
                  have ht : bb = true := by rw [← HBB.out.1, hxe, hav, d1]; rfl
                  have HT := Lib.hid ht; have HV := Lib.hid hav; clear ht hav hxe
                  refine wp_region_held_drew (S := (fun w' => w'.cell? ⟨w.heap.size, 0, none⟩ = some (.int .i64 x.op) ∧ w'.cell? ⟨w.heap.size, 5, none⟩ = some (.int .i64 (y : Int)) ∧ w'.cell? ⟨w.heap.size + 1, 5, none⟩ = some (.slice (some ⟨be, oe, none⟩) exits.length ec) ∧ w'.cell? ⟨be, oe + y * 4, none⟩ = some (.int .i64 ey.at_) ∧ w'.cell? ⟨be, oe + y * 4 + 1, none⟩ = some (.int .i64 ey.steps) ∧ w'.cell? ⟨be, oe + y * 4 + 2, none⟩ = some (.slice SA ey.sets.length sc) ∧ w'.cell? ⟨be, oe + y * 4 + 3, none⟩ = some (.slice MA ey.makes.length mc))) (by kernel_rfl) ?_ (fun hHeld0 => ?_)
                  · first | trivial | ((try dsimp only); (exact ⟨x0, x5, c5, e0, e1, e2, e3⟩))
                  refine held_take (v := ?_) 0 rfl (by kernel_rfl) (by kernel_rfl) (by kernel_rfl) (fun _ _ _ h => h) (by rfl) ?_ (by assumption) ?_
                  rotate_left
                  · (intro w hSw; (try dsimp only at hSw); go_simp; try with_reducible rfl)
                  try simp only [Act.put, List.setIfInBounds_toArray, List.set_cons_zero, List.set_cons_succ]
                  refine held_take (v := ?_) 1 rfl (by kernel_rfl) (by kernel_rfl) (by kernel_rfl) (fun _ _ _ h => h) (by rfl) ?_ (by assumption) ?_
                  rotate_left
                  · (intro w hSw; (try dsimp only at hSw); go_simp; try with_reducible rfl)
                  try simp only [Act.put, List.setIfInBounds_toArray, List.set_cons_zero, List.set_cons_succ]
                  refine held_take (v := ?_) 2 rfl (by kernel_rfl) (by kernel_rfl) (by kernel_rfl) (fun _ _ _ h => h) (by rfl) ?_ (by assumption) ?_
                  rotate_left
                  · (intro w hSw; (try dsimp only at hSw); go_simp; try with_reducible rfl)
                  try simp only [Act.put, List.setIfInBounds_toArray, List.set_cons_zero, List.set_cons_succ]
                  refine held_take (v := ?_) 3 rfl (by kernel_rfl) (by kernel_rfl) (by kernel_rfl) (fun _ _ _ h => h) (by rfl) ?_ (by assumption) ?_
                  rotate_left
                  · (intro w hSw; (try dsimp only at hSw); go_simp; try with_reducible rfl)
                  try simp only [Act.put, List.setIfInBounds_toArray, List.set_cons_zero, List.set_cons_succ]
                  refine held_skip 4 rfl (by kernel_rfl) (by kernel_rfl) (by kernel_rfl) (fun _ _ _ h => h) (by rfl) (by assumption) ?_
                  try simp only [Act.put, List.setIfInBounds_toArray, List.set_cons_zero, List.set_cons_succ]
                  refine held_skip 5 rfl (by kernel_rfl) (by kernel_rfl) (by kernel_rfl) (fun _ _ _ h => h) (by rfl) (by assumption) ?_
                  try simp only [Act.put, List.setIfInBounds_toArray, List.set_cons_zero, List.set_cons_succ]
                  refine held_skip 6 rfl (by kernel_rfl) (by kernel_rfl) (by kernel_rfl) (fun _ _ _ h => h) (by rfl) (by assumption) ?_
                  try simp only [Act.put, List.setIfInBounds_toArray, List.set_cons_zero, List.set_cons_succ]
                  refine held_skip 7 rfl (by kernel_rfl) (by kernel_rfl) (by kernel_rfl) (fun _ _ _ h => h) (by rfl) (by assumption) ?_
                  try simp only [Act.put, List.setIfInBounds_toArray, List.set_cons_zero, List.set_cons_succ]
                  refine held_skip 8 rfl (by kernel_rfl) (by kernel_rfl) (by kernel_rfl) (fun _ _ _ h => h) (by rfl) (by assumption) ?_
                  try simp only [Act.put, List.setIfInBounds_toArray, List.set_cons_zero, List.set_cons_succ]
                  refine held_skip 9 rfl (by kernel_rfl) (by kernel_rfl) (by kernel_rfl) (fun _ _ _ h => h) (by rfl) (by assumption) ?_
                  try simp only [Act.put, List.setIfInBounds_toArray, List.set_cons_zero, List.set_cons_succ]
                  refine held_skip 10 rfl (by kernel_rfl) (by kernel_rfl) (by kernel_rfl) (fun _ _ _ h => h) (by rfl) (by assumption) ?_
                  try simp only [Act.put, List.setIfInBounds_toArray, List.set_cons_zero, List.set_cons_succ]
                  refine held_skip 11 rfl (by kernel_rfl) (by kernel_rfl) (by kernel_rfl) (fun _ _ _ h => h) (by rfl) (by assumption) ?_
                  try simp only [Act.put, List.setIfInBounds_toArray, List.set_cons_zero, List.set_cons_succ]
                  refine held_skip 12 rfl (by kernel_rfl) (by kernel_rfl) (by kernel_rfl) (fun _ _ _ h => h) (by rfl) (by assumption) ?_
                  try simp only [Act.put, List.setIfInBounds_toArray, List.set_cons_zero, List.set_cons_succ]
                  refine held_take (v := ?_) 13 rfl (by kernel_rfl) (by kernel_rfl) (by kernel_rfl) (fun _ _ _ h => h) (by rfl) ?_ (by assumption) ?_
                  rotate_left
                  · (intro w hSw; (try dsimp only at hSw); go_simp; try with_reducible rfl)
                  try simp only [Act.put, List.setIfInBounds_toArray, List.set_cons_zero, List.set_cons_succ]
                  refine held_take (v := ?_) 14 rfl (by kernel_rfl) (by kernel_rfl) (by kernel_rfl) (fun _ _ _ h => h) (by rfl) ?_ (by assumption) ?_
                  rotate_left
                  · (intro w hSw; (try dsimp only at hSw); go_simp; try with_reducible rfl)
                  try simp only [Act.put, List.setIfInBounds_toArray, List.set_cons_zero, List.set_cons_succ]
                  refine held_take (v := ?_) 15 rfl (by kernel_rfl) (by kernel_rfl) (by kernel_rfl) (fun _ _ _ h => h) (by rfl) ?_ (by assumption) ?_
                  rotate_left
                  · (intro w hSw; (try dsimp only at hSw); go_simp; try with_reducible rfl)
                  try simp only [Act.put, List.setIfInBounds_toArray, List.set_cons_zero, List.set_cons_succ]
                  refine held_take (v := ?_) 16 rfl (by kernel_rfl) (by kernel_rfl) (by kernel_rfl) (fun _ _ _ h => h) (by rfl) ?_ (by assumption) ?_
                  rotate_left
                  · (intro w hSw; (try dsimp only at hSw); go_simp; try with_reducible rfl)
                  try simp only [Act.put, List.setIfInBounds_toArray, List.set_cons_zero, List.set_cons_succ]
                  refine held_take (v := ?_) 17 rfl (by kernel_rfl) (by kernel_rfl) (by kernel_rfl) (fun _ _ _ h => h) (by rfl) ?_ (by assumption) ?_
                  rotate_left
                  · (intro w hSw; (try dsimp only at hSw); go_simp; try with_reducible rfl)
                  try simp only [Act.put, List.setIfInBounds_toArray, List.set_cons_zero, List.set_cons_succ]
                  refine held_take (v := ?_) 18 rfl (by kernel_rfl) (by kernel_rfl) (by kernel_rfl) (fun _ _ _ h => h) (by rfl) ?_ (by assumption) ?_
                  rotate_left
                  · (intro w hSw; (try dsimp only at hSw); go_simp; try with_reducible rfl)
                  try simp only [Act.put, List.setIfInBounds_toArray, List.set_cons_zero, List.set_cons_succ]
                  refine held_take (v := ?_) 19 rfl (by kernel_rfl) (by kernel_rfl) (by kernel_rfl) (fun _ _ _ h => h) (by rfl) ?_ (by assumption) ?_
                  rotate_left
                  · (intro w hSw; (try dsimp only at hSw); go_simp; try with_reducible rfl)
                  try simp only [Act.put, List.setIfInBounds_toArray, List.set_cons_zero, List.set_cons_succ]
                  refine held_take (v := ?_) 20 rfl (by kernel_rfl) (by kernel_rfl) (by kernel_rfl) (fun _ _ _ h => h) (by rfl) ?_ (by assumption) ?_
                  rotate_left
                  · (intro w hSw; (try dsimp only at hSw); go_simp; try with_reducible rfl)
                  try simp only [Act.put, List.setIfInBounds_toArray, List.set_cons_zero, List.set_cons_succ]
                  refine held_take (v := ?_) 21 rfl (by kernel_rfl) (by kernel_rfl) (by kernel_rfl) (fun _ _ _ h => h) (by rfl) ?_ (by assumption) ?_
                  rotate_left
                  · (intro w hSw; (try dsimp only at hSw); go_simp; try with_reducible rfl)
                  try simp only [Act.put, List.setIfInBounds_toArray, List.set_cons_zero, List.set_cons_succ]
                  refine held_take (v := ?_) 22 rfl (by kernel_rfl) (by kernel_rfl) (by kernel_rfl) (fun _ _ _ h => h) (by rfl) ?_ (by assumption) ?_
                  rotate_left
                  · (intro w hSw; (try dsimp only at hSw); go_simp; try with_reducible rfl)
                  try simp only [Act.put, List.setIfInBounds_toArray, List.set_cons_zero, List.set_cons_succ]
                  refine held_take (v := ?_) 23 rfl (by kernel_rfl) (by kernel_rfl) (by kernel_rfl) (fun _ _ _ h => h) (by rfl) ?_ (by assumption) ?_
                  rotate_left
                  · (intro w hSw; (try dsimp only at hSw); go_simp; try with_reducible rfl)
                  try simp only [Act.put, List.setIfInBounds_toArray, List.set_cons_zero, List.set_cons_succ]
                  refine held_take (v := ?_) 24 rfl (by kernel_rfl) (by kernel_rfl) (by kernel_rfl) (fun _ _ _ h => h) (by rfl) ?_ (by assumption) ?_
                  rotate_left
                  · (intro w hSw; (try dsimp only at hSw); go_simp; try with_reducible rfl)
                  try simp only [Act.put, List.setIfInBounds_toArray, List.set_cons_zero, List.set_cons_succ]
                  refine held_take (v := ?_) 25 rfl (by kernel_rfl) (by kernel_rfl) (by kernel_rfl) (fun _ _ _ h => h) (by rfl) ?_ (by assumption) ?_
                  rotate_left
                  · (intro w hSw; (try dsimp only at hSw); go_simp; try with_reducible rfl)
                  try simp only [Act.put, List.setIfInBounds_toArray, List.set_cons_zero, List.set_cons_succ]
                  refine held_call 26 (by kernel_rfl) rfl (fun K hK => ?_)
                  go_simp
                  go_at_call 94; refine (all_any base G B sc mc N SA MA st ey _ (H5.out.1.drew) (HY.out.1.drew) (HY.out.2.1.drew) (show B ≤ wr.heap.size by omega) HY.out.2.2.1 HY.out.2.2.2.1).mono ?_; rintro e w4 ⟨he, hb4d⟩; obtain rfl : e = .returned (.bool false) := (by (rw [he, HV.out])); clear he; have hb4 : Below wr.heap.size wr w4 := undrew hb4d; clear hb4d
                  try (go_wp2_with fail)
                  refine hK.out _ _ ?_ (fun hHeld1 => ?_)
                  · first | trivial | ((try dsimp only); (exact ⟨(hb4.cell (p := ⟨w.heap.size, 0, none⟩) ltX).trans x0, (hb4.cell (p := ⟨w.heap.size, 5, none⟩) ltX).trans x5, (hb4.cell (p := ⟨w.heap.size + 1, 5, none⟩) ltC).trans c5, (hb4.cell (p := ⟨be, oe + y * 4, none⟩) ltE).trans e0, (hb4.cell (p := ⟨be, oe + y * 4 + 1, none⟩) ltE).trans e1, (hb4.cell (p := ⟨be, oe + y * 4 + 2, none⟩) ltE).trans e2, (hb4.cell (p := ⟨be, oe + y * 4 + 3, none⟩) ltE).trans e3⟩))
                  clear hK K hHeld0
                  try simp only [Act.put, List.setIfInBounds_toArray, List.set_cons_zero, List.set_cons_succ]
                  refine held_take (v := ?_) 27 rfl (by kernel_rfl) (by kernel_rfl) (by kernel_rfl) (fun _ _ _ h => h) (by rfl) ?_ (by assumption) ?_
                  rotate_left
                  · (intro w hSw; (try dsimp only at hSw); go_simp; try with_reducible rfl)
                  try simp only [Act.put, List.setIfInBounds_toArray, List.set_cons_zero, List.set_cons_succ]
                  refine held_take (v := ?_) 28 rfl (by kernel_rfl) (by kernel_rfl) (by kernel_rfl) (fun _ _ _ h => h) (by rfl) ?_ (by assumption) ?_
                  rotate_left
                  · (intro w hSw; (try dsimp only at hSw); go_simp; try with_reducible rfl)
                  try simp only [Act.put, List.setIfInBounds_toArray, List.set_cons_zero, List.set_cons_succ]
                  refine held_take (v := ?_) 29 rfl (by kernel_rfl) (by kernel_rfl) (by kernel_rfl) (fun _ _ _ h => h) (by rfl) ?_ (by assumption) ?_
                  rotate_left
                  · (intro w hSw; (try dsimp only at hSw); go_simp; try with_reducible rfl)
                  try simp only [Act.put, List.setIfInBounds_toArray, List.set_cons_zero, List.set_cons_succ]
                  refine wpAnyH_done (by kernel_rfl) ?_ _
                  go_wp2_with fail
                  go_meet
                  exact ⟨by rw [HT.out], hb4⟩
              · have ht : bb = false := by rw [← HBB.out.1, HXB.out hx0, d1]; rfl
                have hd2 : decide (0 ≤ x.exit) = false := by simpa using hx0
                have HT := Lib.hid ht; clear ht hx0
                refine wp_region_held_drew (S := (fun w' => w'.cell? ⟨w.heap.size, 0, none⟩ = some (.int .i64 x.op) ∧ w'.cell? ⟨w.heap.size, 5, none⟩ = some (.int .i64 x.exit))) (by kernel_rfl) ?_ (fun hHeld0 => ?_)
                · first | trivial | ((try dsimp only); (exact ⟨x0, x5⟩))
                refine held_take (v := ?_) 0 rfl (by kernel_rfl) (by kernel_rfl) (by kernel_rfl) (fun _ _ _ h => h) (by rfl) ?_ (by assumption) ?_
                rotate_left
                · (intro w hSw; (try dsimp only at hSw); go_simp; try with_reducible rfl)
                try simp only [Act.put, List.setIfInBounds_toArray, List.set_cons_zero, List.set_cons_succ]
                refine held_take (v := ?_) 1 rfl (by kernel_rfl) (by kernel_rfl) (by kernel_rfl) (fun _ _ _ h => h) (by rfl) ?_ (by assumption) ?_
                rotate_left
                · (intro w hSw; (try dsimp only at hSw); go_simp; try with_reducible rfl)
                try simp only [Act.put, List.setIfInBounds_toArray, List.set_cons_zero, List.set_cons_succ]
                refine held_take (v := ?_) 2 rfl (by kernel_rfl) (by kernel_rfl) (by kernel_rfl) (fun _ _ _ h => h) (by rfl) ?_ (by assumption) ?_
                rotate_left
                · (intro w hSw; (try dsimp only at hSw); go_simp; try with_reducible rfl)
                try simp only [Act.put, List.setIfInBounds_toArray, List.set_cons_zero, List.set_cons_succ]
                refine held_take (v := ?_) 3 rfl (by kernel_rfl) (by kernel_rfl) (by kernel_rfl) (fun _ _ _ h => h) (by rfl) ?_ (by assumption) ?_
                rotate_left
                · (intro w hSw; (try dsimp only at hSw); go_simp; try with_reducible rfl)
                try simp only [Act.put, List.setIfInBounds_toArray, List.set_cons_zero, List.set_cons_succ]
                refine held_skip 4 rfl (by kernel_rfl) (by kernel_rfl) (by kernel_rfl) (fun _ _ _ h => h) (by rfl) (by assumption) ?_
                try simp only [Act.put, List.setIfInBounds_toArray, List.set_cons_zero, List.set_cons_succ]
                refine held_skip 5 rfl (by kernel_rfl) (by kernel_rfl) (by kernel_rfl) (fun _ _ _ h => h) (by rfl) (by assumption) ?_
                try simp only [Act.put, List.setIfInBounds_toArray, List.set_cons_zero, List.set_cons_succ]
                refine held_skip 6 rfl (by kernel_rfl) (by kernel_rfl) (by kernel_rfl) (fun _ _ _ h => h) (by rfl) (by assumption) ?_
                try simp only [Act.put, List.setIfInBounds_toArray, List.set_cons_zero, List.set_cons_succ]
                refine held_skip 7 rfl (by kernel_rfl) (by kernel_rfl) (by kernel_rfl) (fun _ _ _ h => h) (by rfl) (by assumption) ?_
                try simp only [Act.put, List.setIfInBounds_toArray, List.set_cons_zero, List.set_cons_succ]
                refine held_skip 8 rfl (by kernel_rfl) (by kernel_rfl) (by kernel_rfl) (fun _ _ _ h => h) (by rfl) (by assumption) ?_
                try simp only [Act.put, List.setIfInBounds_toArray, List.set_cons_zero, List.set_cons_succ]
                refine held_skip 9 rfl (by kernel_rfl) (by kernel_rfl) (by kernel_rfl) (fun _ _ _ h => h) (by rfl) (by assumption) ?_
                try simp only [Act.put, List.setIfInBounds_toArray, List.set_cons_zero, List.set_cons_succ]
                refine held_skip 10 rfl (by kernel_rfl) (by kernel_rfl) (by kernel_rfl) (fun _ _ _ h => h) (by rfl) (by assumption) ?_
                try simp only [Act.put, List.setIfInBounds_toArray, List.set_cons_zero, List.set_cons_succ]
                refine held_skip 11 rfl (by kernel_rfl) (by kernel_rfl) (by kernel_rfl) (fun _ _ _ h => h) (by rfl) (by assumption) ?_
                try simp only [Act.put, List.setIfInBounds_toArray, List.set_cons_zero, List.set_cons_succ]
                refine held_skip 12 rfl (by kernel_rfl) (by kernel_rfl) (by kernel_rfl) (fun _ _ _ h => h) (by rfl) (by assumption) ?_
                try simp only [Act.put, List.setIfInBounds_toArray, List.set_cons_zero, List.set_cons_succ]
                refine held_take (v := ?_) 13 rfl (by kernel_rfl) (by kernel_rfl) (by kernel_rfl) (fun _ _ _ h => h) (by rfl) ?_ (by assumption) ?_
                rotate_left
                · (intro w hSw; (try dsimp only at hSw); go_simp; try with_reducible rfl)
                try simp only [Act.put, List.setIfInBounds_toArray, List.set_cons_zero, List.set_cons_succ]
                refine held_take (v := ?_) 14 rfl (by kernel_rfl) (by kernel_rfl) (by kernel_rfl) (fun _ _ _ h => h) (by rfl) ?_ (by assumption) ?_
                rotate_left
                · (intro w hSw; (try dsimp only at hSw); go_simp; try with_reducible rfl)
                try simp only [Act.put, List.setIfInBounds_toArray, List.set_cons_zero, List.set_cons_succ]
                refine held_take (v := ?_) 15 rfl (by kernel_rfl) (by kernel_rfl) (by kernel_rfl) (fun _ _ _ h => h) (by rfl) ?_ (by assumption) ?_
                rotate_left
                · (intro w hSw; (try dsimp only at hSw); go_simp; try with_reducible rfl)
                try simp only [Act.put, List.setIfInBounds_toArray, List.set_cons_zero, List.set_cons_succ]
                refine held_take (v := ?_) 16 rfl (by kernel_rfl) (by kernel_rfl) (by kernel_rfl) (fun _ _ _ h => h) (by rfl) ?_ (by assumption) ?_
                rotate_left
                · (intro w hSw; (try dsimp only at hSw); go_simp; try with_reducible rfl)
                try simp only [Act.put, List.setIfInBounds_toArray, List.set_cons_zero, List.set_cons_succ]
                refine held_take (v := ?_) 17 rfl (by kernel_rfl) (by kernel_rfl) (by kernel_rfl) (fun _ _ _ h => h) (by rfl) ?_ (by assumption) ?_
                rotate_left
                · (intro w hSw; (try dsimp only at hSw); go_simp; try with_reducible rfl)
                try simp only [Act.put, List.setIfInBounds_toArray, List.set_cons_zero, List.set_cons_succ]
                refine held_take (v := ?_) 18 rfl (by kernel_rfl) (by kernel_rfl) (by kernel_rfl) (fun _ _ _ h => h) (by rfl) ?_ (by assumption) ?_
                rotate_left
                · (intro w hSw; (try dsimp only at hSw); go_simp; try with_reducible rfl)
                try simp only [Act.put, List.setIfInBounds_toArray, List.set_cons_zero, List.set_cons_succ]
                refine held_skip 19 rfl (by kernel_rfl) (by kernel_rfl) (by kernel_rfl) (fun _ _ _ h => h) (by rfl) (by assumption) ?_
                try simp only [Act.put, List.setIfInBounds_toArray, List.set_cons_zero, List.set_cons_succ]
                refine held_skip 20 rfl (by kernel_rfl) (by kernel_rfl) (by kernel_rfl) (fun _ _ _ h => h) (by rfl) (by assumption) ?_
                try simp only [Act.put, List.setIfInBounds_toArray, List.set_cons_zero, List.set_cons_succ]
                refine held_skip 21 rfl (by kernel_rfl) (by kernel_rfl) (by kernel_rfl) (fun _ _ _ h => h) (by rfl) (by assumption) ?_
                try simp only [Act.put, List.setIfInBounds_toArray, List.set_cons_zero, List.set_cons_succ]
                refine held_skip 22 rfl (by kernel_rfl) (by kernel_rfl) (by kernel_rfl) (fun _ _ _ h => h) (by rfl) (by assumption) ?_
                try simp only [Act.put, List.setIfInBounds_toArray, List.set_cons_zero, List.set_cons_succ]
                refine held_skip 23 rfl (by kernel_rfl) (by kernel_rfl) (by kernel_rfl) (fun _ _ _ h => h) (by rfl) (by assumption) ?_
                try simp only [Act.put, List.setIfInBounds_toArray, List.set_cons_zero, List.set_cons_succ]
                refine held_skip 24 rfl (by kernel_rfl) (by kernel_rfl) (by kernel_rfl) (fun _ _ _ h => h) (by rfl) (by assumption) ?_
                try simp only [Act.put, List.setIfInBounds_toArray, List.set_cons_zero, List.set_cons_succ]
                refine held_skip 25 rfl (by kernel_rfl) (by kernel_rfl) (by kernel_rfl) (fun _ _ _ h => h) (by rfl) (by assumption) ?_
                try simp only [Act.put, List.setIfInBounds_toArray, List.set_cons_zero, List.set_cons_succ]
                refine held_skip 26 rfl (by kernel_rfl) (by kernel_rfl) (by kernel_rfl) (fun _ _ _ h => h) (by rfl) (by assumption) ?_
                try simp only [Act.put, List.setIfInBounds_toArray, List.set_cons_zero, List.set_cons_succ]
                refine held_skip 27 rfl (by kernel_rfl) (by kernel_rfl) (by kernel_rfl) (fun _ _ _ h => h) (by rfl) (by assumption) ?_
                try simp only [Act.put, List.setIfInBounds_toArray, List.set_cons_zero, List.set_cons_succ]
                refine held_take (v := ?_) 28 rfl (by kernel_rfl) (by kernel_rfl) (by kernel_rfl) (fun _ _ _ h => h) (by rfl) ?_ (by assumption) ?_
                rotate_left
                · (intro w hSw; (try dsimp only at hSw); go_simp; try with_reducible rfl)
                try simp only [Act.put, List.setIfInBounds_toArray, List.set_cons_zero, List.set_cons_succ]
                refine held_take (v := ?_) 29 rfl (by kernel_rfl) (by kernel_rfl) (by kernel_rfl) (fun _ _ _ h => h) (by rfl) ?_ (by assumption) ?_
                rotate_left
                · (intro w hSw; (try dsimp only at hSw); go_simp; try with_reducible rfl)
                try simp only [Act.put, List.setIfInBounds_toArray, List.set_cons_zero, List.set_cons_succ]
                refine wpAnyH_done (by kernel_rfl) ?_ _
                go_wp2_with fail
                go_meet
                exact ⟨by rw [HT.out], (Below.refl _ _).drew⟩
            | true =>
              have hop4 : x.op = 4 := by simpa using d1
              obtain ⟨hn0, hn1⟩ := HF.out.2.1 (.inr hop4)
              obtain ⟨j, hj⟩ : ∃ j : Nat, x.n = (j : Int) := ⟨x.n.toNat, by omega⟩
              have hjl : j < slots := by omega
              obtain ⟨SA0, sc0, hG, hO, h8⟩ := H5.out.1
              have hsl := H.out.2.2
              rw [hsl] at hG
              obtain ⟨sv, hsv0⟩ : ∃ sv, st.slots[j]? = some sv := ⟨_, List.getElem?_eq_getElem (by omega)⟩
              obtain ⟨gs, rfl, hgs1, ltS⟩ := hO.some_ (by omega)
              have s0 := hO.cell_bool hsv0
              have g8 := hG.cell 8 (wrC_slots h8)
              have ltG := hG.lt
              have hsv : st.slots.getD x.n.toNat false = sv := by rw [hj, Int.toNat_natCast, List.getD_eq_getElem?_getD, hsv0]; rfl
              rw [hj] at x4
              have hj0 : (0 : Int) ≤ (j : Int) := by omega
              have hj1 : (j : Int) < (slots : Int) := by omega
              clear hop4 hn0 hn1 hj hG hO h8 hsl hsv0
              cases sv with
              | false =>
                have ht : bb = true := by rw [← HBB.out.1, d1, hsv]; rfl
                have HT := Lib.hid ht; clear ht hsv
                refine wp_region_held_drew (S := (fun w' => w'.cell? ⟨w.heap.size, 0, none⟩ = some (.int .i64 x.op) ∧ w'.cell? ⟨w.heap.size, 5, none⟩ = some (.int .i64 x.exit) ∧ w'.cell? ⟨w.heap.size, 4, none⟩ = some (.int .i64 (j : Int)) ∧ w'.cell? ⟨G, 8, none⟩ = some (.slice (some ⟨gs, 0, none⟩) slots sc0) ∧ w'.cell? ⟨gs, j, none⟩ = some (.bool false))) (by kernel_rfl) ?_ (fun hHeld0 => ?_)
                · first | trivial | ((try dsimp only); (exact ⟨x0, x5, x4, g8, s0⟩))
                refine held_take (v := ?_) 0 rfl (by kernel_rfl) (by kernel_rfl) (by kernel_rfl) (fun _ _ _ h => h) (by rfl) ?_ (by assumption) ?_
                rotate_left
                · (intro w hSw; (try dsimp only at hSw); go_simp; try with_reducible rfl)
                try simp only [Act.put, List.setIfInBounds_toArray, List.set_cons_zero, List.set_cons_succ]
                refine held_take (v := ?_) 1 rfl (by kernel_rfl) (by kernel_rfl) (by kernel_rfl) (fun _ _ _ h => h) (by rfl) ?_ (by assumption) ?_
                rotate_left
                · (intro w hSw; (try dsimp only at hSw); go_simp; try with_reducible rfl)
                try simp only [Act.put, List.setIfInBounds_toArray, List.set_cons_zero, List.set_cons_succ]
                refine held_take (v := ?_) 2 rfl (by kernel_rfl) (by kernel_rfl) (by kernel_rfl) (fun _ _ _ h => h) (by rfl) ?_ (by assumption) ?_
                rotate_left
                · (intro w hSw; (try dsimp only at hSw); go_simp; try with_reducible rfl)
                try simp only [Act.put, List.setIfInBounds_toArray, List.set_cons_zero, List.set_cons_succ]
                refine held_take (v := ?_) 3 rfl (by kernel_rfl) (by kernel_rfl) (by kernel_rfl) (fun _ _ _ h => h) (by rfl) ?_ (by assumption) ?_
                rotate_left
                · (intro w hSw; (try dsimp only at hSw); go_simp; try with_reducible rfl)
                try simp only [Act.put, List.setIfInBounds_toArray, List.set_cons_zero, List.set_cons_succ]
                refine held_take (v := ?_) 4 rfl (by kernel_rfl) (by kernel_rfl) (by kernel_rfl) (fun _ _ _ h => h) (by rfl) ?_ (by assumption) ?_
                rotate_left
                · (intro w hSw; (try dsimp only at hSw); go_simp; try with_reducible rfl)
                try simp only [Act.put, List.setIfInBounds_toArray, List.set_cons_zero, List.set_cons_succ]
                refine held_take (v := ?_) 5 rfl (by kernel_rfl) (by kernel_rfl) (by kernel_rfl) (fun _ _ _ h => h) (by rfl) ?_ (by assumption) ?_
                rotate_left
                · (intro w hSw; (try dsimp only at hSw); go_simp; try with_reducible rfl)
                try simp only [Act.put, List.setIfInBounds_toArray, List.set_cons_zero, List.set_cons_succ]
                refine held_take (v := ?_) 6 rfl (by kernel_rfl) (by kernel_rfl) (by kernel_rfl) (fun _ _ _ h => h) (by rfl) ?_ (by assumption) ?_
                rotate_left
                · (intro w hSw; (try dsimp only at hSw); go_simp; try with_reducible rfl)
                try simp only [Act.put, List.setIfInBounds_toArray, List.set_cons_zero, List.set_cons_succ]
                refine held_take (v := ?_) 7 rfl (by kernel_rfl) (by kernel_rfl) (by kernel_rfl) (fun _ _ _ h => h) (by rfl) ?_ (by assumption) ?_
                rotate_left
                · (intro w hSw; (try dsimp only at hSw); go_simp; try with_reducible rfl)
                try simp only [Act.put, List.setIfInBounds_toArray, List.set_cons_zero, List.set_cons_succ]
                refine held_take (v := ?_) 8 rfl (by kernel_rfl) (by kernel_rfl) (by kernel_rfl) (fun _ _ _ h => h) (by rfl) ?_ (by assumption) ?_
                rotate_left
                · (intro w hSw; (try dsimp only at hSw); go_simp; try with_reducible rfl)
                try simp only [Act.put, List.setIfInBounds_toArray, List.set_cons_zero, List.set_cons_succ]
                refine held_take (v := ?_) 9 rfl (by kernel_rfl) (by kernel_rfl) (by kernel_rfl) (fun _ _ _ h => h) (by rfl) ?_ (by assumption) ?_
                rotate_left
                · (intro w hSw; (try dsimp only at hSw); go_simp; try with_reducible rfl)
                try simp only [Act.put, List.setIfInBounds_toArray, List.set_cons_zero, List.set_cons_succ]
                refine held_take (v := ?_) 10 rfl (by kernel_rfl) (by kernel_rfl) (by kernel_rfl) (fun _ _ _ h => h) (by rfl) ?_ (by assumption) ?_
                rotate_left
                · (intro w hSw; (try dsimp only at hSw); go_simp; try with_reducible rfl)
                try simp only [Act.put, List.setIfInBounds_toArray, List.set_cons_zero, List.set_cons_succ]
                refine held_take (v := ?_) 11 rfl (by kernel_rfl) (by kernel_rfl) (by kernel_rfl) (fun _ _ _ h => h) (by rfl) ?_ (by assumption) ?_
                rotate_left
                · (intro w hSw; (try dsimp only at hSw); go_simp; try with_reducible rfl)
                try simp only [Act.put, List.setIfInBounds_toArray, List.set_cons_zero, List.set_cons_succ]
                refine held_take (v := ?_) 12 rfl (by kernel_rfl) (by kernel_rfl) (by kernel_rfl) (fun _ _ _ h => h) (by rfl) ?_ (by assumption) ?_
                rotate_left
                · (intro w hSw; (try dsimp only at hSw); go_simp; try with_reducible rfl)
                try simp only [Act.put, List.setIfInBounds_toArray, List.set_cons_zero, List.set_cons_succ]
                refine held_take (v := ?_) 13 rfl (by kernel_rfl) (by kernel_rfl) (by kernel_rfl) (fun _ _ _ h => h) (by rfl) ?_ (by assumption) ?_
                rotate_left
                · (intro w hSw; (try dsimp only at hSw); go_simp; try with_reducible rfl)
                try simp only [Act.put, List.setIfInBounds_toArray, List.set_cons_zero, List.set_cons_succ]
                refine held_take (v := ?_) 14 rfl (by kernel_rfl) (by kernel_rfl) (by kernel_rfl) (fun _ _ _ h => h) (by rfl) ?_ (by assumption) ?_
                rotate_left
                · (intro w hSw; (try dsimp only at hSw); go_simp; try with_reducible rfl)
                try simp only [Act.put, List.setIfInBounds_toArray, List.set_cons_zero, List.set_cons_succ]
                refine held_skip 15 rfl (by kernel_rfl) (by kernel_rfl) (by kernel_rfl) (fun _ _ _ h => h) (by rfl) (by assumption) ?_
                try simp only [Act.put, List.setIfInBounds_toArray, List.set_cons_zero, List.set_cons_succ]
                refine held_skip 16 rfl (by kernel_rfl) (by kernel_rfl) (by kernel_rfl) (fun _ _ _ h => h) (by rfl) (by assumption) ?_
                try simp only [Act.put, List.setIfInBounds_toArray, List.set_cons_zero, List.set_cons_succ]
                refine held_skip 17 rfl (by kernel_rfl) (by kernel_rfl) (by kernel_rfl) (fun _ _ _ h => h) (by rfl) (by assumption) ?_
                try simp only [Act.put, List.setIfInBounds_toArray, List.set_cons_zero, List.set_cons_succ]
                refine held_skip 18 rfl (by kernel_rfl) (by kernel_rfl) (by kernel_rfl) (fun _ _ _ h => h) (by rfl) (by assumption) ?_
                try simp only [Act.put, List.setIfInBounds_toArray, List.set_cons_zero, List.set_cons_succ]
                refine held_skip 19 rfl (by kernel_rfl) (by kernel_rfl) (by kernel_rfl) (fun _ _ _ h => h) (by rfl) (by assumption) ?_
                try simp only [Act.put, List.setIfInBounds_toArray, List.set_cons_zero, List.set_cons_succ]
                refine held_skip 20 rfl (by kernel_rfl) (by kernel_rfl) (by kernel_rfl) (fun _ _ _ h => h) (by rfl) (by assumption) ?_
                try simp only [Act.put, List.setIfInBounds_toArray, List.set_cons_zero, List.set_cons_succ]
                refine held_skip 21 rfl (by kernel_rfl) (by kernel_rfl) (by kernel_rfl) (fun _ _ _ h => h) (by rfl) (by assumption) ?_
                try simp only [Act.put, List.setIfInBounds_toArray, List.set_cons_zero, List.set_cons_succ]
                refine held_skip 22 rfl (by kernel_rfl) (by kernel_rfl) (by kernel_rfl) (fun _ _ _ h => h) (by rfl) (by assumption) ?_
                try simp only [Act.put, List.setIfInBounds_toArray, List.set_cons_zero, List.set_cons_succ]
                refine held_skip 23 rfl (by kernel_rfl) (by kernel_rfl) (by kernel_rfl) (fun _ _ _ h => h) (by rfl) (by assumption) ?_
                try simp only [Act.put, List.setIfInBounds_toArray, List.set_cons_zero, List.set_cons_succ]
                refine held_skip 24 rfl (by kernel_rfl) (by kernel_rfl) (by kernel_rfl) (fun _ _ _ h => h) (by rfl) (by assumption) ?_
                try simp only [Act.put, List.setIfInBounds_toArray, List.set_cons_zero, List.set_cons_succ]
                refine held_skip 25 rfl (by kernel_rfl) (by kernel_rfl) (by kernel_rfl) (fun _ _ _ h => h) (by rfl) (by assumption) ?_
                try simp only [Act.put, List.setIfInBounds_toArray, List.set_cons_zero, List.set_cons_succ]
                refine held_skip 26 rfl (by kernel_rfl) (by kernel_rfl) (by kernel_rfl) (fun _ _ _ h => h) (by rfl) (by assumption) ?_
                try simp only [Act.put, List.setIfInBounds_toArray, List.set_cons_zero, List.set_cons_succ]
                refine held_skip 27 rfl (by kernel_rfl) (by kernel_rfl) (by kernel_rfl) (fun _ _ _ h => h) (by rfl) (by assumption) ?_
                try simp only [Act.put, List.setIfInBounds_toArray, List.set_cons_zero, List.set_cons_succ]
                refine held_skip 28 rfl (by kernel_rfl) (by kernel_rfl) (by kernel_rfl) (fun _ _ _ h => h) (by rfl) (by assumption) ?_
                try simp only [Act.put, List.setIfInBounds_toArray, List.set_cons_zero, List.set_cons_succ]
                refine held_take (v := ?_) 29 rfl (by kernel_rfl) (by kernel_rfl) (by kernel_rfl) (fun _ _ _ h => h) (by rfl) ?_ (by assumption) ?_
                rotate_left
                · (intro w hSw; (try dsimp only at hSw); go_simp; try with_reducible rfl)
                try simp only [Act.put, List.setIfInBounds_toArray, List.set_cons_zero, List.set_cons_succ]
                refine wpAnyH_done (by kernel_rfl) ?_ _
                go_wp2_with fail
                go_meet
                exact ⟨by rw [HT.out], (Below.refl _ _).drew⟩
              | true =>
                by_cases hx0 : 0 ≤ x.exit
                · have hx1 := HF.out.2.2.2 hx0
                  obtain ⟨y, hy⟩ : ∃ y : Nat, x.exit = (y : Int) := ⟨x.exit.toNat, by omega⟩
                  have hyl : y < exits.length := by omega
                  obtain ⟨be, oe, ey, SA, sc, MA, mc, rfl, hbE, hey, e0, e1, e2, e3, as_, -, am_, -, -, -⟩ := HEX.out.rE_ hyl
                  obtain ⟨N, hN⟩ : ∃ N, (Ord.places ey).length = N := ⟨_, rfl⟩
                  have hNb := HP.out.2.1 ey (List.mem_of_getElem? hey)
                  rw [hN] at hNb
                  have hxe : Ord.exitBad st x exits = !Ord.all_ st ey := by unfold Ord.exitBad; rw [decide_eq_true hx0, hy, Int.toNat_natCast, hey]; rfl
                  have HY := Lib.hid (And.intro as_ (And.intro am_ (And.intro hN (And.intro hNb hy))))
                  have ltE : be < wr.heap.size := by omega
                  have hd2 : decide (0 ≤ x.exit) = true := by simpa using hx0
                  have hy0 : (0 : Int) ≤ (y : Int) := by omega
                  have hy1 : (y : Int) < (exits.length : Int) := by omega
                  rw [hy] at x5
                  clear as_ am_ hN hNb hey hy hx0 hx1 hd2
                  cases hav : Ord.all_ st ey with
                  | true =>
                    have ht : bb = false := by rw [← HBB.out.1, hxe, hav, d1, hsv]; rfl
                    have HT := Lib.hid ht; have HV := Lib.hid hav; clear ht hav hxe hsv
                    refine wp_region_held_drew (S := (fun w' => w'.cell? ⟨w.heap.size, 0, none⟩ = some (.int .i64 x.op) ∧ w'.cell? ⟨w.heap.size, 5, none⟩ = some (.int .i64 (y : Int)) ∧ w'.cell? ⟨w.heap.size, 4, none⟩ = some (.int .i64 (j : Int)) ∧ w'.cell? ⟨G, 8, none⟩ = some (.slice (some ⟨gs, 0, none⟩) slots sc0) ∧ w'.cell? ⟨gs, j, none⟩ = some (.bool true) ∧ w'.cell? ⟨w.heap.size + 1, 5, none⟩ = some (.slice (some ⟨be, oe, none⟩) exits.length ec) ∧ w'.cell? ⟨be, oe + y * 4, none⟩ = some (.int .i64 ey.at_) ∧ w'.cell? ⟨be, oe + y * 4 + 1, none⟩ = some (.int .i64 ey.steps) ∧ w'.cell? ⟨be, oe + y * 4 + 2, none⟩ = some (.slice SA ey.sets.length sc) ∧ w'.cell? ⟨be, oe + y * 4 + 3, none⟩ = some (.slice MA ey.makes.length mc))) (by kernel_rfl) ?_ (fun hHeld0 => ?_)
                    · first | trivial | ((try dsimp only); (exact ⟨x0, x5, x4, g8, s0, c5, e0, e1, e2, e3⟩))
                    refine held_take (v := ?_) 0 rfl (by kernel_rfl) (by kernel_rfl) (by kernel_rfl) (fun _ _ _ h => h) (by rfl) ?_ (by assumption) ?_
                    rotate_left
                    · (intro w hSw; (try dsimp only at hSw); go_simp; try with_reducible rfl)
                    try simp only [Act.put, List.setIfInBounds_toArray, List.set_cons_zero, List.set_cons_succ]
                    refine held_take (v := ?_) 1 rfl (by kernel_rfl) (by kernel_rfl) (by kernel_rfl) (fun _ _ _ h => h) (by rfl) ?_ (by assumption) ?_
                    rotate_left
                    · (intro w hSw; (try dsimp only at hSw); go_simp; try with_reducible rfl)
                    try simp only [Act.put, List.setIfInBounds_toArray, List.set_cons_zero, List.set_cons_succ]
                    refine held_take (v := ?_) 2 rfl (by kernel_rfl) (by kernel_rfl) (by kernel_rfl) (fun _ _ _ h => h) (by rfl) ?_ (by assumption) ?_
                    rotate_left
                    · (intro w hSw; (try dsimp only at hSw); go_simp; try with_reducible rfl)
                    try simp only [Act.put, List.setIfInBounds_toArray, List.set_cons_zero, List.set_cons_succ]
                    refine held_take (v := ?_) 3 rfl (by kernel_rfl) (by kernel_rfl) (by kernel_rfl) (fun _ _ _ h => h) (by rfl) ?_ (by assumption) ?_
                    rotate_left
                    · (intro w hSw; (try dsimp only at hSw); go_simp; try with_reducible rfl)
                    try simp only [Act.put, List.setIfInBounds_toArray, List.set_cons_zero, List.set_cons_succ]
                    refine held_take (v := ?_) 4 rfl (by kernel_rfl) (by kernel_rfl) (by kernel_rfl) (fun _ _ _ h => h) (by rfl) ?_ (by assumption) ?_
                    rotate_left
                    · (intro w hSw; (try dsimp only at hSw); go_simp; try with_reducible rfl)
                    try simp only [Act.put, List.setIfInBounds_toArray, List.set_cons_zero, List.set_cons_succ]
                    refine held_take (v := ?_) 5 rfl (by kernel_rfl) (by kernel_rfl) (by kernel_rfl) (fun _ _ _ h => h) (by rfl) ?_ (by assumption) ?_
                    rotate_left
                    · (intro w hSw; (try dsimp only at hSw); go_simp; try with_reducible rfl)
                    try simp only [Act.put, List.setIfInBounds_toArray, List.set_cons_zero, List.set_cons_succ]
                    refine held_take (v := ?_) 6 rfl (by kernel_rfl) (by kernel_rfl) (by kernel_rfl) (fun _ _ _ h => h) (by rfl) ?_ (by assumption) ?_
                    rotate_left
                    · (intro w hSw; (try dsimp only at hSw); go_simp; try with_reducible rfl)
                    try simp only [Act.put, List.setIfInBounds_toArray, List.set_cons_zero, List.set_cons_succ]
                    refine held_take (v := ?_) 7 rfl (by kernel_rfl) (by kernel_rfl) (by kernel_rfl) (fun _ _ _ h => h) (by rfl) ?_ (by assumption) ?_
                    rotate_left
                    · (intro w hSw; (try dsimp only at hSw); go_simp; try with_reducible rfl)
                    try simp only [Act.put, List.setIfInBounds_toArray, List.set_cons_zero, List.set_cons_succ]
                    refine held_take (v := ?_) 8 rfl (by kernel_rfl) (by kernel_rfl) (by kernel_rfl) (fun _ _ _ h => h) (by rfl) ?_ (by assumption) ?_
                    rotate_left
                    · (intro w hSw; (try dsimp only at hSw); go_simp; try with_reducible rfl)
                    try simp only [Act.put, List.setIfInBounds_toArray, List.set_cons_zero, List.set_cons_succ]
                    refine held_take (v := ?_) 9 rfl (by kernel_rfl) (by kernel_rfl) (by kernel_rfl) (fun _ _ _ h => h) (by rfl) ?_ (by assumption) ?_
                    rotate_left
                    · (intro w hSw; (try dsimp only at hSw); go_simp; try with_reducible rfl)
                    try simp only [Act.put, List.setIfInBounds_toArray, List.set_cons_zero, List.set_cons_succ]
                    refine held_take (v := ?_) 10 rfl (by kernel_rfl) (by kernel_rfl) (by kernel_rfl) (fun _ _ _ h => h) (by rfl) ?_ (by assumption) ?_
                    rotate_left
                    · (intro w hSw; (try dsimp only at hSw); go_simp; try with_reducible rfl)
                    try simp only [Act.put, List.setIfInBounds_toArray, List.set_cons_zero, List.set_cons_succ]
                    refine held_take (v := ?_) 11 rfl (by kernel_rfl) (by kernel_rfl) (by kernel_rfl) (fun _ _ _ h => h) (by rfl) ?_ (by assumption) ?_
                    rotate_left
                    · (intro w hSw; (try dsimp only at hSw); go_simp; try with_reducible rfl)
                    try simp only [Act.put, List.setIfInBounds_toArray, List.set_cons_zero, List.set_cons_succ]
                    refine held_take (v := ?_) 12 rfl (by kernel_rfl) (by kernel_rfl) (by kernel_rfl) (fun _ _ _ h => h) (by rfl) ?_ (by assumption) ?_
                    rotate_left
                    · (intro w hSw; (try dsimp only at hSw); go_simp; try with_reducible rfl)
                    try simp only [Act.put, List.setIfInBounds_toArray, List.set_cons_zero, List.set_cons_succ]
                    refine held_take (v := ?_) 13 rfl (by kernel_rfl) (by kernel_rfl) (by kernel_rfl) (fun _ _ _ h => h) (by rfl) ?_ (by assumption) ?_
                    rotate_left
                    · (intro w hSw; (try dsimp only at hSw); go_simp; try with_reducible rfl)
                    try simp only [Act.put, List.setIfInBounds_toArray, List.set_cons_zero, List.set_cons_succ]
                    refine held_take (v := ?_) 14 rfl (by kernel_rfl) (by kernel_rfl) (by kernel_rfl) (fun _ _ _ h => h) (by rfl) ?_ (by assumption) ?_
                    rotate_left
                    · (intro w hSw; (try dsimp only at hSw); go_simp; try with_reducible rfl)
                    try simp only [Act.put, List.setIfInBounds_toArray, List.set_cons_zero, List.set_cons_succ]
                    refine held_take (v := ?_) 15 rfl (by kernel_rfl) (by kernel_rfl) (by kernel_rfl) (fun _ _ _ h => h) (by rfl) ?_ (by assumption) ?_
                    rotate_left
                    · (intro w hSw; (try dsimp only at hSw); go_simp; try with_reducible rfl)
                    try simp only [Act.put, List.setIfInBounds_toArray, List.set_cons_zero, List.set_cons_succ]
                    refine held_take (v := ?_) 16 rfl (by kernel_rfl) (by kernel_rfl) (by kernel_rfl) (fun _ _ _ h => h) (by rfl) ?_ (by assumption) ?_
                    rotate_left
                    · (intro w hSw; (try dsimp only at hSw); go_simp; try with_reducible rfl)
                    try simp only [Act.put, List.setIfInBounds_toArray, List.set_cons_zero, List.set_cons_succ]
                    refine held_take (v := ?_) 17 rfl (by kernel_rfl) (by kernel_rfl) (by kernel_rfl) (fun _ _ _ h => h) (by rfl) ?_ (by assumption) ?_
                    rotate_left
                    · (intro w hSw; (try dsimp only at hSw); go_simp; try with_reducible rfl)
                    try simp only [Act.put, List.setIfInBounds_toArray, List.set_cons_zero, List.set_cons_succ]
                    refine held_take (v := ?_) 18 rfl (by kernel_rfl) (by kernel_rfl) (by kernel_rfl) (fun _ _ _ h => h) (by rfl) ?_ (by assumption) ?_
                    rotate_left
                    · (intro w hSw; (try dsimp only at hSw); go_simp; try with_reducible rfl)
                    try simp only [Act.put, List.setIfInBounds_toArray, List.set_cons_zero, List.set_cons_succ]
                    refine held_take (v := ?_) 19 rfl (by kernel_rfl) (by kernel_rfl) (by kernel_rfl) (fun _ _ _ h => h) (by rfl) ?_ (by assumption) ?_
                    rotate_left
                    · (intro w hSw; (try dsimp only at hSw); go_simp; try with_reducible rfl)
                    try simp only [Act.put, List.setIfInBounds_toArray, List.set_cons_zero, List.set_cons_succ]
                    refine held_take (v := ?_) 20 rfl (by kernel_rfl) (by kernel_rfl) (by kernel_rfl) (fun _ _ _ h => h) (by rfl) ?_ (by assumption) ?_
                    rotate_left
                    · (intro w hSw; (try dsimp only at hSw); go_simp; try with_reducible rfl)
                    try simp only [Act.put, List.setIfInBounds_toArray, List.set_cons_zero, List.set_cons_succ]
                    refine held_take (v := ?_) 21 rfl (by kernel_rfl) (by kernel_rfl) (by kernel_rfl) (fun _ _ _ h => h) (by rfl) ?_ (by assumption) ?_
                    rotate_left
                    · (intro w hSw; (try dsimp only at hSw); go_simp; try with_reducible rfl)
                    try simp only [Act.put, List.setIfInBounds_toArray, List.set_cons_zero, List.set_cons_succ]
                    refine held_take (v := ?_) 22 rfl (by kernel_rfl) (by kernel_rfl) (by kernel_rfl) (fun _ _ _ h => h) (by rfl) ?_ (by assumption) ?_
                    rotate_left
                    · (intro w hSw; (try dsimp only at hSw); go_simp; try with_reducible rfl)
                    try simp only [Act.put, List.setIfInBounds_toArray, List.set_cons_zero, List.set_cons_succ]
                    refine held_take (v := ?_) 23 rfl (by kernel_rfl) (by kernel_rfl) (by kernel_rfl) (fun _ _ _ h => h) (by rfl) ?_ (by assumption) ?_
                    rotate_left
                    · (intro w hSw; (try dsimp only at hSw); go_simp; try with_reducible rfl)
                    try simp only [Act.put, List.setIfInBounds_toArray, List.set_cons_zero, List.set_cons_succ]
                    refine held_take (v := ?_) 24 rfl (by kernel_rfl) (by kernel_rfl) (by kernel_rfl) (fun _ _ _ h => h) (by rfl) ?_ (by assumption) ?_
                    rotate_left
                    · (intro w hSw; (try dsimp only at hSw); go_simp; try with_reducible rfl)
                    try simp only [Act.put, List.setIfInBounds_toArray, List.set_cons_zero, List.set_cons_succ]
                    refine held_take (v := ?_) 25 rfl (by kernel_rfl) (by kernel_rfl) (by kernel_rfl) (fun _ _ _ h => h) (by rfl) ?_ (by assumption) ?_
                    rotate_left
                    · (intro w hSw; (try dsimp only at hSw); go_simp; try with_reducible rfl)
                    try simp only [Act.put, List.setIfInBounds_toArray, List.set_cons_zero, List.set_cons_succ]
                    refine held_call 26 (by kernel_rfl) rfl (fun K hK => ?_)
                    go_simp
                    go_at_call 94; refine (all_any base G B sc mc N SA MA st ey _ (H5.out.1.drew) (HY.out.1.drew) (HY.out.2.1.drew) (show B ≤ wr.heap.size by omega) HY.out.2.2.1 HY.out.2.2.2.1).mono ?_; rintro e w4 ⟨he, hb4d⟩; obtain rfl : e = .returned (.bool true) := (by (rw [he, HV.out])); clear he; have hb4 : Below wr.heap.size wr w4 := undrew hb4d; clear hb4d
                    try (go_wp2_with fail)
                    refine hK.out _ _ ?_ (fun hHeld1 => ?_)
                    · first | trivial | ((try dsimp only); (exact ⟨(hb4.cell (p := ⟨w.heap.size, 0, none⟩) ltX).trans x0, (hb4.cell (p := ⟨w.heap.size, 5, none⟩) ltX).trans x5, (hb4.cell (p := ⟨w.heap.size, 4, none⟩) ltX).trans x4, (hb4.cell (p := ⟨G, 8, none⟩) ltG).trans g8, (hb4.cell (p := ⟨gs, j, none⟩) ltS).trans s0, (hb4.cell (p := ⟨w.heap.size + 1, 5, none⟩) ltC).trans c5, (hb4.cell (p := ⟨be, oe + y * 4, none⟩) ltE).trans e0, (hb4.cell (p := ⟨be, oe + y * 4 + 1, none⟩) ltE).trans e1, (hb4.cell (p := ⟨be, oe + y * 4 + 2, none⟩) ltE).trans e2, (hb4.cell (p := ⟨be, oe + y * 4 + 3, none⟩) ltE).trans e3⟩))
                    clear hK K hHeld0
                    try simp only [Act.put, List.setIfInBounds_toArray, List.set_cons_zero, List.set_cons_succ]
                    refine held_take (v := ?_) 27 rfl (by kernel_rfl) (by kernel_rfl) (by kernel_rfl) (fun _ _ _ h => h) (by rfl) ?_ (by assumption) ?_
                    rotate_left
                    · (intro w hSw; (try dsimp only at hSw); go_simp; try with_reducible rfl)
                    try simp only [Act.put, List.setIfInBounds_toArray, List.set_cons_zero, List.set_cons_succ]
                    refine held_take (v := ?_) 28 rfl (by kernel_rfl) (by kernel_rfl) (by kernel_rfl) (fun _ _ _ h => h) (by rfl) ?_ (by assumption) ?_
                    rotate_left
                    · (intro w hSw; (try dsimp only at hSw); go_simp; try with_reducible rfl)
                    try simp only [Act.put, List.setIfInBounds_toArray, List.set_cons_zero, List.set_cons_succ]
                    refine held_take (v := ?_) 29 rfl (by kernel_rfl) (by kernel_rfl) (by kernel_rfl) (fun _ _ _ h => h) (by rfl) ?_ (by assumption) ?_
                    rotate_left
                    · (intro w hSw; (try dsimp only at hSw); go_simp; try with_reducible rfl)
                    try simp only [Act.put, List.setIfInBounds_toArray, List.set_cons_zero, List.set_cons_succ]
                    refine wpAnyH_done (by kernel_rfl) ?_ _
                    go_wp2_with fail
                    go_meet
                    exact ⟨by rw [HT.out], hb4⟩
                  | false =>
                    have ht : bb = true := by rw [← HBB.out.1, hxe, hav, d1, hsv]; rfl
                    have HT := Lib.hid ht; have HV := Lib.hid hav; clear ht hav hxe hsv
                    refine wp_region_held_drew (S := (fun w' => w'.cell? ⟨w.heap.size, 0, none⟩ = some (.int .i64 x.op) ∧ w'.cell? ⟨w.heap.size, 5, none⟩ = some (.int .i64 (y : Int)) ∧ w'.cell? ⟨w.heap.size, 4, none⟩ = some (.int .i64 (j : Int)) ∧ w'.cell? ⟨G, 8, none⟩ = some (.slice (some ⟨gs, 0, none⟩) slots sc0) ∧ w'.cell? ⟨gs, j, none⟩ = some (.bool true) ∧ w'.cell? ⟨w.heap.size + 1, 5, none⟩ = some (.slice (some ⟨be, oe, none⟩) exits.length ec) ∧ w'.cell? ⟨be, oe + y * 4, none⟩ = some (.int .i64 ey.at_) ∧ w'.cell? ⟨be, oe + y * 4 + 1, none⟩ = some (.int .i64 ey.steps) ∧ w'.cell? ⟨be, oe + y * 4 + 2, none⟩ = some (.slice SA ey.sets.length sc) ∧ w'.cell? ⟨be, oe + y * 4 + 3, none⟩ = some (.slice MA ey.makes.length mc))) (by kernel_rfl) ?_ (fun hHeld0 => ?_)
                    · first | trivial | ((try dsimp only); (exact ⟨x0, x5, x4, g8, s0, c5, e0, e1, e2, e3⟩))
                    refine held_take (v := ?_) 0 rfl (by kernel_rfl) (by kernel_rfl) (by kernel_rfl) (fun _ _ _ h => h) (by rfl) ?_ (by assumption) ?_
                    rotate_left
                    · (intro w hSw; (try dsimp only at hSw); go_simp; try with_reducible rfl)
                    try simp only [Act.put, List.setIfInBounds_toArray, List.set_cons_zero, List.set_cons_succ]
                    refine held_take (v := ?_) 1 rfl (by kernel_rfl) (by kernel_rfl) (by kernel_rfl) (fun _ _ _ h => h) (by rfl) ?_ (by assumption) ?_
                    rotate_left
                    · (intro w hSw; (try dsimp only at hSw); go_simp; try with_reducible rfl)
                    try simp only [Act.put, List.setIfInBounds_toArray, List.set_cons_zero, List.set_cons_succ]
                    refine held_take (v := ?_) 2 rfl (by kernel_rfl) (by kernel_rfl) (by kernel_rfl) (fun _ _ _ h => h) (by rfl) ?_ (by assumption) ?_
                    rotate_left
                    · (intro w hSw; (try dsimp only at hSw); go_simp; try with_reducible rfl)
                    try simp only [Act.put, List.setIfInBounds_toArray, List.set_cons_zero, List.set_cons_succ]
                    refine held_take (v := ?_) 3 rfl (by kernel_rfl) (by kernel_rfl) (by kernel_rfl) (fun _ _ _ h => h) (by rfl) ?_ (by assumption) ?_
                    rotate_left
                    · (intro w hSw; (try dsimp only at hSw); go_simp; try with_reducible rfl)
                    try simp only [Act.put, List.setIfInBounds_toArray, List.set_cons_zero, List.set_cons_succ]
                    refine held_take (v := ?_) 4 rfl (by kernel_rfl) (by kernel_rfl) (by kernel_rfl) (fun _ _ _ h => h) (by rfl) ?_ (by assumption) ?_
                    rotate_left
                    · (intro w hSw; (try dsimp only at hSw); go_simp; try with_reducible rfl)
                    try simp only [Act.put, List.setIfInBounds_toArray, List.set_cons_zero, List.set_cons_succ]
                    refine held_take (v := ?_) 5 rfl (by kernel_rfl) (by kernel_rfl) (by kernel_rfl) (fun _ _ _ h => h) (by rfl) ?_ (by assumption) ?_
                    rotate_left
                    · (intro w hSw; (try dsimp only at hSw); go_simp; try with_reducible rfl)
                    try simp only [Act.put, List.setIfInBounds_toArray, List.set_cons_zero, List.set_cons_succ]
                    refine held_take (v := ?_) 6 rfl (by kernel_rfl) (by kernel_rfl) (by kernel_rfl) (fun _ _ _ h => h) (by rfl) ?_ (by assumption) ?_
                    rotate_left
                    · (intro w hSw; (try dsimp only at hSw); go_simp; try with_reducible rfl)
                    try simp only [Act.put, List.setIfInBounds_toArray, List.set_cons_zero, List.set_cons_succ]
                    refine held_take (v := ?_) 7 rfl (by kernel_rfl) (by kernel_rfl) (by kernel_rfl) (fun _ _ _ h => h) (by rfl) ?_ (by assumption) ?_
                    rotate_left
                    · (intro w hSw; (try dsimp only at hSw); go_simp; try with_reducible rfl)
                    try simp only [Act.put, List.setIfInBounds_toArray, List.set_cons_zero, List.set_cons_succ]
                    refine held_take (v := ?_) 8 rfl (by kernel_rfl) (by kernel_rfl) (by kernel_rfl) (fun _ _ _ h => h) (by rfl) ?_ (by assumption) ?_
                    rotate_left
                    · (intro w hSw; (try dsimp only at hSw); go_simp; try with_reducible rfl)
                    try simp only [Act.put, List.setIfInBounds_toArray, List.set_cons_zero, List.set_cons_succ]
                    refine held_take (v := ?_) 9 rfl (by kernel_rfl) (by kernel_rfl) (by kernel_rfl) (fun _ _ _ h => h) (by rfl) ?_ (by assumption) ?_
                    rotate_left
                    · (intro w hSw; (try dsimp only at hSw); go_simp; try with_reducible rfl)
                    try simp only [Act.put, List.setIfInBounds_toArray, List.set_cons_zero, List.set_cons_succ]
                    refine held_take (v := ?_) 10 rfl (by kernel_rfl) (by kernel_rfl) (by kernel_rfl) (fun _ _ _ h => h) (by rfl) ?_ (by assumption) ?_
                    rotate_left
                    · (intro w hSw; (try dsimp only at hSw); go_simp; try with_reducible rfl)
                    try simp only [Act.put, List.setIfInBounds_toArray, List.set_cons_zero, List.set_cons_succ]
                    refine held_take (v := ?_) 11 rfl (by kernel_rfl) (by kernel_rfl) (by kernel_rfl) (fun _ _ _ h => h) (by rfl) ?_ (by assumption) ?_
                    rotate_left
                    · (intro w hSw; (try dsimp only at hSw); go_simp; try with_reducible rfl)
                    try simp only [Act.put, List.setIfInBounds_toArray, List.set_cons_zero, List.set_cons_succ]
                    refine held_take (v := ?_) 12 rfl (by kernel_rfl) (by kernel_rfl) (by kernel_rfl) (fun _ _ _ h => h) (by rfl) ?_ (by assumption) ?_
                    rotate_left
                    · (intro w hSw; (try dsimp only at hSw); go_simp; try with_reducible rfl)
                    try simp only [Act.put, List.setIfInBounds_toArray, List.set_cons_zero, List.set_cons_succ]
                    refine held_take (v := ?_) 13 rfl (by kernel_rfl) (by kernel_rfl) (by kernel_rfl) (fun _ _ _ h => h) (by rfl) ?_ (by assumption) ?_
                    rotate_left
                    · (intro w hSw; (try dsimp only at hSw); go_simp; try with_reducible rfl)
                    try simp only [Act.put, List.setIfInBounds_toArray, List.set_cons_zero, List.set_cons_succ]
                    refine held_take (v := ?_) 14 rfl (by kernel_rfl) (by kernel_rfl) (by kernel_rfl) (fun _ _ _ h => h) (by rfl) ?_ (by assumption) ?_
                    rotate_left
                    · (intro w hSw; (try dsimp only at hSw); go_simp; try with_reducible rfl)
                    try simp only [Act.put, List.setIfInBounds_toArray, List.set_cons_zero, List.set_cons_succ]
                    refine held_take (v := ?_) 15 rfl (by kernel_rfl) (by kernel_rfl) (by kernel_rfl) (fun _ _ _ h => h) (by rfl) ?_ (by assumption) ?_
                    rotate_left
                    · (intro w hSw; (try dsimp only at hSw); go_simp; try with_reducible rfl)
                    try simp only [Act.put, List.setIfInBounds_toArray, List.set_cons_zero, List.set_cons_succ]
                    refine held_take (v := ?_) 16 rfl (by kernel_rfl) (by kernel_rfl) (by kernel_rfl) (fun _ _ _ h => h) (by rfl) ?_ (by assumption) ?_
                    rotate_left
                    · (intro w hSw; (try dsimp only at hSw); go_simp; try with_reducible rfl)
                    try simp only [Act.put, List.setIfInBounds_toArray, List.set_cons_zero, List.set_cons_succ]
                    refine held_take (v := ?_) 17 rfl (by kernel_rfl) (by kernel_rfl) (by kernel_rfl) (fun _ _ _ h => h) (by rfl) ?_ (by assumption) ?_
                    rotate_left
                    · (intro w hSw; (try dsimp only at hSw); go_simp; try with_reducible rfl)
                    try simp only [Act.put, List.setIfInBounds_toArray, List.set_cons_zero, List.set_cons_succ]
                    refine held_take (v := ?_) 18 rfl (by kernel_rfl) (by kernel_rfl) (by kernel_rfl) (fun _ _ _ h => h) (by rfl) ?_ (by assumption) ?_
                    rotate_left
                    · (intro w hSw; (try dsimp only at hSw); go_simp; try with_reducible rfl)
                    try simp only [Act.put, List.setIfInBounds_toArray, List.set_cons_zero, List.set_cons_succ]
                    refine held_take (v := ?_) 19 rfl (by kernel_rfl) (by kernel_rfl) (by kernel_rfl) (fun _ _ _ h => h) (by rfl) ?_ (by assumption) ?_
                    rotate_left
                    · (intro w hSw; (try dsimp only at hSw); go_simp; try with_reducible rfl)
                    try simp only [Act.put, List.setIfInBounds_toArray, List.set_cons_zero, List.set_cons_succ]
                    refine held_take (v := ?_) 20 rfl (by kernel_rfl) (by kernel_rfl) (by kernel_rfl) (fun _ _ _ h => h) (by rfl) ?_ (by assumption) ?_
                    rotate_left
                    · (intro w hSw; (try dsimp only at hSw); go_simp; try with_reducible rfl)
                    try simp only [Act.put, List.setIfInBounds_toArray, List.set_cons_zero, List.set_cons_succ]
                    refine held_take (v := ?_) 21 rfl (by kernel_rfl) (by kernel_rfl) (by kernel_rfl) (fun _ _ _ h => h) (by rfl) ?_ (by assumption) ?_
                    rotate_left
                    · (intro w hSw; (try dsimp only at hSw); go_simp; try with_reducible rfl)
                    try simp only [Act.put, List.setIfInBounds_toArray, List.set_cons_zero, List.set_cons_succ]
                    refine held_take (v := ?_) 22 rfl (by kernel_rfl) (by kernel_rfl) (by kernel_rfl) (fun _ _ _ h => h) (by rfl) ?_ (by assumption) ?_
                    rotate_left
                    · (intro w hSw; (try dsimp only at hSw); go_simp; try with_reducible rfl)
                    try simp only [Act.put, List.setIfInBounds_toArray, List.set_cons_zero, List.set_cons_succ]
                    refine held_take (v := ?_) 23 rfl (by kernel_rfl) (by kernel_rfl) (by kernel_rfl) (fun _ _ _ h => h) (by rfl) ?_ (by assumption) ?_
                    rotate_left
                    · (intro w hSw; (try dsimp only at hSw); go_simp; try with_reducible rfl)
                    try simp only [Act.put, List.setIfInBounds_toArray, List.set_cons_zero, List.set_cons_succ]
                    refine held_take (v := ?_) 24 rfl (by kernel_rfl) (by kernel_rfl) (by kernel_rfl) (fun _ _ _ h => h) (by rfl) ?_ (by assumption) ?_
                    rotate_left
                    · (intro w hSw; (try dsimp only at hSw); go_simp; try with_reducible rfl)
                    try simp only [Act.put, List.setIfInBounds_toArray, List.set_cons_zero, List.set_cons_succ]
                    refine held_take (v := ?_) 25 rfl (by kernel_rfl) (by kernel_rfl) (by kernel_rfl) (fun _ _ _ h => h) (by rfl) ?_ (by assumption) ?_
                    rotate_left
                    · (intro w hSw; (try dsimp only at hSw); go_simp; try with_reducible rfl)
                    try simp only [Act.put, List.setIfInBounds_toArray, List.set_cons_zero, List.set_cons_succ]
                    refine held_call 26 (by kernel_rfl) rfl (fun K hK => ?_)
                    go_simp
                    go_at_call 94; refine (all_any base G B sc mc N SA MA st ey _ (H5.out.1.drew) (HY.out.1.drew) (HY.out.2.1.drew) (show B ≤ wr.heap.size by omega) HY.out.2.2.1 HY.out.2.2.2.1).mono ?_; rintro e w4 ⟨he, hb4d⟩; obtain rfl : e = .returned (.bool false) := (by (rw [he, HV.out])); clear he; have hb4 : Below wr.heap.size wr w4 := undrew hb4d; clear hb4d
                    try (go_wp2_with fail)
                    refine hK.out _ _ ?_ (fun hHeld1 => ?_)
                    · first | trivial | ((try dsimp only); (exact ⟨(hb4.cell (p := ⟨w.heap.size, 0, none⟩) ltX).trans x0, (hb4.cell (p := ⟨w.heap.size, 5, none⟩) ltX).trans x5, (hb4.cell (p := ⟨w.heap.size, 4, none⟩) ltX).trans x4, (hb4.cell (p := ⟨G, 8, none⟩) ltG).trans g8, (hb4.cell (p := ⟨gs, j, none⟩) ltS).trans s0, (hb4.cell (p := ⟨w.heap.size + 1, 5, none⟩) ltC).trans c5, (hb4.cell (p := ⟨be, oe + y * 4, none⟩) ltE).trans e0, (hb4.cell (p := ⟨be, oe + y * 4 + 1, none⟩) ltE).trans e1, (hb4.cell (p := ⟨be, oe + y * 4 + 2, none⟩) ltE).trans e2, (hb4.cell (p := ⟨be, oe + y * 4 + 3, none⟩) ltE).trans e3⟩))
                    clear hK K hHeld0
                    try simp only [Act.put, List.setIfInBounds_toArray, List.set_cons_zero, List.set_cons_succ]
                    refine held_take (v := ?_) 27 rfl (by kernel_rfl) (by kernel_rfl) (by kernel_rfl) (fun _ _ _ h => h) (by rfl) ?_ (by assumption) ?_
                    rotate_left
                    · (intro w hSw; (try dsimp only at hSw); go_simp; try with_reducible rfl)
                    try simp only [Act.put, List.setIfInBounds_toArray, List.set_cons_zero, List.set_cons_succ]
                    refine held_take (v := ?_) 28 rfl (by kernel_rfl) (by kernel_rfl) (by kernel_rfl) (fun _ _ _ h => h) (by rfl) ?_ (by assumption) ?_
                    rotate_left
                    · (intro w hSw; (try dsimp only at hSw); go_simp; try with_reducible rfl)
                    try simp only [Act.put, List.setIfInBounds_toArray, List.set_cons_zero, List.set_cons_succ]
                    refine held_take (v := ?_) 29 rfl (by kernel_rfl) (by kernel_rfl) (by kernel_rfl) (fun _ _ _ h => h) (by rfl) ?_ (by assumption) ?_
                    rotate_left
                    · (intro w hSw; (try dsimp only at hSw); go_simp; try with_reducible rfl)
                    try simp only [Act.put, List.setIfInBounds_toArray, List.set_cons_zero, List.set_cons_succ]
                    refine wpAnyH_done (by kernel_rfl) ?_ _
                    go_wp2_with fail
                    go_meet
                    exact ⟨by rw [HT.out], hb4⟩
                · have ht : bb = false := by rw [← HBB.out.1, HXB.out hx0, d1, hsv]; rfl
                  have hd2 : decide (0 ≤ x.exit) = false := by simpa using hx0
                  have HT := Lib.hid ht; clear ht hx0 hsv
                  refine wp_region_held_drew (S := (fun w' => w'.cell? ⟨w.heap.size, 0, none⟩ = some (.int .i64 x.op) ∧ w'.cell? ⟨w.heap.size, 5, none⟩ = some (.int .i64 x.exit) ∧ w'.cell? ⟨w.heap.size, 4, none⟩ = some (.int .i64 (j : Int)) ∧ w'.cell? ⟨G, 8, none⟩ = some (.slice (some ⟨gs, 0, none⟩) slots sc0) ∧ w'.cell? ⟨gs, j, none⟩ = some (.bool true))) (by kernel_rfl) ?_ (fun hHeld0 => ?_)
                  · first | trivial | ((try dsimp only); (exact ⟨x0, x5, x4, g8, s0⟩))
                  refine held_take (v := ?_) 0 rfl (by kernel_rfl) (by kernel_rfl) (by kernel_rfl) (fun _ _ _ h => h) (by rfl) ?_ (by assumption) ?_
                  rotate_left
                  · (intro w hSw; (try dsimp only at hSw); go_simp; try with_reducible rfl)
                  try simp only [Act.put, List.setIfInBounds_toArray, List.set_cons_zero, List.set_cons_succ]
                  refine held_take (v := ?_) 1 rfl (by kernel_rfl) (by kernel_rfl) (by kernel_rfl) (fun _ _ _ h => h) (by rfl) ?_ (by assumption) ?_
                  rotate_left
                  · (intro w hSw; (try dsimp only at hSw); go_simp; try with_reducible rfl)
                  try simp only [Act.put, List.setIfInBounds_toArray, List.set_cons_zero, List.set_cons_succ]
                  refine held_take (v := ?_) 2 rfl (by kernel_rfl) (by kernel_rfl) (by kernel_rfl) (fun _ _ _ h => h) (by rfl) ?_ (by assumption) ?_
                  rotate_left
                  · (intro w hSw; (try dsimp only at hSw); go_simp; try with_reducible rfl)
                  try simp only [Act.put, List.setIfInBounds_toArray, List.set_cons_zero, List.set_cons_succ]
                  refine held_take (v := ?_) 3 rfl (by kernel_rfl) (by kernel_rfl) (by kernel_rfl) (fun _ _ _ h => h) (by rfl) ?_ (by assumption) ?_
                  rotate_left
                  · (intro w hSw; (try dsimp only at hSw); go_simp; try with_reducible rfl)
                  try simp only [Act.put, List.setIfInBounds_toArray, List.set_cons_zero, List.set_cons_succ]
                  refine held_take (v := ?_) 4 rfl (by kernel_rfl) (by kernel_rfl) (by kernel_rfl) (fun _ _ _ h => h) (by rfl) ?_ (by assumption) ?_
                  rotate_left
                  · (intro w hSw; (try dsimp only at hSw); go_simp; try with_reducible rfl)
                  try simp only [Act.put, List.setIfInBounds_toArray, List.set_cons_zero, List.set_cons_succ]
                  refine held_take (v := ?_) 5 rfl (by kernel_rfl) (by kernel_rfl) (by kernel_rfl) (fun _ _ _ h => h) (by rfl) ?_ (by assumption) ?_
                  rotate_left
                  · (intro w hSw; (try dsimp only at hSw); go_simp; try with_reducible rfl)
                  try simp only [Act.put, List.setIfInBounds_toArray, List.set_cons_zero, List.set_cons_succ]
                  refine held_take (v := ?_) 6 rfl (by kernel_rfl) (by kernel_rfl) (by kernel_rfl) (fun _ _ _ h => h) (by rfl) ?_ (by assumption) ?_
                  rotate_left
                  · (intro w hSw; (try dsimp only at hSw); go_simp; try with_reducible rfl)
                  try simp only [Act.put, List.setIfInBounds_toArray, List.set_cons_zero, List.set_cons_succ]
                  refine held_take (v := ?_) 7 rfl (by kernel_rfl) (by kernel_rfl) (by kernel_rfl) (fun _ _ _ h => h) (by rfl) ?_ (by assumption) ?_
                  rotate_left
                  · (intro w hSw; (try dsimp only at hSw); go_simp; try with_reducible rfl)
                  try simp only [Act.put, List.setIfInBounds_toArray, List.set_cons_zero, List.set_cons_succ]
                  refine held_take (v := ?_) 8 rfl (by kernel_rfl) (by kernel_rfl) (by kernel_rfl) (fun _ _ _ h => h) (by rfl) ?_ (by assumption) ?_
                  rotate_left
                  · (intro w hSw; (try dsimp only at hSw); go_simp; try with_reducible rfl)
                  try simp only [Act.put, List.setIfInBounds_toArray, List.set_cons_zero, List.set_cons_succ]
                  refine held_take (v := ?_) 9 rfl (by kernel_rfl) (by kernel_rfl) (by kernel_rfl) (fun _ _ _ h => h) (by rfl) ?_ (by assumption) ?_
                  rotate_left
                  · (intro w hSw; (try dsimp only at hSw); go_simp; try with_reducible rfl)
                  try simp only [Act.put, List.setIfInBounds_toArray, List.set_cons_zero, List.set_cons_succ]
                  refine held_take (v := ?_) 10 rfl (by kernel_rfl) (by kernel_rfl) (by kernel_rfl) (fun _ _ _ h => h) (by rfl) ?_ (by assumption) ?_
                  rotate_left
                  · (intro w hSw; (try dsimp only at hSw); go_simp; try with_reducible rfl)
                  try simp only [Act.put, List.setIfInBounds_toArray, List.set_cons_zero, List.set_cons_succ]
                  refine held_take (v := ?_) 11 rfl (by kernel_rfl) (by kernel_rfl) (by kernel_rfl) (fun _ _ _ h => h) (by rfl) ?_ (by assumption) ?_
                  rotate_left
                  · (intro w hSw; (try dsimp only at hSw); go_simp; try with_reducible rfl)
                  try simp only [Act.put, List.setIfInBounds_toArray, List.set_cons_zero, List.set_cons_succ]
                  refine held_take (v := ?_) 12 rfl (by kernel_rfl) (by kernel_rfl) (by kernel_rfl) (fun _ _ _ h => h) (by rfl) ?_ (by assumption) ?_
                  rotate_left
                  · (intro w hSw; (try dsimp only at hSw); go_simp; try with_reducible rfl)
                  try simp only [Act.put, List.setIfInBounds_toArray, List.set_cons_zero, List.set_cons_succ]
                  refine held_take (v := ?_) 13 rfl (by kernel_rfl) (by kernel_rfl) (by kernel_rfl) (fun _ _ _ h => h) (by rfl) ?_ (by assumption) ?_
                  rotate_left
                  · (intro w hSw; (try dsimp only at hSw); go_simp; try with_reducible rfl)
                  try simp only [Act.put, List.setIfInBounds_toArray, List.set_cons_zero, List.set_cons_succ]
                  refine held_take (v := ?_) 14 rfl (by kernel_rfl) (by kernel_rfl) (by kernel_rfl) (fun _ _ _ h => h) (by rfl) ?_ (by assumption) ?_
                  rotate_left
                  · (intro w hSw; (try dsimp only at hSw); go_simp; try with_reducible rfl)
                  try simp only [Act.put, List.setIfInBounds_toArray, List.set_cons_zero, List.set_cons_succ]
                  refine held_take (v := ?_) 15 rfl (by kernel_rfl) (by kernel_rfl) (by kernel_rfl) (fun _ _ _ h => h) (by rfl) ?_ (by assumption) ?_
                  rotate_left
                  · (intro w hSw; (try dsimp only at hSw); go_simp; try with_reducible rfl)
                  try simp only [Act.put, List.setIfInBounds_toArray, List.set_cons_zero, List.set_cons_succ]
                  refine held_take (v := ?_) 16 rfl (by kernel_rfl) (by kernel_rfl) (by kernel_rfl) (fun _ _ _ h => h) (by rfl) ?_ (by assumption) ?_
                  rotate_left
                  · (intro w hSw; (try dsimp only at hSw); go_simp; try with_reducible rfl)
                  try simp only [Act.put, List.setIfInBounds_toArray, List.set_cons_zero, List.set_cons_succ]
                  refine held_take (v := ?_) 17 rfl (by kernel_rfl) (by kernel_rfl) (by kernel_rfl) (fun _ _ _ h => h) (by rfl) ?_ (by assumption) ?_
                  rotate_left
                  · (intro w hSw; (try dsimp only at hSw); go_simp; try with_reducible rfl)
                  try simp only [Act.put, List.setIfInBounds_toArray, List.set_cons_zero, List.set_cons_succ]
                  refine held_take (v := ?_) 18 rfl (by kernel_rfl) (by kernel_rfl) (by kernel_rfl) (fun _ _ _ h => h) (by rfl) ?_ (by assumption) ?_
                  rotate_left
                  · (intro w hSw; (try dsimp only at hSw); go_simp; try with_reducible rfl)
                  try simp only [Act.put, List.setIfInBounds_toArray, List.set_cons_zero, List.set_cons_succ]
                  refine held_skip 19 rfl (by kernel_rfl) (by kernel_rfl) (by kernel_rfl) (fun _ _ _ h => h) (by rfl) (by assumption) ?_
                  try simp only [Act.put, List.setIfInBounds_toArray, List.set_cons_zero, List.set_cons_succ]
                  refine held_skip 20 rfl (by kernel_rfl) (by kernel_rfl) (by kernel_rfl) (fun _ _ _ h => h) (by rfl) (by assumption) ?_
                  try simp only [Act.put, List.setIfInBounds_toArray, List.set_cons_zero, List.set_cons_succ]
                  refine held_skip 21 rfl (by kernel_rfl) (by kernel_rfl) (by kernel_rfl) (fun _ _ _ h => h) (by rfl) (by assumption) ?_
                  try simp only [Act.put, List.setIfInBounds_toArray, List.set_cons_zero, List.set_cons_succ]
                  refine held_skip 22 rfl (by kernel_rfl) (by kernel_rfl) (by kernel_rfl) (fun _ _ _ h => h) (by rfl) (by assumption) ?_
                  try simp only [Act.put, List.setIfInBounds_toArray, List.set_cons_zero, List.set_cons_succ]
                  refine held_skip 23 rfl (by kernel_rfl) (by kernel_rfl) (by kernel_rfl) (fun _ _ _ h => h) (by rfl) (by assumption) ?_
                  try simp only [Act.put, List.setIfInBounds_toArray, List.set_cons_zero, List.set_cons_succ]
                  refine held_skip 24 rfl (by kernel_rfl) (by kernel_rfl) (by kernel_rfl) (fun _ _ _ h => h) (by rfl) (by assumption) ?_
                  try simp only [Act.put, List.setIfInBounds_toArray, List.set_cons_zero, List.set_cons_succ]
                  refine held_skip 25 rfl (by kernel_rfl) (by kernel_rfl) (by kernel_rfl) (fun _ _ _ h => h) (by rfl) (by assumption) ?_
                  try simp only [Act.put, List.setIfInBounds_toArray, List.set_cons_zero, List.set_cons_succ]
                  refine held_skip 26 rfl (by kernel_rfl) (by kernel_rfl) (by kernel_rfl) (fun _ _ _ h => h) (by rfl) (by assumption) ?_
                  try simp only [Act.put, List.setIfInBounds_toArray, List.set_cons_zero, List.set_cons_succ]
                  refine held_skip 27 rfl (by kernel_rfl) (by kernel_rfl) (by kernel_rfl) (fun _ _ _ h => h) (by rfl) (by assumption) ?_
                  try simp only [Act.put, List.setIfInBounds_toArray, List.set_cons_zero, List.set_cons_succ]
                  refine held_take (v := ?_) 28 rfl (by kernel_rfl) (by kernel_rfl) (by kernel_rfl) (fun _ _ _ h => h) (by rfl) ?_ (by assumption) ?_
                  rotate_left
                  · (intro w hSw; (try dsimp only at hSw); go_simp; try with_reducible rfl)
                  try simp only [Act.put, List.setIfInBounds_toArray, List.set_cons_zero, List.set_cons_succ]
                  refine held_take (v := ?_) 29 rfl (by kernel_rfl) (by kernel_rfl) (by kernel_rfl) (fun _ _ _ h => h) (by rfl) ?_ (by assumption) ?_
                  rotate_left
                  · (intro w hSw; (try dsimp only at hSw); go_simp; try with_reducible rfl)
                  try simp only [Act.put, List.setIfInBounds_toArray, List.set_cons_zero, List.set_cons_succ]
                  refine wpAnyH_done (by kernel_rfl) ?_ _
                  go_wp2_with fail
                  go_meet
                  exact ⟨by rw [HT.out], (Below.refl _ _).drew⟩
          case rest =>
            obtain ⟨rfl, hbc⟩ := hcut
            have hsc := hbc.size
            have hbwc : Below w.heap.size w wc := hbw.trans (hbc.mono (by omega))
            have H6 := Lib.hid (And.intro (H5.out.1.fresh hbc) (H5.out.2.1.fresh hbc)); clear H5 x4 x5 c5 HEX HXB
            cases bb with
            | true =>
              go_wp2_with fail
              rw [HP.out.1]
              exact ⟨by rw [HBB.out.2]; rfl, fun h => by rw [HBB.out.2] at h; exact absurd h (by decide), hbwc.mono (by omega)⟩
            | false =>
              have x0 := H6.out.2.cell 0 (v := .int .i64 x.op) rfl
              have x4 := H6.out.2.cell 4 (v := .int .i64 x.n) rfl
              have ltXc : w.heap.size < wc.heap.size := by omega
              obtain ⟨s1, hs1e⟩ : ∃ s1, (if x.op = 3 then st.slots.set x.n.toNat true else st.slots) = s1 := ⟨_, rfl⟩
              have HS1 := Lib.hid hs1e; clear hs1e
              go_upto_if 77 with fail
              go_cut [] (fun W2 => Hid (Ws W2 base G ⟨st.regs, s1⟩ ∧ Blk W2 w.heap.size 146 #[.int .i64 x.op, .int .i64 x.a, .int .i64 x.b, .int .i64 x.c, .int .i64 x.n, .int .i64 x.exit, .int .i64 x.k.1, .int .i64 x.k.2]) ∧ Below base w W2 ∧ w.heap.size < W2.heap.size)
              case first =>
                cases d1 : (x.op == 3) with
                | false =>
                  have hop3 : ¬ x.op = 3 := by simpa using d1
                  have hst : s1 = st.slots := by rw [← HS1.out, if_neg hop3]
                  have HST := Lib.hid hst; clear hst hop3
                  go_wp2_with fail
                  go_meet
                  exact ⟨⟨by rw [HST.out]; exact H6.out.1, H6.out.2⟩, hbwc.mono (by omega), ltXc⟩
                | true =>
                  have hop3 : x.op = 3 := by simpa using d1
                  obtain ⟨hn0, hn1⟩ := HF.out.2.1 (.inl hop3)
                  obtain ⟨j, hj⟩ : ∃ j : Nat, x.n = (j : Int) := ⟨x.n.toNat, by omega⟩
                  have hjl : j < slots := by omega
                  obtain ⟨SA0, sc0, hG, hO, h8⟩ := H6.out.1
                  have hsl := H.out.2.2
                  obtain ⟨gs, rfl, hgs1, ltS⟩ := hO.some_ (by omega)
                  have hst : s1 = st.slots.set j true := by rw [← HS1.out, if_pos hop3, hj, Int.toNat_natCast]
                  have s0 := hO.set_bool true (i := j) (by omega)
                  have g8 := hG.cell 8 (wrC_slots h8)
                  rw [hsl] at g8
                  have z0 := hO.frozen (g := gs) rfl j
                  obtain ⟨ov, hov⟩ : ∃ ov, st.slots[j]? = some ov := ⟨_, List.getElem?_eq_getElem (by omega)⟩
                  have y0 := hO.cell_bool hov
                  have ltG := hG.lt
                  have hneG : G ≠ gs := fun e => own_ne_ty hO hG (by decide) (by rw [e]; rfl)
                  have hneX : w.heap.size ≠ gs := fun e => own_ne_ty hO H6.out.2 (by decide) (by rw [e]; rfl)
                  rw [hj] at x4
                  have hj0 : (0 : Int) ≤ (j : Int) := by omega
                  have hj1 : (j : Int) < (slots : Int) := by omega
                  have HT := Lib.hid (And.intro hst (And.intro s0 (And.intro hG (And.intro h8 (And.intro hneG (And.intro hneX hsl)))))); clear hop3 hn0 hn1 hj hst s0 hG hO h8 hneG hneX hsl hov
                  go_wp2_with fail
                  go_still_tail 7, (by kernel_rfl)
                  change wpList _ _ _ _ _ (World.drew _)
                  go_wp2
                  go_meet
                  refine ⟨⟨⟨some ⟨gs, 0, none⟩, sc0, ?_, ?_, HT.out.2.2.2.1⟩, ?_⟩, ?_, ?_⟩
                  · rw [HT.out.1, List.length_set]; exact (HT.out.2.2.1.far HT.out.2.2.2.2.1 _)
                  · rw [HT.out.1]; exact HT.out.2.1
                  · exact H6.out.2.far HT.out.2.2.2.2.2.1 _
                  · exact ((hbwc.mono (by omega : base ≤ w.heap.size)).setCell hgs1 _).drew
                  · simp [World.drew]; omega
              case rest =>
                obtain ⟨hkp, hbB, ltV⟩ := hcut
                clear x0 x4 hbc hsc hbwc ltXc
                have H7 := Lib.hid hkp; clear hkp H6
                have hwr := HF.out.2.2.1
                obtain ⟨wv, hwv⟩ : ∃ wv, Ord.writes x = wv := ⟨_, rfl⟩
                rw [hwv] at hwr
                have HW := Lib.hid (And.intro hwv HS1.out); clear hwv HS1
                go_wp2_with (refine wpList_ld rfl 146 (.tmp 4) rfl w.heap.size rfl H7.out.2 Try.underlying146 rfl (by kernel_rfl) ?_)
                refine (writes_any x _).mono ?_
                rintro e w5 ⟨rfl, hb5⟩
                rw [HW.out.1]
                have hs5 := hb5.size
                have hbB5 : Below base w w5 := hbB.trans (hb5.mono (by omega))
                have H8 := Lib.hid (H7.out.1.fresh hb5); clear H7
                have he0 : Ord.orderErr st x slots exits = 0 := HBB.out.2
                by_cases hw0 : 0 ≤ wv
                · have hw8 := hwr hw0
                  obtain ⟨q, rfl⟩ := Int.eq_ofNat_of_zero_le hw0
                  have hq8 : q < 8 := by omega
                  have haf : Ord.after st x = ⟨st.regs.set q true, s1⟩ := by unfold Ord.after; rw [HW.out.1, if_pos hw0, HW.out.2, Int.toNat_natCast]
                  obtain ⟨A8, c8, hG, hO, h8⟩ := H8.out
                  have h8' : st.regs.length = 8 := h8
                  obtain ⟨ov, hov⟩ : ∃ ov, st.regs[q]? = some ov := ⟨_, List.getElem?_eq_getElem (by omega)⟩
                  have y0 := hG.cell q (wrC_reg hov)
                  have z0 := hG.frozen q
                  have ltG := hG.lt
                  have hset := hG.set_ q (.bool true)
                  rw [wrC_set h8' hq8] at hset
                  have hOs := hO.setCell ⟨G, q, none⟩ (.bool true) (own_ne_ty hO hG (by decide))
                  have HT := Lib.hid (And.intro haf (And.intro he0 (And.intro hset (And.intro hOs h8')))); clear haf he0 hG hO h8 h8' hov hset hOs hwr
                  go_wp2_with fail
                  rw [HP.out.1]
                  exact ⟨by rw [HT.out.2.1]; rfl, fun _ => by rw [HT.out.1]; exact ⟨A8, c8, HT.out.2.2.1, HT.out.2.2.2.1, by rw [List.length_set]; exact HT.out.2.2.2.2⟩, hbB5.setCell hbG _⟩
                · have haf : Ord.after st x = ⟨st.regs, s1⟩ := by unfold Ord.after; rw [HW.out.1, if_neg hw0, HW.out.2]
                  have HT := Lib.hid (And.intro haf he0); clear haf he0 hwr
                  go_wp2_with fail
                  rw [HP.out.1]
                  exact ⟨by rw [HT.out.2]; rfl, fun _ => by rw [HT.out.1]; exact H8.out, hbB5⟩

end Go.Proofs.Ytljdnadejmkaeaa
