/- live.Spans. -/
import Derived.Test.YtljdnadejmkaeaaLive16
namespace Go.Proofs.Ytljdnadejmkaeaa
open Go.RowKit

attribute [local go_sem ↓] Go.wp_at_zero Go.wp_at_succ

def SpansPost (ins : List TI) (exits : List Ex) (turn back : Ex) (loop : Int) (w : World) (e : Ending) (w' : World) : Prop :=
  Below w.heap.size w w' ∧ ((Liv.fault ins exits turn back loop = 0 ∧ ∃ g c, e = .returned (.tuple #[.slice (some ⟨g, 0, none⟩) ins.length c, .int .i64 0]) ∧ Own w' w.heap.size 78 (some ⟨g, 0, none⟩) c (Liv.spans ins exits turn back loop)) ∨
    (Liv.fault ins exits turn back loop ≠ 0 ∧ e = .returned (.tuple #[.slice none 0 0, .int .i64 (Liv.fault ins exits turn back loop)])))

set_option maxHeartbeats 3200000 in
set_option maxRecDepth 100000 in
theorem lspans_any (B ic ec tsc tmc bsc bmc : Nat) (IA EA TS TM BS BM : Option Addr) (fn at_ loop : Int) (ins : List TI) (exits : List Ex) (turn back : Ex) (w : World) (h : TrAt w B ins exits turn back IA EA TS tsc TM tmc BS bsc BM bmc) (hB : B ≤ w.heap.size)
    (hil : ins.length ≤ 9223372036854775807) (hel : exits.length ≤ 9223372036854775807) (hf : ∀ y ∈ exits, (Liv.vals y).length * 8 ≤ 140737488355328) (hft : (Liv.vals turn).length * 8 ≤ 140737488355328) (hfb : (Liv.vals back).length * 8 ≤ 140737488355328) :
    Calls Try.prog 30 #[.agg #[.int .i64 fn, .int .i64 at_, .int .i64 loop, .slice IA ins.length ic, .slice EA exits.length ec, .int .i64 turn.at_, .int .i64 turn.steps, .slice TS turn.sets.length tsc, .slice TM turn.makes.length tmc, .int .i64 back.at_, .int .i64 back.steps, .slice BS back.sets.length bsc, .slice BM back.makes.length bmc]] w (SpansPost ins exits turn back loop w) := by
  have H := Lib.hid (And.intro h (And.intro hf (And.intro hft hfb))); clear h hf hft hfb
  go_enter Try.func30, Try.ntmps30
  go_wp2_with fail
  refine calls_world (fun W => Blk W w.heap.size 72 #[.int .i64 fn, .int .i64 at_, .int .i64 loop, .slice IA ins.length ic, .slice EA exits.length ec, .int .i64 turn.at_, .int .i64 turn.steps, .slice TS turn.sets.length tsc, .slice TM turn.makes.length tmc, .int .i64 back.at_, .int .i64 back.steps, .slice BS back.sets.length bsc, .slice BM back.makes.length bmc] ∧ Below w.heap.size w W ∧ w.heap.size + 1 ≤ W.heap.size) ⟨Blk.new _ _ _, (Below.refl _ _).alloc (Nat.le_refl _) _, by simp⟩ ?_
  rintro W ⟨hT, hb0, hs0⟩
  have HT := Lib.hid hT; clear hT
  refine (lcheck_any B ic ec tsc tmc bsc bmc IA EA TS TM BS BM fn at_ loop ins exits turn back W (H.out.1.below (hb0.mono hB)) (by omega) hil hel H.out.2.1 H.out.2.2.1 H.out.2.2.2).mono ?_
  rintro e w1 ⟨he1, hb1⟩
  have hbl1 := hb0.trans (hb1.mono (by omega))
  have hs1 := hb1.size
  obtain ⟨f, hfq⟩ : ∃ f, Liv.fault ins exits turn back loop = f := ⟨_, rfl⟩
  rw [hfq] at he1
  subst he1
  by_cases hf0 : f = 0
  rotate_left
  · have hne : (f != 0) = true := by simp [hf0]
    have HF := Lib.hid (And.intro hfq hf0); clear hf0 hfq
    go_wp2_with fail
    go_ret2
    exact ⟨hbl1, .inr ⟨by rw [HF.out.1]; exact HF.out.2, by rw [HF.out.1]; rfl⟩⟩
  subst hf0
  have hR := Liv.right_of hfq
  have hev := Liv.right_evs hR
  have hn300 := hR.n
  have he200 := hR.e
  have hl0 := hR.l0
  have hl1 := hR.l1
  have HR := Lib.hid (And.intro hR hev)
  have HFZ := Lib.hid hfq; clear hR hev hfq
  have hT1 := HT.out.fresh hb1
  have c3 := hT1.cell 3 (v := .slice IA ins.length ic) rfl
  have HT1 := Lib.hid hT1; clear hT1 HT
  have lt1 : w.heap.size < w1.heap.size := by omega
  go_wp2_with fail
  refine calls_world (fun V => Blk V w.heap.size 72 #[.int .i64 fn, .int .i64 at_, .int .i64 loop, .slice IA ins.length ic, .slice EA exits.length ec, .int .i64 turn.at_, .int .i64 turn.steps, .slice TS turn.sets.length tsc, .slice TM turn.makes.length tmc, .int .i64 back.at_, .int .i64 back.steps, .slice BS back.sets.length bsc, .slice BM back.makes.length bmc] ∧ Blk V w1.heap.size 3 #[.int .i64 ins.length] ∧ At V V.heap.size (some ⟨w1.heap.size + 1, 0, none⟩) [((-1 : Int), (-1 : Int))] ∧ Below w1.heap.size w1 V ∧ w1.heap.size + 2 ≤ V.heap.size) ⟨(HT1.out.alloc _).alloc _, (Blk.new _ _ _).alloc _, ?_, ((Below.refl _ _).alloc (Nat.le_refl _) _).alloc (by simp) _, by simp⟩ ?_
  · have := At.built (w1.alloc (.cells #[.int .i64 ins.length] 3)) #[.int .i64 (-1), .int .i64 (-1)] 78 [((-1 : Int), (-1 : Int))] rfl (by intro z hz; simp at hz; subst hz; exact ⟨⟨by decide, by decide⟩, ⟨by decide, by decide⟩⟩)
    simpa using this
  rintro V ⟨hTV, hNV, hAV, hbV, hsV⟩
  refine (repeat_any V.heap.size 1 ins.length _ (-1, -1) V hAV (Nat.le_refl _) (by omega)).mono ?_
  rintro e w2 ⟨g, c, rfl, hown2, hb2⟩
  have hs2 := hb2.size
  have hT2 := hTV.fresh hb2
  have hN2 := hNV.fresh hb2
  have hbl2 : Below w.heap.size w w2 := (hbl1.trans (hbV.mono (by omega))).trans (hb2.mono (by omega))
  have hg2 := hown2.lt g rfl
  have H2 := Lib.hid (And.intro hT2 (And.intro hN2 hown2)); clear c3
  have c3 := hT2.cell 3 (v := .slice IA ins.length ic) rfl
  have lt2 : w.heap.size < w2.heap.size := by omega
  clear hT2 hN2 hown2 hTV hNV hAV HT1
  go_wp2_with fail
  refine wp_world (fun X => SpSt X w.heap.size g c ins.length w.heap.size w1.heap.size w2.heap.size #[.int .i64 fn, .int .i64 at_, .int .i64 loop, .slice IA ins.length ic, .slice EA exits.length ec, .int .i64 turn.at_, .int .i64 turn.steps, .slice TS turn.sets.length tsc, .slice TM turn.makes.length tmc, .int .i64 back.at_, .int .i64 back.steps, .slice BS back.sets.length bsc, .slice BM back.makes.length bmc] (List.replicate ins.length ((-1 : Int), (-1 : Int))) ∧ Below w.heap.size w X ∧ w2.heap.size + 1 ≤ X.heap.size) ⟨⟨(H2.out.2.2.base_le (by omega)).alloc _, H2.out.1.alloc _, H2.out.2.1.alloc _, Blk.new _ _ _⟩, hbl2.alloc (by omega) _, by simp⟩ ?_
  rintro X ⟨hX, hbX, hsX⟩
  clear c3
  have ltX : w.heap.size < X.heap.size := by omega
  have HX := Lib.hid hX; clear hX H2
  have hlen : ∀ es, (Liv.runE es (List.replicate ins.length ((-1 : Int), (-1 : Int)))).length = ins.length := fun es => by rw [Liv.runE_length, List.length_replicate]
  have HL := Lib.hid hlen; clear hlen
  go_loopg [8, 9, 28] (ins.length) (fun gk av xv iv wr => ∃ (k : Nat), k ≤ ins.length ∧ gk = ins.length - k ∧ iv = .int .i64 k ∧ Hid (SpSt wr w.heap.size g c ins.length w.heap.size w1.heap.size w2.heap.size #[.int .i64 fn, .int .i64 at_, .int .i64 loop, .slice IA ins.length ic, .slice EA exits.length ec, .int .i64 turn.at_, .int .i64 turn.steps, .slice TS turn.sets.length tsc, .slice TM turn.makes.length tmc, .int .i64 back.at_, .int .i64 back.steps, .slice BS back.sets.length bsc, .slice BM back.makes.length bmc] (Liv.runE (Liv.evK ins exits loop k) (List.replicate ins.length ((-1 : Int), (-1 : Int))))) ∧ Below w.heap.size w wr ∧ w2.heap.size + 1 ≤ wr.heap.size)
  case atStart => exact ⟨0, Nat.zero_le _, rfl, rfl, HX.out, hbX, hsX⟩
  case round =>
    obtain ⟨k, hk, rfl, rfl, hkeep, hbl, hsz⟩ := hrel
    have hkst := hkeep.out
    by_cases hlt : k < ins.length
    · obtain ⟨b, o, x, rfl, hb, hx, d0, d1, d2, d3, d4, d5, d6, d7, j0, j1, j2, j3, -, -, -, -⟩ := (H.out.1.i.below (hbl.mono hB)).tI_ hlt
      obtain ⟨ka, ke, kx1, kx2⟩ := Liv.one_asks (HR.out.1.one k x hx)
      have hsn := Liv.evK_snoc (exits := exits) (loop := loop) hx
      have hal : (Liv.asks x).length ≤ 3 := by unfold Liv.asks; rw [List.length_take]; have := Liv.asksN_le x.op; omega
      have hao : ∀ z ∈ Liv.asks x, Flat.ok z := by
        intro z hz
        have := List.mem_of_mem_take hz
        simp at this; rcases this with rfl | rfl | rfl <;> assumption
      have HK := Lib.hid (And.intro ka (And.intro ke (And.intro hsn (And.intro hao (And.intro j1 (And.intro j2 j3)))))); clear ka ke hsn hao j0 j1 j2 j3 hx
      have HS := Lib.hid hkst; clear hkst hkeep
      have hbw : b < wr.heap.size := by omega
      have hk0 : (0 : Int) ≤ (k : Int) := by omega
      have hk1 : (k : Int) < (ins.length : Int) := by omega
      go_wp2_with fail
      refine calls_world (fun Y => SpSt Y w.heap.size g c ins.length w.heap.size w1.heap.size w2.heap.size #[.int .i64 fn, .int .i64 at_, .int .i64 loop, .slice (some ⟨b, o, none⟩) ins.length ic, .slice EA exits.length ec, .int .i64 turn.at_, .int .i64 turn.steps, .slice TS turn.sets.length tsc, .slice TM turn.makes.length tmc, .int .i64 back.at_, .int .i64 back.steps, .slice BS back.sets.length bsc, .slice BM back.makes.length bmc] (Liv.runE (Liv.evK ins exits loop k) (List.replicate ins.length ((-1 : Int), (-1 : Int)))) ∧ Blk Y wr.heap.size 121 #[.int .i64 x.op, .int .i64 x.a, .int .i64 x.b, .int .i64 x.c, .int .i64 x.n, .int .i64 x.exit, .int .i64 x.k.1, .int .i64 x.k.2] ∧ Below w.heap.size w Y ∧ wr.heap.size + 1 ≤ Y.heap.size) ⟨HS.out.alloc _, Blk.new _ _ _, hbl.alloc (by omega) _, by simp⟩ ?_
      rintro Y ⟨hY, hXY, hbY, hsY⟩
      refine (irAsks_any x HK.out.2.2.2.2 Y).mono ?_
      rintro e w3 ⟨A3, d3', rfl, ho3, hb3⟩
      have hs3 := hb3.size
      have hbl3 : Below w.heap.size w w3 := hbY.trans (hb3.mono (by omega))
      have h3 := Lib.hid (And.intro (hY.fresh hb3) (And.intro (hXY.fresh hb3) ho3)); clear hY hXY ho3 d0 d1 d2 d3 d4 d5 d6 d7 HS
      go_wp2_with fail
      refine (ask_st w.heap.size g c ins.length (Liv.asks x).length d3' w.heap.size w1.heap.size w2.heap.size Y.heap.size A3 k loop (.int .i64 fn) (.int .i64 at_) (.slice (some ⟨b, o, none⟩) ins.length ic) (.slice EA exits.length ec) (.int .i64 turn.at_) (.int .i64 turn.steps) (.slice TS turn.sets.length tsc) (.slice TM turn.makes.length tmc) (.int .i64 back.at_) (.int .i64 back.steps) (.slice BS back.sets.length bsc) (.slice BM back.makes.length bmc) _ (Liv.asks x) w3 h3.out.1 (HL.out _) h3.out.2.2 HK.out.2.2.2.1 rfl (by omega) (by omega) HK.out.1).mono ?_
      rintro e w4 ⟨rfl, hS4, hb4, hg4⟩
      have hs4 := hb4.size
      have hbl4 : Below w.heap.size w w4 := hbl3.trans hb4
      have hx4 : Blk w4 wr.heap.size 121 #[.int .i64 x.op, .int .i64 x.a, .int .i64 x.b, .int .i64 x.c, .int .i64 x.n, .int .i64 x.exit, .int .i64 x.k.1, .int .i64 x.k.2] := h3.out.2.1.grown hg4 (own_ne_ty h3.out.1.1 h3.out.2.1 (by decide))
      have x5 := hx4.cell 5 (v := .int .i64 x.exit) rfl
      have lt4 : wr.heap.size < w4.heap.size := by omega
      rw [← Liv.runE_app] at hS4
      have HS4 := Lib.hid (And.intro hS4 hx4); clear hS4 hx4 h3 hg4
      by_cases h0 : 0 ≤ x.exit
      · obtain ⟨y, hy⟩ : ∃ y : Nat, x.exit = (y : Int) := ⟨x.exit.toNat, by omega⟩
        have hyl : y < exits.length := by omega
        obtain ⟨be, oe, ex, As, cs, Am, cm, rfl, hbE, hex, e0, e1, e2, e3, as_, -, am_, -, -⟩ := (H.out.1.e.below (hbl4.mono hB)).ex_ hyl
        obtain ⟨N, hN⟩ : ∃ N, (Liv.vals ex).length = N := ⟨_, rfl⟩
        have hvb := H.out.2.1 ex (List.mem_of_getElem? hex)
        rw [hN] at hvb
        have hok := Liv.vals_ok as_ am_
        have hev : Liv.exitVals exits x.exit = Liv.vals ex := by unfold Liv.exitVals; rw [if_neg (by omega), hy, Int.toNat_natCast, hex]; rfl
        have hke := HK.out.2.1
        have hsn := HK.out.2.2.1
        rw [hev] at hke hsn
        have c4 := HS4.out.1.2.1.cell 4 (v := .slice (some ⟨be, oe, none⟩) exits.length ec) rfl
        have HE := Lib.hid (And.intro as_ (And.intro am_ (And.intro hok (And.intro hN (And.intro hke hsn))))); clear as_ am_ hN hok hex hev hke hsn
        have hbe : be < w4.heap.size := by omega
        have hy0 : (0 : Int) ≤ (y : Int) := by omega
        have hy1 : (y : Int) < (exits.length : Int) := by omega
        have ltT4 : w.heap.size < w4.heap.size := by omega
        rw [hy] at x5 h0 kx1 kx2
        clear hy
        go_wp2_with fail
        refine (lvalues_any B cs cm N As Am ex w4 HE.out.1 HE.out.2.1 (by omega) HE.out.2.2.2.1 (by omega)).mono ?_
        rintro e w5 ⟨A5, d5', rfl, ho5, hb5⟩
        have hs5 := hb5.size
        have hbl5 : Below w.heap.size w w5 := hbl4.trans (hb5.mono (by omega))
        have h5 := Lib.hid (And.intro (HS4.out.1.fresh hb5) ho5); clear ho5 e0 e1 e2 e3 c4 x5
        go_wp2_with fail
        refine (ask_st w.heap.size g c ins.length N d5' w.heap.size w1.heap.size w2.heap.size w4.heap.size A5 k loop (.int .i64 fn) (.int .i64 at_) (.slice (some ⟨b, o, none⟩) ins.length ic) (.slice (some ⟨be, oe, none⟩) exits.length ec) (.int .i64 turn.at_) (.int .i64 turn.steps) (.slice TS turn.sets.length tsc) (.slice TM turn.makes.length tmc) (.int .i64 back.at_) (.int .i64 back.steps) (.slice BS back.sets.length bsc) (.slice BM back.makes.length bmc) _ (Liv.vals ex) w5 h5.out.1 (HL.out _) h5.out.2 HE.out.2.2.1 HE.out.2.2.2.1 (by omega) (by omega) HE.out.2.2.2.2.1).mono ?_
        rintro e w6 ⟨rfl, hS6, hb6, hg6⟩
        have hs6 := hg6.size
        have hbl6 : Below w.heap.size w w6 := hbl5.trans hb6
        rw [← Liv.runE_app, ← HE.out.2.2.2.2.2] at hS6
        have HS6 := Lib.hid hS6; clear hS6 hg6 h5
        go_wp2_with fail
        go_roundg (ins.length - (k + 1))
        case measure => omega
        case rel => exact ⟨k + 1, by omega, rfl, by go_num, HS6.out, hbl6, by omega⟩
      · have hev : Liv.exitVals exits x.exit = [] := by unfold Liv.exitVals; rw [if_pos (by omega)]
        have hsn := HK.out.2.2.1
        rw [hev, show Liv.evs ins.length loop k [] = [] from rfl, List.append_nil] at hsn
        have hS4 := HS4.out.1
        rw [← hsn] at hS4
        have HS5 := Lib.hid hS4; clear hS4 hsn hev
        go_wp2_with fail
        go_roundg (ins.length - (k + 1))
        case measure => omega
        case rel => exact ⟨k + 1, by omega, rfl, by go_num, HS5.out, hbl4, by omega⟩
    · obtain rfl : k = ins.length := by omega
      have hrd := H.out.1.below (hbl.mono hB)
      obtain ⟨bs_, bm_, -, -⟩ := rd_ex hrd.b
      have hok := Liv.vals_ok bs_ bm_
      obtain ⟨N, hN⟩ : ∃ N, (Liv.vals back).length = N := ⟨_, rfl⟩
      have hfb := H.out.2.2.2
      rw [hN] at hfb
      have hkb : ∀ v ∈ Liv.vals back, 0 ≤ v ∧ v < ins.length := fun v hv => by have := Liv.any_in HR.out.1.back v hv; omega
      have HE := Lib.hid (And.intro bs_ (And.intro bm_ (And.intro hok (And.intro hN hkb)))); clear bs_ bm_ hok hN hkb hrd
      have HS := Lib.hid hkst; clear hkst hkeep
      have hwr0 : B ≤ wr.heap.size := by omega
      go_wp2_with fail
      refine wp_region_held_drew (S := (fun w' => w'.cell? ⟨w.heap.size, 9, none⟩ = some (.int .i64 back.at_) ∧ w'.cell? ⟨w.heap.size, 10, none⟩ = some (.int .i64 back.steps) ∧ w'.cell? ⟨w.heap.size, 11, none⟩ = some (.slice BS back.sets.length bsc) ∧ w'.cell? ⟨w.heap.size, 12, none⟩ = some (.slice BM back.makes.length bmc) ∧ w'.cell? ⟨w1.heap.size, 0, none⟩ = some (.int .i64 ins.length))) (by kernel_rfl) ?_ (fun hHeld0 => ?_)
      · first | trivial | ((try dsimp only); ((have s_ := HS.out.drew; exact ⟨s_.2.1.cell 9 rfl, s_.2.1.cell 10 rfl, s_.2.1.cell 11 rfl, s_.2.1.cell 12 rfl, s_.2.2.1.cell 0 rfl⟩)))
      refine held_take (v := ?_) 0 rfl (by kernel_rfl) (by kernel_rfl) (by kernel_rfl) (fun _ _ _ h => h) (by rfl) ?_ (by assumption) ?_
      rotate_left
      · (intro w hSw; (try dsimp only at hSw); go_simp; try with_reducible rfl)
      try simp only [Act.put, List.setIfInBounds_toArray, List.set_cons_zero, List.set_cons_succ]
      refine held_take (v := ?_) 1 rfl (by kernel_rfl) (by kernel_rfl) (by kernel_rfl) (fun _ _ _ h => h) (by rfl) ?_ (by assumption) ?_
      rotate_left
      · (intro w hSw; (try dsimp only at hSw); go_simp; try with_reducible rfl)
      try simp only [Act.put, List.setIfInBounds_toArray, List.set_cons_zero, List.set_cons_succ]
      refine held_take (v := ?_) 2 rfl (by kernel_rfl) (by kernel_rfl) (by kernel_rfl) (fun _ _ _ h => h) (by rfl) ?_ (by assumption) ?_
      rotate_left
      · (intro w hSw; (try dsimp only at hSw); go_simp; try with_reducible rfl)
      try simp only [Act.put, List.setIfInBounds_toArray, List.set_cons_zero, List.set_cons_succ]
      refine held_take (v := ?_) 3 rfl (by kernel_rfl) (by kernel_rfl) (by kernel_rfl) (fun _ _ _ h => h) (by rfl) ?_ (by assumption) ?_
      rotate_left
      · (intro w hSw; (try dsimp only at hSw); go_simp; try with_reducible rfl)
      try simp only [Act.put, List.setIfInBounds_toArray, List.set_cons_zero, List.set_cons_succ]
      refine held_call 4 (by kernel_rfl) rfl (fun K hK => ?_)
      go_simp
      go_at_call 68; refine (lvalues_any B bsc bmc N BS BM back _ HE.out.1.drew HE.out.2.1.drew hwr0 HE.out.2.2.2.1 (by omega)).mono ?_; rintro e w5 ⟨A5, d5', rfl, ho5, hb5d⟩; have hb5 : Below wr.heap.size wr w5 := undrew hb5d; clear hb5d; have hs5 := hb5.size
      try (go_wp2_with fail)
      refine hK.out _ _ ?_ (fun hHeld1 => ?_)
      · first | trivial | ((try dsimp only); ((have s_ := HS.out.fresh hb5; exact ⟨s_.2.1.cell 9 rfl, s_.2.1.cell 10 rfl, s_.2.1.cell 11 rfl, s_.2.1.cell 12 rfl, s_.2.2.1.cell 0 rfl⟩)))
      clear hK K hHeld0
      try simp only [Act.put, List.setIfInBounds_toArray, List.set_cons_zero, List.set_cons_succ]
      refine held_call 5 (by kernel_rfl) rfl (fun K hK => ?_)
      go_simp
      refine (ask_st w.heap.size g c ins.length N d5' w.heap.size w1.heap.size w2.heap.size wr.heap.size A5 ins.length loop (.int .i64 fn) (.int .i64 at_) (.slice IA ins.length ic) (.slice EA exits.length ec) (.int .i64 turn.at_) (.int .i64 turn.steps) (.slice TS turn.sets.length tsc) (.slice TM turn.makes.length tmc) (.int .i64 back.at_) (.int .i64 back.steps) (.slice BS back.sets.length bsc) (.slice BM back.makes.length bmc) _ (Liv.vals back) w5 (HS.out.fresh hb5) (HL.out _) ho5 HE.out.2.2.1 HE.out.2.2.2.1 (by omega) (by omega) HE.out.2.2.2.2).mono ?_; rintro e w6 ⟨rfl, hS6, hb6, hg6⟩
      try (go_wp2_with fail)
      refine hK.out _ _ ?_ (fun hHeld2 => ?_)
      · first | trivial | ((try dsimp only); ((have s_ := hS6; exact ⟨s_.2.1.cell 9 rfl, s_.2.1.cell 10 rfl, s_.2.1.cell 11 rfl, s_.2.1.cell 12 rfl, s_.2.2.1.cell 0 rfl⟩)))
      clear hK K hHeld1
      try simp only [Act.put, List.setIfInBounds_toArray, List.set_cons_zero, List.set_cons_succ]
      refine wpAnyH_done (by kernel_rfl) ?_ _
      have hs6 := hg6.size
      have hbl6 : Below w.heap.size w w6 := (hbl.trans (hb5.mono (by omega))).trans hb6
      rw [← Liv.runE_app, Liv.evK_all] at hS6
      have c2 := hS6.2.1.cell 2 (v := .int .i64 loop) rfl
      have lt6 : w.heap.size < w6.heap.size := by omega
      obtain ⟨E, hE⟩ : ∃ E, E = ins.zipIdx.flatMap (fun p => Liv.insEvs ins.length loop exits p.2 p.1) ++ Liv.evs ins.length loop ins.length (Liv.vals back) := ⟨_, rfl⟩
      rw [← hE] at hS6
      have hsp : Liv.spans ins exits turn back loop = Liv.runE (E ++ Liv.turnEvs turn loop) (List.replicate ins.length (-1, -1)) := by unfold Liv.spans Liv.allEvs; rw [← hE]
      have HS6 := Lib.hid (And.intro hS6 hsp); clear hS6 hsp hE hg6 ho5
      by_cases h5 : 0 < loop
      · have hrd := H.out.1.below (hbl6.mono hB)
        obtain ⟨ts_, tm_, -, -⟩ := rd_ex hrd.t
        have hok := Liv.vals_ok ts_ tm_
        obtain ⟨M, hM⟩ : ∃ M, (Liv.vals turn).length = M := ⟨_, rfl⟩
        have hft := H.out.2.2.1
        rw [hM] at hft
        have hkt : ∀ v ∈ Liv.vals turn, 0 ≤ v ∧ v < ins.length := fun v hv => by have := Liv.any_in (HR.out.1.turn h5) v hv; omega
        have hte : Liv.turnEvs turn loop = (Liv.vals turn).map (fun v => (v, loop)) := by unfold Liv.turnEvs; rw [if_pos h5]
        have HT := Lib.hid (And.intro ts_ (And.intro tm_ (And.intro hok (And.intro hM (And.intro hkt hte))))); clear ts_ tm_ hok hM hkt hte hrd
        have t5 := HS6.out.1.2.1.cell 5 (v := .int .i64 turn.at_) rfl
        have t6 := HS6.out.1.2.1.cell 6 (v := .int .i64 turn.steps) rfl
        have t7 := HS6.out.1.2.1.cell 7 (v := .slice TS turn.sets.length tsc) rfl
        have t8 := HS6.out.1.2.1.cell 8 (v := .slice TM turn.makes.length tmc) rfl
        go_wp2_with fail
        refine (lvalues_any B tsc tmc M TS TM turn w6 HT.out.1 HT.out.2.1 (by omega) HT.out.2.2.2.1 hft).mono ?_
        rintro e w7 ⟨A7, d7', rfl, ho7, hb7⟩
        have hs7 := hb7.size
        have hbl7 : Below w.heap.size w w7 := hbl6.trans (hb7.mono (by omega))
        have hS7 := HS6.out.1.fresh hb7
        have ho7a := ho7.at_ HT.out.2.2.1
        have hne7 : ∀ g', rowOf A7 = some g' → some g ≠ some g' := fun g' hg' e => own_own_ty hS7.1 ho7 (by decide) g rfl (by rw [hg', ← e])
        have H7 := Lib.hid (And.intro hS7 (And.intro ho7a hne7)); clear hS7 ho7 ho7a hne7 t5 t6 t7 t8 c2
        have hM60 : M ≤ 9223372036854775807 := by omega
        obtain ⟨wo, rfl⟩ : ∃ wo : World, wo = wr := ⟨_, rfl⟩
        go_wp2_with fail
        go_loopg [11, 65] (M) (fun gq vv iv wr => ∃ (q : Nat), q ≤ M ∧ gq = M - q ∧ iv = .int .i64 q ∧ Hid (SpSt wr w.heap.size g c ins.length w.heap.size w1.heap.size w2.heap.size #[.int .i64 fn, .int .i64 at_, .int .i64 loop, .slice IA ins.length ic, .slice EA exits.length ec, .int .i64 turn.at_, .int .i64 turn.steps, .slice TS turn.sets.length tsc, .slice TM turn.makes.length tmc, .int .i64 back.at_, .int .i64 back.steps, .slice BS back.sets.length bsc, .slice BM back.makes.length bmc] (Liv.runE (((Liv.vals turn).map (fun v => (v, loop))).take q) (Liv.runE E (List.replicate ins.length ((-1 : Int), (-1 : Int)))))) ∧ w7.grownBy wr (some g) ∧ w7.heap.size ≤ wr.heap.size)
        case atStart => exact ⟨0, Nat.zero_le _, rfl, rfl, H7.out.1, World.grownBy.refl w7 _, Nat.le_refl _⟩
        case round =>
          obtain ⟨q, hq, rfl, rfl, hkeep, hgr, hsz7⟩ := hrel
          have hst := hkeep.out
          by_cases hqt : q < M
          · obtain ⟨b, o, v, rfl, hb, hx, -, h0⟩ := (H7.out.2.1.grown_ (Nat.le_refl _) hgr (fun g' hg' e => H7.out.2.2 g' hg' e)).int_ (by have := HT.out.2.2.2.1; omega : q < (Liv.vals turn).length)
            obtain ⟨hv0, hv1⟩ := HT.out.2.2.2.2.1 v (List.mem_of_getElem? hx)
            obtain ⟨j, rfl⟩ := Int.eq_ofNat_of_zero_le hv0
            have hlen : (Liv.runE (((Liv.vals turn).map (fun v => (v, loop))).take q) (Liv.runE E (List.replicate ins.length ((-1 : Int), (-1 : Int))))).length = ins.length := by rw [Liv.runE_length, HL.out]
            obtain ⟨y, hy⟩ : ∃ y, (Liv.runE (((Liv.vals turn).map (fun v => (v, loop))).take q) (Liv.runE E (List.replicate ins.length ((-1 : Int), (-1 : Int)))))[j]? = some y := ⟨_, List.getElem?_eq_getElem (by omega)⟩
            have hstep := Liv.runE_take ((Liv.vals turn).map (fun v => (v, loop))) q ((j : Int), loop) (Liv.runE E (List.replicate ins.length ((-1 : Int), (-1 : Int)))) (by rw [List.getElem?_map, hx]; rfl)
            rw [Liv.updE_at hy] at hstep
            have cT := hst.2.1.cell 2 (v := .int .i64 loop) rfl
            have cO := hst.2.2.2.cell 0 (v := .slice (some ⟨g, 0, none⟩) ins.length c) rfl
            have o0 := hst.1.cells_ (g := g) (o := 0) rfl (j * 2) (.int .i64 y.1) (flat_get _ j 0 y hy (by decide))
            have o1 := hst.1.cells_ (g := g) (o := 0) rfl (j * 2 + 1) (.int .i64 y.2) (flat_get _ j 1 y hy (by decide))
            rw [Nat.zero_add] at o0 o1
            have z0 := hst.1.frozen (g := g) rfl (j * 2)
            have z1 := hst.1.frozen (g := g) rfl (j * 2 + 1)
            have hset : ∀ a b : Int, SpSt ((wr.setCell ⟨g, j * 2, none⟩ (.int .i64 a)).setCell ⟨g, j * 2 + 1, none⟩ (.int .i64 b)) w.heap.size g c ins.length w.heap.size w1.heap.size w2.heap.size #[.int .i64 fn, .int .i64 at_, .int .i64 loop, .slice IA ins.length ic, .slice EA exits.length ec, .int .i64 turn.at_, .int .i64 turn.steps, .slice TS turn.sets.length tsc, .slice TM turn.makes.length tmc, .int .i64 back.at_, .int .i64 back.steps, .slice BS back.sets.length bsc, .slice BM back.makes.length bmc] ((Liv.runE (((Liv.vals turn).map (fun v => (v, loop))).take q) (Liv.runE E (List.replicate ins.length ((-1 : Int), (-1 : Int))))).set j (a, b)) := fun a b => hst.grown ((grownBy_setCell _ _ _ _).trans (grownBy_setCell _ _ _ _)) (hst.1.set_two rfl (fun _ => rfl) hy)
            have hbq : ∀ a b : Int, w7.grownBy ((wr.setCell ⟨g, j * 2, none⟩ (.int .i64 a)).setCell ⟨g, j * 2 + 1, none⟩ (.int .i64 b)).drew (some g) := fun a b => grownBy_drew' ((hgr.trans (grownBy_setCell _ _ _ _)).trans (grownBy_setCell _ _ _ _))
            have hsq : ∀ a b : Int, w7.heap.size ≤ ((wr.setCell ⟨g, j * 2, none⟩ (.int .i64 a)).setCell ⟨g, j * 2 + 1, none⟩ (.int .i64 b)).drew.heap.size := fun a b => (hbq a b).size
            have ltT := hst.2.1.lt
            have ltO := hst.2.2.2.lt
            have neT : w.heap.size ≠ g := fun e => hst.ne.1 (by rw [← e])
            have HZ := Lib.hid (And.intro hset hstep); clear hset hstep hx hy hkeep hlen hst
            have HBQ := hbq; have HSQ := hsq
            have hj0 : (0 : Int) ≤ (j : Int) := by omega
            have HHB := Lib.hid hbq; have HHS := Lib.hid hsq; clear hbq hsq HBQ HSQ
            rcases (by omega : y.2 < loop ∨ y.2 = loop ∨ loop < y.2) with hm | hm | hm
            · have hm2 : y.2 ≤ loop := by omega
              have hm3 : ¬ loop ≤ y.2 := by omega
              have hm4 : ¬ loop < y.2 := by omega
              go_wp2_with fail
              go_still_tail 13, (by kernel_rfl)
              change wpList _ _ _ _ _ (World.drew _)
              go_wp2
              go_roundg (M - (q + 1))
              case measure => omega
              case rel => exact ⟨q + 1, by omega, rfl, by go_num, by unfold Hid; rw [HZ.out.2, show max y.2 loop = loop by omega]; exact (HZ.out.1 _ _).drew, HHB.out _ _, HHS.out _ _⟩
            · have hm2 : y.2 ≤ loop := by omega
              have hm3 : loop ≤ y.2 := by omega
              have HME := Lib.hid hm; clear hm
              go_wp2_with fail
              go_still_tail 13, (by kernel_rfl)
              change wpList _ _ _ _ _ (World.drew _)
              go_wp2
              go_roundg (M - (q + 1))
              case measure => omega
              case rel => exact ⟨q + 1, by omega, rfl, by go_num, by unfold Hid; rw [HZ.out.2, show max y.2 loop = y.2 by have := HME.out; omega]; exact (HZ.out.1 _ _).drew, HHB.out _ _, HHS.out _ _⟩
            · have hm2 : loop ≤ y.2 := by omega
              have hm3 : ¬ y.2 ≤ loop := by omega
              have hm4 : ¬ y.2 < loop := by omega
              go_wp2_with fail
              go_still_tail 13, (by kernel_rfl)
              change wpList _ _ _ _ _ (World.drew _)
              go_wp2
              go_roundg (M - (q + 1))
              case measure => omega
              case rel => exact ⟨q + 1, by omega, rfl, by go_num, by unfold Hid; rw [HZ.out.2, show max y.2 loop = y.2 by omega]; exact (HZ.out.1 _ _).drew, HHB.out _ _, HHS.out _ _⟩
          · have hk2 := hst
            rw [List.take_of_length_le (by rw [List.length_map]; have := HT.out.2.2.2.1; omega), ← HT.out.2.2.2.2.2, ← Liv.runE_app, ← HS6.out.2] at hk2
            have cO := hk2.2.2.2.cell 0 (v := .slice (some ⟨g, 0, none⟩) ins.length c) rfl
            have hblz : Below w.heap.size w wr := hbl7.trans (H7.out.1.below hgr (by omega))
            have HK := Lib.hid (And.intro hk2.1 HR.out.1); clear hk2 hkeep hst
            go_wp2_with fail
            go_ret2
            exact ⟨hblz, .inl ⟨HFZ.out, g, c, rfl, HK.out.1⟩⟩
      · have hte : Liv.turnEvs turn loop = [] := by unfold Liv.turnEvs; rw [if_neg h5]
        have hS6 := HS6.out.1
        have hsp := HS6.out.2
        rw [hte, List.append_nil] at hsp
        rw [← hsp] at hS6
        have cO := hS6.2.2.2.cell 0 (v := .slice (some ⟨g, 0, none⟩) ins.length c) rfl
        have HK := Lib.hid hS6.1; clear hS6 hsp hte HS6
        go_wp2_with fail
        go_ret2
        exact ⟨hbl6, .inl ⟨HFZ.out, g, c, rfl, HK.out⟩⟩

end Go.Proofs.Ytljdnadejmkaeaa
