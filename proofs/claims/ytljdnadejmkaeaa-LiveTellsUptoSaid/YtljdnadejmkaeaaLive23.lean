/- The law LiveTells, walked. -/
import Derived.Test.YtljdnadejmkaeaaLive18
import Derived.Test.YtljdnadejmkaeaaLive21
import Derived.Test.YtljdnadejmkaeaaLive22
namespace Go.Proofs.Ytljdnadejmkaeaa
open Go.RowKit

attribute [local go_sem ↓] Go.wp_at_zero Go.wp_at_succ

set_option maxHeartbeats 3200000 in
set_option maxRecDepth 100000 in
theorem liveTells_any (B ic ec tsc tmc bsc bmc : Nat) (IA EA TS TM BS BM : Option Addr) (fn at_ loop : Int) (ins : List TI) (exits : List Ex) (turn back : Ex) (w : World) (h : TrAt w B ins exits turn back IA EA TS tsc TM tmc BS bsc BM bmc) (hB : B ≤ w.heap.size) (hil : ins.length ≤ 9223372036854775807) (hel : exits.length ≤ 9223372036854775807) (hf : ∀ y ∈ exits, (Liv.vals y).length * 8 ≤ 140737488355328) (hft : (Liv.vals turn).length * 8 ≤ 140737488355328) (hfb : (Liv.vals back).length * 8 ≤ 140737488355328) :
    Calls Try.prog 7 #[.agg #[.int .i64 fn, .int .i64 at_, .int .i64 loop, .slice IA ins.length ic, .slice EA exits.length ec, .int .i64 turn.at_, .int .i64 turn.steps, .slice TS turn.sets.length tsc, .slice TM turn.makes.length tmc, .int .i64 back.at_, .int .i64 back.steps, .slice BS back.sets.length bsc, .slice BM back.makes.length bmc]] w fun e w' => e = .returned (.bool true) ∧ Below w.heap.size w w' := by
  have H := Lib.hid (And.intro h hf); clear h hf
  go_enter Try.func7, Try.ntmps7
  go_wp2_with fail
  refine calls_world (fun W => Blk W w.heap.size 72 #[.int .i64 fn, .int .i64 at_, .int .i64 loop, .slice IA ins.length ic, .slice EA exits.length ec, .int .i64 turn.at_, .int .i64 turn.steps, .slice TS turn.sets.length tsc, .slice TM turn.makes.length tmc, .int .i64 back.at_, .int .i64 back.steps, .slice BS back.sets.length bsc, .slice BM back.makes.length bmc] ∧ Below w.heap.size w W ∧ w.heap.size + 1 ≤ W.heap.size) ⟨Blk.new _ _ _, (Below.refl _ _).alloc (Nat.le_refl _) _, by simp⟩ ?_
  rintro W ⟨hT, hb0, hs0⟩
  have HT := Lib.hid hT; clear hT
  refine (lived_any W).mono ?_
  rintro e w1 ⟨rfl, hb1⟩
  have hs1 := hb1.size
  have lt1 : w.heap.size < w1.heap.size := by omega
  have hbw1 : Below w.heap.size w w1 := hb0.trans (hb1.mono (by omega))
  have HT1 := Lib.hid (HT.out.fresh hb1); clear HT
  obtain ⟨p0, p1, p2, p3, p4, p5, p6, p7, p8, p9, p10, p11, p12⟩ := HT1.out.cells13
  have H1 := Lib.hid (H.out.1.below (hbw1.mono hB))
  obtain ⟨F, hF⟩ : ∃ F, Liv.fault ins exits turn back loop = F := ⟨_, rfl⟩
  have HFx := Lib.hid hF
  have HFA := Lib.hid (rfault_any B ic ec tsc tmc bsc bmc IA EA TS TM BS BM fn at_ loop ins exits turn back w1 H1.out (by omega) hil hel H.out.2 hft hfb)
  rw [hF] at HFA
  clear hF
  go_wp2_with fail
  refine HFA.out.mono ?_
  rintro e w2 ⟨rfl, hb2⟩
  have hs2 := hb2.size
  have lt2 : w.heap.size < w2.heap.size := by omega
  have hbw2 : Below w.heap.size w w2 := hbw1.trans (hb2.mono (by omega))
  clear p0 p1 p2 p3 p4 p5 p6 p7 p8 p9 p10 p11 p12 HFA
  have HT2 := Lib.hid (HT1.out.fresh hb2); clear HT1
  obtain ⟨p0, p1, p2, p3, p4, p5, p6, p7, p8, p9, p10, p11, p12⟩ := HT2.out.cells13
  have HSP := Lib.hid (lspans_any B ic ec tsc tmc bsc bmc IA EA TS TM BS BM fn at_ loop ins exits turn back w2 (H.out.1.below (hbw2.mono hB)) (by omega) hil hel H.out.2 hft hfb)
  go_wp2_with fail
  refine HSP.out.mono ?_
  rintro e w3 ⟨hb3, hp⟩
  have hs3 := hb3.size
  have lt3 : w.heap.size < w3.heap.size := by omega
  have hbw3 : Below w.heap.size w w3 := hbw2.trans (hb3.mono (by omega))
  rw [HFx.out] at hp
  clear p0 p1 p2 p3 p4 p5 p6 p7 p8 p9 p10 p11 p12 HSP
  have HT3 := Lib.hid (HT2.out.fresh hb3); clear HT2
  obtain ⟨p0, p1, p2, p3, p4, p5, p6, p7, p8, p9, p10, p11, p12⟩ := HT3.out.cells13
  have HCK := Lib.hid (lcheck_any B ic ec tsc tmc bsc bmc IA EA TS TM BS BM fn at_ loop ins exits turn back w3 (H.out.1.below (hbw3.mono hB)) (by omega) hil hel H.out.2 hft hfb)
  rw [HFx.out] at HCK
  rcases hp with ⟨h0, g, c, rfl, hown⟩ | ⟨h0, rfl⟩
  · subst h0
    have HO3 := Lib.hid hown; clear hown
    go_wp2_with fail
    refine HCK.out.mono ?_
    rintro e w4 ⟨rfl, hb4⟩
    have hs4 := hb4.size
    have lt4 : w.heap.size < w4.heap.size := by omega
    have hbw4 : Below w.heap.size w w4 := hbw3.trans (hb4.mono (by omega))
    clear p0 p1 p2 p3 p4 p5 p6 p7 p8 p9 p10 p11 p12 HCK
    have HR := Lib.hid (Liv.right_of HFx.out)
    have hn300 := HR.out.n
    have HT4 := Lib.hid (HT3.out.fresh hb4); clear HT3
    have HO4 := Lib.hid (HO3.out.fresh hb4); clear HO3
    have p3 := HT4.out.cell 3 (v := .slice IA ins.length ic) rfl
    go_wp2_with fail
    go_loopg [6, 38] (ins.length) (fun gk vv iv wr => ∃ (k : Nat), k ≤ ins.length ∧ gk = ins.length - k ∧ iv = .int .i64 k ∧ Below w4.heap.size w4 wr)
    case atStart => exact ⟨0, Nat.zero_le _, rfl, rfl, Below.refl _ _⟩
    case round =>
      obtain ⟨k, hk, rfl, rfl, hbl⟩ := hrel
      have hsz := hbl.size
      have hbwr : Below w.heap.size w wr := hbw4.trans (hbl.mono (by omega))
      by_cases hlt : k < ins.length
      · have hk0 : (0 : Int) ≤ (k : Int) := by omega
        have hk1 : (k : Int) < (ins.length : Int) := by omega
        have hTr := HT4.out.fresh hbl
        have hOr := HO4.out.fresh hbl
        have hget := Liv.spans_get ins exits turn back loop k hlt HR.out.l0 HR.out.l1 (Liv.right_evs HR.out)
        obtain ⟨S, hS⟩ : ∃ S, Liv.spanR ins exits turn back loop k = S := ⟨_, rfl⟩
        rw [hS] at hget
        have o0 := hOr.cells_ (g := g) (o := 0) rfl (k * 2) (.int .i64 S.1) (flat_get _ k 0 S hget (by decide))
        have o1 := hOr.cells_ (g := g) (o := 0) rfl (k * 2 + 1) (.int .i64 S.2) (flat_get _ k 1 S hget (by decide))
        rw [Nat.zero_add] at o0 o1
        have hgl : g < wr.heap.size := (hOr.lt g rfl).2
        have HTr := Lib.hid hTr; clear hTr hOr hget
        have HSx := Lib.hid hS; clear hS
        clear p3
        have hee : ∀ (k : Nat) (x : TI), ins[k]? = some x → x.exit < exits.length := fun k x hx => (Liv.one_asks (HR.out.one k x hx)).2.2.1
        have HEE := Lib.hid hee; clear hee
        have ltr : w.heap.size < wr.heap.size := by omega
        go_wp2_with fail
        refine wp_region_held_drew (S := (fun w' => w'.cell? ⟨w.heap.size, 0, none⟩ = some (.int .i64 fn) ∧ w'.cell? ⟨w.heap.size, 1, none⟩ = some (.int .i64 at_) ∧ w'.cell? ⟨w.heap.size, 2, none⟩ = some (.int .i64 loop) ∧ w'.cell? ⟨w.heap.size, 3, none⟩ = some (.slice IA ins.length ic) ∧ w'.cell? ⟨w.heap.size, 4, none⟩ = some (.slice EA exits.length ec) ∧ w'.cell? ⟨w.heap.size, 5, none⟩ = some (.int .i64 turn.at_) ∧ w'.cell? ⟨w.heap.size, 6, none⟩ = some (.int .i64 turn.steps) ∧ w'.cell? ⟨w.heap.size, 7, none⟩ = some (.slice TS turn.sets.length tsc) ∧ w'.cell? ⟨w.heap.size, 8, none⟩ = some (.slice TM turn.makes.length tmc) ∧ w'.cell? ⟨w.heap.size, 9, none⟩ = some (.int .i64 back.at_) ∧ w'.cell? ⟨w.heap.size, 10, none⟩ = some (.int .i64 back.steps) ∧ w'.cell? ⟨w.heap.size, 11, none⟩ = some (.slice BS back.sets.length bsc) ∧ w'.cell? ⟨w.heap.size, 12, none⟩ = some (.slice BM back.makes.length bmc) ∧ w'.cell? ⟨g, k * 2, none⟩ = some (.int .i64 S.1) ∧ w'.cell? ⟨g, k * 2 + 1, none⟩ = some (.int .i64 S.2))) (by kernel_rfl) ?_ (fun hHeld0 => ?_)
        · first | trivial | ((try dsimp only); (obtain ⟨p0, p1, p2, p3, p4, p5, p6, p7, p8, p9, p10, p11, p12⟩ := (HTr.out.drew).cells13; exact ⟨p0, p1, p2, p3, p4, p5, p6, p7, p8, p9, p10, p11, p12, o0, o1⟩))
        refine held_take (v := ?_) 0 rfl (by kernel_rfl) (by kernel_rfl) (by kernel_rfl) (fun _ _ _ h => h) (by rfl) ?_ (by assumption) ?_
        rotate_left
        · (intro w hSw; (try dsimp only at hSw); go_simp; try with_reducible rfl)
        try simp only [Act.put, List.setIfInBounds_toArray, List.set_cons_zero, List.set_cons_succ]
        refine held_take (v := ?_) 1 rfl (by kernel_rfl) (by kernel_rfl) (by kernel_rfl) (fun _ _ _ h => h) (by rfl) ?_ (by assumption) ?_
        rotate_left
        · (intro w hSw; (try dsimp only at hSw); go_simp; try with_reducible rfl)
        try simp only [Act.put, List.setIfInBounds_toArray, List.set_cons_zero, List.set_cons_succ]
        refine held_take (v := ?_) 2 rfl (by kernel_rfl) (by kernel_rfl) (by kernel_rfl) (fun _ _ _ h => h) (by rfl) ?_ (by assumption) ?_
        rotate_left
        · (intro w hSw; (try dsimp only at hSw); go_simp; try with_reducible rfl)
        try simp only [Act.put, List.setIfInBounds_toArray, List.set_cons_zero, List.set_cons_succ]
        refine held_take (v := ?_) 3 rfl (by kernel_rfl) (by kernel_rfl) (by kernel_rfl) (fun _ _ _ h => h) (by rfl) ?_ (by assumption) ?_
        rotate_left
        · (intro w hSw; (try dsimp only at hSw); go_simp; try with_reducible rfl)
        try simp only [Act.put, List.setIfInBounds_toArray, List.set_cons_zero, List.set_cons_succ]
        refine held_take (v := ?_) 4 rfl (by kernel_rfl) (by kernel_rfl) (by kernel_rfl) (fun _ _ _ h => h) (by rfl) ?_ (by assumption) ?_
        rotate_left
        · (intro w hSw; (try dsimp only at hSw); go_simp; try with_reducible rfl)
        try simp only [Act.put, List.setIfInBounds_toArray, List.set_cons_zero, List.set_cons_succ]
        refine held_take (v := ?_) 5 rfl (by kernel_rfl) (by kernel_rfl) (by kernel_rfl) (fun _ _ _ h => h) (by rfl) ?_ (by assumption) ?_
        rotate_left
        · (intro w hSw; (try dsimp only at hSw); go_simp; try with_reducible rfl)
        try simp only [Act.put, List.setIfInBounds_toArray, List.set_cons_zero, List.set_cons_succ]
        refine held_call 6 (by kernel_rfl) rfl (fun K hK => ?_)
        go_simp
        go_at_call 32; refine (rspan_any B ic ec tsc tmc bsc bmc IA EA TS TM BS BM fn at_ loop ins exits turn back _ ((H.out.1.below (hbwr.mono hB)).below (Below.refl _ _).drew) (by show B ≤ wr.heap.size; omega) (by omega) (by have := HR.out.e; omega) H.out.2 hft hfb k HEE.out).mono ?_; rintro e w5 ⟨he, hb5d⟩; rw [HSx.out] at he; subst he; have hb5 : Below wr.heap.size wr w5 := undrew hb5d; clear hb5d; have hs5 := hb5.size
        try (go_wp2_with fail)
        refine hK.out _ _ ?_ (fun hHeld1 => ?_)
        · first | trivial | ((try dsimp only); (obtain ⟨p0, p1, p2, p3, p4, p5, p6, p7, p8, p9, p10, p11, p12⟩ := (HTr.out.fresh hb5).cells13; exact ⟨p0, p1, p2, p3, p4, p5, p6, p7, p8, p9, p10, p11, p12, (hb5.cell (p := ⟨g, k * 2, none⟩) hgl).trans o0, (hb5.cell (p := ⟨g, k * 2 + 1, none⟩) hgl).trans o1⟩))
        clear hK K hHeld0
        try simp only [Act.put, List.setIfInBounds_toArray, List.set_cons_zero, List.set_cons_succ]
        refine held_take (v := ?_) 7 rfl (by kernel_rfl) (by kernel_rfl) (by kernel_rfl) (fun _ _ _ h => h) (by rfl) ?_ (by assumption) ?_
        rotate_left
        · (intro w hSw; (try dsimp only at hSw); go_simp; try with_reducible rfl)
        try simp only [Act.put, List.setIfInBounds_toArray, List.set_cons_zero, List.set_cons_succ]
        refine wpAnyH_done (by kernel_rfl) ?_ _
        go_wp2_with fail
        go_roundg (ins.length - (k + 1))
        case measure => omega
        case rel => exact ⟨k + 1, by omega, rfl, by go_num, hbl.trans (hb5.mono (by omega))⟩
      · obtain rfl : k = ins.length := by omega
        go_wp2_with fail
        go_ret
        exact ⟨rfl, hbwr⟩
  · have hne : (F != 0) = true := by simpa using h0
    clear h0
    go_wp2_with fail
    refine HCK.out.mono ?_
    rintro e w4 ⟨rfl, hb4⟩
    clear p0 p1 p2 p3 p4 p5 p6 p7 p8 p9 p10 p11 p12 HCK
    go_wp2_with fail
    go_ret
    exact ⟨rfl, hbw3.trans (hb4.mono (by omega))⟩

end Go.Proofs.Ytljdnadejmkaeaa
