/- scan.Assign. -/
import Derived.Test.YtljdnadejmkaeaaScan5
import Derived.Test.YtljdnadejmkaeaaScan3
import Derived.Handy
namespace Go.Proofs.Ytljdnadejmkaeaa
open Go.RowKit Go.Maps

attribute [local go_sem ↓] Go.wp_at_zero Go.wp_at_succ

set_option maxHeartbeats 3200000 in
set_option maxRecDepth 100000 in
theorem assign_any (B lc : Nat) (LA : Option Addr) (l : List (Int × Int)) (regs : Int) (w : World) (hl : At w B LA l) (hB : B ≤ w.heap.size) (hN : l.length ≤ 300) (hr0 : 0 ≤ regs) (hr1 : regs ≤ 60) :
    Calls Try.prog 36 #[.slice LA l.length lc, .int .i64 regs] w fun e w' => ∃ ga ac, e = .returned (.tuple #[.slice (some ⟨ga, 0, none⟩) l.length ac, .int .i64 (Scn.slotted l regs (Scn.byFrom l l.length) (Scn.byFrom l l.length).length).2, .int .i64 0]) ∧
      Own w' w.heap.size 90 (some ⟨ga, 0, none⟩) ac (Scn.slotted l regs (Scn.byFrom l l.length) (Scn.byFrom l l.length).length).1 ∧ (∀ x ∈ (Scn.slotted l regs (Scn.byFrom l l.length) (Scn.byFrom l l.length).length).1, Flat.ok x) ∧ Below w.heap.size w w' := by
  have H := Lib.hid hl; clear hl
  have hd0 : decide (regs < 0) = false := by simp; omega
  go_enter Try.func36, Try.ntmps36
  go_upto_region 5 with fail
  refine wp_world (fun W => Blk W w.heap.size 74 #[.slice LA l.length lc] ∧ Below w.heap.size w W ∧ w.heap.size + 1 ≤ W.heap.size) ⟨Blk.new _ _ _, (Below.refl _ _).alloc (Nat.le_refl _) _, by simp⟩ ?_
  rintro W0 ⟨hL0, hb0, hs0⟩
  have c0 := hL0.cell 0 (v := .slice LA l.length lc) rfl
  have HL0 := Lib.hid hL0; clear hL0
  go_cut [7] from 26 to 33 (fun sv W => ∃ GS ga ac, sv = .pointer (some ⟨GS, 0, none⟩) ∧ Hid (Blk W GS 136 #[.slice LA l.length lc, .slice (some ⟨ga, 0, none⟩) l.length ac, .slice none 0 0] ∧ Own W (w.heap.size + 1) 90 (some ⟨ga, 0, none⟩) ac (List.replicate l.length ((-1 : Int), (-1 : Int))) ∧ w.heap.size < GS) ∧ Below (w.heap.size + 1) W0 W)
  case first =>
    obtain ⟨W1, hW1⟩ : ∃ W1, W1 = W0.alloc (.cells #[.int .i64 (-1), .int .i64 (-1)] 90) := ⟨_, rfl⟩
    have hat : At W1 W1.heap.size (some ⟨W0.heap.size, 0, none⟩) [((-1 : Int), (-1 : Int))] := by
      have := At.built W0 #[.int .i64 (-1), .int .i64 (-1)] 90 [((-1 : Int), (-1 : Int))] rfl (by intro z hz; simp at hz; subst hz; exact ⟨by show I64 (-1); unfold I64; omega, by show I64 (-1); unfold I64; omega⟩)
      rw [hW1]; exact this.more (by simp)
    have hL1 : Blk W1 w.heap.size 74 #[.slice LA l.length lc] := by rw [hW1]; exact HL0.out.alloc _
    have hs1 : W0.heap.size + 1 = W1.heap.size := by rw [hW1]; simp
    have hb01 : Below W0.heap.size W0 W1 := by rw [hW1]; exact (Below.refl _ _).alloc (Nat.le_refl _) _
    have hrep := repeatP_any W1.heap.size 1 l.length _ (-1, -1) W1.drew hat.drew (by show W1.heap.size ≤ W1.heap.size; exact Nat.le_refl _) (by omega)
    have HA := Lib.hid (And.intro hrep (And.intro hL1 hs1)); clear hat hL1 hs1 hrep
    have HW1 := Lib.hid hW1; clear hW1
    refine wp_region_held_drew (S := (fun w' => w'.cell? ⟨w.heap.size, 0, none⟩ = some (.slice LA l.length lc))) (by kernel_rfl) ?_ (fun hHeld0 => ?_)
    · first | trivial | ((try dsimp only); (exact c0))
    refine held_take (v := ?_) 0 rfl (by kernel_rfl) (by kernel_rfl) (by kernel_rfl) (fun _ _ _ h => h) (by rfl) ?_ (by assumption) ?_
    rotate_left
    · (intro w hSw; (try dsimp only at hSw); go_simp; try with_reducible rfl)
    try simp only [Act.put, List.setIfInBounds_toArray, List.set_cons_zero, List.set_cons_succ]
    refine held_take (v := ?_) 1 rfl (by kernel_rfl) (by kernel_rfl) (by kernel_rfl) (fun _ _ _ h => h) (by rfl) ?_ (by assumption) ?_
    rotate_left
    · (intro w hSw; (try dsimp only at hSw); go_simp; try with_reducible rfl)
    try simp only [Act.put, List.setIfInBounds_toArray, List.set_cons_zero, List.set_cons_succ]
    refine held_take (v := ?_) 3 rfl (by kernel_rfl) (by kernel_rfl) (by kernel_rfl) (fun _ _ _ h => h) (by rfl) ?_ (by assumption) ?_
    rotate_left
    · (intro w hSw; (try dsimp only at hSw); go_simp; try with_reducible rfl)
    try simp only [Act.put, List.setIfInBounds_toArray, List.set_cons_zero, List.set_cons_succ]
    refine held_take (v := ?_) 4 rfl (by kernel_rfl) (by kernel_rfl) (by kernel_rfl) (fun _ _ _ h => h) (by rfl) ?_ (by assumption) ?_
    rotate_left
    · (intro w hSw; (try dsimp only at hSw); go_simp; try with_reducible rfl)
    try simp only [Act.put, List.setIfInBounds_toArray, List.set_cons_zero, List.set_cons_succ]
    refine held_call 2 (by kernel_rfl) rfl (fun K hK => ?_)
    go_simp
    refine hK.out _ _ ?_ (fun hHeld1 => ?_)
    · first | trivial | ((try dsimp only); ((rw [← HW1.out]; exact HA.out.2.1.drew.cell 0 rfl)))
    clear hK K hHeld0
    try simp only [Act.put, List.setIfInBounds_toArray, List.set_cons_zero, List.set_cons_succ]
    refine held_call 5 (by kernel_rfl) rfl (fun K hK => ?_)
    go_simp
    (rw [← HW1.out]); go_at_call 76; refine HA.out.1.mono ?_; rintro e w2 ⟨ga, ac, rfl, ho2, hb2d⟩; have hb2 : Below W1.heap.size W1 w2 := undrew hb2d; clear hb2d
    try (go_wp2_with fail)
    refine hK.out _ _ ?_ (fun hHeld2 => ?_)
    · first | trivial | ((try dsimp only); (exact (HA.out.2.1.fresh hb2).cell 0 rfl))
    clear hK K hHeld1
    try simp only [Act.put, List.setIfInBounds_toArray, List.set_cons_zero, List.set_cons_succ]
    refine held_take (v := ?_) 6 rfl (by kernel_rfl) (by kernel_rfl) (by kernel_rfl) (fun _ _ _ h => h) (by rfl) ?_ (by assumption) ?_
    rotate_left
    · (intro w hSw; (try dsimp only at hSw); go_simp; try with_reducible rfl)
    try simp only [Act.put, List.setIfInBounds_toArray, List.set_cons_zero, List.set_cons_succ]
    refine held_call 7 (by kernel_rfl) rfl (fun K hK => ?_)
    go_simp
    refine hK.out _ _ ?_ (fun hHeld3 => ?_)
    · first | trivial | ((try dsimp only); (exact ((HA.out.2.1.fresh hb2).alloc _).cell 0 rfl))
    clear hK K hHeld2
    try simp only [Act.put, List.setIfInBounds_toArray, List.set_cons_zero, List.set_cons_succ]
    refine held_take (v := ?_) 8 rfl (by kernel_rfl) (by kernel_rfl) (by kernel_rfl) (fun _ _ _ h => h) (by rfl) ?_ (by assumption) ?_
    rotate_left
    · (intro w hSw; (try dsimp only at hSw); go_simp; try with_reducible rfl)
    try simp only [Act.put, List.setIfInBounds_toArray, List.set_cons_zero, List.set_cons_succ]
    refine wpAnyH_done (by kernel_rfl) ?_ _
    go_wp2_with fail
    go_meet
    have hb02 : Below W0.heap.size W0 w2 := hb01.trans (hb2.mono hb01.size)
    have h12 := hb2.size
    have h01 := HA.out.2.2
    refine ⟨w2.heap.size, ga, ac, rfl, ⟨Blk.new _ _ _, (ho2.alloc _).base_le (by show w.heap.size + 1 ≤ W1.heap.size; omega), by omega⟩, (hb02.alloc (by omega) _).mono (by omega)⟩
  case rest =>
    obtain ⟨GS, ga, ac, rfl, hK, hbw⟩ := hcut
    rename World => W2
    clear c0
    have hbs : w.heap.size + 1 ≤ W2.heap.size := Nat.le_trans hs0 hbw.size
    have hbW : Below w.heap.size w W2 := hb0.trans (hbw.mono (by omega))
    have hlW := H.out.below (hbW.mono hB)
    have HLW := Lib.hid hlW; clear hlW
    have hL2 := (hbw.block w.heap.size (by omega)).trans HL0.out
    have c0 := Blk.cell hL2 0 (v := .slice LA l.length lc) rfl
    have HL2 := Lib.hid hL2; clear hL2 HL0 hb0 hbw hs0
    obtain ⟨i0, hi, hz0, hz1, hz2⟩ := info_parts infoInt
    have hGS := hK.out.2.2
    have hGSl := hK.out.1.lt
    have hga := hK.out.2.1.lt ga rfl
    have hgg : GS ≠ ga := fun e => own_ne_ty hK.out.2.1 hK.out.1 (by decide) (by rw [e]; rfl)
    go_wp2_with fail
    go_loopg [8, 9, 36] (l.length) (fun gk v8 v9 iv wr => ∃ (k : Nat) (OA : Option Addr) (oc : Nat), k ≤ l.length ∧ gk = l.length - k ∧ iv = .int .i64 k ∧ Hid (Blk wr GS 136 #[.slice LA l.length lc, .slice (some ⟨ga, 0, none⟩) l.length ac, .slice OA (Scn.counted l k).length oc] ∧ Own wr (w.heap.size + 1) 3 OA oc (ints (Scn.counted l k)) ∧ Own wr (w.heap.size + 1) 90 (some ⟨ga, 0, none⟩) ac (List.replicate l.length ((-1 : Int), (-1 : Int))) ∧ (Scn.counted l k = [] → OA = none ∧ oc = 0)) ∧ Below (w.heap.size + 1) W2 wr)
    case atStart => exact ⟨0, none, 0, Nat.zero_le _, rfl, rfl, ⟨hK.out.1, Own.nil_, hK.out.2.1, fun _ => ⟨rfl, rfl⟩⟩, Below.refl _ _⟩
    case round =>
      obtain ⟨k, OA, oc, hk, rfl, rfl, hkeep, hbl⟩ := hrel
      clear c0
      have hsz := hbl.size
      by_cases hlt : k < l.length
      · obtain ⟨bl, ol, rfl, hbl0, io0, io1, l0, l1⟩ := (HLW.out.below (hbl.mono (by omega))).pairD hlt
        obtain ⟨x, hx⟩ : ∃ x, l.getD k (0, 0) = x := ⟨_, rfl⟩
        have hc1 : Scn.counted l (k + 1) = if Scn.counts x = true then Scn.counted l k ++ [k] else Scn.counted l k := by rw [← hx]; rfl
        have hcl := Scn.counted_length l k
        rw [hx] at l0 l1
        obtain ⟨bb, hbb⟩ : ∃ b, Scn.counts x = b := ⟨_, rfl⟩
        obtain ⟨cn, hcn⟩ : ∃ c, (Scn.counted l k).length = c := ⟨_, rfl⟩
        have hkk := hkeep.out
        rw [hcn] at hkk hcl
        rw [hbb] at hc1
        have HK := Lib.hid (And.intro hkk (And.intro hc1 (And.intro hbb hcn))); clear hkk hc1 hbb hcn hkeep hx
        have hsc := fun W => scounts_any x W
        rw [HK.out.2.2.1] at hsc
        have HSC := Lib.hid hsc; clear hsc
        go_wp2_with fail
        refine (HSC.out _).mono ?_
        rintro e w3 ⟨rfl, hb3⟩
        have hb3' : Below wr.heap.size wr w3 := (show Below wr.heap.size wr (wr.alloc (.cells #[.int .i64 x.1, .int .i64 x.2] 78)) from (Below.refl _ _).alloc (Nat.le_refl _) _).trans (hb3.mono (by simp))
        have hs3 := hb3'.size
        clear l0 l1 hb3
        have hblw : Below (w.heap.size + 1) W2 w3 := hbl.trans (hb3'.mono (by omega))
        cases bb with
        | true =>
          have hc1 := HK.out.2.1
          rw [if_pos rfl] at hc1
          have hG3 := HK.out.1.1.fresh hb3'
          obtain ⟨s0, s1, s2⟩ := hG3.cells3
          have ho3 := HK.out.1.2.1.fresh hb3'
          have hr3 := HK.out.1.2.2.1.fresh hb3'
          have hil : (ints (Scn.counted l k)).length = cn := by rw [ints_length]; exact HK.out.2.2.2
          have HG3 := Lib.hid (And.intro hG3 (And.intro ho3 (And.intro hr3 (And.intro hc1 hil)))); clear hG3 ho3 hr3 hc1 hil
          have hcl' : (cn : Int) ≤ (k : Int) := by omega
          go_wp2_with (at_builtin; go_must (refine wpList_app (α := Int) (n := cn) (m := 1) (B := w3.heap.size + 1) (r := [(k : Int)]) rfl (.tmp 47) (.tmp 49) _ rfl (w.heap.size + 1) 3 i0 _ 8 Try.underlying40 hi hz0 hz1 hz2 rfl (by decide) int_one (by rfl) HG3.out.2.2.2.2 (HG3.out.2.1.alloc _) (by rfl) ?_ rfl (by omega) (by simp only [maxLen]; omega) (by simp; omega) ?_))
          · exact At.built w3 #[.int .i64 (k : Int)] 3 [(k : Int)] rfl (by intro z hz; simp at hz; subst hz; show I64 _; unfold I64; omega)
          intro A4 c4 w4 hown4 hgr4 hat4
          have hgA : rowOf OA ≠ some GS := own_ne_ty HG3.out.2.1 HG3.out.1 (by decide)
          have hgB : rowOf OA ≠ some ga := own_own_ty HG3.out.2.2.1 HG3.out.2.1 (by decide) ga rfl |> fun h => h
          have hG4 := (HG3.out.1.alloc (.cells #[.int .i64 (k : Int)] 3)).grown hgr4 hgA
          have hr4 := (HG3.out.2.2.1.alloc (.cells #[.int .i64 (k : Int)] 3)).grown hgr4 (fun g hg => by rw [show rowOf (some (⟨ga, 0, none⟩ : Addr)) = some ga from rfl] at hg; injection hg with hg; subst hg; exact hgB)
          have hbl4 : Below (w.heap.size + 1) W2 w4 := (hblw.alloc (by omega) _).grown hgr4 (by simp; omega) (fun g hg => (HG3.out.2.1.lt g hg).1)
          obtain ⟨s0, s1, s2⟩ := hG4.cells3
          have z2 := hG4.frozen 2
          have hG5 := hG4.set_ 2 (.slice A4 (cn + 1) c4)
          have hrow : rowOf A4 ≠ some GS := by
            have := own_ne_ty hown4 hG4 (by decide)
            exact this
          have ho5 := hown4.setCell ⟨GS, 2, none⟩ (.slice A4 (cn + 1) c4) hrow
          have hr5 := hr4.setCell ⟨GS, 2, none⟩ (.slice A4 (cn + 1) c4) (by intro e; injection e with e; exact hgg e.symm)
          have hbl5 := hbl4.setCell (p := ⟨GS, 2, none⟩) hGS (.slice A4 (cn + 1) c4)
          have hin : ints (Scn.counted l k) ++ [(k : Int)] = ints (Scn.counted l (k + 1)) := by rw [HG3.out.2.2.2.1]; unfold ints; simp
          have hln : (Scn.counted l (k + 1)).length = cn + 1 := by rw [HG3.out.2.2.2.1, List.length_append, HK.out.2.2.2]; rfl
          rw [hin] at ho5
          have HX := Lib.hid (And.intro hG5 (And.intro ho5 (And.intro hr5 hln))); clear hG5 ho5 hr5 hln hin hrow hG4 hr4 hown4 hgr4 hat4 hgA hgB hbl4
          go_wp2_with fail
          go_roundg (l.length - (k + 1))
          case measure => omega
          case rel => exact ⟨k + 1, A4, c4, by omega, rfl, by go_num, ⟨by have := HX.out.1; rw [HX.out.2.2.2]; simpa using this, HX.out.2.1, HX.out.2.2.1, fun e => by have := HX.out.2.2.2; rw [e] at this; simp at this⟩, hbl5⟩
        | false =>
          have hc1 := HK.out.2.1
          rw [if_neg (by decide)] at hc1
          have HX := Lib.hid (And.intro hc1 (And.intro (HK.out.1.1.fresh hb3') (And.intro (HK.out.1.2.1.fresh hb3') (HK.out.1.2.2.1.fresh hb3')))); clear hc1
          go_wp2_with fail
          go_roundg (l.length - (k + 1))
          case measure => omega
          case rel => exact ⟨k + 1, OA, oc, by omega, rfl, by go_num, ⟨by rw [HX.out.1, HK.out.2.2.2]; exact HX.out.2.1, by rw [HX.out.1]; exact HX.out.2.2.1, HX.out.2.2.2, fun e => HK.out.1.2.2.2 (by rw [← HX.out.1]; exact e)⟩, hblw⟩
      · obtain rfl : k = l.length := by omega
        have hperm := Scn.byFrom_perm l l.length
        have hsorted := Scn.byFrom_sorted l l.length
        have hplen := hperm.length_eq
        obtain ⟨order, hord⟩ : ∃ o, Scn.byFrom l l.length = o := ⟨_, rfl⟩
        obtain ⟨cnt, hcnt⟩ : ∃ o, Scn.counted l l.length = o := ⟨_, rfl⟩
        have hclt := Scn.counted_lt l l.length
        have hcri := Scn.counted_rising l l.length
        have hcle := Scn.counted_length l l.length
        rw [hord, hcnt] at hperm hplen
        rw [hord] at hsorted
        rw [hcnt] at hclt hcri hcle
        have hkk := hkeep.out
        rw [hcnt] at hkk
        have hordlt : ∀ k ∈ order, k < l.length := fun k hk => hclt k (hperm.mem_iff.1 hk)
        have hrok : ∀ x ∈ List.replicate l.length ((-1 : Int), (-1 : Int)), Flat.ok x := fun x hx => by
          rw [List.eq_of_mem_replicate hx]; exact ⟨by show I64 (-1); unfold I64; omega, by show I64 (-1); unfold I64; omega⟩
        have HO := Lib.hid (And.intro hord (And.intro hperm (And.intro hsorted (And.intro hclt (And.intro hcri (And.intro hordlt hrok)))))); clear hord hperm hsorted hclt hcri hordlt hrok hcnt hkeep
        obtain ⟨cn, hcn⟩ : ∃ n, cnt.length = n := ⟨_, rfl⟩
        rw [hcn] at hkk hcle hplen
        obtain ⟨s0, s1, s2⟩ := hkk.1.cells3
        have HK := Lib.hid (And.intro hkk (And.intro hcn hplen)); clear hkk hcn hplen hlt
        go_upto_region 12 with fail
        go_cut [] from 54 to 59 (fun W => Hid (ScW W B (w.heap.size + 1) GS ga lc ac oc LA OA l (List.replicate l.length ((-1 : Int), (-1 : Int))) order) ∧ Below (w.heap.size + 1) W2 W)
        case first =>
          obtain ⟨hG, ho, hr, hnil⟩ := HK.out.1
          by_cases hc0 : cn = 0
          · have hcnt0 : cnt = [] := List.eq_nil_of_length_eq_zero (by rw [HK.out.2.1]; exact hc0)
            obtain ⟨rfl, rfl⟩ := hnil hcnt0
            have hord0 : order = [] := List.eq_nil_of_length_eq_zero (by rw [HK.out.2.2]; exact hc0)
            subst hc0
            have hfin : ScW wr B (w.heap.size + 1) GS ga lc ac 0 LA none l (List.replicate l.length ((-1 : Int), (-1 : Int))) order := by
              refine ⟨?_, HLW.out.below (hbl.mono (by omega)), by omega, by omega, hr, HO.out.2.2.2.2.2.2, ?_⟩
              · rw [hord0, List.length_replicate]; exact hG
              · rw [hord0]; exact Own.nil_
            have HF := Lib.hid hfin; clear hfin hnil hG ho hr hord0 hcnt0
            go_wp2_with fail
            refine (sortStable_nil _ _).mono ?_
            rintro e w5 ⟨rfl, hw5⟩
            have HW5 := Lib.hid hw5; clear hw5
            go_wp2_with fail
            go_meet
            rw [← HW5.out]
            exact ⟨HF.out, hbl⟩
          · have hil : (ints cnt).length = cn := by rw [ints_length]; exact HK.out.2.1
            obtain ⟨g0, rfl, hg0, hg1⟩ := ho.some_ (by omega)
            have hne1 : w.heap.size ≠ g0 := by omega
            have hLr : Blk wr w.heap.size 74 #[.slice LA l.length lc] := (hbl.block _ (by omega)).trans HL2.out
            have hlr := HLW.out.below (hbl.mono (show B ≤ w.heap.size + 1 by omega))
            have hcri : (ints cnt).Pairwise (· < ·) := by
              unfold ints
              rw [List.pairwise_map]
              exact HO.out.2.2.2.2.1.imp (fun h => by omega)
            have hst := sortStable_any (w.heap.size + 1) g0 oc cn 79 #[.pointer (some ⟨w.heap.size, 0, none⟩)] (frm l) (ints cnt) wr ho hil (by omega) hcri (fun args w => by rfl)
              (cmpQ_assign1 hLr hlr (by omega) (by omega) hne1 HO.out.2.2.2.1)
            have HST := Lib.hid (And.intro hst (And.intro hG (And.intro ho hr))); clear hst hnil hG ho hr hLr hlr hcri hil
            go_wp2_with fail
            refine HST.out.1.mono ?_
            rintro e w5 ⟨rfl, ⟨Z, z1, z2, z3⟩, hg5⟩
            have hZ : Z = ints order := by
              refine Srt.sorted_unique (f := frm l) (z1.trans ?_) z2 HO.out.2.2.1
              unfold ints
              exact (HO.out.2.1.map _).symm
            subst hZ
            have hgA : some g0 ≠ some GS := own_ne_ty HST.out.2.2.1 HST.out.2.1 (by decide)
            have hgB : some g0 ≠ some ga := own_own_ty HST.out.2.2.2 HST.out.2.2.1 (by decide) ga rfl
            have hbl5 : Below (w.heap.size + 1) W2 w5 := hbl.grown hg5 (by omega) (fun j hj => by injection hj with hj; omega)
            have hs5 := hg5.size
            have hfin : ScW w5 B (w.heap.size + 1) GS ga lc ac oc LA (some ⟨g0, 0, none⟩) l (List.replicate l.length ((-1 : Int), (-1 : Int))) order := by
              refine ⟨?_, HLW.out.below (hbl5.mono (by omega)), by omega, by omega, HST.out.2.2.2.grown hg5 (fun j hj e => by rw [show rowOf (some (⟨ga, 0, none⟩ : Addr)) = some ga from rfl] at hj; injection hj with hj; subst hj; exact hgB e), HO.out.2.2.2.2.2.2, z3⟩
              rw [HK.out.2.2, List.length_replicate]
              exact HST.out.2.1.grown hg5 hgA
            have HF := Lib.hid hfin; clear hfin z1 z2 z3 hg5 hgA hgB
            go_wp2_with fail
            go_meet
            exact ⟨HF.out, hbl5⟩
        case rest =>
          obtain ⟨hSc, hblc⟩ := hcut
          rename World => W3
          have hpl : order.length ≤ 300 := by rw [HK.out.2.2]; exact Nat.le_trans hcle hN
          clear hbl hsz s0 s1 s2
          obtain ⟨s0, s1, s2⟩ := hSc.out.hS.cells3
          go_wp2_with fail
          go_loopg [11, 65] (order.length) (fun gk v11 iv wr => ∃ (k : Nat), k ≤ order.length ∧ gk = order.length - k ∧ iv = .int .i64 k ∧ Hid (ScW wr B (w.heap.size + 1) GS ga lc ac oc LA OA l (Scn.took l regs order k) order) ∧ Below (w.heap.size + 1) W2 wr)
          case atStart => exact ⟨0, Nat.zero_le _, rfl, rfl, hSc.out, hblc⟩
          case round =>
            obtain ⟨k, hk, rfl, rfl, hkeep, hbl⟩ := hrel
            clear s0 s1 s2
            by_cases hlt : k < order.length
            · obtain ⟨n, hn⟩ : ∃ n, order[k]? = some n := ⟨_, List.getElem?_eq_getElem hlt⟩
              have hnm := List.mem_of_getElem? hn
              have hsn := Scn.took_succ l regs order hn
              have htk := take_any B (w.heap.size + 1) GS ga lc ac oc LA OA l (Scn.took l regs order k) order n regs wr hkeep.out hnm (Scn.took_length l regs order k) HO.out.2.2.2.2.2.1 (by omega) (by omega) hr0 (by omega)
              rw [← hsn] at htk
              obtain ⟨bo, oo, rfl, hbo, g0⟩ := ints_at (hkeep.out.ho.at_ (ints_ok HO.out.2.2.2.2.2.1 (by omega))) hn
              have HT := Lib.hid htk; clear htk hsn hnm hn hkeep
              go_wp2_with fail
              refine HT.out.mono ?_
              rintro e w6 ⟨rfl, h6, hb6⟩
              have H6 := Lib.hid h6; clear h6 g0
              go_wp2_with fail
              go_roundg (order.length - (k + 1))
              case measure => omega
              case rel => exact ⟨k + 1, by omega, rfl, by go_num, H6.out, hbl.trans (hb6.mono (Nat.le_refl _))⟩
            · obtain rfl : k = order.length := by omega
              obtain ⟨s0, s1, s2⟩ := hkeep.out.hS.cells3
              rw [Scn.took_length] at s1
              go_wp2_with fail
              go_loopg [12, 14, 79] (order.length) (fun gk v12 v14 iv wr => ∃ (k : Nat), k ≤ order.length ∧ gk = order.length - k ∧ iv = .int .i64 k ∧ v12 = .int .i64 (Scn.slotted l regs order k).2 ∧ Hid (ScW wr B (w.heap.size + 1) GS ga lc ac oc LA OA l (Scn.slotted l regs order k).1 order) ∧ Below (w.heap.size + 1) W2 wr)
              case atStart => exact ⟨0, Nat.zero_le _, rfl, rfl, rfl, hkeep.out, hbl⟩
              case round =>
                clear hkeep hbl
                obtain ⟨k, hk, rfl, rfl, rfl, hkeep, hbl⟩ := hrel
                clear s0 s1 s2
                have hsl := Scn.slotted_length l regs order k
                obtain ⟨s, hs⟩ : ∃ s, Scn.slotted l regs order k = s := ⟨_, rfl⟩
                rw [hs] at hkeep hsl
                rw [hs]
                obtain ⟨at_, sm⟩ := s
                simp only at hkeep hsl
                by_cases hlt : k < order.length
                · obtain ⟨n, hn⟩ : ∃ n, order[k]? = some n := ⟨_, List.getElem?_eq_getElem hlt⟩
                  have hnl := HO.out.2.2.2.2.2.1 n (List.mem_of_getElem? hn)
                  have hsn := Scn.slotted_succ l regs order hn
                  rw [hs] at hsn
                  unfold Scn.slotStep at hsn
                  simp only at hsn
                  obtain ⟨bo, oo, rfl, hbo, g0⟩ := ints_at (hkeep.out.ho.at_ (ints_ok HO.out.2.2.2.2.2.1 (by omega))) hn
                  obtain ⟨s0, s1, s2⟩ := hkeep.out.hS.cells3
                  obtain ⟨p0, p1⟩ := hkeep.out.ha.pair_cells (i := n) (by omega)
                  have hpo := pair_ok hkeep.out.hok (by omega : n < at_.length)
                  obtain ⟨v, hv⟩ : ∃ v, (at_.getD n (0, 0)).1 = v := ⟨_, rfl⟩
                  rw [hv] at hsn p0 hpo
                  have hnn : (n : Int) < (at_.length : Int) := by omega
                  clear hs hn
                  by_cases hv0 : v < 0
                  · rw [if_pos hv0] at hsn
                    obtain ⟨m, hm⟩ : ∃ m, Scn.mex (Scn.busy l at_ Prod.snd n order) = m := ⟨_, rfl⟩
                    have hml : m ≤ 1000 := by rw [← hm]; have := Scn.mex_le (Scn.busy l at_ Prod.snd n order); have := Scn.busy_length l at_ Prod.snd n order; omega
                    have hf1 : (Scn.busy l at_ Prod.snd n order).contains (m : Int) = false := by rw [← hm]; exact Scn.mex_free _
                    have hf2 : ∀ j, j < m → (Scn.busy l at_ Prod.snd n order).contains (j : Int) = true := by rw [← hm]; exact fun j hj => Scn.mex_lt _ j hj
                    rw [hm] at hsn
                    have hscd := ScW.drew_ hkeep.out
                    have hbz := busy_any wr.heap.size GS lc ac oc 84 LA (some ⟨ga, 0, none⟩) (some ⟨bo, oo, none⟩) l at_ order n Prod.snd wr.drew hscd.hS (hscd.hl.more (Nat.le_trans hscd.hB hscd.hBw)) (hscd.ha.at_ hscd.hok) (hscd.ho.at_ (ints_ok HO.out.2.2.2.2.2.1 (by omega))) (Nat.le_refl _) hnl hsl HO.out.2.2.2.2.2.1 (by omega) (by omega)
                      (fun args w => by rfl) (fun a W => place_2 a W) (fun a _ h2 => h2)
                    have HBZ := Lib.hid (And.intro hbz (And.intro hf1 (And.intro hf2 (And.intro hsn (And.intro hpo hv))))); clear hbz hf1 hf2 hsn hm hscd hpo hv
                    clear s0 p1
                    have hm1 : IntKind.i64.wrap ((m : Int) + 1) = (m : Int) + 1 := IntWalk.i64_in _ (by omega)
                    go_wp2_with fail
                    refine wp_region_held_drew (S := (fun w' => w'.cell? ⟨GS, 1, none⟩ = some (.slice (some ⟨ga, 0, none⟩) at_.length ac))) (by kernel_rfl) ?_ (fun hHeld0 => ?_)
                    · first | trivial | ((try dsimp only); (exact s1))
                    refine held_take (v := ?_) 0 rfl (by kernel_rfl) (by kernel_rfl) (by kernel_rfl) (fun _ _ _ h => h) (by rfl) ?_ (by assumption) ?_
                    rotate_left
                    · (intro w hSw; (try dsimp only at hSw); go_simp; try with_reducible rfl)
                    try simp only [Act.put, List.setIfInBounds_toArray, List.set_cons_zero, List.set_cons_succ]
                    refine held_take (v := ?_) 1 rfl (by kernel_rfl) (by kernel_rfl) (by kernel_rfl) (fun _ _ _ h => h) (by rfl) ?_ (by assumption) ?_
                    rotate_left
                    · (intro w hSw; (try dsimp only at hSw); go_simp; try with_reducible rfl)
                    try simp only [Act.put, List.setIfInBounds_toArray, List.set_cons_zero, List.set_cons_succ]
                    refine held_take (v := ?_) 2 rfl (by kernel_rfl) (by kernel_rfl) (by kernel_rfl) (fun _ _ _ h => h) (by rfl) ?_ (by assumption) ?_
                    rotate_left
                    · (intro w hSw; (try dsimp only at hSw); go_simp; try with_reducible rfl)
                    try simp only [Act.put, List.setIfInBounds_toArray, List.set_cons_zero, List.set_cons_succ]
                    refine held_take (v := ?_) 3 rfl (by kernel_rfl) (by kernel_rfl) (by kernel_rfl) (fun _ _ _ h => h) (by rfl) ?_ (by assumption) ?_
                    rotate_left
                    · (intro w hSw; (try dsimp only at hSw); go_simp; try with_reducible rfl)
                    try simp only [Act.put, List.setIfInBounds_toArray, List.set_cons_zero, List.set_cons_succ]
                    refine held_take (v := ?_) 4 rfl (by kernel_rfl) (by kernel_rfl) (by kernel_rfl) (fun _ _ _ h => h) (by rfl) ?_ (by assumption) ?_
                    rotate_left
                    · (intro w hSw; (try dsimp only at hSw); go_simp; try with_reducible rfl)
                    try simp only [Act.put, List.setIfInBounds_toArray, List.set_cons_zero, List.set_cons_succ]
                    refine held_take (v := ?_) 5 rfl (by kernel_rfl) (by kernel_rfl) (by kernel_rfl) (fun _ _ _ h => h) (by rfl) ?_ (by assumption) ?_
                    rotate_left
                    · (intro w hSw; (try dsimp only at hSw); go_simp; try with_reducible rfl)
                    try simp only [Act.put, List.setIfInBounds_toArray, List.set_cons_zero, List.set_cons_succ]
                    refine held_take (v := ?_) 6 rfl (by kernel_rfl) (by kernel_rfl) (by kernel_rfl) (fun _ _ _ h => h) (by rfl) ?_ (by assumption) ?_
                    rotate_left
                    · (intro w hSw; (try dsimp only at hSw); go_simp; try with_reducible rfl)
                    try simp only [Act.put, List.setIfInBounds_toArray, List.set_cons_zero, List.set_cons_succ]
                    refine held_call 7 (by kernel_rfl) rfl (fun K hK => ?_)
                    go_simp
                    go_at_call 83; refine HBZ.out.1.mono ?_; rintro e w7 ⟨rfl, hown7, hb7d⟩; have hb7 : Below wr.heap.size wr w7 := undrew hb7d; clear hb7d
                    try (go_wp2_with fail)
                    refine hK.out _ _ ?_ (fun hHeld1 => ?_)
                    · first | trivial | ((try dsimp only); (exact ((hkeep.out.below hb7).hS.cells3).2.1))
                    clear hK K hHeld0
                    try simp only [Act.put, List.setIfInBounds_toArray, List.set_cons_zero, List.set_cons_succ]
                    refine held_call 8 (by kernel_rfl) rfl (fun K hK => ?_)
                    go_simp
                    go_at_call 82; refine (least_any _ order.length m _ w7 hown7 HBZ.out.2.1 HBZ.out.2.2.1 (by omega)).mono ?_; rintro e w8 ⟨rfl, hb8⟩; clear hown7; have hb78 : Below wr.heap.size wr w8 := hb7.trans (hb8.mono hb7.size); have hs8 := hkeep.out.below hb78; obtain ⟨q0, q1⟩ := hs8.ha.pair_cells (i := n) (by omega); have z1 := hs8.ha.frozen (g := ga) rfl (n * 2 + 1); have H8 := Lib.hid hs8; clear hs8
                    try (go_wp2_with fail)
                    refine hK.out _ _ ?_ (fun hHeld2 => ?_)
                    · first | trivial | ((try dsimp only); (exact (H8.out.hS.cells3).2.1))
                    clear hK K hHeld1
                    try simp only [Act.put, List.setIfInBounds_toArray, List.set_cons_zero, List.set_cons_succ]
                    refine held_take (v := ?_) 9 rfl (by kernel_rfl) (by kernel_rfl) (by kernel_rfl) (fun _ _ _ h => h) (by rfl) ?_ (by assumption) ?_
                    rotate_left
                    · (intro w hSw; (try dsimp only at hSw); go_simp; try with_reducible rfl)
                    try simp only [Act.put, List.setIfInBounds_toArray, List.set_cons_zero, List.set_cons_succ]
                    refine held_take (v := ?_) 10 rfl (by kernel_rfl) (by kernel_rfl) (by kernel_rfl) (fun _ _ _ h => h) (by rfl) ?_ (by assumption) ?_
                    rotate_left
                    · (intro w hSw; (try dsimp only at hSw); go_simp; try with_reducible rfl)
                    try simp only [Act.put, List.setIfInBounds_toArray, List.set_cons_zero, List.set_cons_succ]
                    refine held_call 11 (by kernel_rfl) rfl (fun K hK => ?_)
                    go_simp
                    refine hK.out _ _ ?_ (fun hHeld3 => ?_)
                    · first | trivial | ((try dsimp only); (exact (World.cell?_setCell_other _ _ _ _ (by intro e; simp only [Addr.mk.injEq] at e; omega)).trans (H8.out.hS.cells3).2.1))
                    clear hK K hHeld2
                    try simp only [Act.put, List.setIfInBounds_toArray, List.set_cons_zero, List.set_cons_succ]
                    refine wpAnyH_done (by kernel_rfl) ?_ _
                    have hset := H8.out.ha.set_snd (m : Int) (by omega : n < at_.length)
                    have hok8 : ∀ x ∈ at_.set n ((at_.getD n (0, 0)).1, (m : Int)), Flat.ok x := set_ok (y := ((at_.getD n (0, 0)).1, (m : Int))) H8.out.hok ⟨by rw [HBZ.out.2.2.2.2.2]; exact HBZ.out.2.2.2.2.1.1, by show I64 _; unfold I64; omega⟩
                    have hfin := H8.out.set_ (grownBy_setCell w8 ga (n * 2 + 1) (.int .i64 m)) hset (by rw [List.length_set]) hok8 (by decide) (by decide)
                    have hbe : Below (w.heap.size + 1) W2 (w8.setCell ⟨ga, n * 2 + 1, none⟩ (.int .i64 m)) := (hbl.trans (hb78.mono (by have := hbl.size; omega))).setCell hga.1 _
                    rw [HBZ.out.2.2.2.2.2] at hfin
                    clear s1 s2 g0 p0 q0 q1 z1 hset hok8 hb7 hb8
                    generalize w8.setCell ⟨ga, n * 2 + 1, none⟩ (.int .i64 m) = w9 at hfin hbe ⊢
                    obtain ⟨s0, s1, s2⟩ := hfin.hS.cells3
                    obtain ⟨-, p1⟩ := hfin.ha.pair_cells (i := n) (by rw [List.length_set]; omega)
                    have hgd : ((at_.set n (v, (m : Int))).getD n (0, 0)).2 = (m : Int) := by rw [List.getD_eq_getElem?_getD, List.getElem?_set_self (by omega)]; rfl
                    rw [hgd] at p1
                    rw [List.length_set] at s1
                    have HF := Lib.hid (And.intro hfin hbe); clear hfin hbe hgd
                    clear s0 s2
                    go_wp2_with fail
                    go_roundg (order.length - (k + 1))
                    case measure => omega
                    case rel => exact ⟨k + 1, by omega, rfl, by go_num, by rw [HBZ.out.2.2.2.1], by rw [HBZ.out.2.2.2.1]; exact HF.out.1, HF.out.2⟩
                  · rw [if_neg hv0] at hsn
                    have HSN := Lib.hid hsn; clear hsn hv hpo
                    go_wp2_with fail
                    go_roundg (order.length - (k + 1))
                    case measure => omega
                    case rel => exact ⟨k + 1, by omega, rfl, by go_num, by rw [HSN.out], by rw [HSN.out]; exact hkeep.out, hbl⟩
                · obtain rfl : k = order.length := by omega
                  obtain ⟨s0, s1, s2⟩ := hkeep.out.hS.cells3
                  rw [hsl] at s1
                  have HS := Lib.hid hs; clear hs
                  go_wp2_with fail
                  go_returns
                  have hs1 := HS.out
                  rw [← HO.out.1] at hs1
                  rw [hs1]
                  exact ⟨ga, ac, rfl, hkeep.out.ha.base_le (by omega), hkeep.out.hok, hbW.trans (hbl.mono (by omega))⟩

end Go.Proofs.Ytljdnadejmkaeaa
