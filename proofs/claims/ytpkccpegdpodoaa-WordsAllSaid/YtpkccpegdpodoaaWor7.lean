/- The law of the words of a list of cells. -/
import Derived.Test.YtpkccpegdpodoaaWor6
namespace Go.Proofs.Ytpkccpegdpodoaa
open Go.RowKit

set_option maxHeartbeats 3200000 in
set_option maxRecDepth 100000 in
theorem wordsAll_any (A : Option Addr) (c B : Nat) (l : List Ce) (w : World) (h : At w B A l) (hB : B ≤ w.heap.size) (hl : l.length ≤ 9223372036854775807) (hc : l.length ≤ c) :
    Calls Try.prog 6 #[.slice A l.length c] w fun e w' => e = .returned (.bool true) ∧ Below w.heap.size w w' := by
  obtain ⟨i0, hi, hz0, hz1, hz2⟩ := info_parts infoU64
  obtain ⟨n, hn⟩ : ∃ n, n = min l.length 310 := ⟨_, rfl⟩
  have hmin : min (l.length : Int) 310 = (n : Int) := by omega
  have htl : (l.take 310).length = n := by rw [List.length_take]; omega
  have H := Lib.hid (And.intro (h.take_ 310) htl); clear h htl
  have hn1 : n ≤ l.length := by omega
  have hn2 : n ≤ c := by omega
  have hn3 : n ≤ 310 := by omega
  clear hn
  generalize l.take 310 = l' at H
  have hcn : IntKind.u64.wrap (n : Int) = (n : Int) % 18446744073709551616 := IntKind.wrap_u64 _
  go_enter Try.func6, Try.ntmps6
  go_wp2_with fail
  refine (worded_any w).mono ?_
  rintro e w1 ⟨rfl, hb1⟩
  have hs1 := hb1.size
  go_wp2_with fail
  refine (all_any B c n A l' w1 H.out.2 (H.out.1.below (hb1.mono hB)) (by omega) hn3).mono ?_
  rintro e w2 ⟨hb2, hp⟩
  have hs2 := hb2.size
  have hbl2 := hb1.trans (hb2.mono hs1)
  have hp' : ∃ WA wl wk er, e = .returned (.tuple #[.slice WA wl wk, .int .i64 er]) ∧ Hid (er = allErr l' ∧ (er = 0 → wl = (allW l').length ∧ Own w2 w1.heap.size 24 WA wk (allW l')) ∧ (er ≠ 0 → wl = 0)) := by
    rcases hp with ⟨h0, A2, d, rfl, hown⟩ | ⟨h0, rfl⟩
    · exact ⟨A2, _, d, 0, rfl, ⟨h0.symm, fun _ => ⟨rfl, hown⟩, fun h => absurd rfl h⟩⟩
    · exact ⟨none, 0, 0, _, rfl, ⟨rfl, fun h => absurd h h0, fun _ => rfl⟩⟩
  clear hp
  obtain ⟨WA, wl, wk, er, rfl, hp⟩ := hp'
  by_cases h300 : 300 < n
  · have hE : er = 2 := by rw [hp.out.1]; unfold allErr; rw [if_pos (by have := H.out.2; omega), errC_stays _ _ (by decide)]
    have hwl : wl = 0 := hp.out.2.2 (by rw [hE]; decide)
    clear hp
    subst hE hwl
    go_wp2_with fail
    go_loopg [5, 6, 30] (n) (fun gk ev ov iv wr => ∃ (k : Nat), k ≤ n ∧ gk = n - k ∧ iv = .int .i64 k ∧ ev = .int .i64 2 ∧ ov = .slice (some ⟨w2.heap.size, 0, none⟩) 1 1 ∧ Below w2.heap.size w2 wr ∧ w2.heap.size ≤ wr.heap.size)
    case atStart => exact ⟨0, Nat.zero_le _, rfl, rfl, rfl, rfl, (Below.refl _ _).alloc (Nat.le_refl _) _, by simp⟩
    case round =>
      obtain ⟨k, hk, rfl, rfl, rfl, rfl, hbl, hsz⟩ := hrel
      by_cases hlt : k < n
      · obtain ⟨b, o, x, VA, vc, FA, fc, rfl, hb, hx, e0, e1, e2, e3, av, hvc, af, hfc, j0, j1⟩ := (H.out.1.below ((hbl2.trans (hbl.mono (by omega))).mono hB)).ce_ (by have := H.out.2; omega : k < l'.length)
        have hk0 : (0 : Int) ≤ (k : Int) := by omega
        have hk1 : (k : Int) < (n : Int) := by omega
        clear hx av af hvc hfc j0 j1
        go_wp2_with fail
        go_roundg (n - (k + 1))
        case measure => omega
        case rel => exact ⟨k + 1, by omega, rfl, by go_num, rfl, rfl, hbl.alloc hsz _, by simp; omega⟩
      · go_wp2_with fail
        go_ret
        exact ⟨rfl, hbl2.trans (hbl.mono (by omega))⟩
  · have hE : allErr l' = errC 0 l' := by unfold allErr; rw [if_neg (by have := H.out.2; omega)]
    have HP := Lib.hid (And.intro hE hp.out); clear hE hp
    go_wp2_with fail
    clear hcn hmin
    go_loopg [5, 6, 30] (n) (fun gk ev ov iv wr => ∃ (k : Nat) (A2 : Option Addr) (c2 : Nat) (o1 : List U64) (ek : Int), k ≤ n ∧ gk = n - k ∧ iv = .int .i64 k ∧ ev = .int .i64 ek ∧ ov = .slice A2 o1.length c2 ∧ o1.length ≤ 1 + k * 10000 ∧ Hid (ek = errC 0 (l'.take k) ∧ (ek = 0 → o1 = [wd n] ++ (l'.take k).flatMap (cellW bx)) ∧ Own wr w2.heap.size 24 A2 c2 o1) ∧ Below w2.heap.size w2 wr)
    case atStart => exact ⟨0, some ⟨w2.heap.size, 0, none⟩, 1, [wd n], 0, Nat.zero_le _, rfl, rfl, rfl, rfl, by simp, ⟨rfl, fun _ => by simp, own_lit w2 w2.heap.size w2.heap.size 1 24 _ [wd n] rfl rfl (Nat.le_refl _) rfl (by simp [maxLen])⟩, (Below.refl _ _).alloc (Nat.le_refl _) _⟩
    case round =>
      obtain ⟨k, A2, c2, o1, ek, hk, rfl, rfl, rfl, rfl, ho1, hkeep, hbl⟩ := hrel
      have hsz := hbl.size
      by_cases hlt : k < n
      · obtain ⟨b, o, x, VA, vc, FA, fc, rfl, hb, hx, e0, e1, e2, e3, av, hvc, af, hfc, j0, j1⟩ := (H.out.1.below ((hbl2.trans (hbl.mono (by omega))).mono hB)).ce_ (by have := H.out.2; omega : k < l'.length)
        have hsn := errC_snoc 0 l' k x hx
        have hfs := flatMap_snoc (cellW bx) l' k x hx
        have hk0 : (0 : Int) ≤ (k : Int) := by omega
        have hk1 : (k : Int) < (n : Int) := by omega
        obtain ⟨hvc1, hvc2⟩ := hvc
        obtain ⟨hfc1, hfc2⟩ := hfc
        unfold maxLen at hvc2 hfc2
        rw [← hkeep.out.1] at hsn
        have HX := Lib.hid (And.intro hsn (And.intro hfs (And.intro av (And.intro af (And.intro hkeep.out (And.intro j0 j1)))))); clear hsn hfs av af hx j0 j1 hkeep
        by_cases h0 : ek = 0
        · subst h0
          have hsn := HX.out.1
          rw [if_pos rfl] at hsn
          have HSN := Lib.hid hsn; clear hsn
          go_wp2_with fail
          refine calls_world (fun W => Blk W wr.heap.size 38 #[.int .i64 x.kind, .int .i64 x.num, .slice VA x.vals.length vc, .slice FA x.frames.length fc] ∧ Below wr.heap.size wr W ∧ wr.heap.size + 1 ≤ W.heap.size) ⟨Blk.new _ _ _, (Below.refl _ _).alloc (Nat.le_refl _) _, by simp⟩ ?_
          rintro W ⟨hG, hbW, hsW⟩
          refine (cfault_any B vc fc VA FA x W (HX.out.2.2.1.below (hbW.mono (by omega))) (HX.out.2.2.2.1.below (hbW.mono (by omega))) (by omega) (by omega) (by omega)).mono ?_
          rintro e w3 ⟨rfl, hb3⟩
          have hs3 := hb3.size
          have hbr3 : Below wr.heap.size wr w3 := hbW.trans (hb3.mono (by omega))
          have hG3 := hG.fresh hb3
          clear e0 e1 e2 e3
          have g0 := hG3.cell 0 (v := .int .i64 x.kind) rfl
          have g1 := hG3.cell 1 (v := .int .i64 x.num) rfl
          have g2 := hG3.cell 2 (v := .slice VA x.vals.length vc) rfl
          have g3 := hG3.cell 3 (v := .slice FA x.frames.length fc) rfl
          have lt3 : wr.heap.size < w3.heap.size := by omega
          clear hG hG3
          obtain ⟨e9, he9⟩ : ∃ e9, cellErr bx x = e9 := ⟨_, rfl⟩
          rw [he9]
          by_cases h9 : e9 = 0
          · subst h9
            have hlg := large_of he9
            obtain ⟨cw, hcw⟩ : ∃ cw, cellW bx x = cw := ⟨_, rfl⟩
            have hcwl : cw.length ≤ 10000 := by rw [← hcw]; exact cellW_le hlg
            have hcok : ∀ z ∈ cw, Flat.ok z := by rw [← hcw]; exact cellW_ok x
            have hcw4 := cellWords_any B vc fc VA FA x w3 (HX.out.2.2.1.below (hbr3.mono (by omega))) (HX.out.2.2.2.1.below (hbr3.mono (by omega))) (by omega) hlg HX.out.2.2.2.2.2
            rw [hcw] at hcw4
            have HC := Lib.hid (And.intro hcw4 (And.intro hcok (And.intro hcw he9))); clear hcw4 hcok hcw he9 hlg
            go_wp2_with fail
            refine HC.out.1.mono ?_
            rintro e w4 ⟨A4, c4, rfl, hown4, hb4⟩
            have hs4 := hb4.size
            have hbr4 : Below wr.heap.size wr w4 := hbr3.trans (hb4.mono (by omega))
            have HO := Lib.hid (And.intro (HX.out.2.2.2.2.1.2.2.fresh hbr4) (hown4.at_ HC.out.2.1)); clear hown4
            have hbl4 : Below w2.heap.size w2 w4 := hbl.trans (hbr4.mono hsz)
            clear g0 g1 g2 g3
            go_wp2_with (at_builtin; go_must (refine wpList_app (α := U64) (n := o1.length) (m := cw.length) (B := w4.heap.size) (r := cw) rfl (.tmp 40) (.tmp 42) _ rfl w2.heap.size 24 i0 _ 8 Try.underlying39 hi hz0 hz1 hz2 rfl (by decide) u64_one (by rfl) rfl HO.out.1 (by rfl) HO.out.2 rfl (by omega) (by simp only [maxLen]; omega) (by omega) ?_))
            intro A5 c5 w5 hown5 hgr5 hat5
            have hbl5 : Below w2.heap.size w2 w5 := hbl4.grown hgr5 (by omega) (fun g hg => (HO.out.1.lt g hg).1)
            have heq : o1 ++ cw = [wd n] ++ (l'.take (k + 1)).flatMap (cellW bx) := by rw [HX.out.2.1, HX.out.2.2.2.2.1.2.1 (by trivial), HC.out.2.2.1]; simp
            have hl5 : (o1 ++ cw).length = o1.length + cw.length := List.length_append
            have H5 := Lib.hid (And.intro heq (And.intro hown5 (And.intro hl5 (HSN.out.trans HC.out.2.2.2)))); clear heq hown5 hl5 hgr5 hat5
            go_wp2_with fail
            go_roundg (n - (k + 1))
            case measure => omega
            case rel => exact ⟨k + 1, A5, c5, _, 0, by omega, rfl, by go_num, rfl, by rw [H5.out.2.2.1], by rw [H5.out.2.2.1]; omega, ⟨H5.out.2.2.2.symm, fun _ => H5.out.1, H5.out.2.1⟩, hbl5⟩
          · have hne : (e9 == 0) = false := by simp [h9]
            have HO := Lib.hid (And.intro (HX.out.2.2.2.2.1.2.2.fresh hbr3) (And.intro (HSN.out.trans he9) h9))
            have hbl3 : Below w2.heap.size w2 w3 := hbl.trans (hbr3.mono hsz)
            clear h9 he9
            go_wp2_with fail
            go_roundg (n - (k + 1))
            case measure => omega
            case rel => exact ⟨k + 1, A2, c2, o1, e9, by omega, rfl, by go_num, rfl, rfl, by omega, ⟨HO.out.2.1.symm, fun h => absurd h HO.out.2.2, HO.out.1⟩, hbl3⟩
        · have hne : (ek == 0) = false := by simp [h0]
          have hsn := HX.out.1
          rw [if_neg h0] at hsn
          have HO := Lib.hid (And.intro (HX.out.2.2.2.2.1.2.2.alloc (.cells #[.int .i64 x.kind, .int .i64 x.num, .slice VA x.vals.length vc, .slice FA x.frames.length fc] 38)) (And.intro hsn h0)); clear h0 hsn
          go_wp2_with fail
          go_roundg (n - (k + 1))
          case measure => omega
          case rel => exact ⟨k + 1, A2, c2, o1, ek, by omega, rfl, by go_num, rfl, rfl, by omega, ⟨HO.out.2.1.symm, fun h => absurd h HO.out.2.2, HO.out.1⟩, hbl.alloc hsz _⟩
      · obtain ⟨k1, k2, k3⟩ := hkeep.out
        rw [List.take_of_length_le (by have := H.out.2; omega)] at k1 k2
        have her : er = ek := by rw [HP.out.2.1, HP.out.1, k1]
        subst her
        by_cases h0 : er = 0
        · obtain ⟨h1, h2⟩ := HP.out.2.2.1 h0
          have hk2 : allW l' = o1 := by rw [k2 h0]; unfold allW; rw [H.out.2]; rfl
          rw [hk2] at h1 h2
          have hok : ∀ z ∈ o1, Flat.ok z := by
            rw [← hk2]
            intro z hz
            unfold allW at hz
            rcases List.mem_cons.1 hz with rfl | hz
            · exact wd_ok _
            · obtain ⟨f, -, hf⟩ := List.mem_flatMap.1 hz
              exact cellW_ok f z hf
          have HO := Lib.hid (And.intro ((h2.fresh hbl).at_ hok) (k3.at_ hok))
          clear h2 hk2 k1 k2 k3 hok hkeep HP
          subst h0 h1
          go_wp2_with fail
          refine (eqU64_n WA A2 wk c2 wr.heap.size wr.heap.size o1.length o1.length o1 o1 wr rfl rfl HO.out.1 HO.out.2 (by omega)).mono ?_
          rintro e w5 ⟨rfl, rfl⟩
          rw [decide_eq_true rfl]
          go_wp2_with fail
          go_ret
          exact ⟨rfl, hbl2.trans (hbl.mono (by omega))⟩
        · have h1 := HP.out.2.2.2 h0
          subst h1
          have hne : (er != 0) = true := by simp [h0]
          clear h0 k1 k2 k3 hkeep HP
          go_wp2_with fail
          go_ret
          exact ⟨rfl, hbl2.trans (hbl.mono (by omega))⟩

end Go.Proofs.Ytpkccpegdpodoaa
