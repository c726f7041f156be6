/- The law of a heap that moves. -/
import Derived.Test.YtpkccpegdpodoaaHaul14
namespace Go.Proofs.Ytpkccpegdpodoaa
open Go.RowKit Go.Maps

attribute [local go_sem ↓] Go.wp_at_zero Go.wp_at_succ

theorem Hau.bfs_in {ws : List U64} (hok : Hau.okW ws = true) (hw : Hau.wordsOk ws = true) : ∀ (f : Nat) (F : List Nat) (i : Nat), F.Nodup → (∀ p ∈ F, p ∈ Hau.places ws) → (Hau.bfs ws f F i).Nodup ∧ ∀ p ∈ Hau.bfs ws f F i, p ∈ Hau.places ws
  | 0, F, i, h1, h2 => ⟨h1, h2⟩
  | f + 1, F, i, h1, h2 => by
    unfold Hau.bfs
    split
    · rename_i hi
      have hm : F.getD i 0 ∈ F := by rw [List.getD_eq_getElem?_getD, List.getElem?_eq_getElem hi]; exact List.getElem_mem hi
      exact Hau.bfs_in hok hw f _ _ (Hau.addAll_nodup _ h1) (Hau.addAll_sub _ h2 (Hau.wordsOk_tail hok hw (h2 _ hm)))
    · exact ⟨h1, h2⟩
theorem Hau.told_in {ws roots : List U64} (hok : Hau.okW ws = true) (hw : Hau.wordsOk ws = true) (hr : Hau.rootsOk ws roots = true) : (Hau.told ws roots).Nodup ∧ ∀ p ∈ Hau.told ws roots, p ∈ Hau.places ws :=
  Hau.bfs_in hok hw _ _ _ (Hau.addAll_nodup _ List.nodup_nil) (Hau.addAll_sub _ (by simp) (fun x hx => List.all_eq_true.1 hr x hx))

theorem Hau.newWords_flat {ws roots : List U64} (h : ∀ x ∈ ws, Flat.ok x) : ∀ x ∈ Hau.newWords ws roots, Flat.ok x := by
  intro x hx
  unfold Hau.newWords at hx
  obtain ⟨p, -, hx⟩ := List.mem_flatMap.1 hx
  unfold Hau.tobj at hx
  rcases List.mem_append.1 hx with hx | hx
  · exact h x (List.mem_of_mem_drop (List.mem_of_mem_take (List.mem_of_mem_take hx)))
  · obtain ⟨z, hz, rfl⟩ := List.mem_map.1 hx
    exact Hau.trn_flat (Hau.tail_ok h z hz)
theorem Hau.newRoots_flat {ws roots : List U64} (h : ∀ x ∈ roots, Flat.ok x) : ∀ x ∈ Hau.newRoots ws roots, Flat.ok x := by
  intro x hx
  unfold Hau.newRoots at hx
  obtain ⟨z, hz, rfl⟩ := List.mem_map.1 hx
  exact Hau.trn_flat (h z hz)

set_option maxHeartbeats 3200000 in
set_option maxRecDepth 100000 in
theorem haulTells_any (B wc gc : Nat) (WA GA : Option Addr) (ws roots : List U64) (w : World) (hw : At w B WA ws) (hg : At w B GA roots) (hB : B ≤ w.heap.size) (hwc : ws.length ≤ wc) :
    Calls Try.prog 7 #[.agg #[.slice WA ws.length wc, .slice GA roots.length gc]] w fun e w' => e = .returned (.bool true) ∧ Below w.heap.size w w' := by
  have H := Lib.hid (show HpAt w B ⟨ws, roots⟩ WA GA from ⟨hw, hg⟩); clear hw hg
  obtain ⟨er, her⟩ : ∃ e, Hau.heapErr ⟨ws, roots⟩ = e := ⟨_, rfl⟩
  have HE := Lib.hid her; clear her
  go_enter Try.func7, Try.ntmps7
  go_wp2_with fail
  refine calls_world (fun W => Blk W w.heap.size 70 #[.slice WA ws.length wc, .slice GA roots.length gc] ∧ Below w.heap.size w W ∧ w.heap.size < W.heap.size) ⟨Blk.new _ _ _, (Below.refl _ _).alloc (Nat.le_refl _) _, by simp⟩ ?_
  rintro W ⟨hG, hb0, hs0⟩
  refine (hauled_any W).mono ?_
  rintro e w1 ⟨rfl, hb1⟩
  have hs1 := hb1.size
  have b1 : Below w.heap.size w w1 := hb0.trans (hb1.mono (by omega))
  have G1 := hG.fresh hb1
  have HG1 := Lib.hid G1
  have g0 := G1.cell 0 (v := .slice WA ws.length wc) rfl
  have g1 := G1.cell 1 (v := .slice GA roots.length gc) rfl
  clear hG hb0 hb1 G1
  go_wp2_with fail
  have hf := heapFault_any B wc gc WA GA ⟨ws, roots⟩ w1 ⟨H.out.1.below (b1.mono hB), H.out.2.below (b1.mono hB)⟩ (by omega)
  rw [HE.out] at hf
  refine hf.mono ?_
  rintro e w2 ⟨rfl, hb2⟩
  have hs2 := hb2.size
  have b2 : Below w.heap.size w w2 := b1.trans (hb2.mono (by omega))
  have HG2 := Lib.hid (HG1.out.fresh hb2)
  clear hf g0 g1
  have g0 := HG2.out.cell 0 (v := .slice WA ws.length wc) rfl
  have g1 := HG2.out.cell 1 (v := .slice GA roots.length gc) rfl
  go_wp2_with fail
  have ho := hObjects_any B wc gc WA GA ⟨ws, roots⟩ w2 ⟨H.out.1.below (b2.mono hB), H.out.2.below (b2.mono hB)⟩ (by omega)
  rw [HE.out] at ho
  refine ho.mono ?_
  rintro e w3 ⟨hb3, hr3⟩
  have hs3 := hb3.size
  have b3 : Below w.heap.size w w3 := b2.trans (hb3.mono (by omega))
  have HG3 := Lib.hid (HG2.out.fresh hb3)
  clear ho g0 g1
  have g0 := HG3.out.cell 0 (v := .slice WA ws.length wc) rfl
  have g1 := HG3.out.cell 1 (v := .slice GA roots.length gc) rfl
  have hc := hcollect_any B wc gc WA GA ws roots w3 ⟨H.out.1.below (b3.mono hB), H.out.2.below (b3.mono hB)⟩ (by omega) hwc
  rw [HE.out] at hc
  have HC := Lib.hid hc; clear hc
  rcases hr3 with ⟨h0, OA, oc, rfl, ho3⟩ | ⟨h0, rfl⟩
  · subst h0
    have HO := Lib.hid ho3; clear ho3
    go_wp2_with fail
    refine HC.out.mono ?_
    rintro e w4 ⟨hb4, hr4⟩
    rcases hr4 with ⟨-, TA, tc, RA, rc, LA, lc, rfl, o1, o2, o3⟩ | ⟨h, -⟩
    · have hs4 := hb4.size
      have b4 : Below w.heap.size w w4 := b3.trans (hb4.mono (by omega))
      have HG4 := Lib.hid (HG3.out.fresh hb4)
      have HO4 := Lib.hid (And.intro (HO.out.fresh hb4) (And.intro o1 (And.intro o2 o3))); clear o1 o2 o3 g0 g1
      have g0 := (HG4.out.alloc (.cells #[.slice TA (Hau.newWords ws roots).length tc, .slice RA (Hau.newRoots ws roots).length rc] 70)).cell 0 (v := .slice WA ws.length wc) rfl
      have g1 := (HG4.out.alloc (.cells #[.slice TA (Hau.newWords ws roots).length tc, .slice RA (Hau.newRoots ws roots).length rc] 70)).cell 1 (v := .slice GA roots.length gc) rfl
      go_wp2_with fail
      clear g0 g1
      refine calls_world (fun V => Blk V w.heap.size 70 #[.slice WA ws.length wc, .slice GA roots.length gc] ∧ Blk V w4.heap.size 70 #[.slice TA (Hau.newWords ws roots).length tc, .slice RA (Hau.newRoots ws roots).length rc] ∧ Below w.heap.size w V ∧ Below w4.heap.size w4 V ∧ w4.heap.size < V.heap.size) ⟨HG4.out.alloc _, Blk.new _ _ _, b4.alloc (by omega) _, (Below.refl _ _).alloc (Nat.le_refl _) _, by simp⟩ ?_
      rintro V ⟨v1, v2, v3, v4, hsV⟩
      have hs5 := v3.size
      have hk := hcheck_any B wc gc WA GA ⟨ws, roots⟩ V ⟨H.out.1.below (v3.mono hB), H.out.2.below (v3.mono hB)⟩ (by omega)
      rw [HE.out] at hk
      refine hk.mono ?_
      rintro e w5 ⟨rfl, hb5⟩
      have hs6 := hb5.size
      have b5 : Below w.heap.size w w5 := v3.trans (hb5.mono hs5)
      have b45 : Below w4.heap.size w4 w5 := v4.trans (hb5.mono (by omega))
      have HV := Lib.hid (And.intro (v1.fresh hb5) (v2.fresh hb5)); clear hk v1 v2
      have g0 := HV.out.1.cell 0 (v := .slice WA ws.length wc) rfl
      have g1 := HV.out.1.cell 1 (v := .slice GA roots.length gc) rfl
      obtain ⟨hl1, hl2, hok, hwo, hro⟩ : ws.length ≤ 2000 ∧ roots.length ≤ 100 ∧ Hau.okW ws = true ∧ Hau.wordsOk ws = true ∧ Hau.rootsOk ws roots = true := by
        have her := HE.out
        unfold Hau.heapErr at her
        simp only at her
        split at her
        · cases her
        · rename_i h1
          split at her
          · cases her
          · rename_i h2
            split at her
            · cases her
            · rename_i h3
              split at her
              · cases her
              · rename_i h4
                exact ⟨by omega, by omega, by simpa using h2, by simpa using h3, by simpa using h4⟩
      have HP := Lib.hid (And.intro hok (And.intro hwo hro)); clear hok hwo hro
      go_wp2_with fail
      refine (rplaces_any B wc WA ws w5 (H.out.1.below (b5.mono hB)) (by omega) hl1).mono ?_
      rintro e w6 ⟨hb6, hp6⟩
      rcases hp6 with ⟨-, PA, pc, rfl, o6⟩ | ⟨h, -⟩
      · have hs7 := hb6.size
        have b6 : Below w.heap.size w w6 := b5.trans (hb6.mono (by omega))
        have HV6 := Lib.hid (And.intro (HV.out.1.fresh hb6) (HV.out.2.fresh hb6))
        have HO6 := Lib.hid o6; clear o6 g0 g1
        have g0 := HV6.out.1.cell 0 (v := .slice WA ws.length wc) rfl
        have g1 := HV6.out.1.cell 1 (v := .slice GA roots.length gc) rfl
        go_wp2_with fail
        refine (rmoved_any B wc gc WA GA ws roots w6 (H.out.1.below (b6.mono hB)) (H.out.2.below (b6.mono hB)) (by omega) hwc hl1 hl2 HP.out.1 HP.out.2.1 HP.out.2.2).mono ?_
        rintro e w7 ⟨hb7, TA2, tc2, RA2, rc2, LA2, lc2, rfl, o1, o2, o3⟩
        have hs8 := hb7.size
        have b7 : Below w.heap.size w w7 := b6.trans (hb7.mono (by omega))
        have HO7 := Lib.hid (And.intro o1 (And.intro o2 o3)); clear o1 o2 o3 g0 g1
        have HV7 := Lib.hid (HV6.out.2.fresh hb7)
        go_wp2_with fail
        refine calls_world (fun V => Below w7.heap.size w7 V ∧ Blk V w4.heap.size 70 #[.slice TA (Hau.newWords ws roots).length tc, .slice RA (Hau.newRoots ws roots).length rc] ∧ Blk V w7.heap.size 70 #[.slice TA2 (Hau.newWords ws roots).length tc2, .slice RA2 (Hau.newRoots ws roots).length rc2] ∧ Below w.heap.size w V) ⟨(Below.refl _ _).alloc (Nat.le_refl _) _, HV7.out.alloc _, Blk.new _ _ _, b7.alloc (by omega) _⟩ ?_
        rintro V ⟨c1, c2, c3, c4⟩
        have hsV := c1.size
        have hplt := Hau.places_lt ws
        have hti := Hau.told_in HP.out.1 HP.out.2.1 HP.out.2.2
        have hmf := Hau.mv_flat (ws := ws) (Nat.le_trans (Hau.len_le HP.out.1 hti.1 hti.2).1 hl1) (fun p hp => by have := hplt p (hti.2 p hp); omega)
        have i1 : At V V.heap.size OA (ints (Hau.places ws)) := ((((HO4.out.1.fresh b45).fresh hb6).fresh hb7).fresh c1).at_ (ints_okB hplt (by omega))
        have i2 : At V V.heap.size PA (ints (Hau.places ws)) := ((HO6.out.fresh hb7).fresh c1).at_ (ints_okB hplt (by omega))
        have i3 : At V V.heap.size LA (Hau.mv ws (Hau.told ws roots)) := ((((HO4.out.2.2.2.fresh b45).fresh hb6).fresh hb7).fresh c1).at_ hmf
        have i4 : At V V.heap.size LA2 (Hau.mv ws (Hau.told ws roots)) := ((HO7.out.2.2).fresh c1).at_ hmf
        have i5 : At V V.heap.size TA (Hau.newWords ws roots) := ((((HO4.out.2.1.fresh b45).fresh hb6).fresh hb7).fresh c1).at_ (Hau.newWords_flat H.out.1.ok_)
        have i6 : At V V.heap.size TA2 (Hau.newWords ws roots) := ((HO7.out.1).fresh c1).at_ (Hau.newWords_flat H.out.1.ok_)
        have i7 : At V V.heap.size RA (Hau.newRoots ws roots) := ((((HO4.out.2.2.1.fresh b45).fresh hb6).fresh hb7).fresh c1).at_ (Hau.newRoots_flat H.out.2.ok_)
        have i8 : At V V.heap.size RA2 (Hau.newRoots ws roots) := ((HO7.out.2.1).fresh c1).at_ (Hau.newRoots_flat H.out.2.ok_)
        have hn1 := ints_length (Hau.places ws)
        have hn2 := Hau.mv_length ws (Hau.told ws roots)
        have hn3 := Hau.places_len ws
        have hn4 := Hau.len_le HP.out.1 hti.1 hti.2
        have hsp := Hau.places_spec HP.out.1
        have hn5 : (Hau.newWords ws roots).length ≤ ws.length := by
          unfold Hau.newWords
          rw [Hau.tobjs_length (fun p hp => hsp.1 p (hti.2 p hp))]; exact hn4.1
        have hn6 : (Hau.newRoots ws roots).length = roots.length := by unfold Hau.newRoots; rw [List.length_map]
        refine (eqIntH OA PA oc pc V.heap.size _ _ (ints (Hau.places ws)) (ints (Hau.places ws)) V hn1 hn1 i1 i2 (by omega)).mono ?_
        rintro e w8 ⟨rfl, rfl⟩
        simp only [eq_self, decide_true]
        obtain ⟨l1, hl1e⟩ : ∃ l, Hau.newWords ws roots = l := ⟨_, rfl⟩
        obtain ⟨l2, hl2e⟩ : ∃ l, Hau.newRoots ws roots = l := ⟨_, rfl⟩
        obtain ⟨l3, hl3e⟩ : ∃ l, Hau.mv ws (Hau.told ws roots) = l := ⟨_, rfl⟩
        rw [hl1e] at i5 i6 c2 c3 hn5
        rw [hl2e] at i7 i8 c2 c3 hn6
        rw [hl3e] at i3 i4 hn2
        have x0 := c2.cell 0 (v := .slice TA l1.length tc) rfl
        have x1 := c2.cell 1 (v := .slice RA l2.length rc) rfl
        have y0 := c3.cell 0 (v := .slice TA2 l1.length tc2) rfl
        have y1 := c3.cell 1 (v := .slice RA2 l2.length rc2) rfl
        have hb := hn4.1
        have HN6 := Lib.hid hn6; clear hn6
        have hb2 := hn4.2
        have HI := Lib.hid (And.intro c2 (And.intro c3 (And.intro i3 (And.intro i4 (And.intro i5 (And.intro i6 (And.intro i7 (And.intro i8 hn2)))))))); clear c2 c3 i1 i2 i3 i4 i5 i6 i7 i8 hn1 hn2 hn4 hmf hplt hti hsp hl1e hl2e hl3e
        go_wp2_with fail
        refine (eqRMoveH LA LA2 lc lc2 V.heap.size _ _ l3 l3 V HI.out.2.2.2.2.2.2.2.2 HI.out.2.2.2.2.2.2.2.2 HI.out.2.2.1 HI.out.2.2.2.1 (Nat.le_refl _) (by omega) (by omega)).mono ?_
        rintro e w9 ⟨rfl, hb9⟩
        simp only [eq_self, decide_true]
        clear x0 x1 y0 y1
        have x0 := (HI.out.1.fresh hb9).cell 0 (v := .slice TA l1.length tc) rfl
        have x1 := (HI.out.1.fresh hb9).cell 1 (v := .slice RA l2.length rc) rfl
        have y0 := (HI.out.2.1.fresh hb9).cell 0 (v := .slice TA2 l1.length tc2) rfl
        have y1 := (HI.out.2.1.fresh hb9).cell 1 (v := .slice RA2 l2.length rc2) rfl
        go_wp2_with fail
        refine (eqU64H TA TA2 tc tc2 V.heap.size V.heap.size _ _ l1 l1 w9 rfl rfl (HI.out.2.2.2.2.1.below hb9) (HI.out.2.2.2.2.2.1.below hb9) (by omega)).mono ?_
        rintro e w10 ⟨rfl, rfl⟩
        simp only [eq_self, decide_true]
        go_wp2_with fail
        refine (eqU64H RA RA2 rc rc2 V.heap.size V.heap.size _ _ l2 l2 w9 rfl rfl (HI.out.2.2.2.2.2.2.1.below hb9) (HI.out.2.2.2.2.2.2.2.1.below hb9) (by have := HN6.out; omega)).mono ?_
        rintro e w11 ⟨rfl, rfl⟩
        simp only [eq_self, decide_true]
        go_wp2_with fail
        go_ret
        exact ⟨rfl, c4.trans (hb9.mono (by have := c4.size; omega))⟩
      · rw [HP.out.1] at h; cases h
    · exact absurd rfl h
  · have HN := Lib.hid h0; clear h0
    go_wp2_with fail
    refine HC.out.mono ?_
    rintro e w4 ⟨hb4, hr4⟩
    rcases hr4 with ⟨h, -⟩ | ⟨-, rfl⟩
    · exact absurd h HN.out
    have hs4 := hb4.size
    have b4 : Below w.heap.size w w4 := b3.trans (hb4.mono (by omega))
    have HG4 := Lib.hid (HG3.out.fresh hb4)
    clear g0 g1
    have g0 := (HG4.out.alloc (.cells #[.slice none 0 0, .slice none 0 0] 70)).cell 0 (v := .slice WA ws.length wc) rfl
    have g1 := (HG4.out.alloc (.cells #[.slice none 0 0, .slice none 0 0] 70)).cell 1 (v := .slice GA roots.length gc) rfl
    go_wp2_with fail
    clear g0 g1
    refine calls_world (fun V => Blk V w.heap.size 70 #[.slice WA ws.length wc, .slice GA roots.length gc] ∧ Blk V w4.heap.size 70 #[.slice none 0 0, .slice none 0 0] ∧ Below w.heap.size w V) ⟨HG4.out.alloc _, Blk.new _ _ _, b4.alloc (by omega) _⟩ ?_
    rintro V ⟨v1, v2, v3⟩
    have hs5 := v3.size
    have hk := hcheck_any B wc gc WA GA ⟨ws, roots⟩ V ⟨H.out.1.below (v3.mono hB), H.out.2.below (v3.mono hB)⟩ (by omega)
    rw [HE.out] at hk
    refine hk.mono ?_
    rintro e w5 ⟨rfl, hb5⟩
    have x2 := v2.fresh hb5
    have x0 := x2.cell 0 (v := .slice none 0 0) rfl
    have x1 := x2.cell 1 (v := .slice none 0 0) rfl
    have hd : (er != er) = false := by simp
    have hd2 : (er != 0) = true := by simpa using HN.out
    have b5 : Below w.heap.size w w5 := v3.trans (hb5.mono hs5)
    clear hk x2 v1 v2
    go_wp2_with fail
    go_ret
    exact ⟨rfl, b5⟩

end Go.Proofs.Ytpkccpegdpodoaa
