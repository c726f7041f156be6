/- The closed fact 'paired'; the law WeakTells, walked. -/
import Derived.Test.YtpkccpegdpodoaaWeak8
namespace Go.Proofs.Ytpkccpegdpodoaa
open Go.RowKit

theorem from_paired : fromL [[], [], []] [0] [(0, 1), (2, 2)] = [true, true, false] := by
  symm
  have h0 : RT [[], [], []] [0] [(0, 1), (2, 2)] 0 := .root (by simp)
  have h1 : RT [[], [], []] [0] [(0, 1), (2, 2)] 1 := .pair (k := 0) h0 (by simp)
  refine fromL_eq rfl (fun n hn => ?_) (fun n hn => ?_) (fun n k l h1 h2 h3 => ?_) (fun k v hk hp => ?_)
  · match n, hn with
    | 0, _ => exact h0
    | 1, _ => exact h1
    | 2, hn => simp at hn
    | n + 3, hn => simp at hn
  · simp at hn; subst hn; rfl
  · match n, h2 with
    | 0, h2 => simp at h2; subst h2; simp at h3
    | 1, h2 => simp at h2; subst h2; simp at h3
    | 2, h2 => simp at h2; subst h2; simp at h3
    | n + 3, h2 => simp at h2
  · simp at hp
    rcases hp with ⟨rfl, h⟩ | ⟨h1', h2'⟩
    · obtain rfl : v = 1 := by omega
      rfl
    · obtain rfl : k = 2 := by omega
      simp at hk

theorem at_nils (w : World) (n : Nat) (e : TypeId) : At (w.alloc (.cells (List.replicate n (Value.slice none 0 0)).toArray e)) (w.heap.size + 1) (some ⟨w.heap.size, 0, none⟩) (List.replicate n ([] : List Int)) := by
  intro i x hx
  rw [List.getElem?_replicate] at hx
  split at hx
  · rename_i hi
    injection hx with hx
    subst hx
    refine ⟨w.heap.size, 0, [.slice none 0 0], rfl, Nat.lt_succ_self _, fun j u hu => ?_, ⟨none, 0, rfl, Nat.le_refl _, by simp [maxLen], fun _ => rfl, At.nil_⟩⟩
    have hj : j = 0 := by have := (List.getElem?_eq_some_iff.1 hu).1; simp at this; exact this
    subst hj
    simp at hu
    subst hu
    rw [World.cell?_alloc_at _ _ _ _ rfl]
    show (List.replicate n (Value.slice none 0 0)).toArray[0 + i * 1 + 0]? = _
    rw [show 0 + i * 1 + 0 = i by omega]
    simp [hi]
  · cases hx

set_option maxHeartbeats 800000 in
set_option maxRecDepth 100000 in
theorem paired_any (w : World) : Calls Try.prog 24 #[] w fun e w' => e = .returned (.bool true) ∧ Below w.heap.size w w' := by
  have h1 : prErr [[], [], []] [0] [(0, 1), (2, 2)] = 0 := by decide
  have h2 : rising (fromL [[], [], []] [0] [(0, 1), (2, 2)]) = [0, 1] := by rw [from_paired]; rfl
  have H := Lib.hid (And.intro h1 h2); clear h1 h2
  go_enter Try.func24, Try.ntmps24
  go_wp2_with fail
  refine calls_world (fun W => At W W.heap.size (some ⟨w.heap.size, 0, none⟩) [([] : List Int), [], []] ∧ At W W.heap.size (some ⟨w.heap.size + 1, 0, none⟩) [(0 : Int)] ∧ At W W.heap.size (some ⟨w.heap.size + 1 + 1, 0, none⟩) [((0 : Int), (1 : Int)), (2, 2)] ∧ Below w.heap.size w W) ⟨?_, ?_, ?_, ?_⟩ ?_
  · have := ((at_nils w 3 47).alloc (by simp) (.cells #[.int .i64 0] 3)).alloc (by simp) (.cells #[.int .i64 0, .int .i64 1, .int .i64 2, .int .i64 2] 63)
    exact this.more (by simp)
  · have := (At.built (w.alloc (.cells #[.slice none 0 0, .slice none 0 0, .slice none 0 0] 47)) #[.int .i64 0] 3 [(0 : Int)] rfl (by intro x hx; simp at hx; subst hx; exact (by unfold I64; omega : I64 0))).alloc (by simp) (.cells #[.int .i64 0, .int .i64 1, .int .i64 2, .int .i64 2] 63)
    simp only [World.size_alloc] at this
    exact this.more (by simp)
  · have := At.built ((w.alloc (.cells #[.slice none 0 0, .slice none 0 0, .slice none 0 0] 47)).alloc (.cells #[.int .i64 0] 3)) #[.int .i64 0, .int .i64 1, .int .i64 2, .int .i64 2] 63 [((0 : Int), (1 : Int)), (2, 2)] rfl (by intro x hx; simp at hx; rcases hx with rfl | rfl <;> exact ⟨by unfold I64; omega, by unfold I64; omega⟩)
    simp only [World.size_alloc] at this
    exact this.more (by simp)
  · exact (((Below.refl _ _).alloc (Nat.le_refl _) _).alloc (by simp) _).alloc (by simp; omega) _
  rintro W ⟨hA, hB, hC, hb⟩
  have hs := hb.size
  refine (lives_any W.heap.size 3 1 2 (some ⟨w.heap.size, 0, none⟩) (some ⟨w.heap.size + 1, 0, none⟩) (some ⟨w.heap.size + 1 + 1, 0, none⟩) [[], [], []] [0] [(0, 1), (2, 2)] W hA hB hC (Nat.le_refl _) (by simp) (by simp) (by simp) ⟨by simp, by simp [maxLen]⟩).mono ?_
  rintro e w1 ⟨hb1, hp⟩
  clear hA hB hC
  rcases hp with ⟨-, A1, c1, rfl, hown⟩ | ⟨h0, -⟩
  rotate_left
  · exact absurd H.out.1 h0
  rw [H.out.2] at hown ⊢
  have HO := Lib.hid hown; clear hown
  have hs1 := hb1.size
  go_wp2_with fail
  refine calls_world (fun V => At V V.heap.size (some ⟨w1.heap.size, 0, none⟩) [(0 : Int), 1] ∧ Below w1.heap.size w1 V) ⟨?_, (Below.refl _ _).alloc (Nat.le_refl _) _⟩ ?_
  · have := At.built w1 #[.int .i64 0, .int .i64 1] 3 [(0 : Int), 1] rfl (by intro x hx; simp at hx; show I64 x; unfold I64; omega)
    exact this.more (by simp)
  rintro V ⟨hD, hb2⟩
  have hat := (HO.out.fresh hb2).at_ (by intro x hx; simp at hx; show I64 x; unfold I64; omega)
  refine (eqInt_n A1 _ c1 2 V.heap.size 2 2 [(0 : Int), 1] [(0 : Int), 1] V rfl rfl hat hD (by simp)).mono ?_
  rintro e w3 ⟨rfl, rfl⟩
  clear hat hD
  go_wp2_with fail
  go_ret
  exact ⟨rfl, hb.trans ((hb1.mono hs).trans (hb2.mono (by omega)))⟩


def WtPost (e : Ending) (w : World) (w' : World) : Prop := e = .returned (.bool true) ∧ Below w.heap.size w w'

set_option maxHeartbeats 3200000 in
set_option maxRecDepth 100000 in
theorem weakTells_any (B hc rc pc : Nat) (HA RA PA : Option Addr) (has : List (List Int)) (roots : List Int) (pairs : List (Int × Int)) (w : World) (hh : At w B HA has) (hr : At w B RA roots) (hp : At w B PA pairs) (hB : B ≤ w.heap.size) (hl : has.length ≤ 9223372036854775807) (hrl : roots.length ≤ 9223372036854775807) (hpl : pairs.length ≤ 9223372036854775807) (hrc : roots.length ≤ rc ∧ rc ≤ maxLen) :
    Calls Try.prog 5 #[.agg #[.slice HA has.length hc, .slice RA roots.length rc], .slice PA pairs.length pc] w fun e w' => e = .returned (.bool true) ∧ Below w.heap.size w w' := by
  obtain ⟨i0, hi, hz0, hz1, hz2⟩ := info_parts infoRPair
  have HH := Lib.hid (And.intro hh (And.intro hr hp)); clear hh hr hp
  have hcopy : w.heap.size = w.heap.size := rfl
  go_enter Try.func5, Try.ntmps5
  go_wp2_with fail
  refine calls_world (fun W => Blk W w.heap.size 49 #[.slice HA has.length hc, .slice RA roots.length rc] ∧ Below w.heap.size w W ∧ w.heap.size + 1 ≤ W.heap.size) ⟨Blk.new _ _ _, (Below.refl _ _).alloc (Nat.le_refl _) _, by simp⟩ ?_
  rintro W ⟨hG, hb0, hs0⟩
  refine (paired_any W).mono ?_
  rintro e w1 ⟨rfl, hb1⟩
  have hs1 := hb1.size
  have hbl1 := hb0.trans (hb1.mono (by omega))
  have HG1 := Lib.hid (hG.fresh hb1); clear hG
  have g0 := HG1.out.cell 0 (v := .slice HA has.length hc) rfl
  have g1 := HG1.out.cell 1 (v := .slice RA roots.length rc) rfl
  go_wp2_with fail
  refine (gfault_any B hc rc HA RA has roots w1 (HH.out.1.below (hbl1.mono hB)) (HH.out.2.1.below (hbl1.mono hB)) (by omega) hl hrl).mono ?_
  rintro e w2 ⟨rfl, hb2⟩
  have hs2 := hb2.size
  have hbl2 := hbl1.trans (hb2.mono (by omega))
  have HG2 := Lib.hid (HG1.out.fresh hb2)
  clear g0 g1 HG1
  have g0 := HG2.out.cell 0 (v := .slice HA has.length hc) rfl
  have g1 := HG2.out.cell 1 (v := .slice RA roots.length rc) rfl
  go_wp2_with fail
  refine (needed_any B hc rc HA RA has roots w2 (HH.out.1.below (hbl2.mono hB)) (HH.out.2.1.below (hbl2.mono hB)) (by omega) hl hrl hrc).mono ?_
  rintro e w3 ⟨hb3, hnd⟩
  have hs3 := hb3.size
  have hbl3 := hbl2.trans (hb3.mono (by omega))
  have HG3 := Lib.hid (HG2.out.fresh hb3)
  clear g0 g1 HG2
  have g0 := HG3.out.cell 0 (v := .slice HA has.length hc) rfl
  have g1 := HG3.out.cell 1 (v := .slice RA roots.length rc) rfl
  obtain ⟨ge, hge⟩ : ∃ ge, grErr has roots = ge := ⟨_, rfl⟩
  rw [hge] at hnd ⊢
  by_cases h0 : ge = 0
  rotate_left
  · -- the graph is not right
    have hpe := prErr_graph (pairs := pairs) (show grErr has roots ≠ 0 by rw [hge]; exact h0)
    rw [hge] at hpe
    rcases hnd with ⟨h, -⟩ | ⟨-, rfl⟩
    · exact absurd h h0
    have hne : (ge != 0) = true := by simp [h0]
    have HE := Lib.hid (And.intro hge (And.intro hpe h0)); clear hge hpe h0
    go_wp2_with fail
    refine (lives_any B hc rc pc HA RA PA has roots pairs w3 (HH.out.1.below (hbl3.mono hB)) (HH.out.2.1.below (hbl3.mono hB)) (HH.out.2.2.below (hbl3.mono hB)) (by omega) hl hrl hpl hrc).mono ?_
    rintro e w4 ⟨hb4, hlv⟩
    have hs4 := hb4.size
    have hbl4 := hbl3.trans (hb4.mono (by omega))
    have HG4 := Lib.hid (HG3.out.fresh hb4)
    clear g0 g1 HG3
    have g0 := HG4.out.cell 0 (v := .slice HA has.length hc) rfl
    have g1 := HG4.out.cell 1 (v := .slice RA roots.length rc) rfl
    rw [HE.out.2.1] at hlv
    rcases hlv with ⟨h, -⟩ | ⟨-, A4, c4, rfl⟩
    · exact absurd h HE.out.2.2
    go_wp2_with fail
    refine (kept_any B hc rc pc HA RA PA has roots pairs w4 (HH.out.1.below (hbl4.mono hB)) (HH.out.2.1.below (hbl4.mono hB)) (HH.out.2.2.below (hbl4.mono hB)) (by omega) hl hrl hpl hrc).mono ?_
    rintro e w5 ⟨hb5, hkp⟩
    have hs5 := hb5.size
    have hbl5 := hbl4.trans (hb5.mono (by omega))
    have HG5 := Lib.hid (HG4.out.fresh hb5)
    clear g0 g1 HG4
    have g0 := HG5.out.cell 0 (v := .slice HA has.length hc) rfl
    have g1 := HG5.out.cell 1 (v := .slice RA roots.length rc) rfl
    rw [HE.out.2.1] at hkp
    rcases hkp with ⟨h, -⟩ | ⟨-, rfl⟩
    · exact absurd h HE.out.2.2
    go_wp2_with fail
    refine (pfault_any B hc rc pc HA RA PA has roots pairs w5 (HH.out.1.below (hbl5.mono hB)) (HH.out.2.1.below (hbl5.mono hB)) (HH.out.2.2.below (hbl5.mono hB)) (by omega) hl hrl hpl).mono ?_
    rintro e w6 ⟨rfl, hb6⟩
    have hs6 := hb6.size
    have hbl6 := hbl5.trans (hb6.mono (by omega))
    have HG6 := Lib.hid (HG5.out.fresh hb6)
    clear g0 g1 HG5
    have g0 := HG6.out.cell 0 (v := .slice HA has.length hc) rfl
    have g1 := HG6.out.cell 1 (v := .slice RA roots.length rc) rfl
    rw [HE.out.2.1]
    go_wp2_with fail
    refine (wcheck_any B hc rc HA RA has roots w6 (HH.out.1.below (hbl6.mono hB)) (HH.out.2.1.below (hbl6.mono hB)) (by omega) hl hrl hrc).mono ?_
    rintro e w7 ⟨rfl, hb7⟩
    rw [HE.out.1]
    go_wp2_with fail
    go_ret
    exact ⟨rfl, hbl6.trans (hb7.mono (by omega))⟩
  subst h0
  obtain ⟨gl, grl, ghl, gright, gsrc⟩ := grErr_ok hge
  have hsmall : (fromL has roots []).length ≤ 1000000 := by rw [fromL_length]; omega
  have hnok := rising_ok _ hsmall
  have hnlen := rising_length (fromL has roots [])
  rw [fromL_length] at hnlen
  have HQ := Lib.hid (And.intro gright (And.intro gsrc (And.intro ghl (And.intro hnok hge)))); clear gright gsrc ghl hnok hge hsmall
  rcases hnd with ⟨-, A3, c3, rfl, hown3⟩ | ⟨h, -⟩
  rotate_left
  · exact absurd rfl h
  have HN := Lib.hid hown3; clear hown3
  obtain ⟨nl, hnl⟩ : ∃ nl, rising (fromL has roots []) = nl := ⟨_, rfl⟩
  rw [hnl] at HN HQ hnlen ⊢
  have HNL := Lib.hid hnl; clear hnl
  obtain ⟨pe, hpe⟩ : ∃ pe, prErr has roots pairs = pe := ⟨_, rfl⟩
  by_cases hp0 : pe = 0
  rotate_left
  · -- the pairs are not right
    have hne : (pe != 0) = true := by simp [hp0]
    have HE := Lib.hid (And.intro hpe hp0); clear hpe hp0
    go_wp2_with fail
    refine (lives_any B hc rc pc HA RA PA has roots pairs w3 (HH.out.1.below (hbl3.mono hB)) (HH.out.2.1.below (hbl3.mono hB)) (HH.out.2.2.below (hbl3.mono hB)) (by omega) hl hrl hpl hrc).mono ?_
    rintro e w4 ⟨hb4, hlv⟩
    have hs4 := hb4.size
    have hbl4 := hbl3.trans (hb4.mono (by omega))
    have HG4 := Lib.hid (HG3.out.fresh hb4)
    clear g0 g1 HG3
    have g0 := HG4.out.cell 0 (v := .slice HA has.length hc) rfl
    have g1 := HG4.out.cell 1 (v := .slice RA roots.length rc) rfl
    rw [HE.out.1] at hlv
    rcases hlv with ⟨h, -⟩ | ⟨-, A4, c4, rfl⟩
    · exact absurd h HE.out.2
    go_wp2_with fail
    refine (kept_any B hc rc pc HA RA PA has roots pairs w4 (HH.out.1.below (hbl4.mono hB)) (HH.out.2.1.below (hbl4.mono hB)) (HH.out.2.2.below (hbl4.mono hB)) (by omega) hl hrl hpl hrc).mono ?_
    rintro e w5 ⟨hb5, hkp⟩
    have hs5 := hb5.size
    have hbl5 := hbl4.trans (hb5.mono (by omega))
    have HG5 := Lib.hid (HG4.out.fresh hb5)
    clear g0 g1 HG4
    have g0 := HG5.out.cell 0 (v := .slice HA has.length hc) rfl
    have g1 := HG5.out.cell 1 (v := .slice RA roots.length rc) rfl
    rw [HE.out.1] at hkp
    rcases hkp with ⟨h, -⟩ | ⟨-, rfl⟩
    · exact absurd h HE.out.2
    go_wp2_with fail
    refine (pfault_any B hc rc pc HA RA PA has roots pairs w5 (HH.out.1.below (hbl5.mono hB)) (HH.out.2.1.below (hbl5.mono hB)) (HH.out.2.2.below (hbl5.mono hB)) (by omega) hl hrl hpl).mono ?_
    rintro e w6 ⟨rfl, hb6⟩
    have hs6 := hb6.size
    have hbl6 := hbl5.trans (hb6.mono (by omega))
    have HG6 := Lib.hid (HG5.out.fresh hb6)
    clear g0 g1 HG5
    have g0 := HG6.out.cell 0 (v := .slice HA has.length hc) rfl
    have g1 := HG6.out.cell 1 (v := .slice RA roots.length rc) rfl
    rw [HE.out.1]
    go_wp2_with fail
    refine (wcheck_any B hc rc HA RA has roots w6 (HH.out.1.below (hbl6.mono hB)) (HH.out.2.1.below (hbl6.mono hB)) (by omega) hl hrl hrc).mono ?_
    rintro e w7 ⟨rfl, hb7⟩
    have hs7 := hb7.size
    have hbl7 := hbl6.trans (hb7.mono (by omega))
    have HG7 := Lib.hid (HG6.out.fresh hb7)
    clear g0 g1 HG6
    have g0 := HG7.out.cell 0 (v := .slice HA has.length hc) rfl
    have g1 := HG7.out.cell 1 (v := .slice RA roots.length rc) rfl
    rw [HQ.out.2.2.2.2]
    go_wp2_with fail
    refine (rfrom_any B hc rc rc 0 roots.length HA RA RA none has roots [] w7 (HH.out.1.below (hbl7.mono hB)) (HH.out.2.1.below (hbl7.mono hB)) At.nil_ (by omega) HQ.out.1 HQ.out.2.1 (fun p hp => by simp at hp) gl (by omega) (by simp) HQ.out.2.2.1).mono ?_
    rintro e w8 ⟨S8, c8, rfl, hown8, hb8⟩
    have hbl8 := hbl7.trans (hb8.mono (by omega))
    have hs8 := hb8.size
    have H8 := Lib.hid hown8; clear hown8 g0 g1
    go_wp2_with fail
    refine (rrising_any S8 c8 w8.heap.size has.length (fromL has roots []) w8 (fromL_length _ _ _) (H8.out.at_ (fun _ _ => trivial)) (Nat.le_refl _) (by omega)).mono ?_
    rintro e w9 ⟨A9, c9, rfl, hown9, hb9⟩
    rw [HNL.out] at hown9 ⊢
    have hbl9 := hbl8.trans (hb9.mono (by omega))
    have ha := (((((HN.out.fresh hb4).fresh hb5).fresh hb6).fresh hb7).fresh hb8).fresh hb9
    have HA9 := Lib.hid (And.intro (ha.at_ HQ.out.2.2.2.1) (hown9.at_ HQ.out.2.2.2.1)); clear ha hown9
    go_wp2_with fail
    refine (eqInt_n A3 A9 c3 c9 w9.heap.size nl.length nl.length nl nl w9 rfl rfl HA9.out.1 HA9.out.2 (by omega)).mono ?_
    rintro e w10 ⟨rfl, rfl⟩
    go_wp2_with fail
    go_ret
    exact ⟨ret_bool (by simp), hbl9⟩
  subst hp0
  have hprok := prErr_ok hpe
  have hlsm : (fromL has roots pairs).length ≤ 1000000 := by rw [fromL_length]; omega
  have hlok := rising_ok _ hlsm
  have hllen := rising_length (fromL has roots pairs)
  rw [fromL_length] at hllen
  obtain ⟨ll, hll⟩ : ∃ ll, rising (fromL has roots pairs) = ll := ⟨_, rfl⟩
  obtain ⟨kl, hkl⟩ : ∃ kl, keptL (fromL has roots pairs) pairs = kl := ⟨_, rfl⟩
  have hklen := keptL_length (fromL has roots pairs) pairs
  have hkok : ∀ x ∈ kl, Flat.ok x := fun x hx => by
    rw [← hkl] at hx
    unfold keptL at hx; exact HH.out.2.2.ok_ x (List.mem_filter.1 hx).1
  rw [hkl] at hklen
  rw [hll] at hlok hllen
  have hp50 := hprok.2.1
  have HE := Lib.hid (And.intro hpe (And.intro hprok.2.2 (And.intro hlok (And.intro hkok (And.intro hll hkl))))); clear hpe hprok hlok hkok hll hkl hlsm
  go_wp2_with fail
  refine (lives_any B hc rc pc HA RA PA has roots pairs w3 (HH.out.1.below (hbl3.mono hB)) (HH.out.2.1.below (hbl3.mono hB)) (HH.out.2.2.below (hbl3.mono hB)) (by omega) hl hrl hpl hrc).mono ?_
  rintro e w4 ⟨hb4, hlv⟩
  have hs4 := hb4.size
  have hbl4 := hbl3.trans (hb4.mono (by omega))
  have HG4 := Lib.hid (HG3.out.fresh hb4)
  clear g0 g1 HG3
  have g0 := HG4.out.cell 0 (v := .slice HA has.length hc) rfl
  have g1 := HG4.out.cell 1 (v := .slice RA roots.length rc) rfl
  rcases hlv with ⟨-, A4, c4, rfl, hown4⟩ | ⟨h, -⟩
  rotate_left
  · exact absurd HE.out.1 h
  rw [HE.out.2.2.2.2.1] at hown4 ⊢
  have H4 := Lib.hid hown4; clear hown4
  go_wp2_with fail
  refine (kept_any B hc rc pc HA RA PA has roots pairs w4 (HH.out.1.below (hbl4.mono hB)) (HH.out.2.1.below (hbl4.mono hB)) (HH.out.2.2.below (hbl4.mono hB)) (by omega) hl hrl hpl hrc).mono ?_
  rintro e w5 ⟨hb5, hkp⟩
  have hs5 := hb5.size
  have hbl5 := hbl4.trans (hb5.mono (by omega))
  have HG5 := Lib.hid (HG4.out.fresh hb5)
  clear g0 g1 HG4
  have g0 := HG5.out.cell 0 (v := .slice HA has.length hc) rfl
  have g1 := HG5.out.cell 1 (v := .slice RA roots.length rc) rfl
  rcases hkp with ⟨-, A5, c5, rfl, hown5⟩ | ⟨h, -⟩
  rotate_left
  · exact absurd HE.out.1 h
  rw [HE.out.2.2.2.2.2] at hown5 ⊢
  have H5 := Lib.hid hown5; clear hown5
  go_wp2_with fail
  refine (pfault_any B hc rc pc HA RA PA has roots pairs w5 (HH.out.1.below (hbl5.mono hB)) (HH.out.2.1.below (hbl5.mono hB)) (HH.out.2.2.below (hbl5.mono hB)) (by omega) hl hrl hpl).mono ?_
  rintro e w6 ⟨rfl, hb6⟩
  have hs6 := hb6.size
  have hbl6 := hbl5.trans (hb6.mono (by omega))
  have HG6 := Lib.hid (HG5.out.fresh hb6)
  clear g0 g1 HG5
  have g0 := HG6.out.cell 0 (v := .slice HA has.length hc) rfl
  have g1 := HG6.out.cell 1 (v := .slice RA roots.length rc) rfl
  rw [HE.out.1]
  go_wp2_with fail
  refine (wcheck_any B hc rc HA RA has roots w6 (HH.out.1.below (hbl6.mono hB)) (HH.out.2.1.below (hbl6.mono hB)) (by omega) hl hrl hrc).mono ?_
  rintro e w7 ⟨rfl, hb7⟩
  have hs7 := hb7.size
  have hbl7 := hbl6.trans (hb7.mono (by omega))
  have HG7 := Lib.hid (HG6.out.fresh hb7)
  clear g0 g1 HG6
  have g0 := HG7.out.cell 0 (v := .slice HA has.length hc) rfl
  have g1 := HG7.out.cell 1 (v := .slice RA roots.length rc) rfl
  rw [HQ.out.2.2.2.2]
  have hadd : IntKind.i64.wrap ((ll.length : Int) + (kl.length : Int)) = (ll.length : Int) + (kl.length : Int) := IntWalk.i64_in _ (by omega)
  have HADD := Lib.hid hadd; clear hadd
  go_wp2_with fail
  refine (rfrom_any B hc rc rc pc roots.length HA RA RA PA has roots pairs w7 (HH.out.1.below (hbl7.mono hB)) (HH.out.2.1.below (hbl7.mono hB)) (HH.out.2.2.below (hbl7.mono hB)) (by omega) HQ.out.1 HQ.out.2.1 HE.out.2.1 gl (by omega) (by omega) HQ.out.2.2.1).mono ?_
  rintro e w8 ⟨S8, c8, rfl, hown8, hb8⟩
  have hs8 := hb8.size
  have hbl8 := hbl7.trans (hb8.mono (by omega))
  have h4 := (((H4.out.fresh hb5).fresh hb6).fresh hb7).fresh hb8
  have h5 := (((H5.out).fresh hb6).fresh hb7).fresh hb8
  have hn8 := (((((HN.out.fresh hb4).fresh hb5).fresh hb6).fresh hb7).fresh hb8)
  have HO8 := Lib.hid (And.intro hown8 (And.intro h4 (And.intro h5 (And.intro hn8 (HG7.out.fresh hb8))))); clear hown8 h4 h5 hn8 g0 g1
  generalize hseen : fromL has roots pairs = seen at HO8
  have hsl : seen.length = has.length := by rw [← hseen, fromL_length]
  have HSEEN := Lib.hid hseen; clear hseen
  go_wp2_with fail
  go_loopg [14, 99] (pairs.length) (fun gk ov iv wr => ∃ (k : Nat) (A1 : Option Addr) (c1 : Nat), k ≤ pairs.length ∧ gk = pairs.length - k ∧ iv = .int .i64 k ∧ ov = .slice A1 (keptL seen (pairs.take k)).length c1 ∧ Hid (Own wr w8.heap.size 63 A1 c1 (keptL seen (pairs.take k)) ∧ Own wr w7.heap.size 4 S8 c8 seen) ∧ Below w8.heap.size w8 wr)
  case atStart => exact ⟨0, none, 0, Nat.zero_le _, rfl, rfl, rfl, ⟨Own.nil_, HO8.out.1⟩, Below.refl _ _⟩
  case round =>
    obtain ⟨k, A1, c1, hk, rfl, rfl, rfl, hkeep, hbl⟩ := hrel
    have hsz := hbl.size
    have hkl := keptL_length seen (pairs.take k)
    rw [List.length_take] at hkl
    have hblw := hbl8.trans (hbl.mono (by omega))
    by_cases hlt : k < pairs.length
    · obtain ⟨b, o, x, y, rfl, hb, hx, hox, hoy, c0, c1'⟩ := (HH.out.2.2.below (hblw.mono hB)).pair hlt
      obtain ⟨p, q, hpq, hp, hq⟩ := HE.out.2.1 _ (List.mem_of_getElem? hx)
      injection hpq with e1 e2; subst e1 e2
      obtain ⟨u, hu⟩ : ∃ v, seen[p]? = some v := ⟨_, List.getElem?_eq_getElem (by omega)⟩
      obtain ⟨g, rfl, hg1', hg2⟩ := hkeep.out.2.some_ (by omega)
      have v1 := hkeep.out.2.cell_bool hu
      have p0 : (0 : Int) ≤ (p : Int) := by omega
      have p1 : (p : Int) < (has.length : Int) := by omega
      have hsn := keptL_snoc seen pairs k p q hx u hu
      have hal := hkeep.out.2.alloc (.cells #[.int .i64 p, .int .i64 q] 63)
      have hal1 := hkeep.out.1.alloc (.cells #[.int .i64 p, .int .i64 q] 63)
      cases u with
      | false =>
        rw [if_neg (by simp), List.append_nil] at hsn
        have HS := Lib.hid (And.intro hsn (And.intro hal1 hal)); clear hsn hx hu hal hal1 hkeep
        go_wp2_with fail
        go_roundg (pairs.length - (k + 1))
        case measure => omega
        case rel => exact ⟨k + 1, A1, c1, by omega, rfl, by go_num, by rw [HS.out.1], by unfold Hid; rw [HS.out.1]; exact HS.out.2, hbl.alloc hsz _⟩
      | true =>
        rw [if_pos rfl] at hsn
        have HS := Lib.hid (And.intro hsn (And.intro hal1 (And.intro hal (And.intro hox hoy)))); clear hsn hx hu hal hal1 hkeep hox hoy
        go_wp2_with (at_builtin; go_must (refine wpList_app (α := Int × Int) (m := 1) (B := wr.heap.size + 1 + 1) (r := [((p : Int), (q : Int))]) rfl (.tmp 108) (.tmp 110) _ rfl w8.heap.size 63 i0 _ 16 Try.underlying50 hi hz0 hz1 hz2 rfl (by decide) pair_one (by rfl) rfl (HS.out.2.1.alloc _) (by rfl) ?_ rfl (by omega) (by simp only [maxLen]; omega) (by simp; omega) ?_))
        · have := At.built (wr.alloc (.cells #[.int .i64 p, .int .i64 q] 63)) #[.int .i64 p, .int .i64 q] 63 [((p : Int), (q : Int))] rfl (by intro z hz; simp at hz; subst hz; exact HS.out.2.2.2)
          simpa using this
        intro A2 c2 w2' hown2 hgr2 hat2
        have hbl2' : Below w8.heap.size w8 w2' := ((hbl.alloc hsz _).alloc (by simp; omega) _).grown hgr2 (by simp; omega) (fun g hg => (HS.out.2.1.lt g hg).1)
        have hS2 : Own w2' w7.heap.size 4 (some ⟨g, 0, none⟩) c8 seen := (HS.out.2.2.1.alloc _).grown hgr2 (fun h hh e => own_own_ty HS.out.2.2.1 HS.out.2.1 (by decide) h hh e)
        have HO2 := Lib.hid (And.intro hown2 hS2); clear hown2 hS2
        go_wp2_with fail
        go_roundg (pairs.length - (k + 1))
        case measure => omega
        case rel => exact ⟨k + 1, A2, c2, by omega, rfl, by go_num, by rw [HS.out.1, List.length_append]; rfl, by unfold Hid; rw [HS.out.1]; exact HO2.out, hbl2'⟩
    · have hk2 : pairs.take k = pairs := List.take_of_length_le (by omega)
      rw [hk2] at hkeep ⊢
      clear hk2
      have hkeq : keptL seen pairs = kl := by rw [← HSEEN.out]; exact HE.out.2.2.2.2.2
      rw [hkeq] at hkeep ⊢
      have hG := HO8.out.2.2.2.2.fresh hbl
      have g0 := hG.cell 0 (v := .slice HA has.length hc) rfl
      have g1 := hG.cell 1 (v := .slice RA roots.length rc) rfl
      have h4 := HO8.out.2.1.fresh hbl
      have h5 := HO8.out.2.2.1.fresh hbl
      have hn := HO8.out.2.2.2.1.fresh hbl
      have HK := Lib.hid (And.intro hkeep.out.1 (And.intro hkeep.out.2 (And.intro h4 (And.intro h5 hn)))); clear hkeep h4 h5 hn hG hkeq
      go_wp2_with fail
      refine (rfrom_any B hc rc rc 0 roots.length HA RA RA none has roots [] wr (HH.out.1.below (hblw.mono hB)) (HH.out.2.1.below (hblw.mono hB)) At.nil_ (by omega) HQ.out.1 HQ.out.2.1 (fun p hp => by simp at hp) gl (by omega) (by simp) HQ.out.2.2.1).mono ?_
      rintro e w9 ⟨S9, c9, rfl, hown9, hb9⟩
      have hs9 := hb9.size
      have H9 := Lib.hid hown9; clear hown9 g0 g1
      go_wp2_with fail
      refine (rrising_any S9 c9 w9.heap.size has.length (fromL has roots []) w9 (fromL_length _ _ _) (H9.out.at_ (fun _ _ => trivial)) (Nat.le_refl _) (by omega)).mono ?_
      rintro e w10 ⟨A10, c10, rfl, hown10, hb10⟩
      have hs10 := hb10.size
      rw [HNL.out] at hown10 ⊢
      have ha := (HK.out.2.2.2.2.fresh hb9).fresh hb10
      have HA10 := Lib.hid (And.intro (ha.at_ HQ.out.2.2.2.1) (hown10.at_ HQ.out.2.2.2.1)); clear ha hown10
      go_wp2_with fail
      refine (eqInt_n A3 A10 c3 c10 w10.heap.size nl.length nl.length nl nl w10 rfl rfl HA10.out.1 HA10.out.2 (by omega)).mono ?_
      rintro e w11 ⟨rfl, rfl⟩
      rw [decide_eq_true rfl]
      go_wp2_with fail
      refine (rrising_any S8 c8 w10.heap.size has.length seen w10 hsl ((((HK.out.2.1.fresh hb9).fresh hb10)).at_ (fun _ _ => trivial)) (Nat.le_refl _) (by omega)).mono ?_
      rintro e w12 ⟨A12, c12, rfl, hown12, hb12⟩
      have hs12 := hb12.size
      have hleq : rising seen = ll := by rw [← HSEEN.out]; exact HE.out.2.2.2.2.1
      rw [hleq] at hown12 ⊢
      clear hleq
      have h4 := ((HK.out.2.2.1.fresh hb9).fresh hb10).fresh hb12
      have HA12 := Lib.hid (And.intro (h4.at_ HE.out.2.2.1) (hown12.at_ HE.out.2.2.1)); clear h4 hown12
      go_wp2_with fail
      refine (eqInt_n A4 A12 c4 c12 w12.heap.size ll.length ll.length ll ll w12 rfl rfl HA12.out.1 HA12.out.2 (by omega)).mono ?_
      rintro e w13 ⟨rfl, rfl⟩
      rw [decide_eq_true rfl]
      have h5 := ((HK.out.2.2.2.1.fresh hb9).fresh hb10).fresh hb12
      have h6 := ((HK.out.1.fresh hb9).fresh hb10).fresh hb12
      have HA13 := Lib.hid (And.intro (h5.at_ HE.out.2.2.2.1) (h6.at_ HE.out.2.2.2.1)); clear h5 h6
      go_wp2_with fail
      refine (eqRPair_n A5 A1 c5 c1 w12.heap.size kl.length kl.length kl kl w12 rfl rfl HA13.out.1 HA13.out.2 (Nat.le_refl _) (by omega) (by omega)).mono ?_
      rintro e w14 ⟨rfl, hb14⟩
      rw [decide_eq_true rfl]
      go_wp2_with fail
      go_ret
      exact ⟨rfl, hblw.trans ((hb9.mono (by omega)).trans ((hb10.mono (by omega)).trans ((hb12.mono (by omega)).trans (hb14.mono (by omega)))))⟩

end Go.Proofs.Ytpkccpegdpodoaa
