/- KM: Haul5. -/
import Derived.Test.YtdlcooplllimeaaGreatDoorKM7
/- haul.Check. -/
namespace Go.Proofs.YtdlcooplllimeaaGreatDoor
open Go.RowKit Go.Maps

attribute [local go_sem ↓] Go.wp_at_zero Go.wp_at_succ

set_option maxHeartbeats 1600000 in
set_option maxRecDepth 100000 in
theorem hcheck_any (B wc rc : Nat) (WA RA : Option Addr) (h : Hp) (w : World) (hh : HpAt w B h WA RA) (hB : B ≤ w.heap.size) :
    Calls Tryz.prog 27 #[.agg #[.slice WA h.words.length wc, .slice RA h.roots.length rc]] w fun e w' => e = .returned (.int .i64 (Hau.heapErr h)) ∧ Below w.heap.size w w' := by
  obtain ⟨ws, roots⟩ := h
  obtain ⟨hw, hr⟩ := hh
  simp only at hw hr
  obtain ⟨er, her⟩ : ∃ e, Hau.heapErr ⟨ws, roots⟩ = e := ⟨_, rfl⟩
  rw [her]
  unfold Hau.heapErr at her
  simp only at her
  have H := Lib.hid (And.intro hw (And.intro hr her)); clear hw hr her
  by_cases hl1 : 2000 < ws.length
  · have hd : decide ((2000 : Int) < (ws.length : Int)) = true := by simp; omega
    have he : er = 2 := by rw [← H.out.2.2, if_pos (.inl hl1)]
    subst he
    go_enter Tryz.func27, Tryz.ntmps27
    go_wp2_with fail
    go_returns
    exact ⟨rfl, (Below.refl _ _).alloc (Nat.le_refl _) _⟩
  have hd : decide ((2000 : Int) < (ws.length : Int)) = false := by simp; omega
  by_cases hl2 : 100 < roots.length
  · have hd2 : decide ((100 : Int) < (roots.length : Int)) = true := by simp; omega
    have he : er = 2 := by rw [← H.out.2.2, if_pos (.inr hl2)]
    subst he
    go_enter Tryz.func27, Tryz.ntmps27
    go_wp2_with fail
    go_returns
    exact ⟨rfl, (Below.refl _ _).alloc (Nat.le_refl _) _⟩
  have hd2 : decide ((100 : Int) < (roots.length : Int)) = false := by simp; omega
  have her := H.out.2.2
  rw [if_neg (by omega)] at her
  have HE := Lib.hid her; clear her
  go_enter Tryz.func27, Tryz.ntmps27
  go_wp2_with fail
  refine calls_world (fun W => Blk W w.heap.size 56 #[.slice WA ws.length wc, .slice RA roots.length rc] ∧ Below w.heap.size w W ∧ w.heap.size + 1 ≤ W.heap.size) ⟨Blk.new _ _ _, (Below.refl _ _).alloc (Nat.le_refl _) _, by simp⟩ ?_
  rintro W ⟨hG, hb0, hs0⟩
  have hpl := objects_any B wc WA ws W (H.out.1.below (hb0.mono hB)) (by omega) (by omega)
  refine hpl.mono ?_
  rintro e w1 ⟨OA, oc, rfl, ho, hb1⟩
  have hs1 := hb1.size
  have hb01 : Below w.heap.size w w1 := hb0.trans (hb1.mono (by omega))
  have hG1 := hG.fresh hb1
  clear hpl hG hb0
  by_cases hok : Hau.okW ws = true
  · have her := HE.out
    rw [hok, if_neg (by decide)] at her
    rw [hok]
    have hlen := Hau.places_len ws
    have hplt := Hau.places_lt ws
    obtain ⟨pl, hpl⟩ : ∃ p, Hau.places ws = p := ⟨_, rfl⟩
    rw [hpl] at ho hlen hplt
    have hto : At w1 w1.heap.size OA (ints pl) := ho.at_ (ints_okB hplt (by omega))
    obtain ⟨n, hn⟩ : ∃ n, pl.length = n := ⟨_, rfl⟩
    rw [hpl, hn]
    rw [hn] at hlen
    have hplt2 : ∀ q ∈ pl, q < 9223372036854775808 := fun q hq => by have := hplt q hq; omega
    have HP := Lib.hid (And.intro hG1 (And.intro hto (And.intro hpl (And.intro hn (And.intro her hplt2))))); clear hG1 hto hpl hn her hok ho hplt hplt2
    have hmm := @run_makeMap Tryz.prog
    go_wp2_with fail
    clear hmm
    go_loopg [7, 35] n (fun gk v7 v35 wr => ∃ i : Nat, i ≤ n ∧ gk = n - i ∧ v35 = .int .i64 i ∧ wr.ownsMap Tryz.prog 3 unitElem w1.heap.size i (setI (ints (pl.take i))) ∧ Below w1.heap.size w1 wr ∧ w1.heap.size + 1 ≤ wr.heap.size)
    case atStart => exact ⟨0, by omega, rfl, rfl, World.ownsMap_made _ _ _ _, (Below.refl _ _).alloc (Nat.le_refl _) _, by simp⟩
    case round =>
      obtain ⟨i, hi, rfl, rfl, hown, hbl, hsz⟩ := hrel
      have HO := Lib.hid hown; clear hown
      by_cases hlt : i < n
      · obtain ⟨j, hj⟩ : ∃ j, pl[i]? = some j := ⟨_, List.getElem?_eq_getElem (by have := HP.out.2.2.2.1; omega)⟩
        obtain ⟨b, o, rfl, hb', g1⟩ := (HP.out.2.1.below hbl).intH hj
        have hlt2 : (i : Int) < (n : Int) := by omega
        have hjl := HP.out.2.2.2.2.2 j (List.mem_of_getElem? hj)
        have hkey : keyOf Tryz.prog 3 (.int .i64 (j : Int)) = some (.int .i64 (j : Int)) := keyOf_int_mk Tryz.underlying3 (wf_i64H ⟨by omega, by omega⟩)
        have hsn : setI (ints (pl.take (i + 1))) = (setI (ints (pl.take i))).put (.int .i64 (j : Int)) (.agg []) := by rw [take_snocH _ _ _ hj, ints_append, show ints [j] = [(j : Int)] from rfl, setI_snoc]
        have HKEY := Lib.hid (And.intro hkey hsn); clear hkey hsn hj
        go_wp2_with (first | (at_mapUpdate; refine wpList_mapUpdate_own _ rfl _ _ _ 151 rfl 3 152 lawIntH Tryz.underlying151 (unitElem (H := Unit)) w1.heap.size i _ rfl HO.out (by unfold maxLen; omega) _ _ _ rfl rfl HKEY.out.1 _ [] unitElem_mk ?_; intro w3 hown3 hgrow3) | fail)
        have hs3 := hgrow3.size
        go_roundg (n - (i + 1))
        case measure => omega
        case rel => exact ⟨i + 1, by omega, rfl, by go_num, by rw [HKEY.out.2]; exact hown3, hbl.grown hgrow3 (by omega) (fun j hj => by cases hj; exact Nat.le_refl _), by omega⟩
      · obtain rfl : i = n := by omega
        have hO := HO.out
        rw [List.take_of_length_le (by have := HP.out.2.2.2.1; omega)] at hO
        obtain ⟨wm, rfl⟩ : ∃ x, x = wr := ⟨_, rfl⟩
        have HM := Lib.hid hO; clear hO HO
        have hbm2 : Below w.heap.size w wm := hb01.trans (hbl.mono (by omega))
        have hGm := HP.out.1.fresh hbl
        have g0 := hGm.cell 0 (v := .slice WA ws.length wc) rfl
        clear hGm
        go_wp2_with fail
        go_loopg [8, 9, 10, 11, 46] ws.length (fun gk v8 v9 v10 v11 v46 wr => ∃ i : Nat, i ≤ ws.length ∧ gk = ws.length - i ∧ v46 = .int .i64 i ∧ Hid (Hau.upto ws i) ∧ Below wm.heap.size wm wr)
        case atStart => exact ⟨0, by omega, rfl, rfl, (by unfold Hid; intro i hi; omega), Below.refl _ _⟩
        case round =>
          obtain ⟨k, hk, rfl, rfl, hup, hbr⟩ := hrel
          have hsr := hbr.size
          have hbr2 : Below w.heap.size w wr := hbm2.trans (hbr.mono (by omega))
          by_cases hlt : k < ws.length
          · obtain ⟨b, o, rfl, hb', hok', g1⟩ := (H.out.1.below (hbr2.mono hB)).u64H hlt
            have hlt2 : (k : Int) < (ws.length : Int) := by omega
            have hor := HM.out.kept (grownBy_below none hbr) (by simp)
            have hkey : keyOf Tryz.prog 3 (.int .i64 (k : Int)) = some (.int .i64 (k : Int)) := keyOf_int_mk Tryz.underlying3 (wf_i64H ⟨by omega, by omega⟩)
            have hstep : (pl.contains k || Hau.fits pl (Hau.wat ws k)) = true → Hau.upto ws (k + 1) := by
              intro h j hj
              by_cases hji : j = k
              · subst hji; rw [HP.out.2.2.1]; exact h
              · exact hup.out j (by omega)
            have hstop : (pl.contains k || Hau.fits pl (Hau.wat ws k)) = false → er = 3 := by
              intro h
              have := Hau.upto_no hlt (by rw [HP.out.2.2.1]; exact h)
              rw [← HP.out.2.2.2.2.1, if_pos this]
            obtain ⟨x, hx⟩ : ∃ x, Hau.wat ws k = x := ⟨_, rfl⟩
            rw [hx] at g1 hstep hstop hok'
            have hh : Maps.has (setI (ints pl)) (.int .i64 (k : Int)) = pl.contains k := by rw [has_setI, ints_contains]
            obtain ⟨r, hr⟩ : ∃ r, pl.contains k = r := ⟨_, rfl⟩
            rw [hr] at hh hstep hstop
            obtain ⟨u, hu⟩ : ∃ r, Hau.fits pl x = r := ⟨_, rfl⟩
            have hfit := fun W (h : W.ownsMap Tryz.prog 3 unitElem w1.heap.size i (setI (ints pl))) => right_any x w1.heap.size i pl W hok' h
            rw [hu] at hfit hstep hstop
            have HS := Lib.hid (And.intro hor (And.intro hkey (And.intro hfit (And.intro hstep hstop)))); clear hor hkey hfit hstep hstop hok' hr hu hx
            cases r
            · go_wp2_with (first | (at_lookup; refine wpList_lookup_own_unit _ rfl _ _ 151 rfl 3 152 lawIntH Tryz.underlying151 (zeroUnitH _) w1.heap.size i _ rfl HS.out.1 _ _ rfl HS.out.2.1 ?_) | fail)
              refine calls_world (fun W => Below wr.heap.size wr W) ((Below.refl _ _).alloc (Nat.le_refl _) _) ?_
              intro W hbW
              have hsW := hbW.size
              refine (HS.out.2.2.1 W (HS.out.1.kept (grownBy_below none hbW) (by simp))).mono ?_
              rintro e w3 ⟨rfl, hb3⟩
              have hbl3 : Below wm.heap.size wm w3 := hbr.trans ((hbW.trans (hb3.mono hsW)).mono hsr)
              cases u
              · have he := HS.out.2.2.2.2 rfl
                subst he
                clear HS
                go_wp2_with fail
                go_returns
                exact ⟨rfl, hbm2.trans (hbl3.mono (by omega))⟩
              · have hup2 := Lib.hid (HS.out.2.2.2.1 rfl)
                clear HS
                go_wp2_with fail
                go_roundg (ws.length - (k + 1))
                case measure => omega
                case rel => exact ⟨k + 1, by omega, rfl, by go_num, hup2, hbl3⟩
            · have hup2 := Lib.hid (HS.out.2.2.2.1 rfl)
              go_wp2_with (first | (at_lookup; refine wpList_lookup_own_unit _ rfl _ _ 151 rfl 3 152 lawIntH Tryz.underlying151 (zeroUnitH _) w1.heap.size i _ rfl HS.out.1 _ _ rfl HS.out.2.1 ?_) | fail)
              clear HS
              go_roundg (ws.length - (k + 1))
              case measure => omega
              case rel => exact ⟨k + 1, by omega, rfl, by go_num, hup2, hbr.alloc hsr _⟩
          · obtain rfl : k = ws.length := by omega
            have hwo := Hau.upto_ok hup.out
            have her := HP.out.2.2.2.2.1
            rw [hwo, if_neg (by decide)] at her
            have hGr := (HP.out.1.fresh hbl).fresh hbr
            have g1 := hGr.cell 1 (v := .slice RA roots.length rc) rfl
            have HR := Lib.hid her; clear her hwo hup hGr
            obtain ⟨wo, rfl⟩ : ∃ x, x = wr := ⟨_, rfl⟩
            go_wp2_with fail
            go_loopg [13, 69] roots.length (fun gk v13 v69 wr => ∃ i : Nat, i ≤ roots.length ∧ gk = roots.length - i ∧ v69 = .int .i64 i ∧ Hid (Hau.rupto ws roots i) ∧ Below wo.heap.size wo wr)
            case atStart => exact ⟨0, by omega, rfl, rfl, (by unfold Hid; intro x hx; simp at hx), Below.refl _ _⟩
            case round =>
              obtain ⟨j, hj, rfl, rfl, hup, hbq⟩ := hrel
              have hsq := hbq.size
              have hbq2 : Below wm.heap.size wm wr := hbr.trans (hbq.mono (by omega))
              have hbq3 : Below w.heap.size w wr := hbm2.trans (hbq2.mono (by omega))
              by_cases hlt : j < roots.length
              · obtain ⟨b, o, rfl, hb', hok', g2⟩ := (H.out.2.1.below (hbq3.mono hB)).u64H hlt
                have hlt2 : (j : Int) < (roots.length : Int) := by omega
                have hor := HM.out.kept (grownBy_below none hbq2) (by simp)
                have hfit := right_any (Hau.wat roots j) w1.heap.size i pl wr hok' hor
                have hstep : Hau.fits pl (Hau.wat roots j) = true → Hau.rupto ws roots (j + 1) := by
                  intro h
                  exact Hau.rupto_next hlt hup.out (by rw [HP.out.2.2.1]; exact h)
                have hstop : Hau.fits pl (Hau.wat roots j) = false → er = 3 := by
                  intro h
                  have := Hau.rupto_no hlt (by rw [HP.out.2.2.1]; exact h)
                  rw [← HR.out, if_pos this]
                obtain ⟨x, hx⟩ : ∃ x, Hau.wat roots j = x := ⟨_, rfl⟩
                rw [hx] at g2 hstep hstop hfit
                obtain ⟨u, hu⟩ : ∃ r, Hau.fits pl x = r := ⟨_, rfl⟩
                rw [hu] at hfit hstep hstop
                have HS := Lib.hid (And.intro hfit (And.intro hstep hstop)); clear hfit hstep hstop hok' hu hx hor
                go_wp2_with fail
                refine HS.out.1.mono ?_
                rintro e w3 ⟨rfl, hb4⟩
                have hbm3 : Below wo.heap.size wo w3 := hbq.trans (hb4.mono (by omega))
                cases u
                · have he := HS.out.2.2 rfl
                  subst he
                  clear HS
                  go_wp2_with fail
                  go_returns
                  exact ⟨rfl, hbr2.trans (hbm3.mono (by omega))⟩
                · have hup2 := Lib.hid (HS.out.2.1 rfl)
                  clear HS
                  go_wp2_with fail
                  go_roundg (roots.length - (j + 1))
                  case measure => omega
                  case rel => exact ⟨j + 1, by omega, rfl, by go_num, hup2, hbm3⟩
              · obtain rfl : j = roots.length := by omega
                have hro := Hau.rupto_ok hup.out
                have her := HR.out
                rw [hro, if_neg (by decide)] at her
                subst her
                clear hro hup
                go_wp2_with fail
                go_returns
                exact ⟨rfl, hbq3⟩
  · have hok : Hau.okW ws = false := by simpa using hok
    have he : er = 3 := by rw [← HE.out, if_pos hok]
    subst he
    rw [hok]
    clear hok hG1
    go_wp2_with fail
    go_returns
    exact ⟨rfl, hb01⟩

end Go.Proofs.YtdlcooplllimeaaGreatDoor
