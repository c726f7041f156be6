/- The law LeaveCells, walked. -/
import Derived.Test.YtljdnadejmkaeaaMakesA
import Derived.Test.YtljdnadejmkaeaaLeaveLaw2
namespace Go.Proofs.Ytljdnadejmkaeaa
open Go.RowKit

attribute [local go_sem ↓] Go.wp_at_zero Go.wp_at_succ

/-- a literal of one int, whose row is the call's own -/
theorem own_int1 (w : World) (base : Nat) (E : TypeId) (x : Int) (hb : base ≤ w.heap.size) : Own (w.alloc (.cells #[.int .i64 x] E)) base E (some ⟨w.heap.size, 0, none⟩) 1 [x] :=
  ⟨by simp [flat, Flat.cells, Flat.sz], .inr ⟨w.heap.size, 1, #[.int .i64 x], rfl, hb, heap_alloc_new w _, by simp, by simp [maxLen], by simp [Flat.sz], by simp [flat, Flat.cells, Flat.sz]⟩⟩

def OutIs (l : List Ce) (ms : List Mk) (vals : List (Int × Int)) (w : World) (A : Option Addr) (n c : Nat) (er : Int) : Prop :=
  (∃ xs rs, mks vals ms (l.map lite) = .ok xs ∧ er = 0 ∧ n = l.length ∧ rs.length = l.length ∧ Own w 0 52 A c rs ∧ Lites w A rs xs) ∨
    (mks vals ms (l.map lite) = .error er ∧ n = 0)

theorem OutIs.er {l : List Ce} {ms : List Mk} {vals : List (Int × Int)} {w : World} {A : Option Addr} {n c : Nat} {er e : Int} (h : OutIs l ms vals w A n c er) (he : mks vals ms (l.map lite) = .error e) : er = e ∧ n = 0 := by
  rcases h with ⟨xs, rs, h1, -⟩ | ⟨h1, h2⟩
  · rw [he] at h1; cases h1
  · rw [he] at h1; injection h1 with h1; exact ⟨h1.symm, h2⟩

theorem valuesIn_form (A : Option Addr) (c B : Nat) (cell kind num : Int) (mv : List Int) (vals : List (Int × Int)) (w : World) (h : At w B A ([cell] ++ mv)) (hl : 1 + mv.length ≤ 9223372036854775807) :
    Calls Try.prog 15 #[.slice A (1 + mv.length) c, .int .i64 vals.length] w fun e w' => e = .returned (.bool (mkForm vals ⟨cell, kind, num, mv⟩)) ∧ w = w' := by
  have hlen : ([cell] ++ mv).length = 1 + mv.length := by simp; omega
  have := valuesIn_any A c B ([cell] ++ mv) vals.length w h (by omega)
  rw [hlen] at this
  refine this.mono ?_
  rintro e w' ⟨rfl, rfl⟩
  exact ⟨ret_bool (by simp [mkForm, okv]; rfl), rfl⟩

set_option maxHeartbeats 3200000 in
set_option maxRecDepth 100000 in
theorem lawLeaveCells_any (xat steps : Int) (A S M V : Option Addr) (c sn sc mc d : Nat) (l : List Ce) (ms : List Mk) (vals : List (Int × Int)) (w : World) (h : At w w.heap.size A l) (hm : At w w.heap.size M ms) (hv : At w w.heap.size V vals) (hf : CellsFit l)
    (hvl : vals.length ≤ 9223372036854775807) (hml : ms.length ≤ 9223372036854775807) (hmf : ∀ m ∈ ms, m.vals.length * 16 ≤ 140737488355328) :
    Calls Try.prog 4 #[.slice A l.length c, .agg #[.int .i64 xat, .int .i64 steps, .slice S sn sc, .slice M ms.length mc], .slice V vals.length d] w fun e w' => e = .returned (.bool true) ∧ Below w.heap.size w w' := by
  obtain ⟨i0, hi, hz0, hz1, hz2⟩ := info_parts infoVal
  obtain ⟨j0, hj, hy0, hy1, hy2⟩ := info_parts infoInt
  obtain ⟨rs, hrl, hra, hrr⟩ := At.raws (n := 4) rfl h ce_one
  have H := Lib.hid h; clear h
  have HM := Lib.hid hm; clear hm
  have HV := Lib.hid hv; clear hv
  have HMF := Lib.hid hmf; clear hmf
  have HRA := Lib.hid (And.intro hra hrr); clear hra hrr
  have HRL := Lib.hid hrl; clear hrl
  have HF := Lib.hid hf; clear hf
  have hll : l.length * 64 ≤ 140737488355328 := HF.out.1
  go_enter Try.func4, Try.ntmps4
  go_wp2_with fail
  refine calls_world (fun W => Blk W w.heap.size 31 #[.int .i64 xat, .int .i64 steps, .slice S sn sc, .slice M ms.length mc] ∧ Below w.heap.size w W ∧ w.heap.size + 1 ≤ W.heap.size) ⟨Blk.new _ _ _, (Below.refl _ _).alloc (Nat.le_refl _) _, by simp⟩ ?_
  rintro W ⟨hX, hbl, hsz⟩
  refine (leftBy_any W).mono ?_
  rintro e w1 ⟨rfl, hb1⟩
  have hX1 := hX.fresh hb1
  have hbl1 := hbl.trans (hb1.mono (by omega))
  have hsz1 : w.heap.size + 1 ≤ w1.heap.size := by have := hb1.size; omega
  have HX1 := Lib.hid hX1
  clear hX hbl hsz hb1 hX1
  go_wp2_with (refine wpList_ld rfl 31 (.tmp 4) rfl w.heap.size rfl HX1.out Try.underlying31 rfl (by kernel_rfl) ?_)
  refine (leaveCells_any xat steps A S M V c sn sc mc d w.heap.size l ms vals w1 (H.out.below hbl1) (HM.out.below hbl1) (HV.out.below hbl1) (by omega) HF.out hvl hml HMF.out).mono ?_
  rintro e w2 ⟨hb2, hpost⟩
  have hX2 := HX1.out.fresh hb2
  have x3 := hX2.cell 3 (v := .slice M ms.length mc) rfl
  have HX2 := Lib.hid hX2; clear hX2 HX1
  have hbl2 := hbl1.trans (hb2.mono (by omega))
  have hsz2 : w.heap.size + 1 ≤ w2.heap.size := by have := hb2.size; omega
  obtain ⟨Ao, no, co, er, rfl, hout⟩ : ∃ Ao no co er, e = .returned (.tuple #[.slice Ao no co, .int .i64 er]) ∧ OutIs l ms vals w2 Ao no co er := by
    rcases hpost with ⟨xs, h1, Ao, co, rsO, rfl, h2, h3, h4⟩ | ⟨er, h1, rfl⟩
    · exact ⟨_, _, _, _, rfl, .inl ⟨xs, rsO, h1, rfl, rfl, h2, h3.base_le (Nat.zero_le _), h4⟩⟩
    · exact ⟨_, _, _, _, rfl, .inr ⟨h1, rfl⟩⟩
  have HOUT := Lib.hid hout
  clear hpost hb2 hout x3
  go_wp2_with fail
  have hcp := copyCell_any A c w.heap.size rs w2 (HRA.out.1.below hbl2) (by have := HRL.out; omega)
  rw [HRL.out] at hcp
  refine hcp.mono ?_
  rintro e w3 ⟨A3, c3, rfl, ho3, hb3⟩
  rw [HRL.out]
  have hL3 : Lites w3 A3 rs (l.map lite) := ((lites_raw HRL.out HRA.out.2 (Nat.le_refl _) (fun g hg => by have := (ho3.lt g hg).1; omega)).keep hbl2.size (fun p hp _ => hbl2.cell hp)).fresh hb3
  have x3 := (HX2.out.fresh hb3).cell 3 (v := .slice M ms.length mc) rfl
  have HW := Lib.hid (And.intro ho3 hL3)
  have hs3 := hb3.size
  clear ho3 hL3 hcp HX2
  go_wp2_with fail
  go_loopw [31] (fun i wr => ∃ (k : Nat), k ≤ ms.length ∧ i = .int .i64 k ∧ Hid (∃ rs' ys, mks vals (ms.take k) (l.map lite) = .ok ys ∧ rs'.length = l.length ∧ Own wr w2.heap.size 52 A3 c3 rs' ∧ Lites wr A3 rs' ys) ∧ Below w2.heap.size w2 wr) (fun i _ => ms.length - (intOf i).toNat)
  case atStart => exact ⟨0, Nat.zero_le _, rfl, ⟨rs, _, rfl, HRL.out, HW.out.1, HW.out.2⟩, hb3⟩
  case round =>
    obtain ⟨k, hk, rfl, hkeep, hblr⟩ := hrel
    clear x3 hb3 HW hs3 w3
    have hsr := hblr.size
    have hbl : Below w.heap.size w wr := hbl2.trans (hblr.mono (by omega))
    by_cases hlt : k < ms.length
    rotate_left
    · obtain rfl : k = ms.length := by omega
      obtain ⟨rs', ys, hmk, hrl, hown, hL⟩ := hkeep.out
      rw [List.take_length] at hmk
      rcases HOUT.out with ⟨xs, rsO, h1, rfl, rfl, h4, h5, h6⟩ | ⟨h1, -⟩
      rotate_left
      · rw [hmk] at h1; cases h1
      obtain rfl : ys = xs := by rw [hmk] at h1; injection h1
      clear hkeep HOUT hmk h1
      have hall : ∀ j, j < l.length → ∃ g g' kind num vs fl va vc fa fc va' vc' fa' fc', Ao = some ⟨g, 0, none⟩ ∧ A3 = some ⟨g', 0, none⟩ ∧ g < wr.heap.size ∧ g' < wr.heap.size ∧
          wr.cell? ⟨g, j * 4, none⟩ = some (.int .i64 kind) ∧ wr.cell? ⟨g, j * 4 + 1, none⟩ = some (.int .i64 num) ∧ wr.cell? ⟨g, j * 4 + 2, none⟩ = some (.slice va (vs : List (Int × Int)).length vc) ∧ wr.cell? ⟨g, j * 4 + 3, none⟩ = some (.slice fa fl fc) ∧
          wr.cell? ⟨g', j * 4, none⟩ = some (.int .i64 kind) ∧ wr.cell? ⟨g', j * 4 + 1, none⟩ = some (.int .i64 num) ∧ wr.cell? ⟨g', j * 4 + 2, none⟩ = some (.slice va' vs.length vc') ∧ wr.cell? ⟨g', j * 4 + 3, none⟩ = some (.slice fa' fl fc') ∧
          At wr wr.heap.size va vs ∧ At wr wr.heap.size va' vs ∧ vs.length ≤ 9223372036854775807 := by
        intro j hj
        have ho := h5.fresh hblr
        have hLo := h6.fresh hblr
        have hx1 := hL.1
        obtain ⟨g, rfl, -, hg⟩ := ho.some_ (by omega)
        obtain ⟨g', rfl, -, hg'⟩ := hown.some_ (by omega)
        obtain ⟨r, hr⟩ : ∃ u, rsO[j]? = some u := ⟨_, List.getElem?_eq_getElem (by omega)⟩
        obtain ⟨r', hr'⟩ : ∃ u, rs'[j]? = some u := ⟨_, List.getElem?_eq_getElem (by omega)⟩
        obtain ⟨y, hy⟩ : ∃ u, ys[j]? = some u := ⟨_, List.getElem?_eq_getElem (by omega)⟩
        obtain ⟨va, vc, fa, fc, q1, q2, -, q3⟩ := hLo.2 j r y hr hy
        obtain ⟨va', vc', fa', fc', q1', q2', -⟩ := hL.2 j r' y hr' hy
        refine ⟨g, g', y.kind, y.num, y.vals, y.fl, va, vc, fa, fc, va', vc', fa', fc', rfl, rfl, hg, hg', ?_, ?_, ?_, ?_, ?_, ?_, ?_, ?_, q2, q2', q3⟩
        · exact ho.raw_cell (i := j) (j := 0) hr (by rw [q1]; rfl)
        · exact ho.raw_cell (i := j) (j := 1) hr (by rw [q1]; rfl)
        · exact ho.raw_cell (i := j) (j := 2) hr (by rw [q1]; rfl)
        · exact ho.raw_cell (i := j) (j := 3) hr (by rw [q1]; rfl)
        · exact hown.raw_cell (i := j) (j := 0) hr' (by rw [q1']; rfl)
        · exact hown.raw_cell (i := j) (j := 1) hr' (by rw [q1']; rfl)
        · exact hown.raw_cell (i := j) (j := 2) hr' (by rw [q1']; rfl)
        · exact hown.raw_cell (i := j) (j := 3) hr' (by rw [q1']; rfl)
      have HALL := Lib.hid hall
      clear hall h4 h5 h6 hown hL hrl
      go_wp2_with fail
      go_loopw [125] (fun i wq => ∃ (j : Nat), j ≤ l.length ∧ i = .int .i64 j ∧ Below wr.heap.size wr wq) (fun i _ => l.length - (intOf i).toNat)
      case atStart => exact ⟨0, Nat.zero_le _, rfl, Below.refl _ _⟩
      case round =>
        obtain ⟨j, hj, rfl, hbq⟩ := hrel
        have hsq := hbq.size
        by_cases hjt : j < l.length
        · obtain ⟨g, g', kind, num, vs, fl, va, vc, fa, fc, va', vc', fa', fc', rfl, rfl, hg, hg', d0, d1, d2, d3, d0', d1', d2', d3', a1, a2, hvs⟩ := HALL.out j hjt
          have D0 := (hbq.cell (p := ⟨g, j * 4, none⟩) hg).trans d0
          have D1 := (hbq.cell (p := ⟨g, j * 4 + 1, none⟩) hg).trans d1
          have D2 := (hbq.cell (p := ⟨g, j * 4 + 2, none⟩) hg).trans d2
          have D3 := (hbq.cell (p := ⟨g, j * 4 + 3, none⟩) hg).trans d3
          have D0' := (hbq.cell (p := ⟨g', j * 4, none⟩) hg').trans d0'
          have D1' := (hbq.cell (p := ⟨g', j * 4 + 1, none⟩) hg').trans d1'
          have D2' := (hbq.cell (p := ⟨g', j * 4 + 2, none⟩) hg').trans d2'
          have D3' := (hbq.cell (p := ⟨g', j * 4 + 3, none⟩) hg').trans d3'
          have HA := Lib.hid (And.intro (a1.below hbq) (a2.below hbq))
          clear d0 d1 d2 d3 d0' d1' d2' d3' a1 a2
          have hj1 : (j : Int) < (l.length : Int) := by omega
          have hj0 : (0 : Int) ≤ (j : Int) := by omega
          have hgw : g < wr.heap.size := by omega
          have hgw' : g' < wr.heap.size := by omega
          go_wp2_with fail
          have HBQ := Lib.hid hbq
          go_region_held3 (fun w' => w'.cell? ⟨g, j * 4, none⟩ = some (.int .i64 kind) ∧ w'.cell? ⟨g, j * 4 + 1, none⟩ = some (.int .i64 num) ∧ w'.cell? ⟨g, j * 4 + 2, none⟩ = some (.slice va vs.length vc) ∧ w'.cell? ⟨g, j * 4 + 3, none⟩ = some (.slice fa fl fc) ∧
            w'.cell? ⟨g', j * 4, none⟩ = some (.int .i64 kind) ∧ w'.cell? ⟨g', j * 4 + 1, none⟩ = some (.int .i64 num) ∧ w'.cell? ⟨g', j * 4 + 2, none⟩ = some (.slice va' vs.length vc') ∧ w'.cell? ⟨g', j * 4 + 3, none⟩ = some (.slice fa' fl fc') ∧ Below wr.heap.size wr w')
            (first | exact ⟨D0, D1, D2, D3, D0', D1', D2', D3', (Below.refl _ _).drew⟩ | exact ⟨(hb9.cell (p := ⟨g, j * 4, none⟩) hgw).trans D0, (hb9.cell (p := ⟨g, j * 4 + 1, none⟩) hgw).trans D1, (hb9.cell (p := ⟨g, j * 4 + 2, none⟩) hgw).trans D2, (hb9.cell (p := ⟨g, j * 4 + 3, none⟩) hgw).trans D3, (hb9.cell (p := ⟨g', j * 4, none⟩) hgw').trans D0', (hb9.cell (p := ⟨g', j * 4 + 1, none⟩) hgw').trans D1', (hb9.cell (p := ⟨g', j * 4 + 2, none⟩) hgw').trans D2', (hb9.cell (p := ⟨g', j * 4 + 3, none⟩) hgw').trans D3', hb9⟩)
            (first | (go_at_call 16; refine (eqVal_same va va' vc vc' _ _ _ vs _ (by exact HA.out.1.drew) (by exact HA.out.2.drew) (by simp; omega) hvs rfl rfl).mono ?_; rintro e w9 ⟨rfl, hb9d⟩; have hb9 := undrew hb9d; clear hb9d))
          all_goals (go_wp2_with fail; go_roundw)
          case rel => exact ⟨j + 1, by omega, by go_num, hbq.trans (hb9.mono (by exact hsq))⟩
          case measure => simp [intOf]; omega
        · go_wp2_with fail
          go_ret
          exact ⟨rfl, hbl.trans (hbq.mono (by omega))⟩
    obtain ⟨b, o, m, Am, cm, rfl, hb, hx, e0, e1, e2, e3, atm, hcm, ok0, ok1, ok2⟩ := (HM.out.below hbl).mk_ hlt
    have HX := Lib.hid hx
    have hmf := HMF.out m (List.mem_of_getElem? hx)
    clear hx
    have lt5 : b < wr.heap.size := by omega
    obtain ⟨cell, kind, num, mv⟩ := m
    have hmv : mv.length * 16 ≤ 140737488355328 := hmf
    clear hmf
    have hstop : ∀ e : Int, (∀ ys, mks vals (ms.take k) (l.map lite) = .ok ys → mk1 vals ys ⟨cell, kind, num, mv⟩ = .error e) → er = e ∧ no = 0 := fun e he => by
      obtain ⟨rs', ys, h1, -⟩ := hkeep.out
      exact HOUT.out.er (mks_stop _ _ _ _ _ _ _ HX.out h1 (he ys h1))
    have HS := Lib.hid hstop; clear hstop
    have HB := Lib.hid ((Blk.new wr 54 #[.int .i64 cell, .int .i64 kind, .int .i64 num, .slice Am mv.length cm]).alloc (.cells #[.int .i64 cell] 3))
    have HAM := Lib.hid (((atm.alloc (by omega) (.cells #[.int .i64 cell, .int .i64 kind, .int .i64 num, .slice Am mv.length cm] 54)).alloc (by simp; omega) (.cells #[.int .i64 cell] 3)))
    have ho1 := own_int1 (wr.alloc (.cells #[.int .i64 cell, .int .i64 kind, .int .i64 num, .slice Am mv.length cm] 54)) (wr.heap.size + 1) 3 cell (by simp)
    simp only [World.size_alloc] at ho1
    have HO1 := Lib.hid ho1; clear ho1
    have ATM := Lib.hid atm
    have OK0 := Lib.hid (And.intro ok0 (atm.ok_)); clear ok0 ok1 ok2 atm
    go_wp2_with (at_builtin; go_must (refine wpList_app (α := Int) (n := 1) (m := mv.length) (r := mv) rfl (.tmp 37) (.tmp 39) _ rfl (wr.heap.size + 1) 3 j0 _ 8 Try.underlying40 hj hy0 hy1 hy2 rfl (by decide) int_one (by rfl) rfl HO1.out (by rfl) HAM.out rfl (by omega) (by simp only [maxLen]; omega) (by simp) ?_); intro A5 c5 w5 hown5 hgr5 hat5)
    have hb5 : Below wr.heap.size wr w5 := ((((Below.refl _ _).alloc (Nat.le_refl _) _).alloc (by simp) _).grown hgr5 (by simp; omega) (by simp [rowOf]))
    have hB5 := HB.out.grown hgr5 (by simp [rowOf])
    have hs5 : wr.heap.size + 2 ≤ w5.heap.size := by have := hgr5.size; simpa using this
    have hat5 : At w5 w5.heap.size A5 ([cell] ++ mv) := hown5.at_ (by simp; exact ⟨OK0.out.1, OK0.out.2⟩)
    clear HB HAM HO1 hgr5
    have HB5 := Lib.hid hB5; clear hB5
    refine (valuesIn_form A5 c5 _ cell kind num mv vals w5 hat5 (by omega)).mono ?_
    rintro e w6 ⟨rfl, rfl⟩
    have hbl5 : Below w.heap.size w w5 := hbl.trans (hb5.mono (by omega))
    clear hat5 hown5
    by_cases hform : mkForm vals ⟨cell, kind, num, mv⟩ = true
    rotate_left
    · obtain ⟨rfl, rfl⟩ := HS.out 3 (fun ys _ => by unfold mk1; rw [if_neg hform])
      rw [Bool.not_eq_true] at hform
      rw [hform]
      go_wp2_with fail
      go_ret
      exact ⟨ret_bool (by simp), hbl5⟩
    rw [hform]
    have HFM := Lib.hid hform; clear hform
    obtain ⟨hok1, hok2⟩ : okv vals.length cell = true ∧ mv.all (okv vals.length) = true := by have := HFM.out; simp only [mkForm, Bool.and_eq_true] at this; exact this
    obtain ⟨hc1, hc2⟩ : 0 ≤ cell ∧ cell < (vals.length : Int) := by simp [okv] at hok1; exact hok1
    have HMV := Lib.hid hok2; clear hok1 hok2
    obtain ⟨n, rfl⟩ := Int.eq_ofNat_of_zero_le hc1
    obtain ⟨b', o', p, q, rfl, hb', hpq, -, -, v0, v1⟩ := (HV.out.below hbl5).pair (by omega : n < vals.length)
    have hgv : getv vals (n : Int) = (p, q) := by simp [getv, hpq]
    have HP := Lib.hid hgv; clear hgv hpq
    have s0 := HB5.out.cell 0 (v := .int .i64 (n : Int)) rfl
    have hc3 : n < vals.length := by omega
    have lt6 : b' < w5.heap.size := by omega
    obtain ⟨rs', ys, hmk, hrl, hown, hL⟩ := hkeep.out
    have hxl : ys.length = l.length := by have := hL.1; omega
    have HMK := Lib.hid hmk; clear hmk
    have hbad : mkState vals ys ⟨n, kind, num, mv⟩ = false → er = 8 ∧ no = 0 := fun hst => HS.out 8 (fun zs hzs => by
        rw [HMK.out] at hzs; injection hzs with hzs; subst hzs
        unfold mk1; rw [if_pos HFM.out, if_neg (by simp [hst])])
    have hst : mkState vals ys ⟨n, kind, num, mv⟩ = (decide (p = 5) && decide (0 ≤ q) && decide (q < (ys.length : Int)) && decide ((ys[q.toNat]?.map (·.kind)) = some 0)) := by simp only [mkState, HP.out]
    have HBAD := Lib.hid hbad; clear hbad
    have HST := Lib.hid hst; clear hst
    clear hkeep
    have HOW := Lib.hid (And.intro hown hL); clear hown hL
    by_cases h1 : p = 5
    rotate_left
    · obtain ⟨rfl, rfl⟩ := (HBAD.out (by rw [HST.out]; simp [h1]))
      go_wp2_with fail
      go_ret
      exact ⟨ret_bool (by simp), hbl5.alloc (by omega) _⟩
    by_cases h2 : 0 ≤ q
    rotate_left
    · obtain ⟨rfl, rfl⟩ := (HBAD.out (by rw [HST.out]; simp [h2]))
      subst h1
      have h2' : q < 0 := by omega
      go_wp2_with fail
      go_ret
      exact ⟨ret_bool (by simp), hbl5.alloc (by omega) _⟩
    by_cases h3 : q < (l.length : Int)
    rotate_left
    · obtain ⟨rfl, rfl⟩ := (HBAD.out (by rw [HST.out]; simp; omega))
      subst h1
      have h2' : ¬ q < 0 := by omega
      have h3' : (l.length : Int) ≤ q := by omega
      go_wp2_with fail
      go_ret
      exact ⟨ret_bool (by simp), hbl5.alloc (by omega) _⟩
    obtain ⟨z, rfl⟩ := Int.eq_ofNat_of_zero_le h2
    obtain ⟨g1, rfl, hg1, hg1'⟩ := HOW.out.1.some_ (by omega)
    obtain ⟨r, hr⟩ : ∃ u, rs'[z]? = some u := ⟨_, List.getElem?_eq_getElem (by omega)⟩
    obtain ⟨y, hy⟩ : ∃ u, ys[z]? = some u := ⟨_, List.getElem?_eq_getElem (by omega)⟩
    obtain ⟨yk, yn, yv, yf⟩ := y
    obtain ⟨va, vc, fa, fc, hcs, -, -⟩ := HOW.out.2.2 z r _ hr hy
    have hoW := HOW.out.1.fresh hb5
    have c0 := hoW.raw_cell (i := z) (j := 0) hr (u := .int .i64 yk) (by rw [hcs]; rfl)
    rw [Nat.add_zero] at c0
    have hg1w : g1 < w5.heap.size := by omega
    have hwrw : wr.heap.size < w5.heap.size := by omega
    have h3n : z < l.length := by omega
    have h3c : ¬ l.length ≤ z := by omega
    by_cases h4 : yk = 0
    rotate_left
    · obtain ⟨rfl, rfl⟩ := (HBAD.out (by rw [HST.out]; simp [hy, h4]))
      clear hcs hr hy hoW
      subst h1
      have h4b : (yk != 0) = true := by simp [h4]
      go_wp2_with fail
      go_ret
      exact ⟨ret_bool (by simp), hbl5.alloc (by omega) _⟩
    subst h4
    subst h1
    have HRY := Lib.hid (And.intro hr (And.intro hy hoW))
    clear hr hy hoW hcs
    have s3 := HB5.out.cell 3 (v := .slice Am mv.length cm) rfl
    go_wp2_with fail
    refine wp_world (fun Z => Blk Z w5.heap.size 23 #[.int .i64 5, .int .i64 z] ∧ Below w5.heap.size w5 Z ∧ w5.heap.size + 1 ≤ Z.heap.size) ⟨Blk.new _ _ _, (Below.refl _ _).alloc (Nat.le_refl _) _, by simp⟩ ?_
    rintro Z ⟨hBZ, hbZ, hsZ⟩
    have HBZ := Lib.hid hBZ; clear hBZ
    have hblZ : Below w.heap.size w Z := hbl5.trans (hbZ.mono (by omega))
    have hb2Z : Below w2.heap.size w2 Z := (hblr.trans (hb5.mono (by omega))).trans (hbZ.mono (by omega))
    clear s0 s3 v0 v1 c0
    go_loopw [13, 91] (fun o i wq => ∃ (j : Nat) (A7 : Option Addr) (c7 : Nat), j ≤ mv.length ∧ i = .int .i64 j ∧ o = .slice A7 j c7 ∧ Hid (Own wq Z.heap.size 23 A7 c7 ((mv.take j).map (getv vals))) ∧ Below Z.heap.size Z wq) (fun _ i _ => mv.length - (intOf i).toNat)
    case atStart => exact ⟨0, none, 0, Nat.zero_le _, rfl, rfl, Own.nil_, Below.refl _ _⟩
    case round =>
      obtain ⟨j, A7, c7, hj2, rfl, rfl, hkeep, hblq⟩ := hrel
      have hsq := hblq.size
      have hbq : Below w.heap.size w wr := hblZ.trans (hblq.mono (by omega))
      by_cases hjt : j < mv.length
      · obtain ⟨bj, oj, x, rfl, hbj, hxj, -, h0⟩ := ((ATM.out.below (hb5.mono (by omega))).below ((hbZ.mono (by omega)).trans (hblq.mono (by omega)))).int_ hjt
        have HXJ := Lib.hid hxj
        have hokx : okv vals.length x = true := (List.all_eq_true.1 HMV.out) x (List.mem_of_getElem? hxj)
        obtain ⟨hx1, hx2⟩ : 0 ≤ x ∧ x < (vals.length : Int) := by simp [okv] at hokx; exact hokx
        clear hxj hokx
        obtain ⟨n2, rfl⟩ := Int.eq_ofNat_of_zero_le hx1
        obtain ⟨b2, o2, p2, q2, hV2, hb2', hpq2, hok2a, hok2b, g0, g1'⟩ := (HV.out.below hbq).pair (by omega : n2 < vals.length)
        injection hV2 with hV2; injection hV2 with hV3 hV4; subst hV3 hV4
        have hx3 : n2 < vals.length := by omega
        have lt7 : b' < wr.heap.size := by omega
        have HY := Lib.hid hpq2; clear hpq2
        have hlen : (((mv.take j).map (getv vals)).length = j) := by simp; omega
        have HL := Lib.hid hlen; clear hlen
        go_wp2_with (at_builtin; go_must (refine wpList_app (α := Int × Int) (n := j) (m := 1) (B := wr.heap.size + 1) (r := [(p2, q2)]) rfl (.tmp 95) (.tmp 100) _ rfl Z.heap.size 23 i0 _ 16 Try.underlying24 hi hz0 hz1 hz2 rfl (by decide) pair_one (by rfl) HL.out (hkeep.out.alloc _) (by rfl) ?_ rfl (by omega) (by simp only [maxLen]; omega) (by simp; omega) ?_))
        · exact At.built wr _ _ [(p2, q2)] rfl (by simp [Flat.ok, hok2a, hok2b])
        intro A8 c8 w8 hown hgr hat
        have hbl8 : Below Z.heap.size Z w8 := (hblq.alloc hsq _).grown hgr (by simp; omega) (fun g hg => (hkeep.out.lt g hg).1)
        have hgv : getv vals (n2 : Int) = (p2, q2) := by simp [getv, HY.out]
        have HG := Lib.hid hgv; clear hgv
        go_wp2
        go_roundw
        case rel => exact ⟨j + 1, A8, c8, by omega, by go_num, rfl, by unfold Hid; rw [map_take_snoc _ _ _ _ HXJ.out, HG.out, List.map_take]; exact hown, hbl8⟩
        case measure => simp [intOf]; omega
      · obtain rfl : j = mv.length := by omega
        have hk2 := hkeep.out
        rw [List.take_length] at hk2
        have HN := Lib.hid hk2
        clear hkeep hk2
        have hoW := (HRY.out.2.2.fresh hbZ).fresh hblq
        obtain ⟨u0, hu0⟩ := r.has 0 (by decide)
        obtain ⟨u1, hu1⟩ := r.has 1 (by decide)
        obtain ⟨u2, hu2⟩ := r.has 2 (by decide)
        obtain ⟨u3, hu3⟩ := r.has 3 (by decide)
        have c0' := hoW.raw_cell (i := z) (j := 0) HRY.out.1 hu0
        have c1' := hoW.raw_cell (i := z) (j := 1) HRY.out.1 hu1
        have c2' := hoW.raw_cell (i := z) (j := 2) HRY.out.1 hu2
        have c3' := hoW.raw_cell (i := z) (j := 3) HRY.out.1 hu3
        rw [Nat.add_zero] at c0'
        have z0 := hoW.frozen (g := g1) rfl (z * 4)
        have z1 := hoW.frozen (g := g1) rfl (z * 4 + 1)
        have z2 := hoW.frozen (g := g1) rfl (z * 4 + 2)
        have z3 := hoW.frozen (g := g1) rfl (z * 4 + 3)
        have HO := Lib.hid hoW; clear hoW hu0 hu1 hu2 hu3
        have s1 := ((HB5.out.fresh hbZ).fresh hblq).cell 1 (v := .int .i64 kind) rfl
        have s2 := ((HB5.out.fresh hbZ).fresh hblq).cell 2 (v := .int .i64 num) rfl
        have t1 := (HBZ.out.fresh hblq).cell 1 (v := .int .i64 (z : Int)) rfl
        have hgs : w2.heap.size ≤ g1 := hg1
        go_wp2_with fail
        have hL2 := ((HOW.out.2.fresh hb5).fresh hbZ).fresh hblq
        have hone : ∀ u ∈ [Value.int .i64 kind, .int .i64 num, .slice A7 mv.length c7, .slice none 0 0], u.oneCell' = true := by
          intro u hu; simp at hu; rcases hu with rfl | rfl | rfl | rfl <;> rfl
        have hgo := getv_ok (HV.out.ok_)
        have hat := HN.out.at_ (fun x hx => by obtain ⟨y, -, rfl⟩ := List.mem_map.1 hx; exact hgo y)
        have hA7 : ∀ g, rowOf A7 = some g → Z.heap.size ≤ g := fun g hg => (HN.out.lt g hg).1
        have hnew : LiteIs wr (some ⟨g1, 0, none⟩) ⟨[.int .i64 kind, .int .i64 num, .slice A7 mv.length c7, .slice none 0 0], rfl, hone⟩ (mkNew vals ⟨n, kind, num, mv⟩) :=
          ⟨A7, c7, none, 0, by simp [mkNew], hat, .inr fun g hg e => by have := hA7 g e; simp [rowOf] at hg; omega, by simp [mkNew]; omega⟩
        have hb2 := hb2Z.trans (hblq.mono (by omega))
        have hmkn : mks vals (ms.take (k + 1)) (l.map lite) = .ok (ys.set z (mkNew vals ⟨n, kind, num, mv⟩)) := by
          rw [mks_snoc _ _ _ _ _ HX.out, HMK.out]
          show mk1 _ _ _ = _
          unfold mk1
          rw [if_pos HFM.out, if_pos (by rw [HST.out]; simp [HRY.out.2.1, hxl]; omega), HP.out]
          rfl
        have hown := HO.out.set_raw4 HRY.out.1 ⟨[.int .i64 kind, .int .i64 num, .slice A7 mv.length c7, .slice none 0 0], rfl, hone⟩ rfl
        have hLn := ((((hL2.set_ z hnew).setCell (z * 4) (.int .i64 kind)).setCell (z * 4 + 1) (.int .i64 num)).setCell (z * 4 + 2) (.slice A7 mv.length c7)).setCell (z * 4 + 3) (.slice none 0 0)
        refine ⟨⟨k + 1, by omega, by go_num, ⟨_, _, hmkn, ?_, hown, hLn⟩, ((((hb2.setCell hgs _).setCell hgs _).setCell hgs _).setCell hgs _)⟩, by simp [intOf]; omega⟩
        rw [List.length_set]; exact hrl

end Go.Proofs.Ytljdnadejmkaeaa
