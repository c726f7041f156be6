/- KT: SeA, SeB, SeC, SeD, SeE, SeF, SeG, SeI, SeH, SeJ, KpE. -/
import Derived.Test.YtdlcooplllimeaaGreatDoorKT2
import Derived.Test.YtdlcooplllimeaaGreatDoorKT10
import Derived.Test.YtdlcooplllimeaaGreatDoorKT12
import Derived.Test.YtdlcooplllimeaaGreatDoorKT15
import Derived.Test.YtdlcooplllimeaaGreatDoorKT25
import Derived.Test.YtdlcooplllimeaaGreatDoorKT29
import Derived.Test.YtdlcooplllimeaaGreatDoorKT33
import Derived.Test.YtdlcooplllimeaaGreatDoorKT37
/- reach: one that walks from cell to cell; come. -/
namespace Go.Proofs.YtdlcooplllimeaaGreatDoor
open Go.RowKit

attribute [local go_sem ↓] Go.wp_at_zero Go.wp_at_succ

namespace Top
theorem rfs_snoc {l : List (Int × Int)} {k : Nat} {x : Int × Int} (hx : l[k]? = some x) : rfs (l.take (k + 1)) = rfs (l.take k) ++ (if x.1 = 5 then [x.2] else []) := by
  unfold rfs
  rw [List.take_add_one, hx, List.filter_append, List.map_append]
  congr 1
  by_cases h : x.1 = 5
  · simp [h]
  · have : (x.1 == 5) = false := by simpa using h
    simp [h, this]
def cm (l : List (Int × Int)) (st : List Bool × List Int) : List Bool × List Int := reachL (rfs l) st
theorem cm_snoc {l : List (Int × Int)} {k : Nat} {x : Int × Int} {st : List Bool × List Int} (hx : l[k]? = some x) : cm (l.take (k + 1)) st = if x.1 = 5 then reach1 (cm (l.take k) st) x.2 else cm (l.take k) st := by
  unfold cm
  rw [rfs_snoc hx, reachL_append]
  split
  · rfl
  · rfl
theorem cm_len (l : List (Int × Int)) (st : List Bool × List Int) : (cm l st).1.length = st.1.length := reachL_len _ _
/-- one that walks, at block R -/
def Wk (w : World) (base R : Nat) (pv : Value) (S T K : Option Addr) (c d e : Nat) (seen : List Bool) (todo wk : List Int) : Prop :=
  Blk w R 135 #[pv, .slice S seen.length c, .slice T todo.length d, .slice K wk.length e] ∧ Own w base 4 S c seen ∧ Own w base 3 T d todo ∧ Own w base 3 K e wk ∧ (∀ g, rowOf T = some g → rowOf K ≠ some g) ∧ base ≤ R
theorem Wk.fresh {w w' : World} {base R : Nat} {pv : Value} {S T K : Option Addr} {c d e : Nat} {seen : List Bool} {todo wk : List Int} (h : Wk w base R pv S T K c d e seen todo wk) (hb : Below w.heap.size w w') : Wk w' base R pv S T K c d e seen todo wk :=
  ⟨h.1.fresh hb, h.2.1.fresh hb, h.2.2.1.fresh hb, h.2.2.2.1.fresh hb, h.2.2.2.2.1, h.2.2.2.2.2⟩
def MW (t : TypeId) : Prop := t = 135 ∨ t = 4 ∨ t = 3
instance (t : TypeId) : Decidable (MW t) := by unfold MW; infer_instance
/-- what come says: beside its own three blocks nothing changes -/
def CmPost (base R : Nat) (pv : Value) (l : List (Int × Int)) (seen : List Bool) (todo wk : List Int) (w : World) (e : Ending) (w' : World) : Prop :=
  e = .returned (.tuple #[]) ∧ (∃ S T K c d e', Wk w' base R pv S T K c d e' (cm l (seen, todo)).1 (cm l (seen, todo)).2 wk) ∧ Below base w w' ∧ Kept MW w w'
/-- one that walks, whose tables' row is known -/
def WkK (w : World) (base R : Nat) (pv : Value) (K : Option Addr) (e : Nat) (seen : List Bool) (todo wk : List Int) : Prop := ∃ S T c d, Wk w base R pv S T K c d e seen todo wk
def CmPostK (base R : Nat) (pv : Value) (K : Option Addr) (ec : Nat) (l : List (Int × Int)) (seen : List Bool) (todo wk : List Int) (w : World) (e : Ending) (w' : World) : Prop :=
  e = .returned (.tuple #[]) ∧ WkK w' base R pv K ec (cm l (seen, todo)).1 (cm l (seen, todo)).2 wk ∧ Below base w w' ∧ Kept MW w w'
theorem CmPostK.post {base R : Nat} {pv : Value} {K : Option Addr} {ec : Nat} {l : List (Int × Int)} {seen : List Bool} {todo wk : List Int} {w w' : World} {e : Ending} (h : CmPostK base R pv K ec l seen todo wk w e w') : CmPost base R pv l seen todo wk w e w' := by
  obtain ⟨h1, ⟨S, T, c, d, h2⟩, h3, h4⟩ := h
  exact ⟨h1, ⟨S, T, K, c, d, ec, h2⟩, h3, h4⟩
set_option maxHeartbeats 1600000 in
set_option maxRecDepth 100000 in
theorem come_core (R base B c d e lc : Nat) (L S T K : Option Addr) (pv : Value) (seen : List Bool) (todo wk : List Int) (l : List (Int × Int)) (w : World) (hW : Wk w base R pv S T K c d e seen todo wk)
    (hl : At w B L l) (hB : B ≤ w.heap.size) (hL : l ≠ [] → ∀ g, rowOf L = some g → g ≠ R ∧ rowOf S ≠ some g ∧ rowOf T ≠ some g) (hin : RightL seen.length (rfs l)) (hll : todo.length + l.length ≤ 1000000) (hsl : seen.length ≤ 1000000) (hbase : base ≤ w.heap.size) :
    Calls Tryz.prog 54 #[.pointer (some ⟨R, 0, none⟩), .slice L l.length lc] w (CmPostK base R pv K e l seen todo wk w) := by
  obtain ⟨P, hP⟩ : ∃ P, CmPostK base R pv K e l seen todo wk w = P := ⟨_, rfl⟩
  have HP := Lib.hid hP; rw [hP]; clear hP
  obtain ⟨i0, hi, hz0, hz1, hz2⟩ := info_parts infoInt
  have HL0 := Lib.hid hL; clear hL
  have HIN := Lib.hid hin; clear hin
  have HW := Lib.hid hW; clear hW
  go_enter Tryz.func54, Tryz.ntmps54
  go_upto_region 1 with fail
  go_loopg [8] (l.length) (fun gk i wr => ∃ (k : Nat) (T1 : Option Addr) (d1 : Nat), k ≤ l.length ∧ gk = l.length - k ∧ i = .int .i64 k ∧ Hid (Wk wr base R pv S T1 K c d1 e (cm (l.take k) (seen, todo)).1 (cm (l.take k) (seen, todo)).2 wk ∧ At wr B L l ∧ (l ≠ [] → ∀ g, rowOf L = some g → rowOf T1 ≠ some g) ∧ (cm (l.take k) (seen, todo)).2.length ≤ todo.length + k) ∧ (Below base w wr ∧ Kept MW w wr) ∧ w.heap.size ≤ wr.heap.size)
  case atStart => exact ⟨0, T, d, Nat.zero_le _, rfl, rfl, ⟨HW.out, hl, fun hn g hg => (HL0.out hn g hg).2.2, Nat.le_refl _⟩, ⟨Below.refl _ _, Kept.refl _⟩, Nat.le_refl _⟩
  case round =>
    obtain ⟨k, T1, d1, hk, rfl, rfl, hkeep, ⟨hbl, hkp⟩, hBw⟩ := hrel
    have HKP := Lib.hid hkp; clear hkp
    by_cases hlt : k < l.length
    · have hnl : l ≠ [] := List.ne_nil_of_length_pos (by omega)
      have HNL := Lib.hid hnl; clear hnl
      obtain ⟨b, o, x, rfl, hb, hx, q0, q1, i1, i2⟩ := hkeep.out.2.1.pairT hlt
      have hsn := cm_snoc (st := (seen, todo)) hx
      have hk0 : (0 : Int) ≤ (k : Int) := by omega
      have hk1 : (k : Int) < (l.length : Int) := by omega
      have HX := Lib.hid (And.intro hx (And.intro hsn hbl)); clear hx hsn hbl
      go_upto_region 3 with fail
      refine wp_world (fun V => Blk V wr.heap.size 48 #[.int .i64 x.1, .int .i64 x.2] ∧ Below wr.heap.size wr V ∧ V.heap.size = wr.heap.size + 1) ⟨Blk.new _ _ _, (Below.refl _ _).alloc (Nat.le_refl _) _, by simp⟩ ?_
      rintro V ⟨hVl, hbV, hsV⟩
      obtain ⟨xk, xn⟩ := x
      have hWV := hkeep.out.1.fresh hbV
      have v0 := hVl.cell 0 (v := .int .i64 xk) rfl
      have HV := Lib.hid (And.intro hVl (And.intro hWV (And.intro hbV (And.intro i1 i2)))); clear hVl hWV hbV i1 i2 q0 q1 v0
      go_cut [25] from 12 to 25 (fun v25 W2 => ∃ b : Bool, v25 = .bool b ∧ Hid ((b = false → cm (l.take (k + 1)) (seen, todo) = cm (l.take k) (seen, todo)) ∧ (b = true → xk = 5 ∧ ∃ n : Nat, xn = (n : Int) ∧ (cm (l.take k) (seen, todo)).1[n]? = some false)) ∧ Below V.heap.size V W2 ∧ W2.heap.size = V.heap.size)
      case first =>
        have BX : Below V.heap.size V V.drew := (Below.refl _ _).drew
        by_cases y5 : xk = 5
        case neg =>
          have d5 : (xk == 5) = false := by simpa using y5
          have HQ := Lib.hid y5; clear y5
          refine wp_region_held_drew (S := (fun w' => w'.cell? ⟨wr.heap.size, 0, none⟩ = some (.int .i64 xk) ∧ w'.cell? ⟨wr.heap.size, 1, none⟩ = some (.int .i64 xn) ∧ w'.cell? ⟨R, 1, none⟩ = some (.slice S (cm (l.take k) (seen, todo)).1.length c))) (by kernel_rfl) ?_ (fun hHeld0 => ?_)
          · first | trivial | ((try dsimp only); (exact ⟨(HV.out.1.fresh BX).cell 0 rfl, (HV.out.1.fresh BX).cell 1 rfl, (HV.out.2.1.1.fresh BX).cell 1 rfl⟩))
          refine htk 0 rfl ?_
          try go_frame
          refine htk 1 rfl ?_
          try go_frame
          refine htk 2 rfl ?_
          try go_frame
          refine htk 3 rfl ?_
          try go_frame
          refine hsk 4 rfl ?_
          try go_frame
          refine hsk 5 rfl ?_
          try go_frame
          refine hsk 6 rfl ?_
          try go_frame
          refine hsk 7 rfl ?_
          try go_frame
          refine hsk 8 rfl ?_
          try go_frame
          refine hsk 9 rfl ?_
          try go_frame
          refine hsk 10 rfl ?_
          try go_frame
          refine hsk 11 rfl ?_
          try go_frame
          refine hsk 12 rfl ?_
          try go_frame
          refine htk 13 rfl ?_
          try go_frame
          refine wpAnyH_done (by kernel_rfl) ?_ _
          go_wp2_with fail
          go_meet
          exact ⟨false, rfl, ⟨fun _ => by rw [HX.out.2.1, if_neg HQ.out], fun h => (by cases h)⟩, BX, rfl⟩
        have d5 : (xk == 5) = true := by rw [y5]; rfl
        obtain ⟨n, hn1, hn2⟩ := HIN.out xn (mem_rfs.2 (by have := List.mem_of_getElem? HX.out.1; rw [y5] at this; exact this))
        subst hn1
        obtain ⟨g, hSg, hg1, hg2⟩ := HV.out.2.1.2.1.some_ (by have := cm_len (l.take k) (seen, todo); simp only at this; omega)
        subst hSg
        obtain ⟨sb, hs⟩ : ∃ s, (cm (l.take k) (seen, todo)).1[n]? = some s := ⟨_, List.getElem?_eq_getElem (by rw [cm_len]; exact hn2)⟩
        have n0 : (0 : Int) ≤ (n : Int) := by omega
        have n1 : (n : Int) < ((cm (l.take k) (seen, todo)).1.length : Int) := by have := cm_len (l.take k) (seen, todo); simp only at this; omega
        have HFin : Hid (((!sb) = false → cm (l.take (k + 1)) (seen, todo) = cm (l.take k) (seen, todo)) ∧ ((!sb) = true → xk = 5 ∧ ∃ m : Nat, (n : Int) = (m : Int) ∧ (cm (l.take k) (seen, todo)).1[m]? = some false)) := by
          refine ⟨fun h => ?_, fun h => ⟨y5, n, rfl, ?_⟩⟩
          · rw [HX.out.2.1, if_pos y5]
            have h2 : sb = true := by cases sb; cases h; rfl
            subst h2
            show reach1 _ (n : Int) = _
            unfold reach1; rw [if_pos (by rw [Int.toNat_natCast]; exact getD_true.2 hs)]
          · have h2 : sb = false := by cases sb; rfl; cases h
            rw [hs, h2]
        have HQ := Lib.hid (And.intro y5 hs); clear y5 hs hn2
        refine wp_region_held_drew (S := (fun w' => w'.cell? ⟨wr.heap.size, 0, none⟩ = some (.int .i64 xk) ∧ w'.cell? ⟨wr.heap.size, 1, none⟩ = some (.int .i64 (n : Int)) ∧ w'.cell? ⟨R, 1, none⟩ = some (.slice (some ⟨g, 0, none⟩) (cm (l.take k) (seen, todo)).1.length c) ∧ w'.cell? ⟨g, n, none⟩ = some (.bool sb))) (by kernel_rfl) ?_ (fun hHeld0 => ?_)
        · first | trivial | ((try dsimp only); (exact ⟨(HV.out.1.fresh BX).cell 0 rfl, (HV.out.1.fresh BX).cell 1 rfl, (HV.out.2.1.1.fresh BX).cell 1 rfl, (HV.out.2.1.2.1.fresh BX).cell_bool HQ.out.2⟩))
        refine htk 0 rfl ?_
        try go_frame
        refine htk 1 rfl ?_
        try go_frame
        refine htk 2 rfl ?_
        try go_frame
        refine htk 3 rfl ?_
        try go_frame
        refine htk 4 rfl ?_
        try go_frame
        refine htk 5 rfl ?_
        try go_frame
        refine htk 6 rfl ?_
        try go_frame
        refine htk 7 rfl ?_
        try go_frame
        refine htk 8 rfl ?_
        try go_frame
        refine htk 9 rfl ?_
        try go_frame
        refine htk 10 rfl ?_
        try go_frame
        refine htk 11 rfl ?_
        try go_frame
        refine htk 12 rfl ?_
        try go_frame
        refine htk 13 rfl ?_
        try go_frame
        refine wpAnyH_done (by kernel_rfl) ?_ _
        go_wp2_with fail
        go_meet
        exact ⟨!sb, rfl, HFin, BX, rfl⟩
      case rest =>
      obtain ⟨b25, rfl, hres, hbc, hcs⟩ := hcut
      have hb0 : Below wr.heap.size wr wc := HV.out.2.2.1.trans (hbc.mono (by omega))
      have hbw : Below base w wc := HX.out.2.2.trans (hb0.mono (by omega))
      have hwk := HV.out.2.1.fresh hbc
      have hat := hkeep.out.2.1.below (hb0.mono (by omega))
      have HKc := Lib.hid (HKP.out.trans (Kept.fresh hb0))
      cases b25 with
      | false =>
        have HZ := Lib.hid (And.intro (hres.out.1 (by simp)) (And.intro hbw (And.intro hwk hat))); clear hbw hwk hat hb0 hbc
        go_wp2_with fail
        go_roundg (l.length - (k + 1))
        case measure => omega
        case rel => exact ⟨k + 1, T1, d1, by omega, rfl, by go_num, ⟨by rw [HZ.out.1]; exact HZ.out.2.2.1, HZ.out.2.2.2, hkeep.out.2.2.1, by rw [HZ.out.1]; have := hkeep.out.2.2.2; omega⟩, ⟨HZ.out.2.1, HKc.out⟩, by omega⟩
      | true =>
        obtain ⟨y5, n, hn, hs⟩ := hres.out.2 (by simp)
        subst hn
        have hnl2 := (List.getElem?_eq_some_iff.1 hs).1
        obtain ⟨g, hSg, hg1, hg2⟩ := hwk.2.1.some_ (by omega)
        subst hSg
        have n0 : (0 : Int) ≤ (n : Int) := by omega
        have n1 : (n : Int) < ((cm (l.take k) (seen, todo)).1.length : Int) := by omega
        have w1 := (HV.out.1.fresh hbc).cell 1 (v := .int .i64 (n : Int)) rfl
        have hne := own_ne_ty hwk.2.1 hwk.1 (by decide)
        have hgR : g ≠ R := fun e => hne (by rw [e]; rfl)
        have hVc := HV.out.1.fresh hbc
        have hne2 := own_ne_ty hwk.2.1 hVc (by decide)
        have hgV : g ≠ wr.heap.size := fun e => hne2 (by rw [e]; rfl)
        have hR2 := hwk.1.far (p := ⟨g, n, none⟩) (fun e => hgR e.symm) (.bool true)
        have hV2 := hVc.far (p := ⟨g, n, none⟩) (fun e => hgV e.symm) (.bool true)
        have hS2 := hwk.2.1.set_bool true (i := n) (by omega)
        have hT2 := hwk.2.2.1.setCell ⟨g, n, none⟩ (.bool true) (fun e => own_own_ty hwk.2.1 hwk.2.2.1 (by decide) g rfl e)
        have hK2 := hwk.2.2.2.1.setCell ⟨g, n, none⟩ (.bool true) (fun e => own_own_ty hwk.2.1 hwk.2.2.2.1 (by decide) g rfl e)
        have hl2 := hat.far_ (p := ⟨g, n, none⟩) (fun e => (HL0.out HNL.out g e).2.1 rfl) (.bool true)
        have hb2 := hbw.setCell (p := ⟨g, n, none⟩) hg1 (.bool true)
        have zg := hwk.2.1.frozen (g := g) rfl n
        have c1 := hwk.2.1.cell_bool hs
        have hWk2 : Wk (wc.setCell ⟨g, n, none⟩ (.bool true)) base R pv (some ⟨g, 0, none⟩) T1 K c d1 e ((cm (l.take k) (seen, todo)).1.set n true) (cm (l.take k) (seen, todo)).2 wk := ⟨by rw [List.length_set]; exact hR2, hS2, hT2, hK2, hwk.2.2.2.2.1, hwk.2.2.2.2.2⟩
        have hd : Below (wc.setCell ⟨g, n, none⟩ (.bool true)).heap.size (wc.setCell ⟨g, n, none⟩ (.bool true)) (wc.setCell ⟨g, n, none⟩ (.bool true)).drew := (Below.refl _ _).drew
        have HH := Lib.hid (And.intro (hWk2.fresh hd) (And.intro (hV2.fresh hd) (And.intro (hl2.below (hd.mono (by simp; omega))) (And.intro hb2.drew (show (wc.setCell ⟨g, n, none⟩ (.bool true)).drew.heap.size = wc.heap.size ∧ Kept MW w (wc.setCell ⟨g, n, none⟩ (.bool true)).drew from ⟨by simp, HKc.out.setOwn hwk.2.1 (by decide) rfl _⟩)))))
        have H0 := Lib.hid (And.intro (And.intro w1 (hwk.1.cell 1 (v := .slice (some ⟨g, 0, none⟩) (cm (l.take k) (seen, todo)).1.length c) rfl)) (And.intro (hV2.cell 1 (v := .int .i64 (n : Int)) rfl) (hR2.cell 1 (v := .slice (some ⟨g, 0, none⟩) (cm (l.take k) (seen, todo)).1.length c) rfl)))
        have HY := Lib.hid (And.intro y5 hs); clear y5 hs hne hne2 hVc hR2 hV2 hS2 hT2 hK2 hl2 hb2 hWk2 hd hwk hat hbw hb0 hbc w1
        go_upto_region 4 with fail
        refine wp_region_held_drew (S := (fun w' => w'.cell? ⟨wr.heap.size, 1, none⟩ = some (.int .i64 (n : Int)) ∧ w'.cell? ⟨R, 1, none⟩ = some (.slice (some ⟨g, 0, none⟩) (cm (l.take k) (seen, todo)).1.length c))) (by kernel_rfl) ?_ (fun hHeld0 => ?_)
        · first | trivial | ((try dsimp only); (exact H0.out.1))
        refine htk 0 rfl ?_
        try go_frame
        refine htk 1 rfl ?_
        try go_frame
        refine htk 2 rfl ?_
        try go_frame
        refine htk 3 rfl ?_
        try go_frame
        refine htk 4 rfl ?_
        try go_frame
        refine htk 5 rfl ?_
        try go_frame
        refine htk 6 rfl ?_
        try go_frame
        refine held_call 7 (by kernel_rfl) rfl (fun K hK => ?_)
        go_simp
        refine hK.out _ _ ?_ (fun hHeld1 => ?_)
        · first | trivial | ((try dsimp only); (exact H0.out.2))
        clear hK K hHeld0
        try go_frame
        refine wpAnyH_done (by kernel_rfl) ?_ _
        have HE := HH
        go_upto_region 5 with fail
        refine wp_world (fun W => Wk W base R pv (some ⟨g, 0, none⟩) T1 K c d1 e ((cm (l.take k) (seen, todo)).1.set n true) (cm (l.take k) (seen, todo)).2 wk ∧ Blk W wr.heap.size 48 #[.int .i64 xk, .int .i64 (n : Int)] ∧ At W B (some ⟨b, o, none⟩) l ∧ Below base w W ∧ W.heap.size = wc.heap.size ∧ Kept MW w W) HE.out ?_
        rintro W ⟨hK5, hV5, hA5, hB5, hS5, hkW⟩
        have hWR := hK5.1
        have r2 := hWR.cell 2 (v := .slice T1 (cm (l.take k) (seen, todo)).2.length d1) rfl
        have w1 := hV5.cell 1 (v := .int .i64 (n : Int)) rfl
        have HKW := Lib.hid hkW; clear hkW
        have g1 := hK5.1.lt
        have g2 := hV5.lt
        have hcl := cm_len (l.take k) (seen, todo)
        simp only at hcl
        replace hK5 : Wk W.drew base R pv (some ⟨g, 0, none⟩) T1 K c d1 e ((cm (l.take k) (seen, todo)).1.set n true) (cm (l.take k) (seen, todo)).2 wk := hK5
        replace hV5 : Blk W.drew wr.heap.size 48 #[.int .i64 xk, .int .i64 (n : Int)] := hV5
        replace hA5 : At W.drew B (some ⟨b, o, none⟩) l := hA5
        replace hB5 : Below base w W.drew := hB5.drew
        have hT5 := hK5.2.2.1.alloc (.cells #[.int .i64 (n : Int)] 3)
        have hle := hkeep.out.2.2.2
        have HW5 := Lib.hid (And.intro hK5 (And.intro hV5 (And.intro hA5 (And.intro hB5 hT5)))); clear hK5 hV5 hA5 hB5 hT5 hWR HE H0 HH c1 zg
        obtain ⟨yn, hyn⟩ : ∃ yn, (cm (l.take k) (seen, todo)).2.length = yn := ⟨_, rfl⟩
        rw [hyn] at r2 hle
        have hyn := Lib.hid hyn
        have hge : wr.heap.size + 1 ≤ W.heap.size := by omega
        clear hS5 hcs hsV
        have w1a : (W.drew.alloc (.cells #[.int .i64 (n : Int)] 3)).cell? ⟨wr.heap.size, 1, none⟩ = some (.int .i64 (n : Int)) := (HW5.out.2.1.alloc (.cells #[.int .i64 (n : Int)] 3)).cell 1 (v := .int .i64 (n : Int)) rfl
        have r2a : (W.drew.alloc (.cells #[.int .i64 (n : Int)] 3)).cell? ⟨R, 2, none⟩ = some (.slice T1 yn d1) := by rw [← hyn.out]; exact (HW5.out.1.1.alloc (.cells #[.int .i64 (n : Int)] 3)).cell 2 rfl
        have r2e : (W.alloc (.cells #[.int .i64 (n : Int)] 3)).cell? ⟨R, 2, none⟩ = some (.slice T1 yn d1) := r2a
        have r2d : W.drew.cell? ⟨R, 2, none⟩ = some (.slice T1 yn d1) := r2
        have hRV : wr.heap.size ≠ R := by have h1 := HW5.out.2.1; have h2 := HW5.out.1.1; intro e; rw [e] at h1; unfold Blk at h1 h2; rw [h1] at h2; injection h2 with h2; injection h2 with _ h2; exact absurd h2 (by decide)
        refine wp_region_held_drew (S := (fun w' => w'.cell? ⟨wr.heap.size, 1, none⟩ = some (.int .i64 (n : Int)))) (by kernel_rfl) ?_ (fun hHeld0 => ?_)
        · first | trivial | ((try dsimp only); (exact w1))
        refine htk 0 rfl ?_
        try go_frame
        refine htk 1 rfl ?_
        try go_frame
        refine htk 2 rfl ?_
        try go_frame
        refine htk 3 rfl ?_
        try go_frame
        refine htk 5 rfl ?_
        try go_frame
        refine htk 6 rfl ?_
        try go_frame
        refine held_call2 4 7 (by kernel_rfl) rfl rfl (fun K hK => ?_) (fun K hK => ?_)
        · go_simp
          refine hK.out _ _ ?_ (fun hHeld1 => ?_)
          · first | trivial | ((try dsimp only); (exact w1))
          clear hK K hHeld0
          try go_frame
          refine held_call 7 (by kernel_rfl) rfl (fun K hK => ?_)
          go_simp
          refine hK.out _ _ ?_ (fun hHeld2 => ?_)
          · first | trivial | ((try dsimp only); (exact w1a))
          clear hK K hHeld1
          try go_frame
          refine held_call 8 (by kernel_rfl) rfl (fun K hK => ?_)
          refine step_app (α := Int) (n := yn) (m := 1) (nm := yn + 1) (r := [(n : Int)]) (by rfl) (.tmp 37) (.tmp 40) _ (by rfl) base 3 i0 _ 8 Tryz.underlying34 hi hz0 hz1 hz2 rfl (by decide) int_one (by rfl) hyn.out HW5.out.2.2.2.2 (by rfl) (At.built W.drew _ _ [(n : Int)] rfl (by intro z hz; simp at hz; subst hz; exact (by unfold I64; omega : I64 (n : Int)))) rfl rfl (by omega) (by simp only [maxLen]; omega) (by show base ≤ (W.drew.alloc _).heap.size; simp only [World.size_alloc]; show base ≤ W.heap.size + 1; omega) ?_; intro A2 c2 w2 hown2 hgr2 hat2; have w1b := (HW5.out.2.1.alloc (.cells #[.int .i64 (n : Int)] 3)).grown hgr2 (own_ne_ty HW5.out.2.2.2.2 (HW5.out.2.1.alloc _) (by decide)); have r2b := ((HW5.out.1.1.alloc (.cells #[.int .i64 (n : Int)] 3)).grown hgr2 (own_ne_ty HW5.out.2.2.2.2 (HW5.out.1.1.alloc _) (by decide))); have r2c := r2b.cell 2 rfl; have z2c := r2b.frozen 2; have w1c := (w1b.far (p := ⟨R, 2, none⟩) hRV (.slice A2 (yn + 1) c2)).cell 1 (v := .int .i64 (n : Int)) rfl
          refine hK.out _ _ ?_ (fun hHeld3 => ?_)
          · first | trivial | ((try dsimp only); (exact w1b.cell 1 rfl))
          clear hK K hHeld2
          try go_frame
          refine htk 9 rfl ?_
          try go_frame
          refine htk 10 rfl ?_
          try go_frame
          refine held_call 11 (by kernel_rfl) rfl (fun K hK => ?_)
          go_simp
          refine hK.out _ _ ?_ (fun hHeld4 => ?_)
          · first | trivial | ((try dsimp only); (exact w1c))
          clear hK K hHeld3
          try go_frame
          refine wpAnyH_done (by kernel_rfl) ?_ _
          obtain ⟨hK5, hV5, hA5, hB5, hT5⟩ := HW5.out
          have b1 : Blk w2 R 135 _ := (hK5.1.alloc _).grown hgr2 (fun e => own_ne_ty hT5 (hK5.1.alloc _) (by decide) e)
          have r2' := b1.cell 2 (v := .slice T1 (cm (l.take k) (seen, todo)).2.length d1) rfl
          have z2' := b1.frozen 2
          have ho1 := (hK5.2.1.alloc (.cells #[.int .i64 (n : Int)] 3)).grown hgr2 (fun g hg e => own_own_ty (hK5.2.1.alloc (.cells #[.int .i64 (n : Int)] 3)) hT5 (by decide) g hg e)
          have ho2 := (hK5.2.2.2.1.alloc (.cells #[.int .i64 (n : Int)] 3)).grown hgr2 (fun g hg e => hK5.2.2.2.2.1 g e hg)
          have hA6 : At w2 B (some ⟨b, o, none⟩) l := (hA5.alloc (show B ≤ W.heap.size by omega) _).grown_ (by simp; omega) hgr2 (fun h hg e => hkeep.out.2.2.1 HNL.out h hg e)
          have hA2 : ∀ h, rowOf (some (⟨b, o, none⟩ : Addr)) = some h → rowOf A2 ≠ some h := by
            intro h hg e
            rcases hat2 with h1 | h1
            · exact hkeep.out.2.2.1 HNL.out h hg (by rw [← h1]; exact e)
            · rw [h1] at e; injection e with e; injection hg with hg; simp at e hg; omega
          have hK2 : ∀ h, rowOf A2 = some h → rowOf K ≠ some h := by
            intro h e hg
            rcases hat2 with h1 | h1
            · exact hK5.2.2.2.2.1 h (by rw [← h1]; exact e) hg
            · have h9 : h < W.heap.size := (hK5.2.2.2.1.lt h hg).2; rw [h1] at e; injection e with e; simp at e; omega
          have hb6 : Below base w w2 := (hB5.alloc (show base ≤ W.heap.size by omega) _).grown hgr2 (by simp; omega) (fun g hg => (hT5.lt g hg).1)
          have HK6 := Lib.hid (Kept.grown (show Kept MW w (W.drew.alloc (.cells #[.int .i64 (n : Int)] 3)) from HKW.out.alloc _) hT5 (by decide) hgr2)
          have HF := Lib.hid (And.intro b1 (And.intro ho1 (And.intro ho2 (And.intro hown2 (And.intro hA6 (And.intro hA2 (And.intro hK2 (And.intro hb6 hK5.2.2.2.2.2)))))))); clear b1 ho1 ho2 hown2 hA6 hA2 hK2 hb6 hK5 hV5 hA5 hB5 hT5 hgr2 hat2 r2 w1
          go_wp2_with fail
          go_roundg (l.length - (k + 1))
          case measure => omega
          case rel =>
            obtain ⟨f1, f2, f3, f4, f5, f6, f7, f8, f9⟩ := HF.out; have hyl := hyn.out
            have e1 : cm (l.take (k + 1)) (seen, todo) = ((cm (l.take k) (seen, todo)).1.set n true, (cm (l.take k) (seen, todo)).2 ++ [(n : Int)]) := by
              rw [HX.out.2.1, if_pos HY.out.1]
              show reach1 _ (n : Int) = _
              unfold reach1; rw [if_neg (by rw [Int.toNat_natCast, getD_true, HY.out.2]; simp), Int.toNat_natCast]
            refine ⟨k + 1, A2, c2, by omega, rfl, by go_num, ?_, ⟨f8.setCell f9 _, HK6.out.setBlk f1 (by decide) 2 _⟩, by rw [World.size_setCell]; exact f8.size⟩
            unfold Hid
            rw [e1]
            refine ⟨⟨?_, f2.setCell _ _ (own_ne_ty f2 f1 (by decide)), f4.setCell _ _ (own_ne_ty f4 f1 (by decide)), f3.setCell _ _ (own_ne_ty f3 f1 (by decide)), f7, f9⟩, f5.far_ (fun e => (HL0.out HNL.out _ e).1 rfl) _, fun _ => f6, by simp; omega⟩
            have := f1.set_ 2 (.slice A2 (yn + 1) c2)
            simpa [hyl] using this
        · go_simp
          refine hK.out _ _ ?_ (fun hHeld1 => ?_)
          · first | trivial | ((try dsimp only); (exact w1a))
          clear hK K hHeld0
          try go_frame
          refine held_call 4 (by kernel_rfl) rfl (fun K hK => ?_)
          go_simp
          refine hK.out _ _ ?_ (fun hHeld2 => ?_)
          · first | trivial | ((try dsimp only); (exact w1a))
          clear hK K hHeld1
          try go_frame
          refine held_call 8 (by kernel_rfl) rfl (fun K hK => ?_)
          refine step_app (α := Int) (n := yn) (m := 1) (nm := yn + 1) (r := [(n : Int)]) (by rfl) (.tmp 37) (.tmp 40) _ (by rfl) base 3 i0 _ 8 Tryz.underlying34 hi hz0 hz1 hz2 rfl (by decide) int_one (by rfl) hyn.out HW5.out.2.2.2.2 (by rfl) (At.built W.drew _ _ [(n : Int)] rfl (by intro z hz; simp at hz; subst hz; exact (by unfold I64; omega : I64 (n : Int)))) rfl rfl (by omega) (by simp only [maxLen]; omega) (by show base ≤ (W.drew.alloc _).heap.size; simp only [World.size_alloc]; show base ≤ W.heap.size + 1; omega) ?_; intro A2 c2 w2 hown2 hgr2 hat2; have w1b := (HW5.out.2.1.alloc (.cells #[.int .i64 (n : Int)] 3)).grown hgr2 (own_ne_ty HW5.out.2.2.2.2 (HW5.out.2.1.alloc _) (by decide)); have r2b := ((HW5.out.1.1.alloc (.cells #[.int .i64 (n : Int)] 3)).grown hgr2 (own_ne_ty HW5.out.2.2.2.2 (HW5.out.1.1.alloc _) (by decide))); have r2c := r2b.cell 2 rfl; have z2c := r2b.frozen 2; have w1c := (w1b.far (p := ⟨R, 2, none⟩) hRV (.slice A2 (yn + 1) c2)).cell 1 (v := .int .i64 (n : Int)) rfl
          refine hK.out _ _ ?_ (fun hHeld3 => ?_)
          · first | trivial | ((try dsimp only); (exact w1b.cell 1 rfl))
          clear hK K hHeld2
          try go_frame
          refine htk 9 rfl ?_
          try go_frame
          refine htk 10 rfl ?_
          try go_frame
          refine held_call 11 (by kernel_rfl) rfl (fun K hK => ?_)
          go_simp
          refine hK.out _ _ ?_ (fun hHeld4 => ?_)
          · first | trivial | ((try dsimp only); (exact w1c))
          clear hK K hHeld3
          try go_frame
          refine wpAnyH_done (by kernel_rfl) ?_ _
          obtain ⟨hK5, hV5, hA5, hB5, hT5⟩ := HW5.out
          have b1 : Blk w2 R 135 _ := (hK5.1.alloc _).grown hgr2 (fun e => own_ne_ty hT5 (hK5.1.alloc _) (by decide) e)
          have r2' := b1.cell 2 (v := .slice T1 (cm (l.take k) (seen, todo)).2.length d1) rfl
          have z2' := b1.frozen 2
          have ho1 := (hK5.2.1.alloc (.cells #[.int .i64 (n : Int)] 3)).grown hgr2 (fun g hg e => own_own_ty (hK5.2.1.alloc (.cells #[.int .i64 (n : Int)] 3)) hT5 (by decide) g hg e)
          have ho2 := (hK5.2.2.2.1.alloc (.cells #[.int .i64 (n : Int)] 3)).grown hgr2 (fun g hg e => hK5.2.2.2.2.1 g e hg)
          have hA6 : At w2 B (some ⟨b, o, none⟩) l := (hA5.alloc (show B ≤ W.heap.size by omega) _).grown_ (by simp; omega) hgr2 (fun h hg e => hkeep.out.2.2.1 HNL.out h hg e)
          have hA2 : ∀ h, rowOf (some (⟨b, o, none⟩ : Addr)) = some h → rowOf A2 ≠ some h := by
            intro h hg e
            rcases hat2 with h1 | h1
            · exact hkeep.out.2.2.1 HNL.out h hg (by rw [← h1]; exact e)
            · rw [h1] at e; injection e with e; injection hg with hg; simp at e hg; omega
          have hK2 : ∀ h, rowOf A2 = some h → rowOf K ≠ some h := by
            intro h e hg
            rcases hat2 with h1 | h1
            · exact hK5.2.2.2.2.1 h (by rw [← h1]; exact e) hg
            · have h9 : h < W.heap.size := (hK5.2.2.2.1.lt h hg).2; rw [h1] at e; injection e with e; simp at e; omega
          have hb6 : Below base w w2 := (hB5.alloc (show base ≤ W.heap.size by omega) _).grown hgr2 (by simp; omega) (fun g hg => (hT5.lt g hg).1)
          have HK6 := Lib.hid (Kept.grown (show Kept MW w (W.drew.alloc (.cells #[.int .i64 (n : Int)] 3)) from HKW.out.alloc _) hT5 (by decide) hgr2)
          have HF := Lib.hid (And.intro b1 (And.intro ho1 (And.intro ho2 (And.intro hown2 (And.intro hA6 (And.intro hA2 (And.intro hK2 (And.intro hb6 hK5.2.2.2.2.2)))))))); clear b1 ho1 ho2 hown2 hA6 hA2 hK2 hb6 hK5 hV5 hA5 hB5 hT5 hgr2 hat2 r2 w1
          go_wp2_with fail
          go_roundg (l.length - (k + 1))
          case measure => omega
          case rel =>
            obtain ⟨f1, f2, f3, f4, f5, f6, f7, f8, f9⟩ := HF.out; have hyl := hyn.out
            have e1 : cm (l.take (k + 1)) (seen, todo) = ((cm (l.take k) (seen, todo)).1.set n true, (cm (l.take k) (seen, todo)).2 ++ [(n : Int)]) := by
              rw [HX.out.2.1, if_pos HY.out.1]
              show reach1 _ (n : Int) = _
              unfold reach1; rw [if_neg (by rw [Int.toNat_natCast, getD_true, HY.out.2]; simp), Int.toNat_natCast]
            refine ⟨k + 1, A2, c2, by omega, rfl, by go_num, ?_, ⟨f8.setCell f9 _, HK6.out.setBlk f1 (by decide) 2 _⟩, by rw [World.size_setCell]; exact f8.size⟩
            unfold Hid
            rw [e1]
            refine ⟨⟨?_, f2.setCell _ _ (own_ne_ty f2 f1 (by decide)), f4.setCell _ _ (own_ne_ty f4 f1 (by decide)), f3.setCell _ _ (own_ne_ty f3 f1 (by decide)), f7, f9⟩, f5.far_ (fun e => (HL0.out HNL.out _ e).1 rfl) _, fun _ => f6, by simp; omega⟩
            have := f1.set_ 2 (.slice A2 (yn + 1) c2)
            simpa [hyl] using this
    · have hk2 : l.take k = l := List.take_of_length_le (by omega)
      have h1 := hkeep.out.1
      rw [hk2] at h1
      have HK := Lib.hid (And.intro h1 hbl); clear h1 hbl hk2 hkeep
      go_wp2_with fail
      go_end0
      rw [← HP.out]
      exact ⟨rfl, ⟨_, _, _, _, HK.out.1⟩, HK.out.2, HKP.out⟩
end Top
end Go.Proofs.YtdlcooplllimeaaGreatDoor

/- reach: come, over what was there before and over a fresh value; frames. -/
namespace Go.Proofs.YtdlcooplllimeaaGreatDoor
open Go.RowKit

attribute [local go_sem ↓] Go.wp_at_zero Go.wp_at_succ

namespace Top
/-- one that walks, wherever its rows lie -/
def WkE (w : World) (base R : Nat) (pv : Value) (seen : List Bool) (todo wk : List Int) : Prop := ∃ S T K c d e, Wk w base R pv S T K c d e seen todo wk
theorem WkE.fresh {w w' : World} {base R : Nat} {pv : Value} {seen : List Bool} {todo wk : List Int} (h : WkE w base R pv seen todo wk) (hb : Below w.heap.size w w') : WkE w' base R pv seen todo wk := by
  obtain ⟨S, T, K, c, d, e, h⟩ := h
  exact ⟨S, T, K, c, d, e, h.fresh hb⟩
theorem WkE.lt {w : World} {base R : Nat} {pv : Value} {seen : List Bool} {todo wk : List Int} (h : WkE w base R pv seen todo wk) : base ≤ R ∧ R < w.heap.size := by
  obtain ⟨S, T, K, c, d, e, h⟩ := h
  exact ⟨h.2.2.2.2.2, h.1.lt⟩
theorem WkK.e {w : World} {base R : Nat} {pv : Value} {K : Option Addr} {ec : Nat} {seen : List Bool} {todo wk : List Int} (h : WkK w base R pv K ec seen todo wk) : WkE w base R pv seen todo wk := by
  obtain ⟨S, T, c, d, h⟩ := h
  exact ⟨S, T, K, c, d, ec, h⟩
theorem WkE.k {w : World} {base R : Nat} {pv : Value} {seen : List Bool} {todo wk : List Int} (h : WkE w base R pv seen todo wk) : ∃ K ec, WkK w base R pv K ec seen todo wk := by
  obtain ⟨S, T, K, c, d, e, h⟩ := h
  exact ⟨K, e, S, T, c, d, h⟩
theorem WkK.fresh {w w' : World} {base R : Nat} {pv : Value} {K : Option Addr} {ec : Nat} {seen : List Bool} {todo wk : List Int} (h : WkK w base R pv K ec seen todo wk) (hb : Below w.heap.size w w') : WkK w' base R pv K ec seen todo wk := by
  obtain ⟨S, T, c, d, h⟩ := h
  exact ⟨S, T, c, d, h.fresh hb⟩
theorem come_oldK (R base B lc ec : Nat) (L K : Option Addr) (pv : Value) (seen : List Bool) (todo wk : List Int) (l : List (Int × Int)) (w : World) (hW : WkK w base R pv K ec seen todo wk)
    (hl : At w B L l) (hB : B ≤ base) (hin : RightL seen.length (rfs l)) (hll : todo.length + l.length ≤ 1000000) (hsl : seen.length ≤ 1000000) :
    Calls Tryz.prog 54 #[.pointer (some ⟨R, 0, none⟩), .slice L l.length lc] w (CmPostK base R pv K ec l seen todo wk w) := by
  have hlt := hW.e.lt
  obtain ⟨S, T, c, d, h⟩ := hW
  refine come_core R base B c d ec lc L S T K pv seen todo wk l w h hl (by omega) (fun hn g hg => ?_) hin hll hsl (by omega)
  have hgB : g < B := by
    cases l with
    | nil => exact absurd rfl hn
    | cons x l =>
      obtain ⟨b, o, cs, hA, hb, -⟩ := hl 0 x rfl
      rw [hA] at hg
      injection hg with hg
      simp at hg
      omega
  refine ⟨by omega, fun e => ?_, fun e => ?_⟩
  · have := (h.2.1.lt g e).1; omega
  · have := (h.2.2.1.lt g e).1; omega
theorem come_old (R base B lc : Nat) (L : Option Addr) (pv : Value) (seen : List Bool) (todo wk : List Int) (l : List (Int × Int)) (w : World) (hW : WkE w base R pv seen todo wk)
    (hl : At w B L l) (hB : B ≤ base) (hin : RightL seen.length (rfs l)) (hll : todo.length + l.length ≤ 1000000) (hsl : seen.length ≤ 1000000) :
    Calls Tryz.prog 54 #[.pointer (some ⟨R, 0, none⟩), .slice L l.length lc] w (CmPost base R pv l seen todo wk w) := by
  obtain ⟨K, ec, h⟩ := hW.k
  exact (come_oldK R base B lc ec L K pv seen todo wk l w h hl hB hin hll hsl).mono fun _ _ h => h.post
theorem come_newK (R base ec : Nat) (K : Option Addr) (pv : Value) (seen : List Bool) (todo wk : List Int) (x : Int × Int) (w : World) (hW : WkK w base R pv K ec seen todo wk) (h1 : I64 x.1) (h2 : I64 x.2)
    (hin : RightL seen.length (rfs [x])) (hll : todo.length + 1 ≤ 1000000) (hsl : seen.length ≤ 1000000) :
    Calls Tryz.prog 54 #[.pointer (some ⟨R, 0, none⟩), .slice (some ⟨w.heap.size, 0, none⟩) 1 1] (w.alloc (.cells #[.int .i64 x.1, .int .i64 x.2] 48)) (CmPostK base R pv K ec [x] seen todo wk (w.alloc (.cells #[.int .i64 x.1, .int .i64 x.2] 48))) := by
  have hlt := hW.e.lt
  obtain ⟨S, T, c, d, h⟩ := hW
  have hb : Below w.heap.size w (w.alloc (.cells #[.int .i64 x.1, .int .i64 x.2] 48)) := (Below.refl _ _).alloc (Nat.le_refl _) _
  have hA := At.built w #[.int .i64 x.1, .int .i64 x.2] 48 [x] rfl (by intro z hz; simp at hz; subst hz; exact ⟨h1, h2⟩)
  refine come_core R base (w.heap.size + 1) c d ec 1 _ S T K pv seen todo wk [x] _ (h.fresh hb) hA (by simp) (fun hn g hg => ?_) hin hll hsl (by simp; omega)
  injection hg with hg
  simp at hg
  subst hg
  refine ⟨by omega, fun e => ?_, fun e => ?_⟩
  · have := (h.2.1.lt _ e).2; omega
  · have := (h.2.2.1.lt _ e).2; omega
theorem come_new (R base : Nat) (pv : Value) (seen : List Bool) (todo wk : List Int) (x : Int × Int) (w : World) (hW : WkE w base R pv seen todo wk) (h1 : I64 x.1) (h2 : I64 x.2)
    (hin : RightL seen.length (rfs [x])) (hll : todo.length + 1 ≤ 1000000) (hsl : seen.length ≤ 1000000) :
    Calls Tryz.prog 54 #[.pointer (some ⟨R, 0, none⟩), .slice (some ⟨w.heap.size, 0, none⟩) 1 1] (w.alloc (.cells #[.int .i64 x.1, .int .i64 x.2] 48)) (CmPost base R pv [x] seen todo wk (w.alloc (.cells #[.int .i64 x.1, .int .i64 x.2] 48))) := by
  obtain ⟨K, ec, h⟩ := hW.k
  exact (come_newK R base ec K pv seen todo wk x w h h1 h2 hin hll hsl).mono fun _ _ h => h.post
end Top
end Go.Proofs.YtdlcooplllimeaaGreatDoor

/- reach: frames. -/
namespace Go.Proofs.YtdlcooplllimeaaGreatDoor
open Go.RowKit

attribute [local go_sem ↓] Go.wp_at_zero Go.wp_at_succ

namespace Top
theorem frRefs_go (f : Fr) (st : List Bool × List Int) : reachL (frRefs f) st = if 0 ≤ f.gen then cm [(5, f.gen)] (cm f.regs (cm [f.self] st)) else cm f.regs (cm [f.self] st) := by
  unfold frRefs cm
  have e : rfs (f.self :: f.regs) = rfs [f.self] ++ rfs f.regs := by unfold rfs; rw [← List.map_append, ← List.filter_append]; rfl
  rw [reachL_append, e, reachL_append]
  split
  · rfl
  · rfl
theorem fsRefs_snoc {l : List Fr} {k : Nat} {f : Fr} (hf : l[k]? = some f) (st : List Bool × List Int) : reachL (fsRefs (l.take (k + 1))) st = reachL (frRefs f) (reachL (fsRefs (l.take k)) st) := by
  unfold fsRefs
  rw [List.take_add_one, hf, List.flatMap_append, reachL_append]
  simp
theorem room1 {st : List Bool × List Int} {n : Nat} (hn : n < st.1.length) : 2 * unseen (reach1 st (n : Int)).1 + (reach1 st (n : Int)).2.length ≤ 2 * unseen st.1 + st.2.length := by
  unfold reach1
  split
  · exact Nat.le_refl _
  · rename_i h
    rw [Int.toNat_natCast, getD_true] at h
    have hs : st.1[n]? = some false := by
      obtain ⟨b, hb⟩ : ∃ b, st.1[n]? = some b := ⟨_, List.getElem?_eq_getElem hn⟩
      cases b with
      | false => exact hb
      | true => exact absurd hb h
    have := unseen_set hs
    simp only [Int.toNat_natCast, List.length_append, List.length_singleton]
    omega
theorem room {l : List Int} : ∀ {st : List Bool × List Int}, RightL st.1.length l → 2 * unseen (reachL l st).1 + (reachL l st).2.length ≤ 2 * unseen st.1 + st.2.length := by
  induction l with
  | nil => intro st _; exact Nat.le_refl _
  | cons x l ih =>
    intro st h
    obtain ⟨n, rfl, hn⟩ := h x (by simp)
    have h1 := room1 (st := st) hn
    have h2 := ih (st := reach1 st (n : Int)) (fun y hy => by rw [reach1_len]; exact h y (by simp [hy]))
    exact Nat.le_trans h2 h1
end Top
end Go.Proofs.YtdlcooplllimeaaGreatDoor

/- reach: frames, the walk. -/
namespace Go.Proofs.YtdlcooplllimeaaGreatDoor
open Go.RowKit

attribute [local go_sem ↓] Go.wp_at_zero Go.wp_at_succ

namespace Top
def FsPost (base R : Nat) (pv : Value) (l : List Fr) (seen : List Bool) (todo wk : List Int) (w : World) (e : Ending) (w' : World) : Prop :=
  e = .returned (.tuple #[]) ∧ WkE w' base R pv (reachL (fsRefs l) (seen, todo)).1 (reachL (fsRefs l) (seen, todo)).2 wk ∧ Below base w w' ∧ Kept MW w w'
set_option maxHeartbeats 1600000 in
set_option maxRecDepth 100000 in
theorem frames_any (R base B lc : Nat) (L : Option Addr) (pv : Value) (seen : List Bool) (todo wk : List Int) (l : List Fr) (w : World) (hW : WkE w base R pv seen todo wk)
    (hl : At w B L l) (hB : B ≤ base) (hin : RightL seen.length (fsRefs l)) (hr : ∀ f ∈ l, f.regs.length ≤ 60) (hll : 2 * unseen seen + todo.length ≤ 2000) (hsl : seen.length ≤ 1000) (hl30 : l.length ≤ 30) :
    Calls Tryz.prog 53 #[.pointer (some ⟨R, 0, none⟩), .slice L l.length lc] w (FsPost base R pv l seen todo wk w) := by
  obtain ⟨P, hP⟩ : ∃ P, FsPost base R pv l seen todo wk w = P := ⟨_, rfl⟩
  have HP := Lib.hid hP; rw [hP]; clear hP
  have hRl := hW.lt
  have HI := Lib.hid (And.intro hin hr); clear hin hr
  have HW := Lib.hid (And.intro hW hl); clear hW hl
  go_enter Tryz.func53, Tryz.ntmps53
  go_upto_region 1 with fail
  go_loopg [8] (l.length) (fun gk i wr => ∃ (k : Nat), k ≤ l.length ∧ gk = l.length - k ∧ i = .int .i64 k ∧ Hid (WkE wr base R pv (reachL (fsRefs (l.take k)) (seen, todo)).1 (reachL (fsRefs (l.take k)) (seen, todo)).2 wk) ∧ (Below base w wr ∧ Kept MW w wr) ∧ w.heap.size ≤ wr.heap.size)
  case atStart => exact ⟨0, Nat.zero_le _, rfl, rfl, by unfold Hid; exact HW.out.1, ⟨Below.refl _ _, Kept.refl _⟩, Nat.le_refl _⟩
  case round =>
    obtain ⟨k, hk, rfl, rfl, hkeep, ⟨hbl, hkp⟩, hBw⟩ := hrel
    have HKP := Lib.hid hkp; clear hkp
    by_cases hlt : k < l.length
    · obtain ⟨b, o, x, AR, cr, AT, ct, rfl, hb, hx, q0, q1, q2, q3, q4, q5, q6, q7, a1, l1, a2, l2, i0, i1, i2, i3, i4, i5⟩ := (HW.out.2.below (hbl.mono hB)).fr_ hlt
      have hk0 : (0 : Int) ≤ (k : Int) := by omega
      have hk1 : (k : Int) < (l.length : Int) := by omega
      have hxm := List.mem_of_getElem? hx
      have hlen : (reachL (fsRefs (l.take k)) (seen, todo)).1.length = seen.length := reachL_len _ _
      have hrm : 2 * unseen (reachL (fsRefs (l.take k)) (seen, todo)).1 + (reachL (fsRefs (l.take k)) (seen, todo)).2.length ≤ 2 * unseen seen + todo.length := room (fun y hy => HI.out.1 y (by
        unfold fsRefs at hy ⊢
        obtain ⟨f, hf, hy⟩ := List.mem_flatMap.1 hy
        exact List.mem_flatMap.2 ⟨f, List.mem_of_mem_take hf, hy⟩))
      have href : RightL seen.length (frRefs x) := fun y hy => HI.out.1 y (List.mem_flatMap.2 ⟨x, hxm, hy⟩)
      have hgo := frRefs_go x (reachL (fsRefs (l.take k)) (seen, todo))
      have hsn := fsRefs_snoc hx (seen, todo)
      obtain ⟨st, hst⟩ : ∃ st, reachL (fsRefs (l.take k)) (seen, todo) = st := ⟨_, rfl⟩
      rw [hst] at hlen hrm hgo hsn hkeep
      have hreg := HI.out.2 x hxm
      have HX := Lib.hid (And.intro href (And.intro hgo (And.intro hsn (And.intro hbl (And.intro a1 (And.intro i3 (And.intro i4 i5))))))); clear href hgo hsn hbl a1 a2 hx hxm hst i0 i1 i2 i3 i4 i5
      go_upto_region 3 with fail
      refine wp_world (fun V => Blk V wr.heap.size 141 #[.int .i64 x.fn, .int .i64 x.at_, .int .i64 x.fto, .int .i64 x.gen, .int .i64 x.self.1, .int .i64 x.self.2, .slice AR x.regs.length cr, .slice AT x.tries.length ct] ∧ Below wr.heap.size wr V) ⟨Blk.new _ _ _, (Below.refl _ _).alloc (Nat.le_refl _) _⟩ ?_
      rintro V ⟨hFr, hbV⟩
      have hVs := hbV.size
      have hWV := hkeep.out.fresh hbV
      have f4 := hFr.cell 4 (v := .int .i64 x.self.1) rfl
      have f5 := hFr.cell 5 (v := .int .i64 x.self.2) rfl
      have hcn := come_new R base pv st.1 st.2 wk x.self V hWV HX.out.2.2.2.2.2.2.1 HX.out.2.2.2.2.2.2.2 (by rw [hlen]; exact fun y hy => HX.out.1 y (by
        unfold frRefs
        have e : rfs (x.self :: x.regs) = rfs [x.self] ++ rfs x.regs := by unfold rfs; rw [← List.map_append, ← List.filter_append]; rfl
        rw [e]; simp [hy])) (by omega) (by omega)
      have HV := Lib.hid (And.intro hcn (And.intro hFr hbV)); clear hcn hFr hbV hWV q0 q1 q2 q3 q4 q5 q6 q7
      go_wp2_with fail
      refine HV.out.1.mono ?_
      rintro e w1 ⟨rfl, hE1, hb1, hk1⟩
      have hbV0 : Below w.heap.size V (V.alloc (.cells #[.int .i64 x.self.1, .int .i64 x.self.2] 48)) := (Below.refl _ _).alloc (by omega) _
      have hK1 : Kept MW V w1 := (Kept.fresh ((Below.refl _ _).alloc (Nat.le_refl _) _)).trans hk1
      have hB1 : Below base V w1 := (hbV0.mono (by omega)).trans hb1
      have hFr1 := hK1.blk_ HV.out.2.1 (by decide)
      have g5 := hFr1.cell 6 (v := .slice AR x.regs.length cr) rfl
      have hl1 : (cm [x.self] (st.1, st.2)).1.length = seen.length := by rw [cm_len]; exact hlen
      have hA1 : At w1 B AR x.regs := (HX.out.2.2.2.2.1.below ((HV.out.2.2.mono (by omega)))).below (hB1.mono hB)
      have erf : rfs (x.self :: x.regs) = rfs [x.self] ++ rfs x.regs := by unfold rfs; rw [← List.map_append, ← List.filter_append]; rfl
      have hr1 : RightL seen.length (rfs [x.self]) := fun y hy => HX.out.1 y (by unfold frRefs; rw [erf]; simp [hy])
      have hr2 : RightL seen.length (rfs x.regs) := fun y hy => HX.out.1 y (by unfold frRefs; rw [erf]; simp [hy])
      have hm1 : 2 * unseen (cm [x.self] (st.1, st.2)).1 + (cm [x.self] (st.1, st.2)).2.length ≤ 2 * unseen st.1 + st.2.length := room (st := (st.1, st.2)) (by rw [hlen]; exact hr1)
      have hco := come_old R base B cr AR pv (cm [x.self] (st.1, st.2)).1 (cm [x.self] (st.1, st.2)).2 wk x.regs w1 hE1 hA1 hB (by rw [hl1]; exact hr2) (by omega) (by omega)
      have hs1 := hB1.size
      have H1 := Lib.hid (And.intro hco (And.intro hFr1 (And.intro hK1 (And.intro hB1 (And.intro hr1 hr2))))); clear hco hFr1 hK1 hB1 hr1 hr2 hA1 hE1 hb1 hk1 erf hbV0 f4 f5
      go_wp2_with fail
      refine H1.out.1.mono ?_
      rintro e w2 ⟨rfl, hE2, hb2, hk2⟩
      have hFr2 := hk2.blk_ H1.out.2.1 (by decide)
      have g3 := hFr2.cell 3 (v := .int .i64 x.gen) rfl
      have hs2 := hb2.size
      have hB2 : Below base w w2 := ((HX.out.2.2.2.1.trans (HV.out.2.2.mono (by omega))).trans H1.out.2.2.2.1).trans hb2
      have hK2 : Kept MW w w2 := ((HKP.out.trans (Kept.fresh HV.out.2.2)).trans H1.out.2.2.1).trans hk2
      have H2 := Lib.hid (And.intro hE2 (And.intro hFr2 (And.intro hB2 hK2))); clear hE2 hFr2 hB2 hK2 hb2 hk2 g5
      by_cases hg : 0 ≤ x.gen
      · have dg : decide (0 ≤ x.gen) = true := by simpa using hg
        have HG := Lib.hid hg; clear hg
        have hl2 : (cm x.regs (cm [x.self] (st.1, st.2))).1.length = seen.length := by rw [cm_len]; exact hl1
        have hm2 : 2 * unseen (cm x.regs (cm [x.self] (st.1, st.2))).1 + (cm x.regs (cm [x.self] (st.1, st.2))).2.length ≤ 2 * unseen (cm [x.self] (st.1, st.2)).1 + (cm [x.self] (st.1, st.2)).2.length := room (by rw [hl1]; exact H1.out.2.2.2.2.2)
        have hcg := come_new R base pv (cm x.regs (cm [x.self] (st.1, st.2))).1 (cm x.regs (cm [x.self] (st.1, st.2))).2 wk (5, x.gen) w2 H2.out.1 (by show I64 5; unfold I64; decide) HX.out.2.2.2.2.2.1 (by rw [hl2]; exact fun y hy => HX.out.1 y (by unfold frRefs; rw [if_pos HG.out]; simp [rfs] at hy; simp [hy])) (by omega) (by omega)
        have H3 := Lib.hid hcg; clear hcg
        go_wp2_with fail
        refine H3.out.mono ?_
        rintro e w3 ⟨rfl, hE3, hb3, hk3⟩
        have hs3 := hb3.size
        have hB3 : Below base w w3 := (H2.out.2.2.1.alloc (by omega) _).trans hb3
        have hK3 : Kept MW w w3 := (H2.out.2.2.2.alloc _).trans hk3
        have H4 := Lib.hid (And.intro hE3 (And.intro hB3 hK3)); clear hE3 hB3 hK3 hb3 hk3
        go_wp2_with fail
        go_roundg (l.length - (k + 1))
        case measure => omega
        case rel =>
          have e1 : reachL (fsRefs (l.take (k + 1))) (seen, todo) = cm [(5, x.gen)] (cm x.regs (cm [x.self] (st.1, st.2))) := by rw [HX.out.2.2.1, HX.out.2.1, if_pos HG.out]
          exact ⟨k + 1, by omega, rfl, by go_num, by unfold Hid; rw [e1]; exact H4.out.1, H4.out.2, H4.out.2.1.size⟩
      · have dg : decide (0 ≤ x.gen) = false := by simpa using hg
        have HG := Lib.hid hg; clear hg
        go_wp2_with fail
        go_roundg (l.length - (k + 1))
        case measure => omega
        case rel =>
          have e1 : reachL (fsRefs (l.take (k + 1))) (seen, todo) = cm x.regs (cm [x.self] (st.1, st.2)) := by rw [HX.out.2.2.1, HX.out.2.1, if_neg (by have := HG.out; omega)]
          exact ⟨k + 1, by omega, rfl, by go_num, by unfold Hid; rw [e1]; exact H2.out.1, ⟨H2.out.2.2.1, H2.out.2.2.2⟩, H2.out.2.2.1.size⟩
    · have hk2 : l.take k = l := List.take_of_length_le (by omega)
      have h1 := hkeep.out
      rw [hk2] at h1
      have HK := Lib.hid (And.intro h1 hbl); clear h1 hbl hk2 hkeep
      go_wp2_with fail
      go_end0
      rw [← HP.out]
      exact ⟨rfl, HK.out.1, HK.out.2, HKP.out⟩
end Top
end Go.Proofs.YtdlcooplllimeaaGreatDoor

/- reach: what the walk over the tables keeps. No walk of code. -/
namespace Go.Proofs.YtdlcooplllimeaaGreatDoor
open Go.RowKit

namespace Top
theorem cHas_refs {s : Stt} (hs : Okr s) {c : Ce} (hc : c ∈ s.cells) (hk : c.kind ≠ 7) (st : List Bool × List Int) : reachL (rfs (cHas c)) st = reachL (fsRefs c.frames) (cm c.vals st) := by
  unfold cHas cm
  rw [if_neg hk, rfs_append, reachL_append, fsRefs_cell (hs.gens c hc)]
theorem cHas_right {s : Stt} (hs : Okr s) {c : Ce} (hc : c ∈ s.cells) : RightL s.cells.length (rfs c.vals) ∧ RightL s.cells.length (fsRefs c.frames) := by
  rw [fsRefs_cell (hs.gens c hc)]
  refine ⟨fun x hx => hs.has c hc x (List.mem_append_left _ (mem_rfs.1 hx)), fun x hx => hs.has c hc x (List.mem_append_right _ (mem_rfs.1 hx))⟩
/-- of the table n so many entries are done -/
def CKey (s : Stt) (seen : List Bool) (x : Int) (m : Nat) : Prop := ∀ (n : Nat) c (i k v : Nat) (a : Int), x = (n : Int) → s.cells[n]? = some c → i < m → c.vals[2 * i]? = some (a, (k : Int)) → seen[k]? = some true → c.vals[2 * i + 1]? = some (5, (v : Int)) → seen[v]? = some true
/-- while tables are gone over -/
structure KI (s : Stt) (seen0 : List Bool) (wk : List Int) (j i : Nat) (seen : List Bool) (todo : List Int) : Prop where
  seg : Seg s seen todo wk
  grows : Grows seen0 seen
  less : 2 * unseen seen + todo.length ≤ 2 * unseen seen0
  done : todo = [] → (∀ j' < j, ∀ x, wk[j']? = some x → ∀ m, CKey s seen x m) ∧ ∀ x, wk[j]? = some x → CKey s seen x i
theorem KI.start {s : Stt} {seen : List Bool} {wk : List Int} (h : Seg s seen [] wk) : KI s seen wk 0 0 seen [] :=
  ⟨h, Grows.refl _, by simp, fun _ => ⟨fun j' hj => absurd hj (Nat.not_lt_zero _), fun x _ n c i k v a _ _ hi => absurd hi (Nat.not_lt_zero _)⟩⟩
section
variable {s : Stt} {seen0 seen : List Bool} {wk todo : List Int} {j i : Nat}
theorem CKey.next {x : Int} {n : Nat} {c : Ce} {a k : Int} {v : Int × Int} (h : CKey s seen x i) (hx : x = (n : Int)) (hc : s.cells[n]? = some c) (hk : c.vals[2 * i]? = some (a, k)) (hv : c.vals[2 * i + 1]? = some v)
    (hd : ∀ k' : Nat, k = (k' : Int) → seen[k']? = some true → ∀ v' : Nat, v = (5, (v' : Int)) → seen[v']? = some true) : CKey s seen x (i + 1) := by
  intro n' c' i' k' v' a' hx' hc' hi' h1 h2 h3
  obtain rfl : n' = n := by omega
  rw [hc] at hc'; injection hc' with hc'; subst hc'
  by_cases e : i' = i
  · subst e
    rw [hk] at h1; injection h1 with h1
    rw [hv] at h3; injection h3 with h3
    exact hd k' (by injection h1) h2 v' h3
  · exact h n' c i' k' v' a' hx' hc (by omega) h1 h2 h3
theorem KI.skip (h : KI s seen0 wk j i seen todo) {n : Nat} {c : Ce} {a k : Int} {v : Int × Int} (hx : wk[j]? = some (n : Int)) (hc : s.cells[n]? = some c) (hk : c.vals[2 * i]? = some (a, k)) (hv : c.vals[2 * i + 1]? = some v)
    (hs : ∀ k' : Nat, k = (k' : Int) → seen[k']? ≠ some true) : KI s seen0 wk j (i + 1) seen todo :=
  ⟨h.seg, h.grows, h.less, fun ht => ⟨(h.done ht).1, fun x hx' => by
    rw [hx] at hx'; injection hx' with hx'; subst hx'
    exact ((h.done ht).2 _ hx).next rfl hc hk hv fun k' e h1 => absurd h1 (hs k' e)⟩⟩
theorem KI.val (hs : Okr s) (h : KI s seen0 wk j i seen todo) {n k : Nat} {c : Ce} {a : Int} {v : Int × Int} (hx : wk[j]? = some (n : Int)) (hc : s.cells[n]? = some c) (hkind : c.kind = 7) (hk : c.vals[2 * i]? = some (a, (k : Int))) (hv : c.vals[2 * i + 1]? = some v)
    (hsn : seen[k]? = some true) : KI s seen0 wk j (i + 1) (cm [v] (seen, todo)).1 (cm [v] (seen, todo)).2 := by
  obtain ⟨m, d, e, h1, h2, h3⟩ := h.seg.wk_ _ (List.mem_of_getElem? hx)
  obtain rfl : m = n := by omega
  rw [hc] at h2; injection h2 with h2; subst h2
  have hrn : Rc s m := (rt_iff hs m).1 (h.seg.inv.sound m h1)
  have hrk : Rc s k := (rt_iff hs k).1 (h.seg.inv.sound k hsn)
  have hcom : ∀ x ∈ rfs [v], ∃ k : Nat, x = (k : Int) ∧ k < (Top.has s).length ∧ RT (Top.has s) (Top.roots s) (prR s) k := by
    intro x hxm
    have hxm := mem_rfs.1 hxm
    simp at hxm
    subst hxm
    obtain ⟨q, rfl, hq⟩ := hs.has c (List.mem_of_getElem? hc) x (List.mem_append_left _ (List.mem_of_getElem? hv))
    exact ⟨q, rfl, by rw [has_length]; exact hq, (rt_iff hs q).2 (Rc.pair hrn hc hkind hk hrk hv)⟩
  obtain ⟨g1, g2, g3, g4⟩ := h.seg.come hcom
  refine ⟨g1, h.grows.trans g2, Nat.le_trans g4 h.less, fun ht => ?_⟩
  have ht' : (cm [v] (seen, todo)).2 = [] := ht
  have htd : todo = [] := by
    cases htd : todo with
    | nil => rfl
    | cons y r =>
      have : y ∈ (cm [v] (seen, todo)).2 := reachL_sub (by rw [htd]; simp)
      rw [ht'] at this; cases this
  have hsame : (cm [v] (seen, todo)).1 = seen := by
    apply bools_ext (by rw [cm_len])
    intro q
    constructor
    · intro hq
      rcases reachL_new (l := rfs [v]) (fun y hy => by obtain ⟨q, rfl, -⟩ := hcom y hy; omega) hq with h4 | h4
      · exact h4
      · rw [show (reachL (rfs [v]) (seen, todo)).2 = [] from ht'] at h4; cases h4
    · exact g2 q
  refine ⟨fun j' hj x hx' m => ?_, fun x hx' => ?_⟩
  · rw [hsame]; exact (h.done htd).1 j' hj x hx' m
  · rw [hx] at hx'; injection hx' with hx'; subst hx'
    rw [hsame]
    refine ((h.done htd).2 _ hx).next rfl hc hk hv fun k' e h4 v' hv' => ?_
    have := g3 v' (by rw [hv']; simp [rfs])
    rw [show (reachL (rfs [v]) (seen, todo)).1 = seen from hsame] at this
    exact this
theorem KI.table (h : KI s seen0 wk j i seen todo) {n : Nat} {c : Ce} (hx : wk[j]? = some (n : Int)) (hc : s.cells[n]? = some c) (hi : c.vals.length ≤ 2 * i) : KI s seen0 wk (j + 1) 0 seen todo :=
  ⟨h.seg, h.grows, h.less, fun ht => ⟨fun j' hj x hx' m => by
    by_cases e : j' = j
    · subst e
      rw [hx] at hx'; injection hx' with hx'; subst hx'
      intro n' c' i' k' v' a' e1 hc' hi' h1 h2 h3
      obtain rfl : n' = n := by omega
      rw [hc] at hc'; injection hc' with hc'; subst hc'
      have := (List.getElem?_eq_some_iff.1 h1).1
      exact (h.done ht).2 _ hx n' c i' k' v' a' rfl hc (by omega) h1 h2 h3
    · exact (h.done ht).1 j' (by omega) x hx' m, fun x _ n c i k v a _ _ hi => absurd hi (Nat.not_lt_zero _)⟩⟩
/-- nothing more: what is seen is what is reached -/
theorem KI.fin (hs : Okr s) (h : KI s seen0 wk j i seen []) (hj : wk.length ≤ j) (hr : ∀ n : Nat, (n : Int) ∈ roots s → seen0[n]? = some true) : seen = rcB s :=
  h.seg.done hs (fun n hn => h.grows n (hr n hn)) fun n c i' k v a hn hc h1 h2 h3 => by
    obtain ⟨j', hj'⟩ := List.getElem?_of_mem hn
    have := (List.getElem?_eq_some_iff.1 hj').1
    exact (h.done rfl).1 j' (by omega) _ hj' (i' + 1) n c i' k v a rfl hc (by omega) h1 h2 h3
theorem KI.tab (h : KI s seen0 wk j i seen todo) (hj : j < wk.length) : ∃ (n : Nat) (c : Ce), wk[j]? = some (n : Int) ∧ s.cells[n]? = some c ∧ c.kind = 7 ∧ n < s.cells.length := by
  have hx : wk[j]? = some wk[j] := List.getElem?_eq_getElem hj
  obtain ⟨n, c, e, h1, h2, h3⟩ := h.seg.wk_ _ (List.mem_of_getElem? hx)
  exact ⟨n, c, by rw [hx, e], h2, h3, (List.getElem?_eq_some_iff.1 h2).1⟩
end
end Top
end Go.Proofs.YtdlcooplllimeaaGreatDoor

/- reach: all that is to be gone on from. -/
namespace Go.Proofs.YtdlcooplllimeaaGreatDoor
open Go.RowKit

attribute [local go_sem ↓] Go.wp_at_zero Go.wp_at_succ

namespace Top
def AllPost (base R : Nat) (pv : Value) (s : Stt) (seen : List Bool) (todo : List Int) (w : World) (e : Ending) (w' : World) : Prop :=
  e = .returned (.tuple #[]) ∧ (∃ seen' wk', WkE w' base R pv seen' [] wk' ∧ Seg s seen' [] wk' ∧ Grows seen seen' ∧ 2 * unseen seen' + (if todo = [] then 0 else 1) ≤ 2 * unseen seen + todo.length) ∧ Below base w w' ∧ Kept MW w w'
set_option maxHeartbeats 3200000 in
set_option maxRecDepth 100000 in
theorem all_any (R base B p cc sc tc hc ec dc : Nat) (CA SA TA HA EA DA : Option Addr) (s : Stt) (seen : List Bool) (todo wk : List Int) (w : World) (hs : SOk s) (hW : WkE w base R (.pointer (some ⟨p, 0, none⟩)) seen todo wk) (hseg : Seg s seen todo wk)
    (hP : Blk w p 32 #[.slice CA s.cells.length cc, .slice SA s.shapes.length sc, .slice TA s.texts.length tc, .slice HA s.threads.length hc, .slice EA s.ends.length ec, .slice DA s.said.length dc, .int .i64 s.asked, .int .i64 s.steps]) (hC : At w B CA s.cells) (hB : B ≤ base) :
    Calls Tryz.prog 55 #[.pointer (some ⟨R, 0, none⟩)] w (AllPost base R (.pointer (some ⟨p, 0, none⟩)) s seen todo w) := by
  obtain ⟨P, hPo⟩ : ∃ P, AllPost base R (.pointer (some ⟨p, 0, none⟩)) s seen todo w = P := ⟨_, rfl⟩
  have HP := Lib.hid hPo; rw [hPo]; clear hPo
  obtain ⟨i0, hi, hz0, hz1, hz2⟩ := info_parts infoInt
  have hk := hs.okr
  have hmany := hs.many.1
  have HS := Lib.hid (And.intro (hs) (hk))
  clear hs hk
  have HW := Lib.hid (And.intro (hW) (And.intro (hseg) (And.intro (hP) (hC))))
  clear hW hseg hP hC
  go_enter Tryz.func55, Tryz.ntmps55
  go_wp2_with fail
  go_loopg [] (2 * unseen seen + todo.length) (fun gk wr => ∃ (s1 : List Bool) (t1 k1 : List Int), gk = 2 * unseen s1 + t1.length ∧ 2 * unseen s1 + t1.length + (if todo = [] then 0 else if t1 = [] then 1 else 0) ≤ 2 * unseen seen + todo.length ∧ Hid (WkE wr base R (.pointer (some ⟨p, 0, none⟩)) s1 t1 k1 ∧ Seg s s1 t1 k1 ∧ Grows seen s1) ∧ (Below base w wr ∧ Kept MW w wr))
  case atStart => exact ⟨seen, todo, wk, rfl, by by_cases h : todo = [] <;> simp [h], ⟨HW.out.1, HW.out.2.1, Grows.refl _⟩, Below.refl _ _, Kept.refl _⟩
  case round =>
    obtain ⟨s1, t1, k1, rfl, hle, hkeep, hbl, hkp⟩ := hrel
    have HKP := Lib.hid hkp; clear hkp
    obtain ⟨q1, q2, q3⟩ := hkeep.out
    obtain ⟨S, T, K, c, d, e, r1, r2, r3, r4, r5, r6⟩ := q1
    have hRlt := r1.lt
    have q0 := r1.cell 2 (v := .slice T t1.length d) rfl
    have z0 := r1.frozen 2
    have hfew := q2.few
    have hul := unseen_le s1
    have hlen1 : s1.length = s.cells.length := by rw [q2.inv.len, has_length]
    by_cases hlt : 0 < t1.length
    · obtain ⟨t0, x, rfl⟩ : ∃ t0 x, t1 = t0 ++ [x] := ⟨t1.dropLast, t1.getLast (List.ne_nil_of_length_pos hlt), (List.dropLast_concat_getLast _).symm⟩
      obtain ⟨n, rfl, hn⟩ := q2.inv.todo_ x (by simp)
      have hnl : n < s.cells.length := by rw [← hlen1]; exact (List.getElem?_eq_some_iff.1 hn).1
      have htlen : (t0 ++ [(n : Int)]).length = t0.length + 1 := by simp
      rw [htlen] at q0 hle hfew
      rw [if_neg (c := t0 ++ [(n : Int)] = []) (by simp)] at hle
      obtain ⟨g, rfl, hg1, hg2⟩ := r3.some_ (by omega)
      have ct := r3.cell_int (i := t0.length) (b := (n : Int)) (by simp)
      have hcap := r3.le_cap.1
      rw [htlen] at hcap
      have r3' := r3.take_ t0.length (by omega)
      rw [List.take_left' rfl] at r3'
      obtain ⟨x, hx⟩ : ∃ x, s.cells[n]? = some x := ⟨_, List.getElem?_eq_getElem hnl⟩
      have hstep := q2.step HS.out.2 hx
      have hle2 : 2 * unseen s1 + t0.length + 1 ≤ 2 * unseen seen + todo.length := by split at hle <;> omega
      have HK := Lib.hid (And.intro (r1) (And.intro (r2) (And.intro (r3') (And.intro (r4) (And.intro (r5) (And.intro (hstep) (And.intro (q3) (And.intro (hx) (And.intro (hle) (And.intro (hfew) (hbl)))))))))))
      have htl0 : t0.length + 1 ≤ d := hcap
      have w1 : (0 : Int) ≤ ((t0.length : Int) + 1) - 1 := by omega
      have htl5 : t0.length ≤ 5000 := by omega
      clear r1 r2 r3 r3' r4 r5 hstep q2 q3 hfew hle htlen hn hx hkeep hbl
      go_wp2_with fail
      have hwr : IntKind.i64.wrap ((t0.length : Int) + 1 - 1) = (t0.length : Int) := by rw [IntWalk.i64_in _ (by omega)]; omega
      have w2 : (0 : Int) ≤ (t0.length : Int) := by omega
      have w3 : (t0.length : Int) < (t0.length : Int) + 1 := by omega
      have w4 : (t0.length : Int) ≤ (t0.length : Int) + 1 := by omega
      go_quiet (fail)
      go_wp2_with fail
      have w5 : t0.length ≤ d := by omega
      refine wp_world (fun W => Blk W R 135 #[.pointer (some ⟨p, 0, none⟩), .slice S s1.length c, .slice (some ⟨g, 0, none⟩) (t0.length + 1) d, .slice K k1.length e] ∧ Own W base 4 S c s1 ∧ Own W base 3 (some ⟨g, 0, none⟩) d t0 ∧ Own W base 3 K e k1 ∧ Below base w W ∧ Kept MW w W) ⟨by have := HK.out.1.drewN; simp only [List.length_append, List.length_singleton] at this; exact this _, HK.out.2.1.drewN _, HK.out.2.2.1.drewN _, HK.out.2.2.2.1.drewN _, below_drewN HK.out.2.2.2.2.2.2.2.2.2.2 _, HKP.out.drewN _⟩ ?_
      rintro W ⟨m1, m2, m3, m4, mb, mk⟩
      have p2 := m1.cell 2 (v := .slice (some ⟨g, 0, none⟩) (t0.length + 1) d) rfl
      have pz := m1.frozen 2
      have n1 := own_ne_ty m2 m1 (by decide)
      have n2 := own_ne_ty m3 m1 (by decide)
      have n3 := own_ne_ty m4 m1 (by decide)
      have a1 : Blk (W.setCell ⟨R, 2, none⟩ (.slice (some ⟨g, 0, none⟩) t0.length d)).drew R 135 #[.pointer (some ⟨p, 0, none⟩), .slice S s1.length c, .slice (some ⟨g, 0, none⟩) t0.length d, .slice K k1.length e] := by
        have := (m1.set_ 2 (.slice (some ⟨g, 0, none⟩) t0.length d)).drew
        simpa using this
      have HW2 := Lib.hid (And.intro ((show Wk (W.setCell ⟨R, 2, none⟩ (.slice (some ⟨g, 0, none⟩) t0.length d)).drew base R (.pointer (some ⟨p, 0, none⟩)) S (some ⟨g, 0, none⟩) K c d e s1 t0 k1 from ⟨a1, (m2.setCell ⟨R, 2, none⟩ (.slice (some ⟨g, 0, none⟩) t0.length d) n1).drew, (m3.setCell ⟨R, 2, none⟩ (.slice (some ⟨g, 0, none⟩) t0.length d) n2).drew, (m4.setCell ⟨R, 2, none⟩ (.slice (some ⟨g, 0, none⟩) t0.length d) n3).drew, HK.out.2.2.2.2.1, r6⟩)) (And.intro (((mb.setCell (p := ⟨R, 2, none⟩) r6 (.slice (some ⟨g, 0, none⟩) t0.length d)).drew)) (((mk.setBlk m1 (by decide) 2 (.slice (some ⟨g, 0, none⟩) t0.length d)).drew))))
      clear a1 m1 m2 m3 m4 n1 n2 n3 mb mk q0 z0 ct
      have hwr2 : IntKind.i64.wrap (t0.length : Int) = (t0.length : Int) := IntWalk.i64_in _ (by clear hwr; omega)
      go_still_tail 14, (by kernel_rfl)
      clear hwr hwr2
      change wpList _ _ _ _ _ (World.drew _)
      go_upto_region 3 with fail
      refine wp_world (fun V => Wk V base R (.pointer (some ⟨p, 0, none⟩)) S (some ⟨g, 0, none⟩) K c d e s1 t0 k1 ∧ Below base w V ∧ Kept MW w V) HW2.out ?_
      rintro V ⟨v1, vb, vk⟩
      clear p2 pz HW2
      have hsV := vb.size
      have hRV := v1.1.lt
      have y0 := v1.1.cell 0 (v := .pointer (some ⟨p, 0, none⟩)) rfl
      have vP := vk.blk_ HW.out.2.2.1 (by decide)
      have u0 := vP.cell 0 (v := .slice CA s.cells.length cc) rfl
      obtain ⟨b, o, x2, VA, vc, FA, fc, rfl, hb, hx2, c0, c1, c2, c3, aV, lV, aF, lF, j0, j1⟩ := (HW.out.2.2.2.below (vb.mono hB)).ce_ hnl
      rw [HK.out.2.2.2.2.2.2.2.1] at hx2; injection hx2 with hx2; subst hx2
      have n0 : (0 : Int) ≤ (n : Int) := by omega
      have n1 : (n : Int) < (s.cells.length : Int) := by omega
      have HV := Lib.hid (And.intro (v1) (And.intro (vb) (And.intro (vk) (And.intro (aV) (And.intro (aF) (And.intro (j0) (vP)))))))
      clear v1 vb vk aV aF j0 j1 vP
      go_upto_region 4 with fail
      refine wp_world (fun U => Blk U V.heap.size 46 #[.int .i64 x.kind, .int .i64 x.num, .slice VA x.vals.length vc, .slice FA x.frames.length fc] ∧ Below V.heap.size V U ∧ V.heap.size + 1 ≤ U.heap.size) ⟨Blk.new _ _ _, (Below.refl _ _).alloc (Nat.le_refl _) _, by simp⟩ ?_
      rintro U ⟨hCe, hbU, hsU⟩
      clear c0 c1 c2 c3 u0 y0
      have hWU := HV.out.1.fresh hbU
      have hbwU : Below base w U := HV.out.2.1.trans (hbU.mono (by have := HV.out.1.1.lt; omega))
      have hkU : Kept MW w U := HV.out.2.2.1.trans (Kept.fresh hbU)
      have e0 := hCe.cell 0 (v := .int .i64 x.kind) rfl
      by_cases h7 : x.kind = 7
      · have d7 : (x.kind == 7) = true := by rw [h7]; rfl
        obtain ⟨b1, b2, b3, b4, b5, b6⟩ := hWU
        have f3 := b1.cell 3 (v := .slice K k1.length e) rfl
        have z3 := b1.frozen 3
        have hRU := b1.lt
        have hat := At.built U #[.int .i64 (n : Int)] 3 [(n : Int)] rfl (by intro z hz; simp at hz; subst hz; exact (by unfold I64; omega : I64 (n : Int)))
        have hKa := b4.alloc (.cells #[.int .i64 (n : Int)] 3)
        have hk1l : k1.length ≤ 700 := by have := HK.out.2.2.2.2.2.2.2.2.2.1; omega
        have HU := Lib.hid (And.intro (b1) (And.intro (b2) (And.intro (b3) (And.intro (b4) (And.intro (b5) (And.intro (hbwU) (And.intro (hkU) (And.intro (hCe) (h7)))))))))
        clear b1 b2 b3 b4 b5 hbwU hkU hCe h7
        go_wp2_with (at_builtin; go_must (refine wpList_app (α := Int) (m := 1) (B := U.heap.size + 1) (r := [(n : Int)]) rfl (.tmp 53) (.tmp 55) _ rfl base 3 i0 _ 8 Tryz.underlying34 hi hz0 hz1 hz2 rfl (by decide) int_one (by rfl) rfl hKa (by rfl) hat rfl (by omega) (by simp only [maxLen]; omega) (by simp; omega) ?_))
        intro K2 e2 w2 hown2 hgr2 hat2
        obtain ⟨b1, b2, b3, b4, b5, b6, b7, b8, b9⟩ := HU.out
        have b1a := b1.alloc (.cells #[.int .i64 (n : Int)] 3)
        have b4a := b4.alloc (.cells #[.int .i64 (n : Int)] 3)
        have g1 := b1a.grown hgr2 (own_ne_ty b4a b1a (by decide))
        have g2 := (b2.alloc (.cells #[.int .i64 (n : Int)] 3)).grown hgr2 (fun h hg e => own_own_ty (b2.alloc (.cells #[.int .i64 (n : Int)] 3)) b4a (by decide) h hg e)
        have g3 := (b3.alloc (.cells #[.int .i64 (n : Int)] 3)).grown hgr2 (fun h hg e => b5 h hg e)
        have g5 : ∀ h, rowOf (some (⟨g, 0, none⟩ : Addr)) = some h → rowOf K2 ≠ some h := by
          intro h hg e
          rcases hat2 with h1 | h1
          · exact b5 h hg (by rw [← h1]; exact e)
          · have := (b3.lt h hg).2
            rw [h1] at e; injection e with e; (try simp at e); have hsz := World.size_alloc U (.cells #[.int .i64 (n : Int)] 3); omega
        have f3' := g1.cell 3 (v := .slice K k1.length e) rfl
        have z3' := g1.frozen 3
        have hk8 : Kept MW w w2 := Kept.grown (b7.alloc _) b4a (by decide) hgr2
        have hb8 : Below base w w2 := (b6.alloc (show base ≤ U.heap.size by omega) _).grown hgr2 (by simp; omega) (fun h hg => (b4a.lt h hg).1)
        have h1' : Blk (w2.setCell ⟨R, 3, none⟩ (.slice K2 (k1.length + 1) e2)) R 135 #[.pointer (some ⟨p, 0, none⟩), .slice S s1.length c, .slice (some ⟨g, 0, none⟩) t0.length d, .slice K2 (k1 ++ [(n : Int)]).length e2] := by
          have := g1.set_ 3 (.slice K2 (k1.length + 1) e2)
          simpa using this
        have HF := Lib.hid (And.intro ((show Wk (w2.setCell ⟨R, 3, none⟩ (.slice K2 (k1.length + 1) e2)) base R (.pointer (some ⟨p, 0, none⟩)) S (some ⟨g, 0, none⟩) K2 c d e2 s1 t0 (k1 ++ [(n : Int)]) from ⟨h1', g2.setCell _ _ (own_ne_ty g2 g1 (by decide)), g3.setCell _ _ (own_ne_ty g3 g1 (by decide)), hown2.setCell _ _ (own_ne_ty hown2 g1 (by decide)), g5, r6⟩)) (And.intro ((hb8.setCell (p := ⟨R, 3, none⟩) r6 (.slice K2 (k1.length + 1) e2))) (And.intro ((hk8.setBlk g1 (by decide) 3 (.slice K2 (k1.length + 1) e2))) ((HK.out.2.2.2.2.2.1.2.1 b9)))))
        clear h1' g1 g2 g3 g5 hk8 hb8 b1 b2 b3 b4 b5 b6 b7 b8 b9 b1a b4a hown2 hgr2 hat2 hat hKa f3 z3
        go_wp2_with fail
        go_roundg (2 * unseen s1 + t0.length)
        case measure => first | omega | (rw [List.length_append, List.length_singleton]; omega)
        case rel => exact ⟨s1, t0, _, rfl, by split <;> (try split) <;> omega, ⟨⟨_, _, _, _, _, _, HF.out.1⟩, HF.out.2.2.2, HK.out.2.2.2.2.2.2.1⟩, HF.out.2.1, HF.out.2.2.1⟩
      · have d7 : (x.kind == 7) = false := by simpa using h7
        have hxm := List.mem_of_getElem? HK.out.2.2.2.2.2.2.2.1
        obtain ⟨hr1, hr2⟩ := cHas_right HS.out.2 hxm
        have hvl : x.vals.length ≤ 600 := by rcases HS.out.1.vlen x hxm with h | h <;> omega
        have hfs := HS.out.1.frs x hxm
        have hfew : 2 * unseen s1 + t0.length ≤ 600 := by have := HK.out.2.2.2.2.2.2.2.2.2.1; omega
        have e2 := hCe.cell 2 (v := .slice VA x.vals.length vc) rfl
        have hRU := hWU.1.lt
        have hco := come_old R base B vc VA (.pointer (some ⟨p, 0, none⟩)) s1 t0 k1 x.vals U ⟨S, some ⟨g, 0, none⟩, K, c, d, e, hWU⟩ (HV.out.2.2.2.1.below (hbU.mono (by omega))) hB (by rw [hlen1]; exact hr1) (by omega) (by omega)
        have hseg := HK.out.2.2.2.2.2.1.1 h7
        have hms := HK.out.2.2.2.2.2.1.2.2
        rw [cHas_refs HS.out.2 hxm h7] at hseg hms
        have hfl := hfs.1
        have HU := Lib.hid (And.intro (hco) (And.intro (hCe) (And.intro (hbwU) (And.intro (hkU) (And.intro (hr2) (And.intro (hfs) (And.intro (hseg) (And.intro ((show At U B FA x.frames from HV.out.2.2.2.2.1.below (hbU.mono (by omega)))) (And.intro (hms) (h7))))))))))
        clear hco hCe hbwU hkU hr1 hr2 hfs hseg hms hxm hWU hbU h7
        go_wp2_with fail
        refine HU.out.1.mono ?_
        rintro ed w1 ⟨rfl, hE1, hb1, hk1⟩
        have hCe1 := hk1.blk_ HU.out.2.1 (by decide)
        have g3 := hCe1.cell 3 (v := .slice FA x.frames.length fc) rfl
        have hrm : 2 * unseen (cm x.vals (s1, t0)).1 + (cm x.vals (s1, t0)).2.length ≤ 2 * unseen s1 + t0.length := room (st := (s1, t0)) (by
          rw [hlen1]; exact (cHas_right HS.out.2 (List.mem_of_getElem? HK.out.2.2.2.2.2.2.2.1)).1)
        have hcl := cm_len x.vals (s1, t0)
        have hcl2 : (cm x.vals (s1, t0)).1.length = s.cells.length := by rw [cm_len]; exact hlen1
        have hfr := frames_any R base B fc FA (.pointer (some ⟨p, 0, none⟩)) (cm x.vals (s1, t0)).1 (cm x.vals (s1, t0)).2 k1 x.frames w1 hE1 (HU.out.2.2.2.2.2.2.2.1.below (hb1.mono hB)) hB (by rw [hcl2]; exact HU.out.2.2.2.2.1) (fun f hf => (HU.out.2.2.2.2.2.1.2 f hf).1.many.1) (by omega) (by omega) (by omega)
        have hs1w := hb1.size
        have H1 := Lib.hid (And.intro (hfr) (And.intro (hb1) (hk1)))
        clear hfr hb1 hk1 hCe1 hE1 hcl e2 e0
        go_wp2_with fail
        refine H1.out.1.mono ?_
        rintro ed w2 ⟨rfl, hE2, hb2, hk2⟩
        obtain ⟨st2, hst⟩ : ∃ st2, reachL (fsRefs x.frames) (cm x.vals (s1, t0)) = st2 := ⟨_, rfl⟩
        have hE2' : WkE w2 base R (.pointer (some ⟨p, 0, none⟩)) st2.1 st2.2 k1 := by rw [← hst]; exact hE2
        have hseg := HU.out.2.2.2.2.2.2.1
        have hms := HU.out.2.2.2.2.2.2.2.2.1
        rw [hst] at hseg hms
        rw [List.length_append, List.length_singleton] at hms
        have hgr := HK.out.2.2.2.2.2.1.2.2.1
        rw [cHas_refs HS.out.2 (List.mem_of_getElem? HK.out.2.2.2.2.2.2.2.1) HU.out.2.2.2.2.2.2.2.2.2, hst] at hgr
        have hmm : 2 * unseen st2.1 + st2.2.length < 2 * unseen s1 + (t0.length + 1) := hms.2
        have HF := Lib.hid (And.intro (hE2') (And.intro (hseg) (And.intro (hgr) (And.intro ((HU.out.2.2.1.trans (H1.out.2.1.trans hb2))) ((HU.out.2.2.2.1.trans (H1.out.2.2.trans hk2)))))))
        clear hE2 hE2' hseg hgr hb2 hk2 hms hst g3 hrm hcl2
        go_wp2_with fail
        go_roundg (2 * unseen st2.1 + st2.2.length)
        case measure => first | omega | (rw [List.length_append, List.length_singleton]; omega)
        case rel => exact ⟨st2.1, st2.2, k1, rfl, by split <;> (try split) <;> omega, ⟨HF.out.1, HF.out.2.1, HK.out.2.2.2.2.2.2.1.trans HF.out.2.2.1⟩, HF.out.2.2.2.1, HF.out.2.2.2.2⟩
    · obtain rfl : t1 = [] := List.eq_nil_of_length_eq_zero (by omega)
      have hWf : WkE wr base R (.pointer (some ⟨p, 0, none⟩)) s1 [] k1 := ⟨S, T, K, c, d, e, r1, r2, r3, r4, r5, r6⟩
      have HK := Lib.hid (And.intro (hWf) (And.intro (q2) (And.intro (q3) (And.intro (hle) (hbl)))))
      clear hWf r1 r2 r3 r4 r5 q2 q3 hle hbl hkeep
      go_wp2_with fail
      go_end0
      rw [← HP.out]
      obtain ⟨f1, f2, f3, f4, f5⟩ := HK.out
      exact ⟨rfl, ⟨s1, k1, f1, f2, f3, by simp at f4 ⊢; exact f4⟩, f5, HKP.out⟩
end Top
end Go.Proofs.YtdlcooplllimeaaGreatDoor

/- reach: keys: values of keys that are reached. -/
namespace Go.Proofs.YtdlcooplllimeaaGreatDoor
open Go.RowKit

attribute [local go_sem ↓] Go.wp_at_zero Go.wp_at_succ

namespace Top
def KeysPost (base R : Nat) (pv : Value) (s : Stt) (w : World) (e : Ending) (w' : World) : Prop :=
  e = .returned (.tuple #[]) ∧ (∃ wk', WkE w' base R pv (rcB s) [] wk') ∧ Below base w w' ∧ Kept MW w w'
set_option maxHeartbeats 3200000 in
set_option maxRecDepth 100000 in
theorem keys_any (R base B p cc sc tc hc ec dc : Nat) (CA SA TA HA EA DA : Option Addr) (s : Stt) (seen : List Bool) (wk : List Int) (w : World) (hs : SOk s) (hW : WkE w base R (.pointer (some ⟨p, 0, none⟩)) seen [] wk) (hseg : Seg s seen [] wk) (hrt : ∀ n : Nat, (n : Int) ∈ roots s → seen[n]? = some true)
    (hP : Blk w p 32 #[.slice CA s.cells.length cc, .slice SA s.shapes.length sc, .slice TA s.texts.length tc, .slice HA s.threads.length hc, .slice EA s.ends.length ec, .slice DA s.said.length dc, .int .i64 s.asked, .int .i64 s.steps]) (hC : At w B CA s.cells) (hB : B ≤ base) :
    Calls Tryz.prog 56 #[.pointer (some ⟨R, 0, none⟩)] w (KeysPost base R (.pointer (some ⟨p, 0, none⟩)) s w) := by
  obtain ⟨P, hPo⟩ : ∃ P, KeysPost base R (.pointer (some ⟨p, 0, none⟩)) s w = P := ⟨_, rfl⟩
  have HP := Lib.hid hPo; rw [hPo]; clear hPo
  have hk := hs.okr
  have hmany := hs.many.1
  have HS := Lib.hid (And.intro (hs) (And.intro (hk) (hrt)))
  clear hs hk hrt
  have hRw := hW.lt
  have HW := Lib.hid (And.intro (hW) (And.intro (hseg) (And.intro (hP) (hC))))
  clear hW hseg hP hC
  go_enter Tryz.func56, Tryz.ntmps56
  go_wp2_with fail
  go_loopg [2] (2 * unseen seen + 1) (fun gk mv wr => ∃ (s1 : List Bool) (k1 : List Int) (m : Bool), mv = .bool m ∧ gk = (if m = true then 2 * unseen s1 + 1 else 0) ∧ Hid (WkE wr base R (.pointer (some ⟨p, 0, none⟩)) s1 [] k1 ∧ Seg s s1 [] k1 ∧ Grows seen s1 ∧ (m = false → s1 = rcB s)) ∧ (Below base w wr ∧ Kept MW w wr))
  case atStart => exact ⟨seen, wk, true, rfl, by simp, ⟨HW.out.1, HW.out.2.1, Grows.refl _, fun h => by cases h⟩, Below.refl _ _, Kept.refl _⟩
  case round =>
    obtain ⟨s1, k1, m, rfl, rfl, hkeep, hbl, hkp⟩ := hrel
    have HKP := Lib.hid (And.intro (hbl) (hkp))
    clear hbl hkp
    cases m with
    | false =>
      have HK := Lib.hid (And.intro (hkeep.out.1) ((hkeep.out.2.2.2 rfl)))
      clear hkeep
      go_wp2_with fail
      go_end0
      rw [← HP.out]
      exact ⟨rfl, ⟨k1, by rw [← HK.out.2]; exact HK.out.1⟩, HKP.out⟩
    | true =>
      obtain ⟨K, e, hK⟩ := hkeep.out.1.k
      have hfew := hkeep.out.2.1.few
      have hul := unseen_le s1
      have hlen1 : s1.length = s.cells.length := by rw [hkeep.out.2.1.inv.len, has_length]
      have hk1 : k1.length ≤ 600 := by simp at hfew; omega
      obtain ⟨S0, T0, c0, d0, r1, r2, r3, r4, r5, r6⟩ := hK
      have hRr := r1.lt
      have q3 := r1.cell 3 (v := .slice K k1.length e) rfl
      have HK := Lib.hid (And.intro ((show WkK wr base R (.pointer (some ⟨p, 0, none⟩)) K e s1 [] k1 from ⟨S0, T0, c0, d0, r1, r2, r3, r4, r5, r6⟩)) (hkeep.out.2))
      clear r1 r2 r3 r4 r5 hkeep
      go_wp2_with fail
      clear q3
      go_loopg [13] (k1.length) (fun gj jv wj => ∃ (j : Nat) (s2 : List Bool) (t2 : List Int), j ≤ k1.length ∧ gj = k1.length - j ∧ jv = .int .i64 j ∧ Hid (WkK wj base R (.pointer (some ⟨p, 0, none⟩)) K e s2 t2 k1 ∧ KI s s1 k1 j 0 s2 t2) ∧ (Below base w wj ∧ Kept MW w wj))
      case atStart => exact ⟨0, s1, [], Nat.zero_le _, rfl, rfl, ⟨HK.out.1, KI.start HK.out.2.1⟩, HKP.out⟩
      case round =>
        obtain ⟨j, s2, t2, hj, rfl, rfl, hkeep, hbl, hkp⟩ := hrel
        have HKJ := Lib.hid (And.intro (hbl) (hkp))
        by_cases hjt : j < k1.length
        · obtain ⟨n, c, hx, hc7, h7, hnl⟩ := hkeep.out.2.tab hjt
          obtain ⟨S1, T1, c1, d1, r1, r2, r3, r4, r5, r6⟩ := hkeep.out.1
          have hRr1 := r1.lt
          obtain ⟨gk, rfl, gk1, gk2⟩ := r4.some_ (by omega)
          have ck := r4.cell_int hx
          have y0 := r1.cell 0 (v := (.pointer (some ⟨p, 0, none⟩))) rfl
          have vP := hkp.blk_ HW.out.2.2.1 (by decide)
          have u0 := vP.cell 0 (v := .slice CA s.cells.length cc) rfl
          obtain ⟨b, o, x2, VA, vc, FA, fc, rfl, hb, hx2, e0, e1, e2, e3, aV, lV, aF, lF, j0, j1⟩ := (HW.out.2.2.2.below (hbl.mono hB)).ce_ hnl
          rw [hc7] at hx2; injection hx2 with hx2; subst hx2
          have hcm := List.mem_of_getElem? hc7
          have hvl : c.vals.length ≤ 600 := by rcases HS.out.1.vlen c hcm with h | h <;> omega
          have hev := (HS.out.2.1.weak c hcm h7)
          have n0 : (0 : Int) ≤ (n : Int) := by omega
          have n1 : (n : Int) < (s.cells.length : Int) := by omega
          have hbs := hbl.size
          have aV0 : At w B VA c.vals := aV.keep (fun p hp => (Below.cells (hbl.mono hB) p hp).symm)
          have HX := Lib.hid (And.intro (hx) (And.intro (hc7) (And.intro (h7) (And.intro (hcm) (And.intro (hev) (And.intro (aV0) (And.intro (hkeep.out) ((show WkK wr base R (.pointer (some ⟨p, 0, none⟩)) (some ⟨gk, 0, none⟩) e s2 t2 k1 from hkeep.out.1)))))))))
          clear hx hc7 h7 hcm hev aV0 aV aF r1 r2 r3 r4 r5 hkeep vP e0 e1 e3 j0 j1 hbl hkp
          go_wp2_with fail
          clear e2 u0 y0 ck
          go_loopg [6] (c.vals.length) (fun gi iv wi => ∃ (i m : Nat) (s3 : List Bool) (t3 : List Int), m ≤ c.vals.length ∧ gi = c.vals.length - m ∧ iv = .int .i64 m ∧ Hid (m = 2 * i ∧ WkK wi base R (.pointer (some ⟨p, 0, none⟩)) (some ⟨gk, 0, none⟩) e s3 t3 k1 ∧ KI s s1 k1 j i s3 t3) ∧ (Below base w wi ∧ Kept MW w wi))
          case atStart => exact ⟨0, 0, s2, t2, Nat.zero_le _, rfl, rfl, ⟨rfl, HX.out.2.2.2.2.2.2.1.1, HX.out.2.2.2.2.2.2.1.2⟩, HKJ.out⟩
          case round =>
            obtain ⟨i, m, s3, t3, hm, rfl, rfl, hkeep, hbl, hkp⟩ := hrel
            have HKI := Lib.hid (And.intro (hbl) (hkp))
            by_cases hmt : m < c.vals.length
            · have hm1 : m + 1 < c.vals.length := by have h1 := hkeep.out.1; have h2 := HX.out.2.2.2.2.1.2; omega
              obtain ⟨b5, o5, kx, hA5, hb5, hk5, v0, v1, ik0, ik1⟩ := (HX.out.2.2.2.2.2.1.below (hbl.mono hB)).pairT hmt
              obtain ⟨b6, o6, vx, hA6, hb6, hv6, v2, v3, iv0, iv1⟩ := (HX.out.2.2.2.2.2.1.below (hbl.mono hB)).pairT hm1
              rw [hA5] at hA6; injection hA6 with hA6; injection hA6 with z1 z2; subst z1 z2
              have hm2 := hkeep.out.1
              obtain ⟨kf, kn⟩ := kx
              have hkf : kf = 5 := HX.out.2.2.2.2.1.1 i _ (by rw [← hm2]; exact hk5)
              subst hkf
              obtain ⟨kk, rfl, hkk⟩ := HS.out.2.1.has c HX.out.2.2.2.1 kn (List.mem_append_left _ (List.mem_of_getElem? hk5))
              obtain ⟨S3, T3, c3, d3, r1, r2, r3, r4, r5, r6⟩ := hkeep.out.2.1
              have hl3 : s3.length = s.cells.length := by rw [hkeep.out.2.2.seg.inv.len, has_length]
              obtain ⟨gs, rfl, gs1, gs2⟩ := r2.some_ (by omega)
              obtain ⟨sv, hsv⟩ : ∃ sv, s3[kk]? = some sv := ⟨_, List.getElem?_eq_getElem (by omega)⟩
              have v5 := r2.cell_bool hsv
              have y1 := r1.cell 1 (v := .slice (some ⟨gs, 0, none⟩) s3.length c3) rfl
              have hRr3 := r1.lt
              subst hA5
              have m0 : (0 : Int) ≤ (m : Int) := by omega
              have m1 : (m : Int) < (c.vals.length : Int) := by omega
              have m2 : (m : Int) + 1 < (c.vals.length : Int) := by omega
              have m3 : (0 : Int) ≤ (m : Int) + 1 := by omega
              have k0 : (0 : Int) ≤ (kk : Int) := by omega
              have k9 : (kk : Int) < (s3.length : Int) := by omega
              have hfew := hkeep.out.2.2.seg.few
              have hbs3 := hbl.size
              have hks : c.vals[2 * i]? = some (5, (kk : Int)) := by rw [← hm2]; exact hk5
              have hvs : c.vals[2 * i + 1]? = some vx := by rw [← hm2]; exact hv6
              have hWq : ∀ q, WkK (wr.drewN q) base R (.pointer (some ⟨p, 0, none⟩)) (some ⟨gk, 0, none⟩) e s3 t3 k1 := fun q => ⟨some ⟨gs, 0, none⟩, T3, c3, d3, r1.drewN q, r2.drewN q, r3.drewN q, r4.drewN q, r5, r6⟩
              cases sv with
              | false =>
                have hnx := hkeep.out.2.2.skip HX.out.1 HX.out.2.1 hks hvs (fun k' e h => by
                  have : k' = kk := by omega
                  subst this; rw [hsv] at h; cases h)
                have HF := Lib.hid (And.intro (hnx) (And.intro (hWq) (hm2)))
                clear hnx hWq hm2 hks hvs hfew hkeep hsv hk5 hv6 r1 r2 r3 r4 r5 ik0 ik1 iv0 iv1 hbl hkp v2 v3
                go_wp2_with fail
                go_quiet (fail)
                go_wp2_with fail
                go_roundg (c.vals.length - (m + 2))
                case measure => omega
                case rel => exact ⟨i + 1, m + 2, s3, t3, by omega, rfl, by go_num, ⟨by have := HF.out.2.2; omega, HF.out.2.1 _, HF.out.1⟩, below_drewN HKI.out.1 _, HKI.out.2.drewN _⟩
              | true =>
                have hnx := hkeep.out.2.2.val HS.out.2.1 HX.out.1 HX.out.2.1 HX.out.2.2.1 hks hvs hsv
                have hin : RightL s3.length (rfs [vx]) := fun y hy => by
                  have hy := mem_rfs.1 hy
                  simp at hy
                  rw [hl3]
                  exact HS.out.2.1.has c HX.out.2.2.2.1 y (List.mem_append_left _ (by rw [hy]; exact List.mem_of_getElem? hvs))
                have hcn := fun q => come_newK R base e (some ⟨gk, 0, none⟩) (.pointer (some ⟨p, 0, none⟩)) s3 t3 k1 vx (wr.drewN q) (hWq q) iv0 iv1 hin (by omega) (by omega)
                have HF := Lib.hid (And.intro (hnx) (And.intro (hcn) (hm2)))
                clear hnx hWq hm2 hks hvs hfew hkeep hsv hk5 hv6 r1 r2 r3 r4 r5 ik0 ik1 iv0 iv1 hbl hkp hin hcn
                go_wp2_with fail
                go_quiet (fail)
                go_wp2_with fail
                refine (HF.out.2.1 _).mono ?_
                rintro ed w5 ⟨rfl, hE5, hb5', hk5'⟩
                have HG := Lib.hid (And.intro (hE5) (And.intro ((((below_drewN HKI.out.1 _).alloc (show base ≤ wr.heap.size by omega) _).trans hb5')) ((((HKI.out.2.drewN _).alloc _).trans hk5'))))
                clear hE5 hb5' hk5'
                go_wp2_with fail
                go_roundg (c.vals.length - (m + 2))
                case measure => omega
                case rel => exact ⟨i + 1, m + 2, _, _, by omega, rfl, by go_num, ⟨by have := HF.out.2.2; omega, HG.out.1, HF.out.1⟩, HG.out.2⟩
            · have hfin := hkeep.out.2.2.table HX.out.1 HX.out.2.1 (by have := hkeep.out.1; omega)
              have HF := Lib.hid (And.intro (hkeep.out.2.1) (And.intro (hfin) (HKI.out)))
              clear hfin hkeep hbl hkp
              go_wp2_with fail
              go_roundg (k1.length - (j + 1))
              case measure => omega
              case rel => exact ⟨j + 1, s3, t3, by omega, rfl, by go_num, ⟨HF.out.1, HF.out.2.1⟩, HF.out.2.2⟩
        · obtain rfl : j = k1.length := by omega
          obtain ⟨S1, T1, c1, d1, r1, r2, r3, r4, r5, r6⟩ := hkeep.out.1
          have hRr1 := r1.lt
          have q2 := r1.cell 2 (v := .slice T1 t2.length d1) rfl
          have hbs := hbl.size
          have hls := hkeep.out.2.less
          have HX := Lib.hid (And.intro (hkeep.out.1.e) (hkeep.out.2))
          clear r1 r2 r3 r4 r5 hkeep
          by_cases ht : 0 < t2.length
          · have hal := all_any R base B p cc sc tc hc ec dc CA SA TA HA EA DA s s2 t2 k1 wr HS.out.1 HX.out.1 HX.out.2.seg (hkp.blk_ HW.out.2.2.1 (by decide)) (HW.out.2.2.2.below (hbl.mono hB)) hB
            have hne : ¬ t2 = [] := List.ne_nil_of_length_pos ht
            have HA := Lib.hid (And.intro (hal) (hne))
            clear hal hne hbl hkp
            go_wp2_with fail
            refine HA.out.1.mono ?_
            rintro ed w5 ⟨rfl, ⟨s5, k5, h1, h2, h3, h4⟩, hb5, hk5⟩
            rw [if_neg HA.out.2] at h4
            have HF := Lib.hid (And.intro (h1) (And.intro (h2) (And.intro ((HK.out.2.2.1.trans (HX.out.2.grows.trans h3))) (And.intro ((HKJ.out.1.trans hb5)) ((HKJ.out.2.trans hk5))))))
            clear h1 h2 h3 hb5 hk5
            go_wp2_with fail
            go_roundg (2 * unseen s5 + 1)
            case measure => first | (simp; omega) | omega
            case rel => exact ⟨s5, k5, true, rfl, by simp, ⟨HF.out.1, HF.out.2.1, HF.out.2.2.1, fun h => by cases h⟩, HF.out.2.2.2⟩
          · obtain rfl : t2 = [] := List.eq_nil_of_length_eq_zero (by omega)
            have hfin := HX.out.2.fin HS.out.2.1 (Nat.le_refl _) (fun n hn => HK.out.2.2.1 n (HS.out.2.2 n hn))
            have HF := Lib.hid (And.intro (hfin) (And.intro (hbl) (hkp)))
            clear hfin hbl hkp
            go_wp2_with fail
            go_roundg 0
            case measure => first | (simp; done) | omega
            case rel => exact ⟨s2, k1, false, rfl, by simp, ⟨HX.out.1, HX.out.2.seg, HK.out.2.2.1.trans HX.out.2.grows, fun _ => HF.out.1⟩, HF.out.2⟩
end Top
end Go.Proofs.YtdlcooplllimeaaGreatDoor

/- reach: what threads and ends lead to. No walk of code. -/
namespace Go.Proofs.YtdlcooplllimeaaGreatDoor
open Go.RowKit

namespace Top
def thGo (t : Th) (st : List Bool × List Int) : List Bool × List Int := if t.state = 1 then cm [(5, t.on)] (cm [t.val] (reachL (fsRefs t.frames) st)) else cm [t.val] (reachL (fsRefs t.frames) st)
theorem th_roots {s : Stt} {t : Th} (ht : t ∈ s.threads) : (∀ k ∈ fsRefs t.frames, k ∈ roots s) ∧ (∀ k ∈ rfs [t.val], k ∈ roots s) ∧ (t.state = 1 → t.on ∈ roots s) := by
  have key : ∀ k, k ∈ thRefs t → k ∈ roots s := fun k hk => List.mem_append_left _ (List.mem_flatMap.2 ⟨t, ht, hk⟩)
  refine ⟨fun k hk => key k ?_, fun k hk => key k ?_, fun h => key _ ?_⟩
  · unfold thRefs
    rcases mem_fsRefs.1 hk with h | h
    · exact List.mem_append_left _ (List.mem_append_left _ (by rw [rfs_append]; exact List.mem_append_left _ h))
    · exact List.mem_append_right _ h
  · unfold thRefs
    exact List.mem_append_left _ (List.mem_append_left _ (by rw [rfs_append]; exact List.mem_append_right _ hk))
  · unfold thRefs
    exact List.mem_append_left _ (List.mem_append_right _ (by rw [if_pos h]; simp))
theorem th_cov {t : Th} {k : Int} (h : k ∈ thRefs t) : k ∈ fsRefs t.frames ∨ k ∈ rfs [t.val] ∨ (t.state = 1 ∧ k = t.on) := by
  unfold thRefs at h
  rcases List.mem_append.1 h with h | h
  · rcases List.mem_append.1 h with h | h
    · rw [rfs_append] at h
      rcases List.mem_append.1 h with h | h
      · exact .inl (mem_fsRefs.2 (.inl h))
      · exact .inr (.inl h)
    · split at h
      · rename_i hs; simp at h; exact .inr (.inr ⟨hs, h⟩)
      · cases h
  · exact .inl (mem_fsRefs.2 (.inr h))
theorem en_roots {s : Stt} {x : En} (hx : x ∈ s.ends) : ∀ k ∈ rfs [x.fn], k ∈ roots s := fun _k hk => List.mem_append_right _ (List.mem_flatMap.2 ⟨x, hx, hk⟩)
theorem rightL_roots {s : Stt} (hs : Okr s) {l : List Int} (h : ∀ k ∈ l, k ∈ roots s) : RightL s.cells.length l := fun k hk => hs.roots k (h k hk)
theorem Seg.comeR {s : Stt} (hs : Okr s) {seen : List Bool} {todo wk l : List Int} (h : Seg s seen todo wk) (hl : ∀ k ∈ l, k ∈ roots s) :
    Seg s (reachL l (seen, todo)).1 (reachL l (seen, todo)).2 wk ∧ Grows seen (reachL l (seen, todo)).1 ∧ (∀ k : Nat, (k : Int) ∈ l → (reachL l (seen, todo)).1[k]? = some true) := by
  obtain ⟨h1, h2, h3, -⟩ := h.come (l := l) (fun x hx => roots_lt hs (hl x hx))
  exact ⟨h1, h2, h3⟩
theorem Seg.thr {s : Stt} (hs : Okr s) {seen : List Bool} {todo wk : List Int} (h : Seg s seen todo wk) {t : Th} (ht : t ∈ s.threads) :
    Seg s (thGo t (seen, todo)).1 (thGo t (seen, todo)).2 wk ∧ Grows seen (thGo t (seen, todo)).1 ∧ (∀ k : Nat, (k : Int) ∈ thRefs t → (thGo t (seen, todo)).1[k]? = some true) := by
  obtain ⟨r1, r2, r3⟩ := th_roots ht
  obtain ⟨a1, a2, a3⟩ := h.comeR hs r1
  obtain ⟨b1, b2, b3⟩ := a1.comeR hs r2
  unfold thGo
  by_cases h1 : t.state = 1
  · rw [if_pos h1]
    obtain ⟨c1, c2, c3⟩ := b1.comeR hs (l := rfs [(5, t.on)]) (fun k hk => by simp [rfs] at hk; subst hk; exact r3 h1)
    refine ⟨c1, (a2.trans b2).trans c2, fun k hk => ?_⟩
    rcases th_cov hk with hk | hk | ⟨-, hk⟩
    · exact c2 k (b2 k (a3 k hk))
    · exact c2 k (b3 k hk)
    · exact c3 k (by rw [hk]; simp [rfs])
  · rw [if_neg h1]
    refine ⟨b1, a2.trans b2, fun k hk => ?_⟩
    rcases th_cov hk with hk | hk | ⟨hk, -⟩
    · exact b2 k (a3 k hk)
    · exact b3 k hk
    · exact absurd hk h1
theorem Seg.len {s : Stt} {seen : List Bool} {todo wk : List Int} (h : Seg s seen todo wk) : seen.length = s.cells.length := by rw [h.inv.len, has_length]
theorem Seg.room {s : Stt} (hm : s.cells.length ≤ 300) {seen : List Bool} {todo wk : List Int} (h : Seg s seen todo wk) : 2 * unseen seen + todo.length ≤ 600 ∧ wk.length ≤ 600 := by
  have := h.few
  omega
end Top
end Go.Proofs.YtdlcooplllimeaaGreatDoor

/- reach.Seen: which cells of a right state are reached. -/
namespace Go.Proofs.YtdlcooplllimeaaGreatDoor
open Go.RowKit

attribute [local go_sem ↓] Go.wp_at_zero Go.wp_at_succ

namespace Top
def SeenPost (s : Stt) (w : World) (e : Ending) (w' : World) : Prop :=
  ∃ S c, e = .returned (.slice S s.cells.length c) ∧ Own w' w.heap.size 4 S c (rcB s) ∧ Below w.heap.size w w'
set_option maxHeartbeats 3200000 in
set_option maxRecDepth 100000 in
theorem seen_any (B p cc sc tc hc ec dc : Nat) (CA SA TA HA EA DA : Option Addr) (s : Stt) (w : World) (hs : SOk s) (h30 : ∀ t ∈ s.threads, t.frames.length ≤ 30) (hl5 : s.threads.length ≤ 5 ∧ s.ends.length ≤ 100)
    (hP : Blk w p 32 #[.slice CA s.cells.length cc, .slice SA s.shapes.length sc, .slice TA s.texts.length tc, .slice HA s.threads.length hc, .slice EA s.ends.length ec, .slice DA s.said.length dc, .int .i64 s.asked, .int .i64 s.steps]) (h : StP w B s CA SA TA HA EA DA cc sc tc hc ec dc) (hB : B ≤ w.heap.size) :
    Calls Tryz.prog 20 #[(.pointer (some ⟨p, 0, none⟩))] w (SeenPost s w) := by
  obtain ⟨P, hPo⟩ : ∃ P, SeenPost s w = P := ⟨_, rfl⟩
  have HP := Lib.hid hPo; rw [hPo]; clear hPo
  have hmany := hs.many.1
  have hmk := Go.run_make_row' (P := Tryz.prog) 76 4 (.bool false) 1 Tryz.underlying76 infoBool rfl .i64 .i64 s.cells.length (by omega) (by omega)
  have HS := Lib.hid (And.intro (hs) (And.intro (hs.okr) (h30)))
  clear hs h30
  have hpl := hP.lt
  have u0 := hP.cell 0 (v := .slice CA s.cells.length cc) rfl
  have HW := Lib.hid (And.intro (hP) (h))
  clear hP h
  go_enter Tryz.func20, Tryz.ntmps20
  go_upto_region 2 with fail
  refine wp_world (fun V => WkE V w.heap.size (w.heap.size + 1) (.pointer (some ⟨p, 0, none⟩)) (List.replicate s.cells.length false) [] [] ∧ Below w.heap.size w V ∧ Kept MW w V) ⟨?_, ?_, ?_⟩ ?_
  · have o1 := own_made w w.heap.size 4 s.cells.length (Nat.le_refl _) (by simp only [maxLen]; omega)
    refine ⟨some ⟨w.heap.size, 0, none⟩, none, none, s.cells.length, 0, 0, ?_, o1.alloc _, Own.nil_, Own.nil_, fun g hg => (by cases hg), by omega⟩
    rw [List.length_replicate]
    exact Blk.at_ (w.alloc _) _ _ (by simp)
  · exact ((Below.refl _ _).alloc (Nat.le_refl _) _).alloc (by simp) _
  · exact ((Kept.refl w).alloc _).alloc _
  clear u0 hmk
  rintro V ⟨hWV, hbV, hkV⟩
  have hsV := hWV.lt
  have vP := hkV.blk_ HW.out.1 (by decide)
  have u3 := vP.cell 3 (v := .slice HA s.threads.length hc) rfl
  have hst0 : (cm [] (List.replicate s.cells.length false, [])).1 = List.replicate s.cells.length false := rfl
  have HV := Lib.hid (And.intro (hWV) (And.intro (hbV) (hkV)))
  clear hWV hbV hkV vP hst0
  go_wp2_with fail
  clear u3
  go_loopg [22] (s.threads.length) (fun gk iv wr => ∃ (k : Nat) (s1 : List Bool) (t1 : List Int), k ≤ s.threads.length ∧ gk = s.threads.length - k ∧ iv = .int .i64 k ∧ Hid (WkE wr w.heap.size (w.heap.size + 1) (.pointer (some ⟨p, 0, none⟩)) s1 t1 [] ∧ Seg s s1 t1 [] ∧ ∀ n : Nat, (n : Int) ∈ (s.threads.take k).flatMap thRefs → s1[n]? = some true) ∧ (Below w.heap.size w wr ∧ Kept MW w wr))
  case atStart => exact ⟨0, _, [], Nat.zero_le _, rfl, rfl, ⟨HV.out.1, Seg.start s, fun n hn => by simp at hn⟩, HV.out.2⟩
  case round =>
    obtain ⟨k, s1, t1, hk, rfl, rfl, hkeep, hbl, hkp⟩ := hrel
    have HKP := Lib.hid (And.intro (hbl) (hkp))
    have hbs := hbl.size
    by_cases hlt : k < s.threads.length
    · obtain ⟨b, o, x, FA, fc, rfl, hb, hx, c0, c1, c2, c3, c4, aF, lF, i1, i2, i3, i4⟩ := (HW.out.2.a4.below (hbl.mono hB)).th_ hlt
      have hxm := List.mem_of_getElem? hx
      have hrl := hkeep.out.1.lt
      have hrm := hkeep.out.2.1.room hmany
      have hln := hkeep.out.2.1.len
      obtain ⟨m1, m2, m3⟩ := th_roots hxm
      have hthr := hkeep.out.2.1.thr HS.out.2.1 hxm
      have hcov : ∀ n : Nat, (n : Int) ∈ (s.threads.take (k + 1)).flatMap thRefs → (thGo x (s1, t1)).1[n]? = some true := by
        intro n hn
        rw [List.take_add_one, hx, List.flatMap_append, List.mem_append] at hn
        rcases hn with hn | hn
        · exact hthr.2.1 n (hkeep.out.2.2 n hn)
        · simp at hn; exact hthr.2.2 n hn
      have hx3 := HS.out.2.2 x hxm
      have hx4 := HS.out.1.ths x hxm
      have hk0 : (0 : Int) ≤ (k : Int) := by omega
      have hk1 : (k : Int) < (s.threads.length : Int) := by omega
      have HX := Lib.hid (And.intro (aF) (And.intro ((And.intro m1 (And.intro m2 m3))) (And.intro (hthr.1) (And.intro (hcov) (And.intro (hx4) (And.intro (i2) (And.intro (i3) (i4))))))))
      clear aF m1 m2 m3 hthr hcov hx4 i1 i2 i3 i4 hx hxm
      go_upto_region 5 with fail
      refine wp_world (fun U => Blk U wr.heap.size 98 #[.slice FA x.frames.length fc, .int .i64 x.state, .int .i64 x.on, .int .i64 x.val.1, .int .i64 x.val.2] ∧ Below wr.heap.size wr U ∧ wr.heap.size + 1 ≤ U.heap.size) ⟨Blk.new _ _ _, (Below.refl _ _).alloc (Nat.le_refl _) _, by simp⟩ ?_
      rintro U ⟨hTh, hbU, hsU⟩
      clear c0 c1 c2 c3 c4
      have d0 := hTh.cell 0 (v := .slice FA x.frames.length fc) rfl
      have hbwU : Below w.heap.size w U := hbl.trans (hbU.mono (by omega))
      have hkU : Kept MW w U := hkp.trans (Kept.fresh hbU)
      have hfr := frames_any (w.heap.size + 1) w.heap.size B fc FA (.pointer (some ⟨p, 0, none⟩)) s1 t1 [] x.frames U (hkeep.out.1.fresh hbU) (HX.out.1.below (hbU.mono (by omega))) hB (by rw [hln]; exact rightL_roots HS.out.2.1 HX.out.2.1.1) (fun f hf => (HX.out.2.2.2.2.1.1 f hf).1.many.1) (by omega) (by omega) hx3
      have HU := Lib.hid (And.intro (hfr) (And.intro (hTh) (And.intro (hbwU) (hkU))))
      clear hfr hTh hbwU hkU hbU hbl hkp hkeep
      go_wp2_with fail
      refine HU.out.1.mono ?_
      rintro ed w1 ⟨rfl, hE1, hb1, hk1⟩
      have hTh1 := hk1.blk_ HU.out.2.1 (by decide)
      have e3 := hTh1.cell 3 (v := .int .i64 x.val.1) rfl
      have e4 := hTh1.cell 4 (v := .int .i64 x.val.2) rfl
      have hrm1 : 2 * unseen (reachL (fsRefs x.frames) (s1, t1)).1 + (reachL (fsRefs x.frames) (s1, t1)).2.length ≤ 2 * unseen s1 + t1.length := room (st := (s1, t1)) (by rw [hln]; exact rightL_roots HS.out.2.1 HX.out.2.1.1)
      have hln1 : (reachL (fsRefs x.frames) (s1, t1)).1.length = s.cells.length := by rw [reachL_len]; exact hln
      have hs1 := hb1.size
      have hcn := come_new (w.heap.size + 1) w.heap.size (.pointer (some ⟨p, 0, none⟩)) (reachL (fsRefs x.frames) (s1, t1)).1 (reachL (fsRefs x.frames) (s1, t1)).2 [] x.val w1 hE1 HX.out.2.2.2.2.2.2.1 HX.out.2.2.2.2.2.2.2 (by rw [hln1]; exact rightL_roots HS.out.2.1 HX.out.2.1.2.1) (by omega) (by omega)
      have H1 := Lib.hid (And.intro (hcn) (And.intro (hTh1) (And.intro ((HU.out.2.2.1.trans hb1)) ((HU.out.2.2.2.trans hk1)))))
      clear hcn hTh1 hb1 hk1 hE1 d0
      go_wp2_with fail
      refine H1.out.1.mono ?_
      rintro ed w2 ⟨rfl, hE2, hb2, hk2⟩
      have hTh2 := (((Kept.refl w1 : Kept MW w1 w1).alloc (.cells #[.int .i64 x.val.1, .int .i64 x.val.2] 48)).trans hk2).blk_ H1.out.2.1 (by decide)
      have g1 := hTh2.cell 1 (v := .int .i64 x.state) rfl
      have hs2 := hb2.size
      have hs2z := World.size_alloc w1 (.cells #[.int .i64 x.val.1, .int .i64 x.val.2] 48)
      have hs22 : w.heap.size + 2 ≤ w2.heap.size := by omega
      clear hs2z
      have hbw2 : Below w.heap.size w w2 := (H1.out.2.2.1.alloc (by omega) _).trans hb2
      have hkw2 : Kept MW w w2 := (H1.out.2.2.2.alloc _).trans hk2
      have HG := Lib.hid HX.out.2.2.1
      by_cases hst : x.state = 1
      · have dst : (x.state == 1) = true := by rw [hst]; rfl
        have g2 := hTh2.cell 2 (v := .int .i64 x.on) rfl
        have hrm2 : 2 * unseen (cm [x.val] (reachL (fsRefs x.frames) (s1, t1))).1 + (cm [x.val] (reachL (fsRefs x.frames) (s1, t1))).2.length ≤ 2 * unseen (reachL (fsRefs x.frames) (s1, t1)).1 + (reachL (fsRefs x.frames) (s1, t1)).2.length := room (st := reachL (fsRefs x.frames) (s1, t1)) (by rw [hln1]; exact rightL_roots HS.out.2.1 HX.out.2.1.2.1)
        have hln2 : (cm [x.val] (reachL (fsRefs x.frames) (s1, t1))).1.length = s.cells.length := by rw [cm_len]; exact hln1
        have hcn := come_new (w.heap.size + 1) w.heap.size (.pointer (some ⟨p, 0, none⟩)) (cm [x.val] (reachL (fsRefs x.frames) (s1, t1))).1 (cm [x.val] (reachL (fsRefs x.frames) (s1, t1))).2 [] (5, x.on) w2 hE2 (by show I64 5; unfold I64; decide) HX.out.2.2.2.2.2.1 (by rw [hln2]; exact rightL_roots HS.out.2.1 (fun k hk => by simp [rfs] at hk; subst hk; exact HX.out.2.1.2.2 hst)) (by omega) (by omega)
        have H2 := Lib.hid (And.intro (hcn) (And.intro (hbw2) (And.intro (hkw2) (hst))))
        clear hcn hbw2 hkw2 hTh2 hE2 hb2 hk2 hst hrm2 hln2 e3 e4
        go_wp2_with fail
        refine H2.out.1.mono ?_
        rintro ed w3 ⟨rfl, hE3, hb3, hk3⟩
        have hbw3 : Below w.heap.size w w3 := (H2.out.2.1.alloc (by omega) _).trans hb3
        have hkw3 : Kept MW w w3 := (H2.out.2.2.1.alloc _).trans hk3
        have e : thGo x (s1, t1) = cm [(5, x.on)] (cm [x.val] (reachL (fsRefs x.frames) (s1, t1))) := by unfold thGo; rw [if_pos H2.out.2.2.2]
        have hE3' : WkE w3 w.heap.size (w.heap.size + 1) (.pointer (some ⟨p, 0, none⟩)) (thGo x (s1, t1)).1 (thGo x (s1, t1)).2 [] := by rw [e]; exact hE3
        have H3 := Lib.hid (And.intro (hE3') (And.intro (hbw3) (hkw3)))
        clear hE3 hE3' hb3 hk3 hbw3 hkw3 e
        go_wp2_with fail
        go_roundg (s.threads.length - (k + 1))
        case measure => omega
        case rel => exact ⟨k + 1, _, _, by omega, rfl, by go_num, ⟨H3.out.1, HX.out.2.2.1, HX.out.2.2.2.1⟩, H3.out.2⟩
      · have dst : (x.state == 1) = false := by simpa using hst
        have e : thGo x (s1, t1) = cm [x.val] (reachL (fsRefs x.frames) (s1, t1)) := by unfold thGo; rw [if_neg hst]
        have hE2' : WkE w2 w.heap.size (w.heap.size + 1) (.pointer (some ⟨p, 0, none⟩)) (thGo x (s1, t1)).1 (thGo x (s1, t1)).2 [] := by rw [e]; exact hE2
        have H3 := Lib.hid (And.intro (hE2') (And.intro (hbw2) (hkw2)))
        clear hbw2 hkw2 hTh2 hE2 hE2' hb2 hk2 hst e e3 e4
        go_wp2_with fail
        go_roundg (s.threads.length - (k + 1))
        case measure => omega
        case rel => exact ⟨k + 1, _, _, by omega, rfl, by go_num, ⟨H3.out.1, HX.out.2.2.1, HX.out.2.2.2.1⟩, H3.out.2⟩
    · have hk2 : s.threads.take k = s.threads := List.take_of_length_le (by omega)
      have h1 := hkeep.out
      rw [hk2] at h1
      have vP := hkp.blk_ HW.out.1 (by decide)
      have u4 := vP.cell 4 (v := .slice EA s.ends.length ec) rfl
      have hWl := h1.1.lt
      have HK := Lib.hid h1; clear h1 hk2 hkeep hbl hkp vP
      go_wp2_with fail
      clear u4
      go_loopg [50] (s.ends.length) (fun gk iv wr => ∃ (k : Nat) (s1 : List Bool) (t1 : List Int), k ≤ s.ends.length ∧ gk = s.ends.length - k ∧ iv = .int .i64 k ∧ Hid (WkE wr w.heap.size (w.heap.size + 1) (.pointer (some ⟨p, 0, none⟩)) s1 t1 [] ∧ Seg s s1 t1 [] ∧ (∀ n : Nat, (n : Int) ∈ s.threads.flatMap thRefs → s1[n]? = some true) ∧ ∀ n : Nat, (n : Int) ∈ ((s.ends.take k).flatMap fun e => rfs [e.fn]) → s1[n]? = some true) ∧ (Below w.heap.size w wr ∧ Kept MW w wr))
      case atStart => exact ⟨0, _, _, Nat.zero_le _, rfl, rfl, ⟨HK.out.1, HK.out.2.1, HK.out.2.2, fun n hn => by simp at hn⟩, HKP.out⟩
      case round =>
        obtain ⟨k, s1, t1, hk, rfl, rfl, hkeep, hbl, hkp⟩ := hrel
        have HKP2 := Lib.hid (And.intro (hbl) (hkp))
        have hbs := hbl.size
        have hrl := hkeep.out.1.lt
        have hrm := hkeep.out.2.1.room hmany
        have hln := hkeep.out.2.1.len
        by_cases hlt : k < s.ends.length
        · obtain ⟨b, o, x, rfl, hb, hx, c0, c1, c2, i0, i1, i2⟩ := (HW.out.2.a5.below (hbl.mono hB)).en_ hlt
          have hxm := List.mem_of_getElem? hx
          have hen := hkeep.out.2.1.comeR HS.out.2.1 (en_roots hxm)
          have hcov : (∀ n : Nat, (n : Int) ∈ s.threads.flatMap thRefs → (cm [x.fn] (s1, t1)).1[n]? = some true) ∧ ∀ n : Nat, (n : Int) ∈ ((s.ends.take (k + 1)).flatMap fun e => rfs [e.fn]) → (cm [x.fn] (s1, t1)).1[n]? = some true := by
            refine ⟨fun n hn => hen.2.1 n (hkeep.out.2.2.1 n hn), fun n hn => ?_⟩
            rw [List.take_add_one, hx, List.flatMap_append, List.mem_append] at hn
            rcases hn with hn | hn
            · exact hen.2.1 n (hkeep.out.2.2.2 n hn)
            · simp at hn; exact hen.2.2 n hn
          have hrf := rightL_roots HS.out.2.1 (en_roots hxm)
          have hk0 : (0 : Int) ≤ (k : Int) := by omega
          have hk1 : (k : Int) < (s.ends.length : Int) := by omega
          have HX := Lib.hid (And.intro (hen.1) (And.intro (hcov) (And.intro (hrf) (And.intro (i1) (i2)))))
          clear hen hcov hrf i0 i1 i2 hx hxm
          go_upto_region 13 with fail
          refine wp_world (fun U => Blk U wr.heap.size 127 #[.int .i64 x.cell, .int .i64 x.fn.1, .int .i64 x.fn.2] ∧ Below wr.heap.size wr U ∧ wr.heap.size + 1 ≤ U.heap.size) ⟨Blk.new _ _ _, (Below.refl _ _).alloc (Nat.le_refl _) _, by simp⟩ ?_
          rintro U ⟨hEn, hbU, hsU⟩
          clear c0 c1 c2
          have d1 := hEn.cell 1 (v := .int .i64 x.fn.1) rfl
          have d2 := hEn.cell 2 (v := .int .i64 x.fn.2) rfl
          have hcn := come_new (w.heap.size + 1) w.heap.size (.pointer (some ⟨p, 0, none⟩)) s1 t1 [] x.fn U (hkeep.out.1.fresh hbU) HX.out.2.2.2.1 HX.out.2.2.2.2 (by rw [hln]; exact HX.out.2.2.1) (by omega) (by omega)
          have hbwU : Below w.heap.size w U := hbl.trans (hbU.mono (by omega))
          have hkU : Kept MW w U := hkp.trans (Kept.fresh hbU)
          have HU := Lib.hid (And.intro (hcn) (And.intro (hbwU) (hkU)))
          clear hcn hEn hbwU hkU hbU hbl hkp hkeep
          go_wp2_with fail
          refine HU.out.1.mono ?_
          rintro ed w1 ⟨rfl, hE1, hb1, hk1⟩
          have H1 := Lib.hid (And.intro (hE1) (And.intro (((HU.out.2.1.alloc (by omega) _).trans hb1)) (((HU.out.2.2.alloc _).trans hk1))))
          clear hE1 hb1 hk1
          go_wp2_with fail
          go_roundg (s.ends.length - (k + 1))
          case measure => omega
          case rel => exact ⟨k + 1, _, _, by omega, rfl, by go_num, ⟨H1.out.1, HX.out.1, HX.out.2.1⟩, H1.out.2⟩
        · have hk2 : s.ends.take k = s.ends := List.take_of_length_le (by omega)
          have h1 := hkeep.out
          rw [hk2] at h1
          have hroots : ∀ n : Nat, (n : Int) ∈ roots s → s1[n]? = some true := fun n hn => by
            rcases List.mem_append.1 hn with hn | hn
            · exact h1.2.2.1 n hn
            · exact h1.2.2.2 n hn
          have hal := all_any (w.heap.size + 1) w.heap.size B p cc sc tc hc ec dc CA SA TA HA EA DA s s1 t1 [] wr HS.out.1 h1.1 h1.2.1 (hkp.blk_ HW.out.1 (by decide)) (HW.out.2.a1.below (hbl.mono hB)) hB
          have HAL := Lib.hid (And.intro (hal) (hroots))
          clear hal hroots h1 hk2 hkeep hbl hkp
          go_wp2_with fail
          refine HAL.out.1.mono ?_
          rintro ed w5 ⟨rfl, ⟨s5, k5, h1, h2, h3, h4⟩, hb5, hk5⟩
          have hb5w := HKP2.out.1.trans hb5
          have hk5w := HKP2.out.2.trans hk5
          have hke := keys_any (w.heap.size + 1) w.heap.size B p cc sc tc hc ec dc CA SA TA HA EA DA s s5 k5 w5 HS.out.1 h1 h2 (fun n hn => h3 n (HAL.out.2 n hn)) (hk5w.blk_ HW.out.1 (by decide)) (HW.out.2.a1.below (hb5w.mono hB)) hB
          have HK5 := Lib.hid (And.intro (hke) (hb5w))
          clear hke hb5w hk5w h1 h2 h3 h4 hb5 hk5
          go_wp2_with fail
          refine HK5.out.1.mono ?_
          rintro ed w6 ⟨rfl, ⟨k6, S, T, K, c, d, e, r1, r2, r3, r4, r5, r6⟩, hb6, hk6⟩
          have hrc := rcB_length s
          rw [hrc] at r1
          have q1 := r1.cell 1 (v := .slice S s.cells.length c) rfl
          have hr1 := r1.lt
          have HO := Lib.hid (And.intro (r2) ((HK5.out.2.trans hb6)))
          clear r1 r2 r3 r4 r5 hb6 hk6 hrc
          go_wp2_with fail
          rw [← HP.out]
          exact ⟨S, c, rfl, HO.out.1, HO.out.2⟩
end Top
end Go.Proofs.YtdlcooplllimeaaGreatDoor

/- reach.Of: what of a state is reached. -/
namespace Go.Proofs.YtdlcooplllimeaaGreatDoor
open Go.RowKit

attribute [local go_sem ↓] Go.wp_at_zero Go.wp_at_succ

namespace Top
def OfPost (pg : Pg) (s : Stt) (w : World) (e : Ending) (w' : World) : Prop :=
  Below w.heap.size w w' ∧ ((∃ r : Int, r ≠ 0 ∧ e = .returned (.tuple #[.slice none 0 0, .int .i64 r])) ∨ (ScOk pg s ∧ SOk s ∧ ∃ A c, e = .returned (.tuple #[.slice A (rising (rcB s)).length c, .int .i64 0]) ∧ Own w' w.heap.size 3 A c (rising (rcB s))))
set_option maxHeartbeats 3200000 in
set_option maxRecDepth 100000 in
theorem of_any (w : World) (B : Nat) (pg : Pg) (s : Stt) (FA KA XA CA SA TA HA EA DA : Option Addr) (fc kc xc cc sc tc hc ec dc : Nat) (hF : At w B FA pg.fns) (hK : At w B KA pg.consts) (hX : At w B XA pg.texts) (hxc : pg.texts.length ≤ xc ∧ xc ≤ maxLen) (h : StP w B s CA SA TA HA EA DA cc sc tc hc ec dc) (hB : B ≤ w.heap.size) (hT : Tabs w) :
    Calls Tryz.prog 7 #[.agg #[.slice FA pg.fns.length fc, .slice KA pg.consts.length kc, .slice XA pg.texts.length xc], .agg #[.slice CA s.cells.length cc, .slice SA s.shapes.length sc, .slice TA s.texts.length tc, .slice HA s.threads.length hc, .slice EA s.ends.length ec, .slice DA s.said.length dc, .int .i64 s.asked, .int .i64 s.steps]] w (OfPost pg s w) := by
  obtain ⟨P, hP⟩ : ∃ P, OfPost pg s w = P := ⟨_, rfl⟩
  have HP := Lib.hid hP; rw [hP]; clear hP
  obtain ⟨i0, hi, hz0, hz1, hz2⟩ := info_parts infoInt
  have H := Lib.hid (And.intro (hF) (And.intro (hK) (And.intro (hX) (And.intro (hxc) (And.intro (h) (hT))))))
  clear hF hK hX hxc h hT
  go_enter Tryz.func7, Tryz.ntmps7
  go_upto_region 1 with fail
  refine wp_world (fun W => Blk W w.heap.size 26 #[.slice FA pg.fns.length fc, .slice KA pg.consts.length kc, .slice XA pg.texts.length xc] ∧ Blk W (w.heap.size + 1) 32 #[.slice CA s.cells.length cc, .slice SA s.shapes.length sc, .slice TA s.texts.length tc, .slice HA s.threads.length hc, .slice EA s.ends.length ec, .slice DA s.said.length dc, .int .i64 s.asked, .int .i64 s.steps] ∧ Below w.heap.size w W ∧ w.heap.size + 2 ≤ W.heap.size) ⟨?_, ?_, ?_, ?_⟩ ?_
  · exact (Blk.new w _ _).fresh ((Below.refl _ _).alloc (Nat.le_refl _) _)
  · have := Blk.new (w.alloc (.cells #[.slice FA pg.fns.length fc, .slice KA pg.consts.length kc, .slice XA pg.texts.length xc] 26)) 32 #[.slice CA s.cells.length cc, .slice SA s.shapes.length sc, .slice TA s.texts.length tc, .slice HA s.threads.length hc, .slice EA s.ends.length ec, .slice DA s.said.length dc, .int .i64 s.asked, .int .i64 s.steps]
    simpa using this
  · exact ((Below.refl _ _).alloc (Nat.le_refl _) _).alloc (by simp) _
  · simp
  rintro W ⟨hPr, hSt, hbW, hsW⟩
  have p0 := hPr.cell 0 (v := .slice FA pg.fns.length fc) rfl
  have p1 := hPr.cell 1 (v := .slice KA pg.consts.length kc) rfl
  have p2 := hPr.cell 2 (v := .slice XA pg.texts.length xc) rfl
  have s0 := hSt.cell 0 (v := .slice CA s.cells.length cc) rfl
  have s1 := hSt.cell 1 (v := .slice SA s.shapes.length sc) rfl
  have s2 := hSt.cell 2 (v := .slice TA s.texts.length tc) rfl
  have s3 := hSt.cell 3 (v := .slice HA s.threads.length hc) rfl
  have s4 := hSt.cell 4 (v := .slice EA s.ends.length ec) rfl
  have s5 := hSt.cell 5 (v := .slice DA s.said.length dc) rfl
  have s6 := hSt.cell 6 (v := .int .i64 s.asked) rfl
  have s7 := hSt.cell 7 (v := .int .i64 s.steps) rfl
  have hck := stCheck_any W B pg s FA KA XA CA SA TA HA EA DA fc kc xc cc sc tc hc ec dc (H.out.1.below (hbW.mono hB)) (H.out.2.1.below (hbW.mono hB)) (H.out.2.2.1.below (hbW.mono hB)) H.out.2.2.2.1 (H.out.2.2.2.2.1.below (hbW.mono hB)) (by omega) (H.out.2.2.2.2.2.fresh hbW)
  have HW := Lib.hid (And.intro (hck) (And.intro (hSt) (hbW)))
  clear hck hPr hSt hbW
  go_wp2_with fail
  refine HW.out.1.mono ?_
  rintro e w1 ⟨r, rfl, hok, hb1⟩
  have hbw1 := HW.out.2.2.trans (hb1.mono (by omega))
  have hs1 := hb1.size
  have H1 := Lib.hid (And.intro (hok) (And.intro (hb1) (hbw1)))
  clear hok hb1 hbw1 p0 p1 p2 s0 s1 s2 s3 s4 s5 s6 s7
  by_cases hr : r = 0
  case neg =>
    have dr : (r != 0) = true := by simpa using hr
    have HE := Lib.hid (And.intro (hr) (H1.out.2.2))
    clear hr
    go_wp2_with fail
    rw [← HP.out]
    exact ⟨HE.out.2, .inl ⟨r, HE.out.1, rfl⟩⟩
  subst hr
  have hsc := H1.out.1 rfl
  have hsp := H.out.2.2.2.2.1.below (H1.out.2.2.mono hB)
  have hso := hsc.sok (st_i64 hsp)
  have hse := seen_any B (w.heap.size + 1) cc sc tc hc ec dc CA SA TA HA EA DA s w1 hso hsc.fr ⟨hsc.th, hsc.cl.1.2.2.2.1⟩ (HW.out.2.1.fresh H1.out.2.1) hsp (by omega)
  have H2 := Lib.hid (And.intro (hse) (And.intro (hsc) (hso)))
  clear hse hsc hso hsp
  go_wp2_with fail
  refine H2.out.1.mono ?_
  rintro e w2 ⟨S, c, rfl, ho2, hb2⟩
  have hrl := rcB_length s
  have hml := H2.out.2.2.many.1
  have hbw2 := H1.out.2.2.trans (hb2.mono (by omega))
  have hs2 := hb2.size
  have hat2 := ho2.at_ (fun _ _ => trivial)
  obtain ⟨l, hl⟩ : ∃ l, rcB s = l := ⟨_, rfl⟩
  rw [hl] at hat2 hrl ho2
  have H3 := Lib.hid (And.intro (hat2) (And.intro (hbw2) (And.intro (hl) (hrl))))
  clear hat2 hbw2 ho2 hb2 hl hrl
  go_wp2_with fail
  obtain ⟨n, hn⟩ : ∃ n, s.cells.length = n := ⟨_, rfl⟩
  have hln : l.length = n := by rw [← hn]; exact H3.out.2.2.2
  rw [hn] at hml ⊢
  have HN := Lib.hid (And.intro hn hln); clear hn hln
  go_loopg [7, 18] (n) (fun gk ov iv wr => ∃ (k : Nat) (A1 : Option Addr) (c1 : Nat), k ≤ n ∧ gk = n - k ∧ iv = .int .i64 k ∧ ov = .slice A1 (rising (l.take k)).length c1 ∧ Hid (Own wr w2.heap.size 3 A1 c1 (rising (l.take k))) ∧ Below w2.heap.size w2 wr)
  case atStart => exact ⟨0, none, 0, Nat.zero_le _, rfl, rfl, rfl, Own.nil_, Below.refl _ _⟩
  case round =>
    obtain ⟨k, A1, c1, hk, rfl, rfl, rfl, hkeep, hbl⟩ := hrel
    have hsz := hbl.size
    by_cases hlt : k < n
    · obtain ⟨b, o, x, rfl, hb, hx, h0⟩ := (H3.out.1.below hbl).bool_ (by have := HN.out.2; omega : k < l.length)
      have hsn := rising_snoc l k x hx
      have hrl : (rising (l.take k)).length ≤ k := by have := rising_length (l.take k); rw [List.length_take] at this; omega
      cases x with
      | false =>
        rw [if_neg (by simp), List.append_nil] at hsn
        have HS := Lib.hid hsn; clear hsn hx
        go_wp2_with fail
        go_roundg (n - (k + 1))
        case measure => omega
        case rel => exact ⟨k + 1, A1, c1, by omega, rfl, by go_num, by rw [HS.out], by unfold Hid; rw [HS.out]; exact hkeep.out, hbl⟩
      | true =>
        rw [if_pos rfl] at hsn
        have HS := Lib.hid hsn; clear hsn hx
        go_wp2_with (at_builtin; go_must (refine wpList_app (α := Int) (m := 1) (B := wr.heap.size + 1) (r := [(k : Int)]) rfl (.tmp 24) (.tmp 26) _ rfl w2.heap.size 3 i0 _ 8 Tryz.underlying34 hi hz0 hz1 hz2 rfl (by decide) int_one (by rfl) rfl (hkeep.out.alloc _) (by rfl) ?_ rfl (by omega) (by simp only [maxLen]; omega) (by simp; omega) ?_))
        · exact At.built wr _ _ [(k : Int)] rfl (by intro z hz; simp at hz; subst hz; exact (by unfold I64; omega : I64 (k : Int)))
        intro A2 c2 w9 hown2 hgr2 hat2
        have hbl2 : Below w2.heap.size w2 w9 := (hbl.alloc hsz _).grown hgr2 (by simp; omega) (fun g hg => (hkeep.out.lt g hg).1)
        have HO2 := Lib.hid hown2; clear hown2
        go_wp2_with fail
        go_roundg (n - (k + 1))
        case measure => omega
        case rel => exact ⟨k + 1, A2, c2, by omega, rfl, by go_num, by rw [HS.out, List.length_append]; rfl, by unfold Hid; rw [HS.out]; exact HO2.out, hbl2⟩
    · have hk2 := hkeep.out
      have hk3 : l.take k = l := List.take_of_length_le (by have := HN.out.2; omega)
      rw [hk3] at hk2 ⊢
      have HK := Lib.hid hk2; clear hk2 hkeep hk3
      go_wp2_with fail
      rw [← HP.out]
      unfold OfPost
      rw [H3.out.2.2.1]
      exact ⟨H3.out.2.1.trans (hbl.mono (by omega)), .inr ⟨H2.out.2.1, H2.out.2.2, A1, c1, rfl, HK.out.base_le (by omega)⟩⟩
end Top
end Go.Proofs.YtdlcooplllimeaaGreatDoor

/- The top laws: the closed fact; the pairs of a state are right, what is live by them is what is reached. -/
namespace Go.Proofs.YtdlcooplllimeaaGreatDoor
open Go.RowKit

attribute [local go_sem ↓] Go.wp_at_zero Go.wp_at_succ

namespace Top
set_option maxRecDepth 100000 in
theorem rBoxed_any (w : World) : Calls Tryz.prog 6 #[] w fun e w' => e = .returned (.bool true) ∧ Below w.heap.size w w' := by
  have hb := box_any 5 3 w (by unfold I64; omega) (by unfold I64; omega)
  have H := Lib.hid hb; clear hb
  go_enter Tryz.func6, Tryz.ntmps6
  go_wp2_with fail
  refine H.out.mono ?_
  rintro e w1 ⟨rfl, hb1⟩
  have hbx : boxL 5 3 = (18445899648779419651, 0) := by decide
  rw [hbx]
  have HB := Lib.hid hb1; clear hb1 hbx
  go_wp2_with fail
  go_returns
  exact ⟨rfl, HB.out⟩
theorem prL_take : ∀ (l : List (Int × Int)) (i : Nat) (k v : Int × Int), l[2 * i]? = some k → l[2 * i + 1]? = some v → prL (l.take (2 * (i + 1))) = prL (l.take (2 * i)) ++ (if k.1 = 5 ∧ v.1 = 5 then [(k.2, v.2)] else [])
  | [], i, k, v, h, _ => by simp at h
  | [x], i, k, v, _, h => by simp at h
  | x :: y :: r, 0, k, v, h1, h2 => by
    simp at h1 h2
    subst h1 h2
    simp [prL]
  | x :: y :: r, i + 1, k, v, h1, h2 => by
    have e1 : 2 * (i + 1) = 2 * i + 1 + 1 := by omega
    have e2 : 2 * (i + 1 + 1) = 2 * (i + 1) + 1 + 1 := by omega
    rw [e1] at h1 h2
    have h1' : r[2 * i]? = some k := by simpa using h1
    have h2' : r[2 * i + 1]? = some v := by simpa using h2
    rw [e2, List.take_succ_cons, List.take_succ_cons, e1, List.take_succ_cons, List.take_succ_cons, ← e1, prL, prL, prL_take r i k v h1' h2', List.append_assoc]
theorem pairsOf_next {s : Stt} {of : List Int} {j n : Nat} {c : Ce} (hx : of[j]? = some (n : Int)) (hc : s.cells[n]? = some c) : pairsOf s (of.take (j + 1)) = pairsOf s (of.take j) ++ cPairs c := by
  unfold pairsOf
  rw [List.take_add_one, hx, List.flatMap_append]
  congr 1
  simp [hc]
theorem prErr_of {has : List (List Int)} {roots : List Int} {pairs : List (Int × Int)} (h1 : has.length ≤ 100) (h2 : roots.length ≤ 100) (h3 : ∀ l ∈ has, l.length ≤ 10) (h4 : Right has) (h5 : RightL has.length roots) (h6 : pairs.length ≤ 50) (h7 : RightP has.length pairs) : prErr has roots pairs = 0 := by
  have hg : grErr has roots = 0 := by
    unfold grErr
    rw [if_neg (by omega), if_neg (by rw [Bool.not_eq_true, List.any_eq_false]; intro l hl; have := h3 l hl; simp; omega), if_pos]
    rw [List.all_cons, Bool.and_eq_true]
    refine ⟨List.all_eq_true.2 fun x hx => ?_, List.all_eq_true.2 fun l hl => List.all_eq_true.2 fun x hx => ?_⟩
    · obtain ⟨k, rfl, hk⟩ := h5 x hx; exact inN_iff.2 ⟨by omega, by omega⟩
    · obtain ⟨k, rfl, hk⟩ := h4 l hl x hx; exact inN_iff.2 ⟨by omega, by omega⟩
  unfold prErr
  rw [if_neg (by rw [hg]; simp), if_neg (by omega), if_pos]
  exact List.all_eq_true.2 fun p hp => by
    obtain ⟨k, v, rfl, hk, hv⟩ := h7 p hp
    rw [Bool.and_eq_true]
    exact ⟨inN_iff.2 ⟨by simp, by simp; omega⟩, inN_iff.2 ⟨by simp, by simp; omega⟩⟩
theorem pairs_right {s : Stt} (h : Okr s) (of : List Int) : RightP s.cells.length (pairsOf s of) := by
  intro p hp
  unfold pairsOf at hp
  obtain ⟨m, -, hp⟩ := List.mem_flatMap.1 hp
  cases hc : s.cells[m.toNat]? with
  | none => rw [hc] at hp; cases hp
  | some c =>
    rw [hc] at hp
    simp only at hp
    unfold cPairs at hp
    split at hp
    · obtain ⟨i, a1, a2⟩ := mem_prL.1 hp
      have hcm := List.mem_of_getElem? hc
      obtain ⟨k, e1, hk⟩ := h.has c hcm p.1 (List.mem_append_left _ (List.mem_of_getElem? a1))
      obtain ⟨v, e2, hv⟩ := h.has c hcm p.2 (List.mem_append_left _ (List.mem_of_getElem? a2))
      exact ⟨k, v, Prod.ext e1 e2, hk, hv⟩
    · cases hp
end Top
end Go.Proofs.YtdlcooplllimeaaGreatDoor
