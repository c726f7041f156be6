/- KT: Weak7. -/
import Derived.Test.YtdlcooplllimeaaGreatDoorKT15
import Derived.Test.YtdlcooplllimeaaGreatDoorKT25
/- weak.live: what is live, by pairs. -/
namespace Go.Proofs.YtdlcooplllimeaaGreatDoor
open Go.RowKit

theorem reach_new (R base k gl : Nat) (hv rv : Value) (seen : List Bool) (todo : List Int) (w : World) (hgl : gl = w.heap.size) (h : Rch w base R hv rv seen todo) (hk : k < seen.length) (hll : todo.length ≤ 100000) (hsl : seen.length ≤ 1000000) :
    Calls Tryz.prog 61 #[.pointer (some ⟨R, 0, none⟩), .slice (some ⟨gl, 0, none⟩) 1 1] (w.alloc (.cells #[.int .i64 k] 3)) fun e w' => e = .returned (.tuple #[]) ∧ Rch w' base R hv rv (reach1 (seen, todo) k).1 (reach1 (seen, todo) k).2 ∧ Below base w w' := by
  subst hgl
  have hlt := h.lt
  obtain ⟨S, T, c, d, h1, h2, h3, h4⟩ := h
  have hRl := h1.lt
  have hat := At.built w #[.int .i64 (k : Int)] 3 [(k : Int)] rfl (by intro z hz; simp at hz; subst hz; exact (by unfold I64; omega : I64 (k : Int)))
  refine (reach_core R base (w.heap.size + 1) c d 1 (some ⟨w.heap.size, 0, none⟩) S T hv rv seen todo [(k : Int)] (w.alloc (.cells #[.int .i64 k] 3)) (h1.alloc _) (h2.alloc _) (h3.alloc _) h4 (by simp; omega) hat (by simp) (fun _ g hg => ?_) (fun x hx => by simp at hx; exact ⟨k, hx, hk⟩) (by simp; omega) (by omega)).mono fun e w' ⟨he, hr, hb⟩ => ⟨he, hr, ((Below.refl _ _).alloc (by omega) _).trans hb⟩
  injection hg with hg
  simp only at hg
  subst hg
  exact ⟨by omega, fun e => by have := (h2.lt _ e).2; omega, fun e => by have := (h3.lt _ e).2; omega⟩

theorem Rch.drewN {w : World} {base R : Nat} {hv rv : Value} {seen : List Bool} {todo : List Int} (h : Rch w base R hv rv seen todo) (n : Nat) : Rch (w.drewN n) base R hv rv seen todo := by
  obtain ⟨S, T, c, d, h1, h2, h3, h4⟩ := h
  exact ⟨S, T, c, d, h1.drewN n, h2.drewN n, h3.drewN n, h4⟩
def LivePost (has : List (List Int)) (roots : List Int) (pairs : List (Int × Int)) (w : World) (e : Ending) (w' : World) : Prop :=
  Below w.heap.size w w' ∧ ((prErr has roots pairs = 0 ∧ ∃ S c, e = .returned (.tuple #[.slice S has.length c, .int .i64 0]) ∧ Own w' w.heap.size 4 S c (fromL has roots pairs)) ∨
    (prErr has roots pairs ≠ 0 ∧ e = .returned (.tuple #[.slice none 0 0, .int .i64 (prErr has roots pairs)])))

/-- what the loop over pairs keeps -/
def LSt (has : List (List Int)) (src : List Int) (pairs : List (Int × Int)) (s1 : List Bool) (s : List Bool) (t : List Int) (m : Bool) : Prop :=
  Inv has src pairs [] s t ∧ Grows s1 s ∧ (m = false → s = s1 ∧ t = []) ∧ 2 * unseen s + t.length + (if m = true then 1 else 0) ≤ 2 * unseen s1

set_option maxHeartbeats 3200000 in
set_option maxRecDepth 100000 in
theorem live_any (B hc rc pc : Nat) (HA RA PA : Option Addr) (has : List (List Int)) (roots : List Int) (pairs : List (Int × Int)) (w : World) (hh : At w B HA has) (hr : At w B RA roots) (hp : At w B PA pairs) (hB : B ≤ w.heap.size) (hl : has.length ≤ 9223372036854775807) (hrl : roots.length ≤ 9223372036854775807) (hpl : pairs.length ≤ 9223372036854775807) (hrc : roots.length ≤ rc ∧ rc ≤ maxLen) :
    Calls Tryz.prog 24 #[.agg #[.slice HA has.length hc, .slice RA roots.length rc], .slice PA pairs.length pc] w (LivePost has roots pairs w) := by
  have hmk0 : has.length ≤ 100 → ∀ w, (Instr.makeSlice 76 (.int .i64 (has.length : Int)) (.int .i64 (has.length : Int))).run Tryz.prog w = .ok (.slice (some ⟨w.heap.size, 0, none⟩) has.length has.length) (w.alloc (.cells (madeCells #[.bool false] has.length) 4)) := fun h => Go.run_make_row' (P := Tryz.prog) 76 4 (.bool false) 1 Tryz.underlying76 infoBool rfl .i64 .i64 has.length (by omega) (by omega)
  have HMK := Lib.hid hmk0; clear hmk0
  have HH := Lib.hid (And.intro hh (And.intro hr hp)); clear hh hr hp
  go_enter Tryz.func24, Tryz.ntmps24
  go_wp2_with fail
  refine calls_world (fun W => Blk W w.heap.size 40 #[.slice HA has.length hc, .slice RA roots.length rc] ∧ Below w.heap.size w W ∧ w.heap.size + 1 ≤ W.heap.size) ⟨Blk.new _ _ _, (Below.refl _ _).alloc (Nat.le_refl _) _, by simp⟩ ?_
  rintro W ⟨hG, hb0, hs0⟩
  refine (wcheck_any B hc rc HA RA has roots W (HH.out.1.below (hb0.mono hB)) (HH.out.2.1.below (hb0.mono hB)) (by omega) hl hrl hrc).mono ?_
  rintro e w1 ⟨rfl, hb1⟩
  have hbl1 := hb0.trans (hb1.mono (by omega))
  have hs1 := hb1.size
  obtain ⟨ge, hge⟩ : ∃ ge, grErr has roots = ge := ⟨_, rfl⟩
  rw [hge]
  by_cases h0 : ge = 0
  rotate_left
  · have he := prErr_graph (pairs := pairs) (show grErr has roots ≠ 0 by rw [hge]; exact h0)
    have hne : (ge != 0) = true := by simp [h0]
    have HE := Lib.hid (And.intro (he.trans hge) h0); clear he hge h0 hG
    go_wp2_with fail
    go_ret2
    exact ⟨hbl1, .inr (by rw [HE.out.1]; exact ⟨HE.out.2, rfl⟩)⟩
  subst h0
  by_cases h50 : 50 < pairs.length
  · have he := prErr_large hge h50
    have HE := Lib.hid he; clear he hge hG
    go_wp2_with fail
    go_ret2
    exact ⟨hbl1, .inr (by rw [HE.out]; exact ⟨by decide, rfl⟩)⟩
  have hform := prErr_form hge h50
  obtain ⟨gl, grl, ghl, gright, gsrc⟩ := grErr_ok hge
  have hst := fromL_start pairs gsrc
  have HF := Lib.hid (And.intro hform (And.intro (hG.fresh hb1) (And.intro gright (And.intro gsrc (And.intro ghl (And.intro hst hge)))))); clear hform hge hG gright gsrc ghl hst
  go_wp2_with fail
  go_loopw [23] (fun i wr => ∃ j : Nat, j ≤ pairs.length ∧ i = .int .i64 j ∧ Hid ((pairs.take j).all (fun p => inN has.length p.1 && inN has.length p.2) = true ∧ Blk wr w.heap.size 40 #[.slice HA has.length hc, .slice RA roots.length rc]) ∧ Below w.heap.size w wr ∧ w.heap.size + 1 ≤ wr.heap.size) (fun i _ => pairs.length - (intOf i).toNat)
  case atStart => exact ⟨0, Nat.zero_le _, rfl, ⟨rfl, HF.out.2.1⟩, hbl1, by omega⟩
  case round =>
    obtain ⟨j, hj, rfl, hin, hbl, hsz⟩ := hrel
    by_cases hjt : j < pairs.length
    · obtain ⟨b, o, x, y, rfl, hb, hx, -, -, c0, c1⟩ := (HH.out.2.2.below (hbl.mono hB)).pair hjt
      have g0 := hin.out.2.cell 0 (v := .slice HA has.length hc) rfl
      have hlt0 : w.heap.size < wr.heap.size := by omega
      have hal := hin.out.2.alloc (.cells #[.int .i64 x, .int .i64 y] 50)
      have hix := fun w => in_any x has.length w
      have hiy := fun w => in_any y has.length w
      have HI := Lib.hid (And.intro hix hiy); clear hix hiy
      cases hqx : inN has.length x with
      | false =>
        have he : prErr has roots pairs = 3 := by rw [HF.out.1, if_neg]; rw [Bool.not_eq_true]; exact all_stop _ _ j _ hx (by simp [hqx])
        have HE := Lib.hid (And.intro he hqx); clear he hx hqx hal hin
        go_wp2_with (go_at_call 60; refine (HI.out.1 _).mono ?_; rintro e w9 ⟨rfl, rfl⟩; rw [HE.out.2])
        go_ret2
        exact ⟨hbl.alloc (by omega) _, .inr (by rw [HE.out.1]; exact ⟨by decide, rfl⟩)⟩
      | true =>
        have HQ := Lib.hid hqx; clear hqx
        go_wp2_with fail
        refine (HI.out.1 _).mono ?_
        rintro e w9 ⟨rfl, rfl⟩
        rw [HQ.out]
        cases hqy : inN has.length y with
        | false =>
          have he : prErr has roots pairs = 3 := by rw [HF.out.1, if_neg]; rw [Bool.not_eq_true]; exact all_stop _ _ j _ hx (by simp [hqy])
          have HE := Lib.hid (And.intro he hqy); clear he hx hqy hal hin
          go_wp2_with (go_at_call 60; refine (HI.out.2 _).mono ?_; rintro e w9 ⟨rfl, rfl⟩; rw [HE.out.2])
          go_ret2
          exact ⟨hbl.alloc (by omega) _, .inr (by rw [HE.out.1]; exact ⟨by decide, rfl⟩)⟩
        | true =>
          have HX := Lib.hid (And.intro hx (And.intro hqy (And.intro hin.out.1 hal))); clear hx hqy hal hin
          go_wp2_with (go_at_call 60; refine (HI.out.2 _).mono ?_; rintro e w9 ⟨rfl, rfl⟩; rw [HX.out.2.1])
          go_roundw
          case rel => exact ⟨j + 1, by omega, by go_num, ⟨by rw [all_snoc _ _ _ _ HX.out.1, HX.out.2.2.1]; simp [HX.out.2.1, HQ.out], HX.out.2.2.2⟩, hbl.alloc (by omega) _, by simp; omega⟩
          case measure => simp [intOf]; omega
    · have hin2 := hin.out.1
      rw [List.take_of_length_le (by omega)] at hin2
      have he : prErr has roots pairs = 0 := by rw [HF.out.1, if_pos hin2]
      have hpr := (prErr_ok he).2.2
      have g0 := hin.out.2.cell 0 (v := .slice HA has.length hc) rfl
      have g1 := hin.out.2.cell 1 (v := .slice RA roots.length rc) rfl
      have hlt0 : w.heap.size < wr.heap.size := by omega
      have HE := Lib.hid (And.intro he (And.intro hin.out.2 hpr)); clear he hin2 hin hpr
      have hmk := HMK.out gl
      go_wp2_with fail
      go_region_held3 (fun w' => w'.cell? ⟨w.heap.size, 0, none⟩ = some (.slice HA has.length hc) ∧ w'.cell? ⟨w.heap.size, 1, none⟩ = some (.slice RA roots.length rc)) (go_keep) (fail)
      go_wp2_with fail
      refine calls_world (fun V => Rch V wr.heap.size (wr.heap.size + 1) (.slice HA has.length hc) (.slice RA roots.length rc) (List.replicate has.length false) [] ∧ Below w.heap.size w V) ⟨?_, ?_⟩ ?_
      · have o1 := own_made wr wr.heap.size 4 has.length (Nat.le_refl _) (by simp only [maxLen]; omega)
        refine ⟨some ⟨wr.heap.size, 0, none⟩, none, has.length, 0, ?_, (o1.alloc _).drew, Own.nil_, by omega⟩
        rw [List.length_replicate]
        exact (Blk.at_ (wr.alloc _) _ _ (by simp)).drew
      · exact ((hbl.alloc (by omega) _).alloc (by simp; omega) _).drew
      clear g0 g1 hmk
      rintro V ⟨hR, hbV⟩
      have hsV := hR.lt
      refine (reach_old (wr.heap.size + 1) wr.heap.size B rc RA _ _ (List.replicate has.length false) [] roots V hR (HH.out.2.1.below (hbV.mono hB)) (by omega) (by rw [List.length_replicate]; exact HF.out.2.2.2.1) (by simp; omega) (by simp; omega)).mono ?_
      rintro e w2 ⟨rfl, hR1, hb2⟩
      have hbl2 := hbV.trans (hb2.mono (by omega))
      obtain ⟨s1, t1, hst⟩ : ∃ s1 t1, reachL roots (List.replicate has.length false, []) = (s1, t1) := ⟨_, _, rfl⟩
      have hH := HF.out.2.2.2.2.2.1
      rw [hst] at hR1 hH
      have htl : t1.length ≤ 2 * has.length := hH.2.2
      have H1 := Lib.hid (And.intro hR1 hH); clear hR1 hH hR hst
      go_wp2_with fail
      obtain ⟨wb, hwb⟩ : ∃ wb, wb = wr.heap.size := ⟨_, rfl⟩
      rw [← hwb] at H1 hsV ⊢
      have hwb2 : w.heap.size + 1 ≤ wb := by omega
      clear hwb
      go_loopg [10] (2 * unseen s1 + t1.length + 1) (fun gk mv wi => ∃ (s : List Bool) (t : List Int) (m : Bool), mv = .bool m ∧ gk = (if m = true then 2 * unseen s + t.length + 1 else 0) ∧ t.length ≤ 2 * has.length ∧ Hid (Rch wi wb (wb + 1) (.slice HA has.length hc) (.slice RA roots.length rc) s t ∧ Inv has roots pairs [] s t ∧ (∀ n : Nat, (n : Int) ∈ roots → s[n]? = some true) ∧ (m = false → t = [] ∧ PClosed pairs s s pairs.length)) ∧ Below w.heap.size w wi)
      case atStart => exact ⟨s1, t1, true, rfl, by simp, htl, ⟨H1.out.1, H1.out.2.1, H1.out.2.2.1, fun h => by cases h⟩, hbl2⟩
      case round =>
        obtain ⟨s, t, m, rfl, rfl, htl, hkeep, hbl⟩ := hrel
        cases m with
        | false =>
          obtain ⟨rfl, hpc⟩ := hkeep.out.2.2.2 rfl
          have hfin := hkeep.out.2.1.done hkeep.out.2.2.1 (fun k v h1 h2 => hpc k v h1 (by rw [List.take_length]; exact h2))
          have hsl := hkeep.out.2.1.len
          obtain ⟨S, T, c, d, r1, r2, r3, r4⟩ := hkeep.out.1
          rw [hsl] at r1
          rw [hfin] at r2
          have q2 := r1.cell 2 (v := .slice S has.length c) rfl
          have HO := Lib.hid r2
          clear r1 r2 r3 hfin hpc hkeep
          go_wp2_with fail
          go_ret2
          exact ⟨hbl, .inl ⟨HE.out.1, S, c, rfl, HO.out.base_le (by omega)⟩⟩
        | true =>
          have hun := unseen_le s
          have hsl := hkeep.out.2.1.len
          go_wp2_with fail
          refine (reachAll_any (wb + 1) wb B hc rc has.length roots.length HA RA has roots pairs s t wr hkeep.out.1 (HH.out.1.below (hbl.mono hB)) (by omega) HF.out.2.2.1 hkeep.out.2.1 (by omega) (by omega) (fun l hl => by have := HF.out.2.2.2.2.1 l hl; omega)).mono ?_
          rintro e w3 ⟨rfl, ⟨s2, hR2, hI2, hG2⟩, hb3⟩
          have hbl3 := hbl.trans (hb3.mono (by omega))
          have hug := unseen_grows (by rw [hsl, hI2.len]) hG2
          have hs2l := hI2.len
          have hsrc2 : ∀ n : Nat, (n : Int) ∈ roots → s2[n]? = some true := fun n hn => hG2 n (hkeep.out.2.2.1 n hn)
          have HK := Lib.hid (And.intro hR2 (And.intro hI2 hsrc2)); clear hR2 hI2 hsrc2 hG2 hkeep
          go_wp2_with fail
          go_loopg [10, 60] (pairs.length) (fun gj mv jv wj => ∃ (j : Nat) (s' : List Bool) (t' : List Int) (m' : Bool), j ≤ pairs.length ∧ gj = pairs.length - j ∧ jv = .int .i64 j ∧ mv = .bool m' ∧ s'.length = has.length ∧ Hid (Rch wj wb (wb + 1) (.slice HA has.length hc) (.slice RA roots.length rc) s' t' ∧ LSt has roots pairs s2 s' t' m' ∧ PClosed pairs s2 s' j) ∧ Below w.heap.size w wj)
          case atStart => exact ⟨0, s2, [], false, Nat.zero_le _, rfl, rfl, rfl, hs2l, ⟨HK.out.1, ⟨HK.out.2.1, Grows.refl _, fun _ => ⟨rfl, rfl⟩, by simp⟩, PClosed.zero _ _ _⟩, hbl3⟩
          case round =>
            obtain ⟨j, s4, t4, m4, hj, rfl, rfl, rfl, hs4l, hkeep, hbl4⟩ := hrel
            have hsz4 := hbl4.size
            have hwb4 := hkeep.out.1.lt
            have hme := hkeep.out.2.1.2.2.2
            have hun2 := unseen_le s2
            by_cases hjt : j < pairs.length
            · obtain ⟨b', o', x, y, rfl, hb', hx, -, -, g0, g1⟩ := (HH.out.2.2.below (hbl4.mono hB)).pair hjt
              obtain ⟨p, q, hpq, hp, hq⟩ := HE.out.2.2 _ (List.mem_of_getElem? hx)
              injection hpq with e1 e2; subst e1 e2
              obtain ⟨u, hu⟩ : ∃ v, s4[p]? = some v := ⟨_, List.getElem?_eq_getElem (by omega)⟩
              obtain ⟨v, hv⟩ : ∃ v, s4[q]? = some v := ⟨_, List.getElem?_eq_getElem (by omega)⟩
              have hcl := hkeep.out.1
              obtain ⟨S, T, c, d, r1, r2, r3, r4⟩ := hcl
              obtain ⟨g, rfl, hg1, hg2⟩ := r2.some_ (by omega)
              have hRlt := r1.lt
              have v0 := r1.cell 2 (v := .slice (some ⟨g, 0, none⟩) s4.length c) rfl
              have v1 := r2.cell_bool hu
              have v2 := r2.cell_bool hv
              have p0 : (0 : Int) ≤ (p : Int) := by omega
              have p1 : (p : Int) < (s4.length : Int) := by omega
              have q0 : (0 : Int) ≤ (q : Int) := by omega
              have q1 : (q : Int) < (s4.length : Int) := by omega
              have hRa : Rch (wr.alloc (.cells #[.int .i64 p, .int .i64 q] 50)) wb (wb + 1) (.slice HA has.length hc) (.slice RA roots.length rc) s4 t4 := ⟨some ⟨g, 0, none⟩, T, c, d, r1.alloc _, r2.alloc _, r3.alloc _, r4⟩
              have hq4 : q < s4.length := by omega
              have htl4 : t4.length ≤ 100000 := by split at hme <;> omega
              by_cases hgo : u = true ∧ v = false
              · obtain ⟨rfl, rfl⟩ := hgo
                have hi4 := hkeep.out.2.1.1
                obtain ⟨i1, i2, i3, i4⟩ := hi4.reach1 (st := (s4, t4)) hq (.pair (hi4.sound p hu) (List.mem_of_getElem? hx))
                have hr1 : reach1 (s4, t4) (q : Int) = (s4.set q true, t4 ++ [(q : Int)]) := by unfold reach1; rw [if_neg (by rw [Int.toNat_natCast, getD_true, hv]; simp), Int.toNat_natCast]
                have hus := unseen_set hv
                have hreach := fun nq => reach_new (wb + 1) wb q (wr.heap.size + 1) _ _ s4 t4 _ (by simp) (hRa.drewN nq) hq4 htl4 (by omega)
                rw [hr1] at hreach i1 i2 i3
                have h1 : m4 = false → t4 = [] ∧ s4 = s2 := fun h => ⟨(hkeep.out.2.1.2.2.1 h).2, (hkeep.out.2.1.2.2.1 h).1⟩
                have hme2 : 2 * unseen (s4.set q true) + (t4 ++ [(q : Int)]).length + 1 ≤ 2 * unseen s2 := by
                  rw [List.length_append, List.length_singleton]
                  cases m4 with
                  | false => obtain ⟨rfl, rfl⟩ := h1 rfl; simp; omega
                  | true => simp at hme; omega
                have hlst : LSt has roots pairs s2 (s4.set q true) (t4 ++ [(q : Int)]) true := ⟨i1, hkeep.out.2.1.2.1.trans i2, fun h => (by cases h), by simpa using hme2⟩
                have hpc := (hkeep.out.2.2.grow i2).next hx (fun _ => i3)
                have HR := Lib.hid (And.intro hreach (And.intro hlst hpc))
                clear hreach hlst hpc i1 i2 i3 i4 hr1 hi4 hRa hx hu hv r1 r2 r3 hkeep hus hme h1 hme2
                go_wp2_with fail
                go_quiet (fail)
                go_wp2_with fail
                refine (HR.out.1 _).mono ?_
                rintro e w9 ⟨rfl, hR9, hb9⟩
                have hbl9 : Below w.heap.size w w9 := (below_drewN (hbl4.alloc (by omega) _) _).trans (hb9.mono (by omega))
                have H9 := Lib.hid hR9; clear hR9
                go_wp2_with fail
                go_roundg (pairs.length - (j + 1))
                case measure => omega
                case rel => exact ⟨j + 1, _, _, true, by omega, rfl, by go_num, rfl, by rw [List.length_set]; exact hs4l, ⟨H9.out, HR.out.2⟩, hbl9⟩
              · have hpc := hkeep.out.2.2.next hx (fun h => by
                  have h2 := hkeep.out.2.1.2.1 p h
                  rw [hu] at h2; injection h2 with h2; subst h2
                  cases v with
                  | false => exact absurd ⟨rfl, rfl⟩ hgo
                  | true => exact hv)
                have HR := Lib.hid (And.intro hRa (And.intro hkeep.out.2.1 hpc))
                cases u with
                | false =>
                  clear hpc hRa hx hu hv r1 r2 r3 hkeep hme
                  go_wp2_with fail
                  go_quiet (fail)
                  go_wp2_with fail
                  go_roundg (pairs.length - (j + 1))
                  case measure => omega
                  case rel => exact ⟨j + 1, s4, t4, m4, by omega, rfl, by go_num, rfl, hs4l, ⟨HR.out.1.drewN _, HR.out.2⟩, below_drewN (hbl4.alloc (by omega) _) _⟩
                | true =>
                  cases v with
                  | false => exact absurd ⟨rfl, rfl⟩ hgo
                  | true =>
                    clear hpc hRa hx hu hv r1 r2 r3 hkeep hme
                    go_wp2_with fail
                    go_quiet (fail)
                    go_wp2_with fail
                    go_roundg (pairs.length - (j + 1))
                    case measure => omega
                    case rel => exact ⟨j + 1, s4, t4, m4, by omega, rfl, by go_num, rfl, hs4l, ⟨HR.out.1.drewN _, HR.out.2⟩, below_drewN (hbl4.alloc (by omega) _) _⟩
            · obtain rfl : j = pairs.length := by omega
              have HR := Lib.hid hkeep.out; clear hkeep
              go_wp2_with fail
              go_roundg (if m4 = true then 2 * unseen s4 + t4.length + 1 else 0)
              case measure => cases m4 <;> simp at hme ⊢ <;> omega
              case rel => exact ⟨s4, t4, m4, rfl, rfl, by split at hme <;> omega, ⟨HR.out.1, HR.out.2.1.1, fun n hn => HR.out.2.1.2.1 n (HK.out.2.2 n hn), fun h => ⟨(HR.out.2.1.2.2.1 h).2, by have e := (HR.out.2.1.2.2.1 h).1; have := HR.out.2.2; rw [← e] at this; exact this⟩⟩, hbl4⟩

end Go.Proofs.YtdlcooplllimeaaGreatDoor
