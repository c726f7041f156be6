/- scan: a register is taken. -/
import Derived.Test.YtljdnadejmkaeaaScan4
import Derived.BigRegion
namespace Go.Proofs.Ytljdnadejmkaeaa
open Go.RowKit Go.Maps

attribute [local go_sem ↓] Go.wp_at_zero Go.wp_at_succ

/-- what a scanner's world keeps -/
structure ScW (w : World) (B base GS ga lc ac oc : Nat) (LA OA : Option Addr) (l at_ : List (Int × Int)) (order : List Nat) : Prop where
  hS : Blk w GS 136 #[.slice LA l.length lc, .slice (some ⟨ga, 0, none⟩) at_.length ac, .slice OA order.length oc]
  hl : At w B LA l
  hB : B ≤ base
  hBw : base ≤ w.heap.size
  ha : Own w base 90 (some ⟨ga, 0, none⟩) ac at_
  hok : ∀ x ∈ at_, Flat.ok x
  ho : Own w base 3 OA oc (ints order)

theorem ScW.below {w w' : World} {B base GS ga lc ac oc : Nat} {LA OA : Option Addr} {l at_ : List (Int × Int)} {order : List Nat} (h : ScW w B base GS ga lc ac oc LA OA l at_ order) (hb : Below w.heap.size w w') : ScW w' B base GS ga lc ac oc LA OA l at_ order :=
  ⟨h.hS.fresh hb, h.hl.below (hb.mono (Nat.le_trans h.hB h.hBw)), h.hB, Nat.le_trans h.hBw hb.size, h.ha.fresh hb, h.hok, h.ho.fresh hb⟩
theorem ints_ok {order : List Nat} {n : Nat} (h : ∀ k ∈ order, k < n) (hn : n ≤ 100000) : ∀ x ∈ ints order, Flat.ok x := by
  intro x hx
  unfold ints at hx
  obtain ⟨k, hk, rfl⟩ := List.mem_map.1 hx
  have := h k hk
  show I64 _
  unfold I64
  omega
theorem pair_ok {l : List (Int × Int)} (hok : ∀ x ∈ l, Flat.ok x) {k : Nat} (hk : k < l.length) : I64 (l.getD k (0, 0)).1 ∧ I64 (l.getD k (0, 0)).2 := by
  rw [List.getD_eq_getElem?_getD, List.getElem?_eq_getElem hk]
  exact hok _ (List.getElem_mem hk)
/-- one half of a pair stored into an owned row of pairs -/
theorem Own.set_fst {w : World} {base : Nat} {e : TypeId} {c : Nat} {l : List (Int × Int)} {g i : Nat} (v : Int) (h : Own w base e (some ⟨g, 0, none⟩) c l) (hi : i < l.length) : Own (w.setCell ⟨g, i * 2, none⟩ (.int .i64 v)) base e (some ⟨g, 0, none⟩) c (l.set i (v, (l.getD i (0, 0)).2)) := by
  have hx := List.getElem?_eq_getElem hi
  have e : l.getD i (0, 0) = l[i] := by rw [List.getD_eq_getElem?_getD, hx]; rfl
  rw [e]
  exact h.set_ (i := i) (j := 0) (x := l[i]) (y := (v, l[i].2)) (u := .int .i64 v) rfl hx (by decide) rfl
theorem Own.set_snd {w : World} {base : Nat} {e : TypeId} {c : Nat} {l : List (Int × Int)} {g i : Nat} (v : Int) (h : Own w base e (some ⟨g, 0, none⟩) c l) (hi : i < l.length) : Own (w.setCell ⟨g, i * 2 + 1, none⟩ (.int .i64 v)) base e (some ⟨g, 0, none⟩) c (l.set i ((l.getD i (0, 0)).1, v)) := by
  have hx := List.getElem?_eq_getElem hi
  have e : l.getD i (0, 0) = l[i] := by rw [List.getD_eq_getElem?_getD, hx]; rfl
  rw [e]
  exact h.set_ (i := i) (j := 1) (x := l[i]) (y := (l[i].1, v)) (u := .int .i64 v) rfl hx (by decide) rfl
theorem Own.pair_cells {w : World} {base : Nat} {e : TypeId} {c : Nat} {l : List (Int × Int)} {g i : Nat} (h : Own w base e (some ⟨g, 0, none⟩) c l) (hi : i < l.length) : w.cell? ⟨g, i * 2, none⟩ = some (.int .i64 (l.getD i (0, 0)).1) ∧ w.cell? ⟨g, i * 2 + 1, none⟩ = some (.int .i64 (l.getD i (0, 0)).2) := by
  have hx := List.getElem?_eq_getElem hi
  have e : l.getD i (0, 0) = l[i] := by rw [List.getD_eq_getElem?_getD, hx]; rfl
  rw [e]
  have h0 := h.cells_ (g := g) (o := 0) rfl (i * 2 + 0) (.int .i64 l[i].1) (flat_get l i 0 _ hx (by decide))
  have h1 := h.cells_ (g := g) (o := 0) rfl (i * 2 + 1) (.int .i64 l[i].2) (flat_get l i 1 _ hx (by decide))
  rw [Nat.zero_add] at h0 h1
  exact ⟨h0, h1⟩
theorem set_ok {l : List (Int × Int)} (hok : ∀ x ∈ l, Flat.ok x) {i : Nat} {y : Int × Int} (hy : Flat.ok y) : ∀ x ∈ l.set i y, Flat.ok x := by
  intro x hx
  rcases List.mem_or_eq_of_mem_set hx with h | h
  · exact hok x h
  · rw [h]; exact hy

theorem ScW.set_ {w w' : World} {B base GS ga lc ac oc : Nat} {LA OA : Option Addr} {l at_ at' : List (Int × Int)} {order : List Nat} (h : ScW w B base GS ga lc ac oc LA OA l at_ order) (hg : w.grownBy w' (some ga)) (ha : Own w' base 90 (some ⟨ga, 0, none⟩) ac at') (hlen : at'.length = at_.length) (hok : ∀ x ∈ at', Flat.ok x) (hty : 90 ≠ 3) (hty2 : 90 ≠ 136) :
    ScW w' B base GS ga lc ac oc LA OA l at' order := by
  have hga := h.ha.lt ga rfl
  have hne : some ga ≠ some GS := fun e => own_ne_ty h.ha h.hS hty2 (by rw [← e]; rfl)
  refine ⟨by rw [hlen]; exact h.hS.grown hg hne, h.hl.below (below_grown hg (Nat.le_trans h.hB hga.1) (Nat.le_trans h.hB h.hBw)), h.hB, Nat.le_trans h.hBw hg.size, ha, hok, h.ho.grown hg (fun g hg' e => ?_)⟩
  exact own_own_ty h.ha h.ho hty g (by rw [← e]; rfl) hg'

theorem ScW.drew_ {w : World} {B base GS ga lc ac oc : Nat} {LA OA : Option Addr} {l at_ : List (Int × Int)} {order : List Nat} (h : ScW w B base GS ga lc ac oc LA OA l at_ order) : ScW w.drew B base GS ga lc ac oc LA OA l at_ order :=
  ⟨h.hS.drew, h.hl.drew, h.hB, h.hBw, h.ha.drew, h.hok, h.ho.drew⟩
theorem Scn.longest_pos {l at_ : List (Int × Int)} {n : Nat} : ∀ {order : List Nat}, n ∈ order → ∃ k : Nat, k ∈ order ∧ Scn.longest l at_ n order = k := by
  intro order hn
  rcases Scn.longest_in (l := l) (at_ := at_) (n := n) order with h | h
  · exfalso
    have mono : ∀ (r : List Nat) (o : Int), 0 ≤ o → 0 ≤ r.foldl (Scn.longStep l at_ n) o := by
      intro r
      induction r with
      | nil => intro o ho; exact ho
      | cons k r ih =>
        intro o ho
        rw [List.foldl_cons]
        refine ih _ ?_
        unfold Scn.longStep
        split
        · exact ho
        · split
          · omega
          · exact ho
    have hit : ∀ (r : List Nat) (o : Int), n ∈ r → 0 ≤ r.foldl (Scn.longStep l at_ n) o := by
      intro r
      induction r with
      | nil => intro o h; cases h
      | cons k r ih =>
        intro o hm
        rw [List.foldl_cons]
        by_cases hk : n = k
        · subst hk
          refine mono r _ ?_
          unfold Scn.longStep
          rw [if_neg (by simp)]
          split <;> omega
        · rcases List.mem_cons.1 hm with h | h
          · exact absurd h hk
          · exact ih _ h
    have := hit order (-1) hn
    unfold Scn.longest at h
    omega
  · exact h

set_option maxHeartbeats 1600000 in
set_option maxRecDepth 100000 in
theorem take_any (B base GS ga lc ac oc : Nat) (LA OA : Option Addr) (l at_ : List (Int × Int)) (order : List Nat) (n : Nat) (regs : Int) (w : World) (h : ScW w B base GS ga lc ac oc LA OA l at_ order)
    (hn : n ∈ order) (hal : at_.length = l.length) (hord : ∀ k ∈ order, k < l.length) (hsz : l.length ≤ 1000) (hol : order.length ≤ 1000) (hr0 : 0 ≤ regs) (hr1 : regs ≤ 100) :
    Calls Try.prog 81 #[.pointer (some ⟨GS, 0, none⟩), .int .i64 n, .int .i64 regs] w fun e w' => e = .returned (.tuple #[]) ∧ ScW w' B base GS ga lc ac oc LA OA l (Scn.takeStep l regs order at_ n) order ∧ Below base w w' := by
  have hnl := hord n hn
  obtain ⟨m, hm⟩ : ∃ m, Scn.mex (Scn.busy l at_ Prod.fst n order) = m := ⟨_, rfl⟩
  have hml : m ≤ 1000 := by rw [← hm]; have := Scn.mex_le (Scn.busy l at_ Prod.fst n order); have := Scn.busy_length l at_ Prod.fst n order; omega
  obtain ⟨at', hat⟩ : ∃ x, Scn.takeStep l regs order at_ n = x := ⟨_, rfl⟩
  rw [hat]
  unfold Scn.takeStep at hat
  rw [hm] at hat
  have hf1 : (Scn.busy l at_ Prod.fst n order).contains (m : Int) = false := by rw [← hm]; exact Scn.mex_free _
  have hf2 : ∀ j, j < m → (Scn.busy l at_ Prod.fst n order).contains (j : Int) = true := by rw [← hm]; exact fun j hj => Scn.mex_lt _ j hj
  have hbz := busy_any w.heap.size GS lc ac oc 120 LA (some ⟨ga, 0, none⟩) OA l at_ order n Prod.fst w h.hS (h.hl.more (Nat.le_trans h.hB h.hBw)) (h.ha.at_ h.hok) (h.ho.at_ (ints_ok hord (by omega))) (Nat.le_refl _) hnl hal hord (by omega) (by omega)
    (fun args w => by rfl) (fun a W => place_1 a W) (fun a h1 _ => h1)
  have H := Lib.hid (And.intro h (And.intro hf1 (And.intro hf2 (And.intro hat (And.intro hord hn))))); clear h hf1 hf2 hat hord hn hm
  have HBZ := Lib.hid hbz; clear hbz
  go_enter Try.func81, Try.ntmps81
  go_wp2_with fail
  refine HBZ.out.mono ?_
  rintro e w1 ⟨rfl, hown, hb1⟩
  have hlst := least_any w.heap.size order.length m (Scn.busy l at_ Prod.fst n order) w1 hown H.out.2.1 H.out.2.2.1 (by omega)
  have HLS := Lib.hid hlst; clear hlst hown
  go_wp2_with fail
  refine HLS.out.mono ?_
  rintro e w2 ⟨rfl, hb2⟩
  have hbw : Below w.heap.size w w2 := hb1.trans (hb2.mono hb1.size)
  have hs2 := H.out.1.below hbw
  have hbase : base ≤ w.heap.size := H.out.1.hBw
  obtain ⟨s0, s1, s2⟩ := hs2.hS.cells3
  obtain ⟨p0, -⟩ := hs2.ha.pair_cells (i := n) (by omega)
  have z0 := hs2.ha.frozen (g := ga) rfl (n * 2)
  have HS := Lib.hid hs2
  clear hs2 hb1 hb2
  have hnn : (n : Int) < (at_.length : Int) := by omega
  by_cases hr : (m : Int) < regs
  · have hat := H.out.2.2.2.1
    unfold Scn.take at hat
    rw [if_pos hr] at hat
    have hset := HS.out.ha.set_fst (m : Int) (by omega : n < at_.length)
    rw [hat] at hset
    have hp := pair_ok HS.out.hok (by omega : n < at_.length)
    have hok' : ∀ x ∈ at', Flat.ok x := by rw [← hat]; exact set_ok HS.out.hok ⟨by unfold I64; omega, hp.2⟩
    have hfin := HS.out.set_ (grownBy_setCell w2 ga (n * 2) (.int .i64 m)) hset (by rw [← hat, List.length_set]) hok' (by decide) (by decide)
    have hga := (HS.out.ha.lt ga rfl).1
    have hbe : Below base w (w2.setCell ⟨ga, n * 2, none⟩ (.int .i64 m)) := (hbw.mono hbase).setCell hga _
    have HF := Lib.hid (And.intro hfin hbe); clear hfin hbe hset hat hok' hp hga
    go_wp2_with fail
    refine bodyPost_ret (results_none rfl _ _ _) rfl ?_
    exact ⟨rfl, HF.out.1, HF.out.2⟩
  · have hlg := longest_any w2.heap.size GS lc ac oc LA (some ⟨ga, 0, none⟩) OA l at_ order n w2 HS.out.hS (HS.out.hl.more (Nat.le_trans HS.out.hB HS.out.hBw)) (HS.out.ha.at_ HS.out.hok) (HS.out.ho.at_ (ints_ok H.out.2.2.2.2.1 (by omega))) (Nat.le_refl _) hnl hal H.out.2.2.2.2.1 (by omega) (by omega)
    have hat := H.out.2.2.2.1
    unfold Scn.take at hat
    rw [if_neg hr] at hat
    obtain ⟨kk, hkk⟩ : ∃ k, Scn.longest l at_ n order = k := ⟨_, rfl⟩
    rw [hkk] at hlg hat
    have hin := Scn.longest_pos (l := l) (at_ := at_) H.out.2.2.2.2.2
    rw [hkk] at hin
    obtain ⟨k, hko, rfl⟩ := hin
    have hkl := H.out.2.2.2.2.1 k hko
    have HLG := Lib.hid (And.intro hlg hat); clear hlg hat hkk
    go_wp2_with fail
    refine HLG.out.1.mono ?_
    rintro e w3 ⟨rfl, hb3⟩
    have hs3 := HS.out.below hb3
    have hbw3 : Below w.heap.size w w3 := hbw.trans (hb3.mono hbw.size)
    clear s0 s1 s2 p0 z0
    by_cases hkn : k = n
    · have hat := HLG.out.2
      rw [if_pos (by rw [hkn])] at hat
      subst hat
      have hne : ((k : Int) != (n : Int)) = false := by simp [hkn]
      have HF := Lib.hid hs3; clear hs3 hkn
      go_wp2_with fail
      go_end0
      exact ⟨rfl, HF.out, hbw3.mono hbase⟩
    · have hat := HLG.out.2
      rw [if_neg (by omega), Int.toNat_natCast] at hat
      have hne : ((k : Int) != (n : Int)) = true := by simp; omega
      obtain ⟨s0, s1, s2⟩ := hs3.hS.cells3
      obtain ⟨p0, -⟩ := hs3.ha.pair_cells (i := n) (by omega)
      obtain ⟨q0, -⟩ := hs3.ha.pair_cells (i := k) (by omega)
      have z0 := hs3.ha.frozen (g := ga) rfl (n * 2)
      have hokk := pair_ok hs3.hok (by omega : k < at_.length)
      have hokn := pair_ok hs3.hok (by omega : n < at_.length)
      obtain ⟨v, hv⟩ : ∃ v, (at_.getD k (0, 0)).1 = v := ⟨_, rfl⟩
      rw [hv] at q0 hat hokk
      have h1 := hs3.ha.set_fst v (by omega : n < at_.length)
      have h2 := h1.set_fst (i := k) (-1) (by rw [List.length_set]; omega)
      have hgk : (at_.set n (v, (at_.getD n (0, 0)).2)).getD k (0, 0) = at_.getD k (0, 0) := by
        rw [List.getD_eq_getElem?_getD, List.getElem?_set_ne (by omega), List.getD_eq_getElem?_getD]
      have q1 := (h1.pair_cells (i := k) (by rw [List.length_set]; omega)).1
      rw [hgk, hv] at q1
      have z1 := h1.frozen (g := ga) rfl (k * 2)
      rw [hgk, hat] at h2
      have hg2 : w3.grownBy ((w3.setCell ⟨ga, n * 2, none⟩ (.int .i64 v)).setCell ⟨ga, k * 2, none⟩ (.int .i64 (-1))) (some ga) := (grownBy_setCell _ _ _ _).trans (grownBy_setCell _ _ _ _)
      have hok' : ∀ x ∈ at', Flat.ok x := by
        rw [← hat]
        exact set_ok (y := (-1, (at_.getD k (0, 0)).2)) (set_ok (y := (v, (at_.getD n (0, 0)).2)) hs3.hok ⟨hokk.1, hokn.2⟩) ⟨by show I64 (-1); unfold I64; omega, hokk.2⟩
      have hfin := hs3.set_ hg2 h2 (by rw [← hat, List.length_set, List.length_set]) hok' (by decide) (by decide)
      have hga := (hs3.ha.lt ga rfl).1
      have hgs : GS ≠ ga := fun e => own_ne_ty hs3.ha hs3.hS (by decide) (by rw [e]; rfl)
      have t1 : (w3.setCell ⟨ga, n * 2, none⟩ (.int .i64 v)).cell? ⟨GS, 1, none⟩ = some (.slice (some ⟨ga, 0, none⟩) at_.length ac) := (World.cell?_setCell_other _ _ _ _ (by intro e; simp only [Addr.mk.injEq] at e; omega)).trans s1
      have hbe : Below base w ((w3.setCell ⟨ga, n * 2, none⟩ (.int .i64 v)).setCell ⟨ga, k * 2, none⟩ (.int .i64 (-1))) := ((hbw3.mono hbase).setCell hga _).setCell hga _
      have HF := Lib.hid (And.intro hfin hbe); clear hfin hbe h1 h2 hat hok' hga hgs hg2 hgk hokk hokn hs3 hkn
      have hkl2 : (k : Int) < (at_.length : Int) := by omega
      go_wp2_with fail
      go_region
      go_wp2_with fail
      go_end0
      exact ⟨rfl, ScW.drew_ HF.out.1, HF.out.2.drew⟩

end Go.Proofs.Ytljdnadejmkaeaa
