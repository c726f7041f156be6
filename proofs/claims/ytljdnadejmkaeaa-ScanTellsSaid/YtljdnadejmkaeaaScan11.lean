/- R.Scanned. -/
import Derived.Test.YtljdnadejmkaeaaScan10
import Derived.Test.YtljdnadejmkaeaaScan5
import Derived.Test.YtljdnadejmkaeaaScanR
import Derived.Test.YtljdnadejmkaeaaHasA
import Derived.Deep.CutRange
namespace Go.Proofs.Ytljdnadejmkaeaa
open Go.RowKit

attribute [local go_sem ↓] Go.wp_at_zero Go.wp_at_succ

/-- what the reference's world keeps -/
structure RcW (w : World) (B base S0 ac oc : Nat) (LA AA OA : Option Addr) (l at_ : List (Int × Int)) (order : List Nat) : Prop where
  hl : At w B LA l
  hB : B ≤ base
  hBS : base ≤ S0
  hSw : S0 ≤ w.heap.size
  ha : Own w base 90 AA ac at_
  hok : ∀ x ∈ at_, Flat.ok x
  ho : Own w base 3 OA oc (ints order)
  hoS : ∀ g, rowOf OA = some g → g < S0

theorem RcW.below {w w' : World} {B base S0 ac oc : Nat} {LA AA OA : Option Addr} {l at_ : List (Int × Int)} {order : List Nat} (h : RcW w B base S0 ac oc LA AA OA l at_ order) (hb : Below w.heap.size w w') : RcW w' B base S0 ac oc LA AA OA l at_ order :=
  ⟨h.hl.below (hb.mono (by have := h.hB; have := h.hBS; have := h.hSw; omega)), h.hB, h.hBS, Nat.le_trans h.hSw hb.size, h.ha.fresh hb, h.hok, h.ho.fresh hb, h.hoS⟩
theorem RcW.drew_ {w : World} {B base S0 ac oc : Nat} {LA AA OA : Option Addr} {l at_ : List (Int × Int)} {order : List Nat} (h : RcW w B base S0 ac oc LA AA OA l at_ order) : RcW w.drew B base S0 ac oc LA AA OA l at_ order :=
  ⟨h.hl.drew, h.hB, h.hBS, h.hSw, h.ha.drew, h.hok, h.ho.drew, h.hoS⟩
/-- a row of ints of its own grows -/
theorem RcW.grown {w w' : World} {B base S0 ac oc : Nat} {LA AA OA : Option Addr} {l at_ : List (Int × Int)} {order : List Nat} (h : RcW w B base S0 ac oc LA AA OA l at_ order) {MA : Option Addr} {mc : Nat} {ml : List Int} (hm : Own w S0 3 MA mc ml) (hg : w.grownBy w' (rowOf MA)) (hty : 3 ≠ 90) : RcW w' B base S0 ac oc LA AA OA l at_ order :=
  ⟨h.hl.below ((Below.refl _ _).grown hg (by have := h.hB; have := h.hBS; have := h.hSw; omega) (fun g hg' => by have := (hm.lt g hg').1; have := h.hB; have := h.hBS; omega)), h.hB, h.hBS, Nat.le_trans h.hSw hg.size,
    h.ha.grown hg (fun g hg' e => own_own_ty hm h.ha hty g e hg'), h.hok, h.ho.grown hg (fun g hg' e => by have := h.hoS g hg'; have := (hm.lt g e).1; omega), h.hoS⟩
theorem RcW.set_ {w w' : World} {B base S0 ac oc ga : Nat} {LA OA : Option Addr} {l at_ at' : List (Int × Int)} {order : List Nat} (h : RcW w B base S0 ac oc LA (some ⟨ga, 0, none⟩) OA l at_ order) (hg : w.grownBy w' (some ga)) (ha : Own w' base 90 (some ⟨ga, 0, none⟩) ac at') (hok : ∀ x ∈ at', Flat.ok x) (hty : 90 ≠ 3) :
    RcW w' B base S0 ac oc LA (some ⟨ga, 0, none⟩) OA l at' order := by
  have hga := h.ha.lt ga rfl
  refine ⟨h.hl.below (below_grown hg (Nat.le_trans h.hB hga.1) (by have := h.hB; have := h.hBS; have := h.hSw; omega)), h.hB, h.hBS, Nat.le_trans h.hSw hg.size, ha, hok, h.ho.grown hg (fun g hg' e => ?_), h.hoS⟩
  exact own_own_ty h.ha h.ho hty g (by rw [← e]; rfl) hg'

set_option maxHeartbeats 6400000 in
set_option maxRecDepth 100000 in
theorem scannedR_any (B lc : Nat) (LA : Option Addr) (l : List (Int × Int)) (regs : Int) (w : World) (hl : At w B LA l) (hB : B ≤ w.heap.size) (hN : l.length ≤ 60) (hr0 : 0 ≤ regs) (hr1 : regs ≤ 60) :
    Calls Try.prog 37 #[.slice LA l.length lc, .int .i64 regs] w fun e w' => ∃ AA ac, e = .returned (.tuple #[.slice AA l.length ac, .int .i64 (Scn.slotted l regs (Scn.byFrom l l.length) (Scn.byFrom l l.length).length).2]) ∧
      Own w' w.heap.size 90 AA ac (Scn.slotted l regs (Scn.byFrom l l.length) (Scn.byFrom l l.length).length).1 ∧ (∀ x ∈ (Scn.slotted l regs (Scn.byFrom l l.length) (Scn.byFrom l l.length).length).1, Flat.ok x) ∧ Below w.heap.size w w' := by
  obtain ⟨p0, hp, hpz0, hpz1, hpz2⟩ := info_parts infoRPlace
  obtain ⟨i0, hi, hz0, hz1, hz2⟩ := info_parts infoInt
  have H := Lib.hid hl; clear hl
  go_enter Try.func37, Try.ntmps37
  go_wp2_with fail
  go_loopg [6, 29] (l.length) (fun gk v6 iv wr => ∃ (k : Nat) (AA : Option Addr) (ac : Nat), k ≤ l.length ∧ gk = l.length - k ∧ iv = .int .i64 k ∧ v6 = .slice AA k ac ∧ Hid (Own wr w.heap.size 90 AA ac (List.replicate k ((-1 : Int), (-1 : Int)))) ∧ Below w.heap.size w wr)
  case atStart => exact ⟨0, none, 0, Nat.zero_le _, rfl, rfl, rfl, Own.nil_, Below.refl _ _⟩
  case round =>
    obtain ⟨k, AA, ac, hk, rfl, rfl, rfl, hkeep, hbl⟩ := hrel
    have hsz := hbl.size
    by_cases hlt : k < l.length
    · go_wp2_with (at_builtin; go_must (refine wpList_app (α := Int × Int) (n := k) (m := 1) (B := wr.heap.size + 1) (r := [((-1 : Int), (-1 : Int))]) rfl (.tmp 31) (.tmp 33) _ rfl w.heap.size 90 p0 _ 16 Try.underlying83 hp hpz0 hpz1 hpz2 rfl (by decide) pair_one (by rfl) (List.length_replicate ..) (hkeep.out.alloc _) (by rfl) ?_ rfl (by omega) (by simp only [maxLen]; omega) (by simp; omega) ?_))
      · exact At.built wr #[.int .i64 (-1), .int .i64 (-1)] 90 [((-1 : Int), (-1 : Int))] rfl (by intro z hz; simp at hz; subst hz; exact ⟨⟨by decide, by decide⟩, ⟨by decide, by decide⟩⟩)
      intro A2 c2 w2 hown2 hgr2 hat2
      have hbl2 : Below w.heap.size w w2 := (hbl.alloc (by omega) _).grown hgr2 (by simp; omega) (fun g hg => (hkeep.out.lt g hg).1)
      have heq : List.replicate k ((-1 : Int), (-1 : Int)) ++ [(-1, -1)] = List.replicate (k + 1) (-1, -1) := List.replicate_succ'.symm
      rw [heq] at hown2
      have HO := Lib.hid hown2; clear hown2 hgr2 hat2 heq
      go_wp2_with fail
      go_roundg (l.length - (k + 1))
      case measure => omega
      case rel => exact ⟨k + 1, A2, c2, by omega, rfl, by go_num, rfl, HO.out, hbl2⟩
    · obtain rfl : k = l.length := by omega
      have hlw := H.out.below (hbl.mono hB)
      have HLW := Lib.hid hlw; clear hlw
      clear hlt
      go_wp2_with fail
      refine (byFrom_any B lc LA l wr HLW.out (by omega) (by omega)).mono ?_
      rintro e w1 ⟨OA, oc, rfl, ho1, hb1⟩
      have hs1 := hb1.size
      have hnd := Scn.byFrom_nodup l l.length
      have hlt := Scn.byFrom_lt l l.length
      have hol := Scn.byFrom_length l l.length
      obtain ⟨order, hord⟩ : ∃ o, Scn.byFrom l l.length = o := ⟨_, rfl⟩
      rw [hord] at ho1 hnd hlt hol
      rw [hord]
      have hr : RcW w1 B w.heap.size w1.heap.size ac oc LA AA OA l (Scn.took l regs order 0) order := by
        refine ⟨HLW.out.below (hb1.mono (by omega)), hB, by omega, Nat.le_refl _, ?_, ?_, ho1.base_le (by omega), fun g hg => (ho1.lt g hg).2⟩
        · exact hkeep.out.fresh hb1
        · intro x hx; rw [List.eq_of_mem_replicate (show x ∈ List.replicate l.length ((-1 : Int), (-1 : Int)) from hx)]; exact ⟨⟨by decide, by decide⟩, ⟨by decide, by decide⟩⟩
      have HR := Lib.hid (And.intro hr (And.intro hnd (And.intro hlt hord))); clear hr hnd hlt ho1 hkeep hord
      have hbw : Below w.heap.size w w1 := hbl.trans (hb1.mono (by omega))
      obtain ⟨S0, hS0⟩ : ∃ s, w1.heap.size = s := ⟨_, rfl⟩
      rw [hS0] at HR
      have HS0 := Lib.hid hS0; clear hS0
      clear hbl hb1
      go_wp2_with fail
      go_loopg [9, 10, 12, 13, 14, 16, 17, 19, 40] (order.length) (fun gk v9 v10 v12 v13 v14 v16 v17 v19 iv wr => ∃ (k : Nat), k ≤ order.length ∧ gk = order.length - k ∧ iv = .int .i64 k ∧ Hid (RcW wr B w.heap.size S0 ac oc LA AA OA l (Scn.took l regs order k) order) ∧ Below w.heap.size w wr)
      case atStart => exact ⟨0, Nat.zero_le _, rfl, rfl, HR.out.1, hbw⟩
      case round =>
        obtain ⟨k, hk, rfl, rfl, hkeep, hbl⟩ := hrel
        by_cases hkl : k < order.length
        · obtain ⟨n, hn⟩ : ∃ n, order[k]? = some n := ⟨_, List.getElem?_eq_getElem hkl⟩
          have hnm := List.mem_of_getElem? hn
          have hnl := HR.out.2.2.1 n hnm
          have hsn := Scn.took_succ l regs order hn
          have hfresh := Scn.took_fresh l regs order HR.out.2.1 HR.out.2.2.1 hr0 k k n (Nat.le_refl _) hn
          have hal := Scn.took_length l regs order k
          obtain ⟨at_, hat⟩ : ∃ a, Scn.took l regs order k = a := ⟨_, rfl⟩
          rw [hat] at hsn hfresh hal hkeep
          obtain ⟨ga, rfl, hga1, hga2⟩ := hkeep.out.ha.some_ (by omega)
          obtain ⟨bo, oo, rfl, hbo, g0⟩ := ints_at (hkeep.out.ho.at_ (ints_ok HR.out.2.2.1 (by omega))) hn
          have HN := Lib.hid (And.intro hnm (And.intro hsn hfresh)); clear hnm hsn hfresh hat hn
          have hnl2 : (n : Int) < (l.length : Int) := by omega
          have hna2 : n < at_.length := by omega
          have hSw := hkeep.out.hSw
          go_wp2_with fail
          go_loopg [10, 12, 46] (order.length) (fun gj v10 v12 jv wr => ∃ (j : Nat) (MA : Option Addr) (mc : Nat), j ≤ order.length ∧ gj = order.length - j ∧ jv = .int .i64 j ∧ v10 = .slice MA (Scn.meets l at_ n (order.take j)).length mc ∧ Hid (RcW wr B w.heap.size S0 ac oc LA (some ⟨ga, 0, none⟩) (some ⟨bo, oo, none⟩) l at_ order ∧ Own wr S0 3 MA mc (ints (Scn.meets l at_ n (order.take j)))) ∧ Below w.heap.size w wr)
          case atStart => exact ⟨0, none, 0, Nat.zero_le _, rfl, rfl, rfl, ⟨hkeep.out, Own.nil_⟩, hbl⟩
          case round =>
            clear g0 hkeep hbl hSw
            obtain ⟨j, MA, mc, hj, rfl, rfl, rfl, hkeep, hbl⟩ := hrel
            have hSw := hkeep.out.1.hSw
            have hsz2 := hbl.size
            have hml : (Scn.meets l at_ n (order.take j)).length ≤ 60 := by have := Scn.meets_length l at_ n (order.take j); rw [List.length_take] at this; omega
            by_cases hjl : j < order.length
            · as_aux_lemma =>
                obtain ⟨q, hq⟩ : ∃ n, order[j]? = some n := ⟨_, List.getElem?_eq_getElem hjl⟩
                have hms := Scn.meets_snoc (l := l) (at_ := at_) (n := n) hq
                have hql := HR.out.2.2.1 q (List.mem_of_getElem? hq)
                obtain ⟨bo', oo', he, hbo', g0⟩ := ints_at (hkeep.out.1.ho.at_ (ints_ok HR.out.2.2.1 (by omega))) hq
                injection he with he; injection he with he1 he2; subst he1 he2
                obtain ⟨bl, ol, hAe, hbl0, -, -, y0, y1⟩ := hkeep.out.1.hl.pairD hql
                subst hAe
                obtain ⟨bl', ol', he, -, -, -, z0, z1⟩ := hkeep.out.1.hl.pairD hnl
                injection he with he; injection he with he1 he2; subst he1 he2
                obtain ⟨a0, -⟩ := hkeep.out.1.ha.pair_cells (i := q) (by omega)
                obtain ⟨mts, hmts⟩ : ∃ m, Scn.meets l at_ n (order.take j) = m := ⟨_, rfl⟩
                rw [hmts] at hkeep hml hms
                rw [hmts]
                obtain ⟨ml, hmln⟩ : ∃ m, mts.length = m := ⟨_, rfl⟩
                rw [hmln] at hml
                rw [hmln]
                obtain ⟨bb, hbb⟩ : ∃ b, Scn.isBusy l at_ Prod.fst n q = b := ⟨_, rfl⟩
                rw [hbb] at hms
                unfold Scn.isBusy at hbb
                obtain ⟨x, hx⟩ : ∃ x, (at_.getD q (0, 0)).1 = x := ⟨_, rfl⟩
                obtain ⟨y, hy⟩ : ∃ y, l.getD q (0, 0) = y := ⟨_, rfl⟩
                obtain ⟨z, hz⟩ : ∃ z, l.getD n (0, 0) = z := ⟨_, rfl⟩
                rw [hx] at a0 hbb
                rw [hy] at y0 y1 hbb
                rw [hz] at z0 z1 hbb
                have HQ := Lib.hid (And.intro hms (And.intro hmln hbb)); clear hms hmln hbb hmts hx hy hz hq
                have hqa : (q : Int) < (at_.length : Int) := by omega
                have hql2 : (q : Int) < (l.length : Int) := by omega
                have hblB : bl < wr.heap.size := by have := hkeep.out.1.hB; have := hkeep.out.1.hBS; omega
                go_upto_region 14 with fail
                go_cut [71] from 50 to 70 (fun ov W => ov = .bool bb ∧ Below wr.heap.size wr W)
                case first =>
                  by_cases hqn : q = n
                  · have ht : bb = false := by rw [← HQ.out.2.2]; simp [hqn]
                    have hne : ((q : Int) != (n : Int)) = false := by simp [hqn]
                    subst ht
                    clear hqn
                    refine wp_region_held_drew (S := (fun _ => True)) (by kernel_rfl) ?_ (fun hHeld0 => ?_)
                    · first | trivial | ((try dsimp only); (trivial))
                    refine held_take (v := ?_) 0 rfl (by kernel_rfl) (by kernel_rfl) (by kernel_rfl) (fun _ _ _ h => h) (by rfl) ?_ (by assumption) ?_
                    rotate_left
                    · (intro w hSw; (try dsimp only at hSw); go_simp; try with_reducible rfl)
                    try simp only [Act.put, List.setIfInBounds_toArray, List.set_cons_zero, List.set_cons_succ]
                    refine held_take (v := ?_) 1 rfl (by kernel_rfl) (by kernel_rfl) (by kernel_rfl) (fun _ _ _ h => h) (by rfl) ?_ (by assumption) ?_
                    rotate_left
                    · (intro w hSw; (try dsimp only at hSw); go_simp; try with_reducible rfl)
                    try simp only [Act.put, List.setIfInBounds_toArray, List.set_cons_zero, List.set_cons_succ]
                    refine held_take (v := ?_) 2 rfl (by kernel_rfl) (by kernel_rfl) (by kernel_rfl) (fun _ _ _ h => h) (by rfl) ?_ (by assumption) ?_
                    rotate_left
                    · (intro w hSw; (try dsimp only at hSw); go_simp; try with_reducible rfl)
                    try simp only [Act.put, List.setIfInBounds_toArray, List.set_cons_zero, List.set_cons_succ]
                    refine held_take (v := ?_) 3 rfl (by kernel_rfl) (by kernel_rfl) (by kernel_rfl) (fun _ _ _ h => h) (by rfl) ?_ (by assumption) ?_
                    rotate_left
                    · (intro w hSw; (try dsimp only at hSw); go_simp; try with_reducible rfl)
                    try simp only [Act.put, List.setIfInBounds_toArray, List.set_cons_zero, List.set_cons_succ]
                    refine held_skip 4 rfl (by kernel_rfl) (by kernel_rfl) (by kernel_rfl) (fun _ _ _ h => h) (by rfl) (by assumption) ?_
                    try simp only [Act.put, List.setIfInBounds_toArray, List.set_cons_zero, List.set_cons_succ]
                    refine held_skip 5 rfl (by kernel_rfl) (by kernel_rfl) (by kernel_rfl) (fun _ _ _ h => h) (by rfl) (by assumption) ?_
                    try simp only [Act.put, List.setIfInBounds_toArray, List.set_cons_zero, List.set_cons_succ]
                    refine held_skip 6 rfl (by kernel_rfl) (by kernel_rfl) (by kernel_rfl) (fun _ _ _ h => h) (by rfl) (by assumption) ?_
                    try simp only [Act.put, List.setIfInBounds_toArray, List.set_cons_zero, List.set_cons_succ]
                    refine held_skip 7 rfl (by kernel_rfl) (by kernel_rfl) (by kernel_rfl) (fun _ _ _ h => h) (by rfl) (by assumption) ?_
                    try simp only [Act.put, List.setIfInBounds_toArray, List.set_cons_zero, List.set_cons_succ]
                    refine held_skip 8 rfl (by kernel_rfl) (by kernel_rfl) (by kernel_rfl) (fun _ _ _ h => h) (by rfl) (by assumption) ?_
                    try simp only [Act.put, List.setIfInBounds_toArray, List.set_cons_zero, List.set_cons_succ]
                    refine held_skip 9 rfl (by kernel_rfl) (by kernel_rfl) (by kernel_rfl) (fun _ _ _ h => h) (by rfl) (by assumption) ?_
                    try simp only [Act.put, List.setIfInBounds_toArray, List.set_cons_zero, List.set_cons_succ]
                    refine held_take (v := ?_) 10 rfl (by kernel_rfl) (by kernel_rfl) (by kernel_rfl) (fun _ _ _ h => h) (by rfl) ?_ (by assumption) ?_
                    rotate_left
                    · (intro w hSw; (try dsimp only at hSw); go_simp; try with_reducible rfl)
                    try simp only [Act.put, List.setIfInBounds_toArray, List.set_cons_zero, List.set_cons_succ]
                    refine held_take (v := ?_) 11 rfl (by kernel_rfl) (by kernel_rfl) (by kernel_rfl) (fun _ _ _ h => h) (by rfl) ?_ (by assumption) ?_
                    rotate_left
                    · (intro w hSw; (try dsimp only at hSw); go_simp; try with_reducible rfl)
                    try simp only [Act.put, List.setIfInBounds_toArray, List.set_cons_zero, List.set_cons_succ]
                    refine held_skip 12 rfl (by kernel_rfl) (by kernel_rfl) (by kernel_rfl) (fun _ _ _ h => h) (by rfl) (by assumption) ?_
                    try simp only [Act.put, List.setIfInBounds_toArray, List.set_cons_zero, List.set_cons_succ]
                    refine held_skip 13 rfl (by kernel_rfl) (by kernel_rfl) (by kernel_rfl) (fun _ _ _ h => h) (by rfl) (by assumption) ?_
                    try simp only [Act.put, List.setIfInBounds_toArray, List.set_cons_zero, List.set_cons_succ]
                    refine held_skip 14 rfl (by kernel_rfl) (by kernel_rfl) (by kernel_rfl) (fun _ _ _ h => h) (by rfl) (by assumption) ?_
                    try simp only [Act.put, List.setIfInBounds_toArray, List.set_cons_zero, List.set_cons_succ]
                    refine held_skip 15 rfl (by kernel_rfl) (by kernel_rfl) (by kernel_rfl) (fun _ _ _ h => h) (by rfl) (by assumption) ?_
                    try simp only [Act.put, List.setIfInBounds_toArray, List.set_cons_zero, List.set_cons_succ]
                    refine held_skip 16 rfl (by kernel_rfl) (by kernel_rfl) (by kernel_rfl) (fun _ _ _ h => h) (by rfl) (by assumption) ?_
                    try simp only [Act.put, List.setIfInBounds_toArray, List.set_cons_zero, List.set_cons_succ]
                    refine held_skip 17 rfl (by kernel_rfl) (by kernel_rfl) (by kernel_rfl) (fun _ _ _ h => h) (by rfl) (by assumption) ?_
                    try simp only [Act.put, List.setIfInBounds_toArray, List.set_cons_zero, List.set_cons_succ]
                    refine held_skip 18 rfl (by kernel_rfl) (by kernel_rfl) (by kernel_rfl) (fun _ _ _ h => h) (by rfl) (by assumption) ?_
                    try simp only [Act.put, List.setIfInBounds_toArray, List.set_cons_zero, List.set_cons_succ]
                    refine held_skip 19 rfl (by kernel_rfl) (by kernel_rfl) (by kernel_rfl) (fun _ _ _ h => h) (by rfl) (by assumption) ?_
                    try simp only [Act.put, List.setIfInBounds_toArray, List.set_cons_zero, List.set_cons_succ]
                    refine held_skip 20 rfl (by kernel_rfl) (by kernel_rfl) (by kernel_rfl) (fun _ _ _ h => h) (by rfl) (by assumption) ?_
                    try simp only [Act.put, List.setIfInBounds_toArray, List.set_cons_zero, List.set_cons_succ]
                    refine held_take (v := ?_) 21 rfl (by kernel_rfl) (by kernel_rfl) (by kernel_rfl) (fun _ _ _ h => h) (by rfl) ?_ (by assumption) ?_
                    rotate_left
                    · (intro w hSw; (try dsimp only at hSw); go_simp; try with_reducible rfl)
                    try simp only [Act.put, List.setIfInBounds_toArray, List.set_cons_zero, List.set_cons_succ]
                    refine wpAnyH_done (by kernel_rfl) ?_ _
                    go_wp2_with fail
                    go_meet
                    exact ⟨rfl, (Below.refl _ _).drew⟩
                  · have hne : ((q : Int) != (n : Int)) = true := by simp; omega
                    by_cases hx0 : 0 ≤ x
                    · have ht : Scn.meet y z = bb := by rw [← HQ.out.2.2]; simp [hqn, hx0]
                      have hd : decide (0 ≤ x) = true := by simpa using hx0
                      have hmt := fun W => srmeet_any y z W
                      rw [ht] at hmt
                      have HT := Lib.hid hmt; clear ht hmt hqn
                      refine wp_region_held_drew (S := (fun w' => w'.cell? ⟨ga, q * 2, none⟩ = some (.int .i64 x) ∧ w'.cell? ⟨bl, ol + q * 2, none⟩ = some (.int .i64 y.1) ∧ w'.cell? ⟨bl, ol + q * 2 + 1, none⟩ = some (.int .i64 y.2) ∧ w'.cell? ⟨bl, ol + n * 2, none⟩ = some (.int .i64 z.1) ∧ w'.cell? ⟨bl, ol + n * 2 + 1, none⟩ = some (.int .i64 z.2))) (by kernel_rfl) ?_ (fun hHeld0 => ?_)
                      · first | trivial | ((try dsimp only); (exact ⟨a0, y0, y1, z0, z1⟩))
                      refine held_take (v := ?_) 0 rfl (by kernel_rfl) (by kernel_rfl) (by kernel_rfl) (fun _ _ _ h => h) (by rfl) ?_ (by assumption) ?_
                      rotate_left
                      · (intro w hSw; (try dsimp only at hSw); go_simp; try with_reducible rfl)
                      try simp only [Act.put, List.setIfInBounds_toArray, List.set_cons_zero, List.set_cons_succ]
                      refine held_take (v := ?_) 1 rfl (by kernel_rfl) (by kernel_rfl) (by kernel_rfl) (fun _ _ _ h => h) (by rfl) ?_ (by assumption) ?_
                      rotate_left
                      · (intro w hSw; (try dsimp only at hSw); go_simp; try with_reducible rfl)
                      try simp only [Act.put, List.setIfInBounds_toArray, List.set_cons_zero, List.set_cons_succ]
                      refine held_take (v := ?_) 2 rfl (by kernel_rfl) (by kernel_rfl) (by kernel_rfl) (fun _ _ _ h => h) (by rfl) ?_ (by assumption) ?_
                      rotate_left
                      · (intro w hSw; (try dsimp only at hSw); go_simp; try with_reducible rfl)
                      try simp only [Act.put, List.setIfInBounds_toArray, List.set_cons_zero, List.set_cons_succ]
                      refine held_take (v := ?_) 3 rfl (by kernel_rfl) (by kernel_rfl) (by kernel_rfl) (fun _ _ _ h => h) (by rfl) ?_ (by assumption) ?_
                      rotate_left
                      · (intro w hSw; (try dsimp only at hSw); go_simp; try with_reducible rfl)
                      try simp only [Act.put, List.setIfInBounds_toArray, List.set_cons_zero, List.set_cons_succ]
                      refine held_take (v := ?_) 4 rfl (by kernel_rfl) (by kernel_rfl) (by kernel_rfl) (fun _ _ _ h => h) (by rfl) ?_ (by assumption) ?_
                      rotate_left
                      · (intro w hSw; (try dsimp only at hSw); go_simp; try with_reducible rfl)
                      try simp only [Act.put, List.setIfInBounds_toArray, List.set_cons_zero, List.set_cons_succ]
                      refine held_take (v := ?_) 5 rfl (by kernel_rfl) (by kernel_rfl) (by kernel_rfl) (fun _ _ _ h => h) (by rfl) ?_ (by assumption) ?_
                      rotate_left
                      · (intro w hSw; (try dsimp only at hSw); go_simp; try with_reducible rfl)
                      try simp only [Act.put, List.setIfInBounds_toArray, List.set_cons_zero, List.set_cons_succ]
                      refine held_take (v := ?_) 6 rfl (by kernel_rfl) (by kernel_rfl) (by kernel_rfl) (fun _ _ _ h => h) (by rfl) ?_ (by assumption) ?_
                      rotate_left
                      · (intro w hSw; (try dsimp only at hSw); go_simp; try with_reducible rfl)
                      try simp only [Act.put, List.setIfInBounds_toArray, List.set_cons_zero, List.set_cons_succ]
                      refine held_take (v := ?_) 7 rfl (by kernel_rfl) (by kernel_rfl) (by kernel_rfl) (fun _ _ _ h => h) (by rfl) ?_ (by assumption) ?_
                      rotate_left
                      · (intro w hSw; (try dsimp only at hSw); go_simp; try with_reducible rfl)
                      try simp only [Act.put, List.setIfInBounds_toArray, List.set_cons_zero, List.set_cons_succ]
                      refine held_take (v := ?_) 8 rfl (by kernel_rfl) (by kernel_rfl) (by kernel_rfl) (fun _ _ _ h => h) (by rfl) ?_ (by assumption) ?_
                      rotate_left
                      · (intro w hSw; (try dsimp only at hSw); go_simp; try with_reducible rfl)
                      try simp only [Act.put, List.setIfInBounds_toArray, List.set_cons_zero, List.set_cons_succ]
                      refine held_take (v := ?_) 9 rfl (by kernel_rfl) (by kernel_rfl) (by kernel_rfl) (fun _ _ _ h => h) (by rfl) ?_ (by assumption) ?_
                      rotate_left
                      · (intro w hSw; (try dsimp only at hSw); go_simp; try with_reducible rfl)
                      try simp only [Act.put, List.setIfInBounds_toArray, List.set_cons_zero, List.set_cons_succ]
                      refine held_take (v := ?_) 10 rfl (by kernel_rfl) (by kernel_rfl) (by kernel_rfl) (fun _ _ _ h => h) (by rfl) ?_ (by assumption) ?_
                      rotate_left
                      · (intro w hSw; (try dsimp only at hSw); go_simp; try with_reducible rfl)
                      try simp only [Act.put, List.setIfInBounds_toArray, List.set_cons_zero, List.set_cons_succ]
                      refine held_take (v := ?_) 11 rfl (by kernel_rfl) (by kernel_rfl) (by kernel_rfl) (fun _ _ _ h => h) (by rfl) ?_ (by assumption) ?_
                      rotate_left
                      · (intro w hSw; (try dsimp only at hSw); go_simp; try with_reducible rfl)
                      try simp only [Act.put, List.setIfInBounds_toArray, List.set_cons_zero, List.set_cons_succ]
                      refine held_take (v := ?_) 12 rfl (by kernel_rfl) (by kernel_rfl) (by kernel_rfl) (fun _ _ _ h => h) (by rfl) ?_ (by assumption) ?_
                      rotate_left
                      · (intro w hSw; (try dsimp only at hSw); go_simp; try with_reducible rfl)
                      try simp only [Act.put, List.setIfInBounds_toArray, List.set_cons_zero, List.set_cons_succ]
                      refine held_take (v := ?_) 13 rfl (by kernel_rfl) (by kernel_rfl) (by kernel_rfl) (fun _ _ _ h => h) (by rfl) ?_ (by assumption) ?_
                      rotate_left
                      · (intro w hSw; (try dsimp only at hSw); go_simp; try with_reducible rfl)
                      try simp only [Act.put, List.setIfInBounds_toArray, List.set_cons_zero, List.set_cons_succ]
                      refine held_take (v := ?_) 14 rfl (by kernel_rfl) (by kernel_rfl) (by kernel_rfl) (fun _ _ _ h => h) (by rfl) ?_ (by assumption) ?_
                      rotate_left
                      · (intro w hSw; (try dsimp only at hSw); go_simp; try with_reducible rfl)
                      try simp only [Act.put, List.setIfInBounds_toArray, List.set_cons_zero, List.set_cons_succ]
                      refine held_take (v := ?_) 15 rfl (by kernel_rfl) (by kernel_rfl) (by kernel_rfl) (fun _ _ _ h => h) (by rfl) ?_ (by assumption) ?_
                      rotate_left
                      · (intro w hSw; (try dsimp only at hSw); go_simp; try with_reducible rfl)
                      try simp only [Act.put, List.setIfInBounds_toArray, List.set_cons_zero, List.set_cons_succ]
                      refine held_take (v := ?_) 16 rfl (by kernel_rfl) (by kernel_rfl) (by kernel_rfl) (fun _ _ _ h => h) (by rfl) ?_ (by assumption) ?_
                      rotate_left
                      · (intro w hSw; (try dsimp only at hSw); go_simp; try with_reducible rfl)
                      try simp only [Act.put, List.setIfInBounds_toArray, List.set_cons_zero, List.set_cons_succ]
                      refine held_take (v := ?_) 17 rfl (by kernel_rfl) (by kernel_rfl) (by kernel_rfl) (fun _ _ _ h => h) (by rfl) ?_ (by assumption) ?_
                      rotate_left
                      · (intro w hSw; (try dsimp only at hSw); go_simp; try with_reducible rfl)
                      try simp only [Act.put, List.setIfInBounds_toArray, List.set_cons_zero, List.set_cons_succ]
                      refine held_take (v := ?_) 18 rfl (by kernel_rfl) (by kernel_rfl) (by kernel_rfl) (fun _ _ _ h => h) (by rfl) ?_ (by assumption) ?_
                      rotate_left
                      · (intro w hSw; (try dsimp only at hSw); go_simp; try with_reducible rfl)
                      try simp only [Act.put, List.setIfInBounds_toArray, List.set_cons_zero, List.set_cons_succ]
                      refine held_take (v := ?_) 19 rfl (by kernel_rfl) (by kernel_rfl) (by kernel_rfl) (fun _ _ _ h => h) (by rfl) ?_ (by assumption) ?_
                      rotate_left
                      · (intro w hSw; (try dsimp only at hSw); go_simp; try with_reducible rfl)
                      try simp only [Act.put, List.setIfInBounds_toArray, List.set_cons_zero, List.set_cons_succ]
                      refine held_call 20 (by kernel_rfl) rfl (fun K hK => ?_)
                      go_simp
                      go_at_call 41; refine (HT.out _).mono ?_; rintro e w2 ⟨rfl, hb2d⟩; have hb2 : Below wr.heap.size wr w2 := undrew hb2d; clear hb2d
                      try (go_wp2_with fail)
                      refine hK.out _ _ ?_ (fun hHeld1 => ?_)
                      · first | trivial | ((try dsimp only); (exact ⟨(hb2.cell (p := ⟨ga, q * 2, none⟩) (show ga < wr.heap.size by have := (hkeep.out.1.ha.lt ga rfl).2; omega)).trans a0, (hb2.cell (p := ⟨bl, ol + q * 2, none⟩) hblB).trans y0, (hb2.cell (p := ⟨bl, ol + q * 2 + 1, none⟩) hblB).trans y1, (hb2.cell (p := ⟨bl, ol + n * 2, none⟩) hblB).trans z0, (hb2.cell (p := ⟨bl, ol + n * 2 + 1, none⟩) hblB).trans z1⟩))
                      clear hK K hHeld0
                      try simp only [Act.put, List.setIfInBounds_toArray, List.set_cons_zero, List.set_cons_succ]
                      refine held_take (v := ?_) 21 rfl (by kernel_rfl) (by kernel_rfl) (by kernel_rfl) (fun _ _ _ h => h) (by rfl) ?_ (by assumption) ?_
                      rotate_left
                      · (intro w hSw; (try dsimp only at hSw); go_simp; try with_reducible rfl)
                      try simp only [Act.put, List.setIfInBounds_toArray, List.set_cons_zero, List.set_cons_succ]
                      refine wpAnyH_done (by kernel_rfl) ?_ _
                      go_wp2_with fail
                      go_meet
                      exact ⟨rfl, hb2⟩
                    · have ht : bb = false := by rw [← HQ.out.2.2]; simp [hx0]
                      have hd : decide (0 ≤ x) = false := by simpa using hx0
                      subst ht
                      clear hx0 hqn
                      refine wp_region_held_drew (S := (fun w' => w'.cell? ⟨ga, q * 2, none⟩ = some (.int .i64 x))) (by kernel_rfl) ?_ (fun hHeld0 => ?_)
                      · first | trivial | ((try dsimp only); (exact a0))
                      refine held_take (v := ?_) 0 rfl (by kernel_rfl) (by kernel_rfl) (by kernel_rfl) (fun _ _ _ h => h) (by rfl) ?_ (by assumption) ?_
                      rotate_left
                      · (intro w hSw; (try dsimp only at hSw); go_simp; try with_reducible rfl)
                      try simp only [Act.put, List.setIfInBounds_toArray, List.set_cons_zero, List.set_cons_succ]
                      refine held_take (v := ?_) 1 rfl (by kernel_rfl) (by kernel_rfl) (by kernel_rfl) (fun _ _ _ h => h) (by rfl) ?_ (by assumption) ?_
                      rotate_left
                      · (intro w hSw; (try dsimp only at hSw); go_simp; try with_reducible rfl)
                      try simp only [Act.put, List.setIfInBounds_toArray, List.set_cons_zero, List.set_cons_succ]
                      refine held_take (v := ?_) 2 rfl (by kernel_rfl) (by kernel_rfl) (by kernel_rfl) (fun _ _ _ h => h) (by rfl) ?_ (by assumption) ?_
                      rotate_left
                      · (intro w hSw; (try dsimp only at hSw); go_simp; try with_reducible rfl)
                      try simp only [Act.put, List.setIfInBounds_toArray, List.set_cons_zero, List.set_cons_succ]
                      refine held_take (v := ?_) 3 rfl (by kernel_rfl) (by kernel_rfl) (by kernel_rfl) (fun _ _ _ h => h) (by rfl) ?_ (by assumption) ?_
                      rotate_left
                      · (intro w hSw; (try dsimp only at hSw); go_simp; try with_reducible rfl)
                      try simp only [Act.put, List.setIfInBounds_toArray, List.set_cons_zero, List.set_cons_succ]
                      refine held_take (v := ?_) 4 rfl (by kernel_rfl) (by kernel_rfl) (by kernel_rfl) (fun _ _ _ h => h) (by rfl) ?_ (by assumption) ?_
                      rotate_left
                      · (intro w hSw; (try dsimp only at hSw); go_simp; try with_reducible rfl)
                      try simp only [Act.put, List.setIfInBounds_toArray, List.set_cons_zero, List.set_cons_succ]
                      refine held_take (v := ?_) 5 rfl (by kernel_rfl) (by kernel_rfl) (by kernel_rfl) (fun _ _ _ h => h) (by rfl) ?_ (by assumption) ?_
                      rotate_left
                      · (intro w hSw; (try dsimp only at hSw); go_simp; try with_reducible rfl)
                      try simp only [Act.put, List.setIfInBounds_toArray, List.set_cons_zero, List.set_cons_succ]
                      refine held_take (v := ?_) 6 rfl (by kernel_rfl) (by kernel_rfl) (by kernel_rfl) (fun _ _ _ h => h) (by rfl) ?_ (by assumption) ?_
                      rotate_left
                      · (intro w hSw; (try dsimp only at hSw); go_simp; try with_reducible rfl)
                      try simp only [Act.put, List.setIfInBounds_toArray, List.set_cons_zero, List.set_cons_succ]
                      refine held_take (v := ?_) 7 rfl (by kernel_rfl) (by kernel_rfl) (by kernel_rfl) (fun _ _ _ h => h) (by rfl) ?_ (by assumption) ?_
                      rotate_left
                      · (intro w hSw; (try dsimp only at hSw); go_simp; try with_reducible rfl)
                      try simp only [Act.put, List.setIfInBounds_toArray, List.set_cons_zero, List.set_cons_succ]
                      refine held_take (v := ?_) 8 rfl (by kernel_rfl) (by kernel_rfl) (by kernel_rfl) (fun _ _ _ h => h) (by rfl) ?_ (by assumption) ?_
                      rotate_left
                      · (intro w hSw; (try dsimp only at hSw); go_simp; try with_reducible rfl)
                      try simp only [Act.put, List.setIfInBounds_toArray, List.set_cons_zero, List.set_cons_succ]
                      refine held_take (v := ?_) 9 rfl (by kernel_rfl) (by kernel_rfl) (by kernel_rfl) (fun _ _ _ h => h) (by rfl) ?_ (by assumption) ?_
                      rotate_left
                      · (intro w hSw; (try dsimp only at hSw); go_simp; try with_reducible rfl)
                      try simp only [Act.put, List.setIfInBounds_toArray, List.set_cons_zero, List.set_cons_succ]
                      refine held_take (v := ?_) 10 rfl (by kernel_rfl) (by kernel_rfl) (by kernel_rfl) (fun _ _ _ h => h) (by rfl) ?_ (by assumption) ?_
                      rotate_left
                      · (intro w hSw; (try dsimp only at hSw); go_simp; try with_reducible rfl)
                      try simp only [Act.put, List.setIfInBounds_toArray, List.set_cons_zero, List.set_cons_succ]
                      refine held_take (v := ?_) 11 rfl (by kernel_rfl) (by kernel_rfl) (by kernel_rfl) (fun _ _ _ h => h) (by rfl) ?_ (by assumption) ?_
                      rotate_left
                      · (intro w hSw; (try dsimp only at hSw); go_simp; try with_reducible rfl)
                      try simp only [Act.put, List.setIfInBounds_toArray, List.set_cons_zero, List.set_cons_succ]
                      refine held_skip 12 rfl (by kernel_rfl) (by kernel_rfl) (by kernel_rfl) (fun _ _ _ h => h) (by rfl) (by assumption) ?_
                      try simp only [Act.put, List.setIfInBounds_toArray, List.set_cons_zero, List.set_cons_succ]
                      refine held_skip 13 rfl (by kernel_rfl) (by kernel_rfl) (by kernel_rfl) (fun _ _ _ h => h) (by rfl) (by assumption) ?_
                      try simp only [Act.put, List.setIfInBounds_toArray, List.set_cons_zero, List.set_cons_succ]
                      refine held_skip 14 rfl (by kernel_rfl) (by kernel_rfl) (by kernel_rfl) (fun _ _ _ h => h) (by rfl) (by assumption) ?_
                      try simp only [Act.put, List.setIfInBounds_toArray, List.set_cons_zero, List.set_cons_succ]
                      refine held_skip 15 rfl (by kernel_rfl) (by kernel_rfl) (by kernel_rfl) (fun _ _ _ h => h) (by rfl) (by assumption) ?_
                      try simp only [Act.put, List.setIfInBounds_toArray, List.set_cons_zero, List.set_cons_succ]
                      refine held_skip 16 rfl (by kernel_rfl) (by kernel_rfl) (by kernel_rfl) (fun _ _ _ h => h) (by rfl) (by assumption) ?_
                      try simp only [Act.put, List.setIfInBounds_toArray, List.set_cons_zero, List.set_cons_succ]
                      refine held_skip 17 rfl (by kernel_rfl) (by kernel_rfl) (by kernel_rfl) (fun _ _ _ h => h) (by rfl) (by assumption) ?_
                      try simp only [Act.put, List.setIfInBounds_toArray, List.set_cons_zero, List.set_cons_succ]
                      refine held_skip 18 rfl (by kernel_rfl) (by kernel_rfl) (by kernel_rfl) (fun _ _ _ h => h) (by rfl) (by assumption) ?_
                      try simp only [Act.put, List.setIfInBounds_toArray, List.set_cons_zero, List.set_cons_succ]
                      refine held_skip 19 rfl (by kernel_rfl) (by kernel_rfl) (by kernel_rfl) (fun _ _ _ h => h) (by rfl) (by assumption) ?_
                      try simp only [Act.put, List.setIfInBounds_toArray, List.set_cons_zero, List.set_cons_succ]
                      refine held_skip 20 rfl (by kernel_rfl) (by kernel_rfl) (by kernel_rfl) (fun _ _ _ h => h) (by rfl) (by assumption) ?_
                      try simp only [Act.put, List.setIfInBounds_toArray, List.set_cons_zero, List.set_cons_succ]
                      refine held_take (v := ?_) 21 rfl (by kernel_rfl) (by kernel_rfl) (by kernel_rfl) (fun _ _ _ h => h) (by rfl) ?_ (by assumption) ?_
                      rotate_left
                      · (intro w hSw; (try dsimp only at hSw); go_simp; try with_reducible rfl)
                      try simp only [Act.put, List.setIfInBounds_toArray, List.set_cons_zero, List.set_cons_succ]
                      refine wpAnyH_done (by kernel_rfl) ?_ _
                      go_wp2_with fail
                      go_meet
                      exact ⟨rfl, (Below.refl _ _).drew⟩
                case rest =>
                  obtain ⟨rfl, hbc⟩ := hcut
                  rename World => wc
                  have hsc := hbc.size
                  have hbwc : Below w.heap.size w wc := hbl.trans (hbc.mono (by omega))
                  clear y0 y1 z0 z1 a0 g0
                  have hkc := hkeep.out.1.below hbc
                  have hmc := hkeep.out.2.fresh hbc
                  have hil : (ints mts).length = ml := by rw [ints_length]; exact HQ.out.2.1
                  have HK := Lib.hid (And.intro hkc (And.intro hmc hil)); clear hkc hmc hil
                  cases bb with
                  | true =>
                    have hms := HQ.out.1
                    rw [if_pos rfl] at hms
                    have HX := Lib.hid hms; clear hms
                    go_wp2_with (at_builtin; go_must (refine wpList_app (α := Int) (n := ml) (m := 1) (B := wc.heap.size + 1) (r := [(q : Int)]) rfl (.tmp 72) (.tmp 74) _ rfl S0 3 i0 _ 8 Try.underlying40 hi hz0 hz1 hz2 rfl (by decide) int_one (by rfl) HK.out.2.2 (HK.out.2.1.alloc _) (by rfl) ?_ rfl (by omega) (by simp only [maxLen]; omega) (by simp; omega) ?_))
                    · exact At.built wc #[.int .i64 (q : Int)] 3 [(q : Int)] rfl (by intro u hu; simp at hu; subst hu; show I64 _; unfold I64; omega)
                    intro A4 c4 w4 hown4 hgr4 hat4
                    have hr4 := (HK.out.1.below ((Below.refl _ _).alloc (Nat.le_refl _) (.cells #[.int .i64 (q : Int)] 3))).grown (HK.out.2.1.alloc _) hgr4 (by decide)
                    have hbl4 : Below w.heap.size w w4 := (hbwc.alloc (by omega) _).grown hgr4 (by simp; omega) (fun g hg => by have := (HK.out.2.1.lt g hg).1; have := HK.out.1.hBS; omega)
                    have hin : ints mts ++ [(q : Int)] = ints (Scn.meets l at_ n (order.take (j + 1))) := by rw [HX.out]; unfold ints; simp
                    have hln : ml + 1 = (Scn.meets l at_ n (order.take (j + 1))).length := by rw [HX.out, List.length_append, HQ.out.2.1]; rfl
                    rw [hin] at hown4
                    have HF := Lib.hid (And.intro hr4 (And.intro hown4 hln)); clear hr4 hown4 hln hin hgr4 hat4
                    go_wp2_with fail
                    go_roundg (order.length - (j + 1))
                    case measure => omega
                    case rel => exact ⟨j + 1, A4, c4, by omega, rfl, by go_num, by rw [← HF.out.2.2], ⟨HF.out.1, HF.out.2.1⟩, hbl4⟩
                  | false =>
                    have hms := HQ.out.1
                    rw [if_neg (by decide), List.append_nil] at hms
                    have HX := Lib.hid hms; clear hms
                    go_wp2_with fail
                    go_roundg (order.length - (j + 1))
                    case measure => omega
                    case rel => exact ⟨j + 1, MA, mc, by omega, rfl, by go_num, by rw [HX.out, HQ.out.2.1], ⟨HK.out.1, by rw [HX.out]; exact HK.out.2.1⟩, hbwc⟩
            · obtain rfl : j = order.length := by omega
              rw [List.take_length] at hkeep hml
              rw [List.take_length]
              obtain ⟨hkr, hkm⟩ := hkeep.out
              obtain ⟨R, rfl⟩ := Int.eq_ofNat_of_zero_le hr0
              obtain ⟨m, hm⟩ : ∃ m, Scn.mex (Scn.busy l at_ Prod.fst n order) = m := ⟨_, rfl⟩
              have hbm := Scn.takenBy_meets l at_ n order
              have hmsub := Scn.meets_sub (l := l) (at_ := at_) (n := n) (order := order)
              have hlsm : ∀ q ∈ order, ∀ out, Scn.longStep l at_ n out q = if ((decide (q = n) || (Scn.meets l at_ n order).contains q) && (decide (out < 0) || decide ((l.getD out.toNat (0, 0)).2 ≤ (l.getD q (0, 0)).2))) = true then (q : Int) else out := fun q hq out => Scn.longStep_meets hq out
              obtain ⟨mts, hmts⟩ : ∃ m, Scn.meets l at_ n order = m := ⟨_, rfl⟩
              rw [hmts] at hkm hml hbm hmsub hlsm
              rw [hmts]
              obtain ⟨ml, hmln⟩ : ∃ m, mts.length = m := ⟨_, rfl⟩
              rw [hmln] at hml
              rw [hmln]
              have htk : Scn.takeStep l (R : Int) order at_ n = Scn.take l (R : Int) order m at_ n := by unfold Scn.takeStep; rw [hm]
              have hmf : ∀ r : Nat, r ≤ m → (Scn.takenBy at_ Prod.fst (r : Int) mts = true ↔ r < m) := by
                intro r hr
                rw [hbm]
                constructor
                · intro h
                  rcases Nat.lt_or_ge r m with h' | h'
                  · exact h'
                  · have e : r = m := by omega
                    rw [e, ← hm, Scn.mex_free] at h; cases h
                · intro h; exact Scn.mex_lt _ r (by rw [hm]; exact h)
              have HM := Lib.hid (And.intro hmln (And.intro hmsub (And.intro hlsm (And.intro htk hmf)))); clear hmln hmsub hlsm htk hmf hbm hm hmts hkeep
              have HKM := Lib.hid (And.intro hkr hkm); clear hkr hkm
              go_wp2_with fail
              go_loopg [13, 14, 16] R (fun gr v13 v14 v16 wr => ∃ (r : Nat) (a1 : List (Int × Int)), r ≤ R ∧ gr = R - r ∧ v13 = .int .i64 r ∧ Hid (((r ≤ m ∧ a1 = at_) ∨ (m < R ∧ r = m + 1 ∧ a1 = at_.set n ((m : Int), -1))) ∧ RcW wr B w.heap.size S0 ac oc LA (some ⟨ga, 0, none⟩) (some ⟨bo, oo, none⟩) l a1 order ∧ Own wr S0 3 MA mc (ints mts)) ∧ Below w.heap.size w wr)
              case atStart => exact ⟨0, at_, Nat.zero_le _, rfl, rfl, ⟨.inl ⟨Nat.zero_le _, rfl⟩, HKM.out.1, HKM.out.2⟩, hbl⟩
              case round =>
                clear hbl hSw hsz2
                obtain ⟨r, a1, hrR, rfl, rfl, hkeep, hbl⟩ := hrel
                have hSw := hkeep.out.2.1.hSw
                have hsz2 := hbl.size
                rcases hkeep.out.1 with ⟨hrm, rfl⟩ | ⟨hmR, rfl, rfl⟩
                · as_aux_lemma =>
                    -- not set as yet
                    obtain ⟨a0, -⟩ := hkeep.out.2.1.ha.pair_cells (i := n) (by omega)
                    rw [HN.out.2.2] at a0
                    by_cases hrl : r < R
                    · have hd1 : decide ((r : Int) < (R : Int)) = true := by simp; omega
                      go_wp2_with fail
                      go_loopg [14, 16, 92] ml (fun gj v14 v16 jv wr => ∃ (j : Nat), j ≤ ml ∧ gj = ml - j ∧ jv = .int .i64 j ∧ v14 = .bool (Scn.takenBy a1 Prod.fst (r : Int) (mts.take j)) ∧ Hid (RcW wr B w.heap.size S0 ac oc LA (some ⟨ga, 0, none⟩) (some ⟨bo, oo, none⟩) l a1 order ∧ Own wr S0 3 MA mc (ints mts)) ∧ Below w.heap.size w wr)
                      case atStart => exact ⟨0, Nat.zero_le _, rfl, rfl, rfl, hkeep.out.2, hbl⟩
                      case round =>
                        clear hbl hSw hsz2 hkeep a0 hd1
                        obtain ⟨j, hj, rfl, rfl, rfl, hkeep, hbl⟩ := hrel
                        by_cases hjl : j < ml
                        · as_aux_lemma =>
                            obtain ⟨q, hq⟩ : ∃ q, mts[j]? = some q := ⟨_, List.getElem?_eq_getElem (by rw [HM.out.1]; exact hjl)⟩
                            have hqo := HM.out.2.1 q (List.mem_of_getElem? hq)
                            have hql := HR.out.2.2.1 q hqo
                            have htk := Scn.takenBy_snoc (at_ := a1) (f := Prod.fst) (r := (r : Int)) hq
                            obtain ⟨bm, om, rfl, hbm, g0⟩ := ints_at (hkeep.out.2.at_ (ints_ok (fun k hk => HR.out.2.2.1 k (HM.out.2.1 k hk)) (by omega))) hq
                            obtain ⟨a0, -⟩ := hkeep.out.1.ha.pair_cells (i := q) (by omega)
                            obtain ⟨x, hx⟩ : ∃ x, (a1.getD q (0, 0)).1 = x := ⟨_, rfl⟩
                            rw [hx] at a0 htk
                            obtain ⟨tb, htb⟩ : ∃ b, Scn.takenBy a1 Prod.fst (r : Int) (mts.take j) = b := ⟨_, rfl⟩
                            rw [htb] at htk
                            rw [htb]
                            have HT := Lib.hid htk; clear htk hq htb hqo hx
                            have hqa : (q : Int) < (l.length : Int) := by omega
                            cases tb with
                            | true =>
                              go_wp2_with fail
                              go_roundg (ml - (j + 1))
                              case measure => omega
                              case rel => exact ⟨j + 1, by omega, rfl, by go_num, by rw [HT.out]; rfl, hkeep.out, hbl⟩
                            | false =>
                              go_wp2_with fail
                              go_roundg (ml - (j + 1))
                              case measure => omega
                              case rel => exact ⟨j + 1, by omega, rfl, by go_num, by rw [HT.out]; rfl, hkeep.out, hbl⟩
                        · obtain rfl : j = ml := by omega
                          have hmf := HM.out.2.2.2.2 r hrm
                          have htl : mts.take j = mts := List.take_of_length_le (by rw [HM.out.1]; exact Nat.le_refl _)
                          rw [htl]
                          obtain ⟨tb, htb⟩ : ∃ b, Scn.takenBy a1 Prod.fst (r : Int) mts = b := ⟨_, rfl⟩
                          rw [htb] at hmf
                          rw [htb]
                          have HT := Lib.hid hmf; clear hmf htb htl
                          cases tb with
                          | true =>
                            have hrm2 : r < m := HT.out.1 rfl
                            go_wp2_with fail
                            go_roundg (R - (r + 1))
                            case measure => omega
                            case rel => exact ⟨r + 1, a1, by omega, rfl, by go_num, ⟨.inl ⟨by omega, rfl⟩, hkeep.out.1, hkeep.out.2⟩, hbl⟩
                          | false =>
                            have hrm2 : r = m := by
                              rcases Nat.lt_or_ge r m with h | h
                              · have := HT.out.2 h; cases this
                              · omega
                            subst hrm2
                            have hset := hkeep.out.1.ha.set_fst (r : Int) hna2
                            have z0 := hkeep.out.1.ha.frozen (g := ga) rfl (n * 2)
                            obtain ⟨a0, -⟩ := hkeep.out.1.ha.pair_cells (i := n) hna2
                            rw [HN.out.2.2] at hset a0
                            have hok' : ∀ x ∈ a1.set n ((r : Int), -1), Flat.ok x := set_ok hkeep.out.1.hok ⟨by show I64 _; unfold I64; omega, by show I64 (-1); unfold I64; omega⟩
                            have hrs := hkeep.out.1.set_ (grownBy_setCell wr ga (n * 2) (.int .i64 r)) hset hok' (by decide)
                            have hms := hkeep.out.2.setCell ⟨ga, n * 2, none⟩ (.int .i64 r) (fun e => own_own_ty hkeep.out.2 hkeep.out.1.ha (by decide) ga e rfl)
                            have hbs : Below w.heap.size w (wr.setCell ⟨ga, n * 2, none⟩ (.int .i64 r)) := hbl.setCell (hkeep.out.1.ha.lt ga rfl).1 _
                            have HS := Lib.hid (And.intro hrs (And.intro hms hbs)); clear hrs hms hbs hok' hset
                            have hnl3 : (n : Int) < (l.length : Int) := by omega
                            go_wp2_with fail
                            go_roundg (R - (r + 1))
                            case measure => omega
                            case rel => exact ⟨r + 1, _, by omega, rfl, by go_num, ⟨.inr ⟨by omega, rfl, rfl⟩, HS.out.1, HS.out.2.1⟩, HS.out.2.2⟩
                    · obtain rfl : r = R := by omega
                      have hd1 : decide ((r : Int) < (r : Int)) = false := by simp
                      go_wp2_with fail
                      have HKD := Lib.hid hkeep.out.2; clear hkeep
                      go_loopg [17, 19, 122] (order.length) (fun gj v17 v19 jv wr => ∃ (j : Nat), j ≤ order.length ∧ gj = order.length - j ∧ jv = .int .i64 j ∧ v17 = .int .i64 (Scn.longest l a1 n (order.take j)) ∧ Hid (RcW wr B w.heap.size S0 ac oc LA (some ⟨ga, 0, none⟩) (some ⟨bo, oo, none⟩) l a1 order ∧ Own wr S0 3 MA mc (ints mts)) ∧ Below w.heap.size w wr)
                      case atStart => exact ⟨0, Nat.zero_le _, rfl, rfl, rfl, HKD.out, hbl⟩
                      case round =>
                        clear hbl hSw hsz2 HKD a0 hd1
                        obtain ⟨j, hj, rfl, rfl, rfl, hkeep, hbl⟩ := hrel
                        by_cases hjl : j < order.length
                        · as_aux_lemma =>
                            obtain ⟨q, hq⟩ : ∃ q, order[j]? = some q := ⟨_, List.getElem?_eq_getElem hjl⟩
                            have hqo := List.mem_of_getElem? hq
                            have hql := HR.out.2.2.1 q hqo
                            have hsn := Scn.longest_snoc (l := l) (at_ := a1) (n := n) hq
                            have hin := Scn.longest_in (l := l) (at_ := a1) (n := n) (order.take j)
                            obtain ⟨out, hout⟩ : ∃ o, Scn.longest l a1 n (order.take j) = o := ⟨_, rfl⟩
                            rw [hout] at hsn hin
                            rw [hout]
                            rw [HM.out.2.2.1 q hqo] at hsn
                            have hmo : ∀ k' ∈ order.take j, k' < l.length := fun k' hk' => HR.out.2.2.1 k' (List.mem_of_mem_take hk')
                            obtain ⟨bo', oo', he, hbo', g0⟩ := ints_at (hkeep.out.1.ho.at_ (ints_ok HR.out.2.2.1 (by omega))) hq
                            injection he with he; injection he with he1 he2; subst he1 he2
                            obtain ⟨bl, ol, hAe, hbl0, -, -, -, y1⟩ := hkeep.out.1.hl.pairD hql
                            subst hAe
                            obtain ⟨y, hy⟩ : ∃ y, (l.getD q (0, 0)).2 = y := ⟨_, rfl⟩
                            rw [hy] at y1 hsn
                            obtain ⟨cb, hcb⟩ : ∃ b, mts.contains q = b := ⟨_, rfl⟩
                            rw [hcb] at hsn
                            have hmi : ∀ x ∈ ints mts, Flat.ok x := ints_ok (fun k hk => HR.out.2.2.1 k (HM.out.2.1 k hk)) (by omega)
                            have hcb2 : decide ((q : Int) ∈ ints mts) = cb := by
                              rw [← hcb, Bool.eq_iff_iff, decide_eq_true_eq, List.contains_iff_mem]
                              unfold ints
                              rw [List.mem_map]
                              constructor
                              · rintro ⟨u, hu, he⟩
                                have : u = q := by omega
                                rw [← this]; exact hu
                              · intro h; exact ⟨q, h, rfl⟩
                            have hml2 : (ints mts).length = ml := by rw [ints_length]; exact HM.out.1
                            have hhas := fun (W : World) (hW : At W wr.heap.size MA (ints mts)) => hasInt_n MA mc wr.heap.size ml (ints mts) (q : Int) W hml2 hW (by omega)
                            rw [hcb2] at hhas
                            have HH := Lib.hid hhas; clear hhas hcb hcb2 hml2
                            have HIO := Lib.hid hmi; clear hmi
                            have HKEEP := Lib.hid hkeep.out
                            obtain ⟨bb, hbb⟩ : ∃ b, ((decide (q = n) || cb) && (decide (out < 0) || decide ((l.getD out.toNat (0, 0)).2 ≤ y))) = b := ⟨_, rfl⟩
                            rw [hbb] at hsn
                            have HSN := Lib.hid (And.intro hsn (And.intro hin (And.intro hmo hbb))); clear hsn hin hmo hbb hy hq hout hqo
                            have hql2 : (q : Int) < (l.length : Int) := by omega
                            go_upto_region 33 with fail
                            go_cut [150] from 126 to 149 (fun ov W => ov = .bool bb ∧ W = wr.drew)
                            case first =>
                              have hgen : ∀ cq : Bool, (decide (q = n) || cb) = cq → True := fun _ _ => trivial
                              clear hgen
                              rcases HSN.out.2.1 with ho | ⟨ko, hko, ho⟩
                              · subst ho
                                have hd0 : decide ((-1 : Int) < 0) = true := by decide
                                by_cases hqn : q = n
                                · have he : ((q : Int) == (n : Int)) = true := by simp [hqn]
                                  have ht : bb = true := by rw [← HSN.out.2.2.2]; simp [hqn]
                                  subst ht
                                  clear hqn
                                  refine wp_region_held_drew (S := (fun _ => True)) (by kernel_rfl) ?_ (fun hHeld0 => ?_)
                                  · first | trivial | ((try dsimp only); (trivial))
                                  refine held_take (v := ?_) 0 rfl (by kernel_rfl) (by kernel_rfl) (by kernel_rfl) (fun _ _ _ h => h) (by rfl) ?_ (by assumption) ?_
                                  rotate_left
                                  · (intro w hSw; (try dsimp only at hSw); go_simp; try with_reducible rfl)
                                  try simp only [Act.put, List.setIfInBounds_toArray, List.set_cons_zero, List.set_cons_succ]
                                  refine held_take (v := ?_) 1 rfl (by kernel_rfl) (by kernel_rfl) (by kernel_rfl) (fun _ _ _ h => h) (by rfl) ?_ (by assumption) ?_
                                  rotate_left
                                  · (intro w hSw; (try dsimp only at hSw); go_simp; try with_reducible rfl)
                                  try simp only [Act.put, List.setIfInBounds_toArray, List.set_cons_zero, List.set_cons_succ]
                                  refine held_take (v := ?_) 2 rfl (by kernel_rfl) (by kernel_rfl) (by kernel_rfl) (fun _ _ _ h => h) (by rfl) ?_ (by assumption) ?_
                                  rotate_left
                                  · (intro w hSw; (try dsimp only at hSw); go_simp; try with_reducible rfl)
                                  try simp only [Act.put, List.setIfInBounds_toArray, List.set_cons_zero, List.set_cons_succ]
                                  refine held_take (v := ?_) 3 rfl (by kernel_rfl) (by kernel_rfl) (by kernel_rfl) (fun _ _ _ h => h) (by rfl) ?_ (by assumption) ?_
                                  rotate_left
                                  · (intro w hSw; (try dsimp only at hSw); go_simp; try with_reducible rfl)
                                  try simp only [Act.put, List.setIfInBounds_toArray, List.set_cons_zero, List.set_cons_succ]
                                  refine held_skip 4 rfl (by kernel_rfl) (by kernel_rfl) (by kernel_rfl) (fun _ _ _ h => h) (by rfl) (by assumption) ?_
                                  try simp only [Act.put, List.setIfInBounds_toArray, List.set_cons_zero, List.set_cons_succ]
                                  refine held_skip 5 rfl (by kernel_rfl) (by kernel_rfl) (by kernel_rfl) (fun _ _ _ h => h) (by rfl) (by assumption) ?_
                                  try simp only [Act.put, List.setIfInBounds_toArray, List.set_cons_zero, List.set_cons_succ]
                                  refine held_skip 6 rfl (by kernel_rfl) (by kernel_rfl) (by kernel_rfl) (fun _ _ _ h => h) (by rfl) (by assumption) ?_
                                  try simp only [Act.put, List.setIfInBounds_toArray, List.set_cons_zero, List.set_cons_succ]
                                  refine held_take (v := ?_) 7 rfl (by kernel_rfl) (by kernel_rfl) (by kernel_rfl) (fun _ _ _ h => h) (by rfl) ?_ (by assumption) ?_
                                  rotate_left
                                  · (intro w hSw; (try dsimp only at hSw); go_simp; try with_reducible rfl)
                                  try simp only [Act.put, List.setIfInBounds_toArray, List.set_cons_zero, List.set_cons_succ]
                                  refine held_take (v := ?_) 8 rfl (by kernel_rfl) (by kernel_rfl) (by kernel_rfl) (fun _ _ _ h => h) (by rfl) ?_ (by assumption) ?_
                                  rotate_left
                                  · (intro w hSw; (try dsimp only at hSw); go_simp; try with_reducible rfl)
                                  try simp only [Act.put, List.setIfInBounds_toArray, List.set_cons_zero, List.set_cons_succ]
                                  refine held_take (v := ?_) 9 rfl (by kernel_rfl) (by kernel_rfl) (by kernel_rfl) (fun _ _ _ h => h) (by rfl) ?_ (by assumption) ?_
                                  rotate_left
                                  · (intro w hSw; (try dsimp only at hSw); go_simp; try with_reducible rfl)
                                  try simp only [Act.put, List.setIfInBounds_toArray, List.set_cons_zero, List.set_cons_succ]
                                  refine held_take (v := ?_) 10 rfl (by kernel_rfl) (by kernel_rfl) (by kernel_rfl) (fun _ _ _ h => h) (by rfl) ?_ (by assumption) ?_
                                  rotate_left
                                  · (intro w hSw; (try dsimp only at hSw); go_simp; try with_reducible rfl)
                                  try simp only [Act.put, List.setIfInBounds_toArray, List.set_cons_zero, List.set_cons_succ]
                                  refine held_take (v := ?_) 11 rfl (by kernel_rfl) (by kernel_rfl) (by kernel_rfl) (fun _ _ _ h => h) (by rfl) ?_ (by assumption) ?_
                                  rotate_left
                                  · (intro w hSw; (try dsimp only at hSw); go_simp; try with_reducible rfl)
                                  try simp only [Act.put, List.setIfInBounds_toArray, List.set_cons_zero, List.set_cons_succ]
                                  refine held_skip 12 rfl (by kernel_rfl) (by kernel_rfl) (by kernel_rfl) (fun _ _ _ h => h) (by rfl) (by assumption) ?_
                                  try simp only [Act.put, List.setIfInBounds_toArray, List.set_cons_zero, List.set_cons_succ]
                                  refine held_skip 13 rfl (by kernel_rfl) (by kernel_rfl) (by kernel_rfl) (fun _ _ _ h => h) (by rfl) (by assumption) ?_
                                  try simp only [Act.put, List.setIfInBounds_toArray, List.set_cons_zero, List.set_cons_succ]
                                  refine held_skip 14 rfl (by kernel_rfl) (by kernel_rfl) (by kernel_rfl) (fun _ _ _ h => h) (by rfl) (by assumption) ?_
                                  try simp only [Act.put, List.setIfInBounds_toArray, List.set_cons_zero, List.set_cons_succ]
                                  refine held_skip 15 rfl (by kernel_rfl) (by kernel_rfl) (by kernel_rfl) (fun _ _ _ h => h) (by rfl) (by assumption) ?_
                                  try simp only [Act.put, List.setIfInBounds_toArray, List.set_cons_zero, List.set_cons_succ]
                                  refine held_skip 16 rfl (by kernel_rfl) (by kernel_rfl) (by kernel_rfl) (fun _ _ _ h => h) (by rfl) (by assumption) ?_
                                  try simp only [Act.put, List.setIfInBounds_toArray, List.set_cons_zero, List.set_cons_succ]
                                  refine held_skip 17 rfl (by kernel_rfl) (by kernel_rfl) (by kernel_rfl) (fun _ _ _ h => h) (by rfl) (by assumption) ?_
                                  try simp only [Act.put, List.setIfInBounds_toArray, List.set_cons_zero, List.set_cons_succ]
                                  refine held_skip 18 rfl (by kernel_rfl) (by kernel_rfl) (by kernel_rfl) (fun _ _ _ h => h) (by rfl) (by assumption) ?_
                                  try simp only [Act.put, List.setIfInBounds_toArray, List.set_cons_zero, List.set_cons_succ]
                                  refine held_skip 19 rfl (by kernel_rfl) (by kernel_rfl) (by kernel_rfl) (fun _ _ _ h => h) (by rfl) (by assumption) ?_
                                  try simp only [Act.put, List.setIfInBounds_toArray, List.set_cons_zero, List.set_cons_succ]
                                  refine held_skip 20 rfl (by kernel_rfl) (by kernel_rfl) (by kernel_rfl) (fun _ _ _ h => h) (by rfl) (by assumption) ?_
                                  try simp only [Act.put, List.setIfInBounds_toArray, List.set_cons_zero, List.set_cons_succ]
                                  refine held_skip 21 rfl (by kernel_rfl) (by kernel_rfl) (by kernel_rfl) (fun _ _ _ h => h) (by rfl) (by assumption) ?_
                                  try simp only [Act.put, List.setIfInBounds_toArray, List.set_cons_zero, List.set_cons_succ]
                                  refine held_skip 22 rfl (by kernel_rfl) (by kernel_rfl) (by kernel_rfl) (fun _ _ _ h => h) (by rfl) (by assumption) ?_
                                  try simp only [Act.put, List.setIfInBounds_toArray, List.set_cons_zero, List.set_cons_succ]
                                  refine held_take (v := ?_) 23 rfl (by kernel_rfl) (by kernel_rfl) (by kernel_rfl) (fun _ _ _ h => h) (by rfl) ?_ (by assumption) ?_
                                  rotate_left
                                  · (intro w hSw; (try dsimp only at hSw); go_simp; try with_reducible rfl)
                                  try simp only [Act.put, List.setIfInBounds_toArray, List.set_cons_zero, List.set_cons_succ]
                                  refine held_take (v := ?_) 24 rfl (by kernel_rfl) (by kernel_rfl) (by kernel_rfl) (fun _ _ _ h => h) (by rfl) ?_ (by assumption) ?_
                                  rotate_left
                                  · (intro w hSw; (try dsimp only at hSw); go_simp; try with_reducible rfl)
                                  try simp only [Act.put, List.setIfInBounds_toArray, List.set_cons_zero, List.set_cons_succ]
                                  refine wpAnyH_done (by kernel_rfl) ?_ _
                                  go_wp2_with fail
                                  go_meet
                                  exact ⟨rfl, rfl⟩
                                · have he : ((q : Int) == (n : Int)) = false := by simp; omega
                                  cases cb with
                                  | true =>
                                    have ht : bb = true := by rw [← HSN.out.2.2.2]; simp
                                    subst ht
                                    clear hqn
                                    refine wp_region_held_drew (S := (fun _ => True)) (by kernel_rfl) ?_ (fun hHeld0 => ?_)
                                    · first | trivial | ((try dsimp only); (trivial))
                                    refine held_take (v := ?_) 0 rfl (by kernel_rfl) (by kernel_rfl) (by kernel_rfl) (fun _ _ _ h => h) (by rfl) ?_ (by assumption) ?_
                                    rotate_left
                                    · (intro w hSw; (try dsimp only at hSw); go_simp; try with_reducible rfl)
                                    try simp only [Act.put, List.setIfInBounds_toArray, List.set_cons_zero, List.set_cons_succ]
                                    refine held_take (v := ?_) 1 rfl (by kernel_rfl) (by kernel_rfl) (by kernel_rfl) (fun _ _ _ h => h) (by rfl) ?_ (by assumption) ?_
                                    rotate_left
                                    · (intro w hSw; (try dsimp only at hSw); go_simp; try with_reducible rfl)
                                    try simp only [Act.put, List.setIfInBounds_toArray, List.set_cons_zero, List.set_cons_succ]
                                    refine held_take (v := ?_) 2 rfl (by kernel_rfl) (by kernel_rfl) (by kernel_rfl) (fun _ _ _ h => h) (by rfl) ?_ (by assumption) ?_
                                    rotate_left
                                    · (intro w hSw; (try dsimp only at hSw); go_simp; try with_reducible rfl)
                                    try simp only [Act.put, List.setIfInBounds_toArray, List.set_cons_zero, List.set_cons_succ]
                                    refine held_take (v := ?_) 3 rfl (by kernel_rfl) (by kernel_rfl) (by kernel_rfl) (fun _ _ _ h => h) (by rfl) ?_ (by assumption) ?_
                                    rotate_left
                                    · (intro w hSw; (try dsimp only at hSw); go_simp; try with_reducible rfl)
                                    try simp only [Act.put, List.setIfInBounds_toArray, List.set_cons_zero, List.set_cons_succ]
                                    refine held_take (v := ?_) 4 rfl (by kernel_rfl) (by kernel_rfl) (by kernel_rfl) (fun _ _ _ h => h) (by rfl) ?_ (by assumption) ?_
                                    rotate_left
                                    · (intro w hSw; (try dsimp only at hSw); go_simp; try with_reducible rfl)
                                    try simp only [Act.put, List.setIfInBounds_toArray, List.set_cons_zero, List.set_cons_succ]
                                    refine held_take (v := ?_) 5 rfl (by kernel_rfl) (by kernel_rfl) (by kernel_rfl) (fun _ _ _ h => h) (by rfl) ?_ (by assumption) ?_
                                    rotate_left
                                    · (intro w hSw; (try dsimp only at hSw); go_simp; try with_reducible rfl)
                                    try simp only [Act.put, List.setIfInBounds_toArray, List.set_cons_zero, List.set_cons_succ]
                                    refine held_call 6 (by kernel_rfl) rfl (fun K hK => ?_)
                                    go_simp
                                    go_at_call 57; refine (HH.out _ (HKEEP.out.2.at_ HIO.out).drew).mono ?_; rintro e w5 ⟨rfl, rfl⟩
                                    try (go_wp2_with fail)
                                    refine hK.out _ _ ?_ (fun hHeld1 => ?_)
                                    · first | trivial | ((try dsimp only); (trivial))
                                    clear hK K hHeld0
                                    try simp only [Act.put, List.setIfInBounds_toArray, List.set_cons_zero, List.set_cons_succ]
                                    refine held_take (v := ?_) 7 rfl (by kernel_rfl) (by kernel_rfl) (by kernel_rfl) (fun _ _ _ h => h) (by rfl) ?_ (by assumption) ?_
                                    rotate_left
                                    · (intro w hSw; (try dsimp only at hSw); go_simp; try with_reducible rfl)
                                    try simp only [Act.put, List.setIfInBounds_toArray, List.set_cons_zero, List.set_cons_succ]
                                    refine held_take (v := ?_) 8 rfl (by kernel_rfl) (by kernel_rfl) (by kernel_rfl) (fun _ _ _ h => h) (by rfl) ?_ (by assumption) ?_
                                    rotate_left
                                    · (intro w hSw; (try dsimp only at hSw); go_simp; try with_reducible rfl)
                                    try simp only [Act.put, List.setIfInBounds_toArray, List.set_cons_zero, List.set_cons_succ]
                                    refine held_take (v := ?_) 9 rfl (by kernel_rfl) (by kernel_rfl) (by kernel_rfl) (fun _ _ _ h => h) (by rfl) ?_ (by assumption) ?_
                                    rotate_left
                                    · (intro w hSw; (try dsimp only at hSw); go_simp; try with_reducible rfl)
                                    try simp only [Act.put, List.setIfInBounds_toArray, List.set_cons_zero, List.set_cons_succ]
                                    refine held_take (v := ?_) 10 rfl (by kernel_rfl) (by kernel_rfl) (by kernel_rfl) (fun _ _ _ h => h) (by rfl) ?_ (by assumption) ?_
                                    rotate_left
                                    · (intro w hSw; (try dsimp only at hSw); go_simp; try with_reducible rfl)
                                    try simp only [Act.put, List.setIfInBounds_toArray, List.set_cons_zero, List.set_cons_succ]
                                    refine held_take (v := ?_) 11 rfl (by kernel_rfl) (by kernel_rfl) (by kernel_rfl) (fun _ _ _ h => h) (by rfl) ?_ (by assumption) ?_
                                    rotate_left
                                    · (intro w hSw; (try dsimp only at hSw); go_simp; try with_reducible rfl)
                                    try simp only [Act.put, List.setIfInBounds_toArray, List.set_cons_zero, List.set_cons_succ]
                                    refine held_skip 12 rfl (by kernel_rfl) (by kernel_rfl) (by kernel_rfl) (fun _ _ _ h => h) (by rfl) (by assumption) ?_
                                    try simp only [Act.put, List.setIfInBounds_toArray, List.set_cons_zero, List.set_cons_succ]
                                    refine held_skip 13 rfl (by kernel_rfl) (by kernel_rfl) (by kernel_rfl) (fun _ _ _ h => h) (by rfl) (by assumption) ?_
                                    try simp only [Act.put, List.setIfInBounds_toArray, List.set_cons_zero, List.set_cons_succ]
                                    refine held_skip 14 rfl (by kernel_rfl) (by kernel_rfl) (by kernel_rfl) (fun _ _ _ h => h) (by rfl) (by assumption) ?_
                                    try simp only [Act.put, List.setIfInBounds_toArray, List.set_cons_zero, List.set_cons_succ]
                                    refine held_skip 15 rfl (by kernel_rfl) (by kernel_rfl) (by kernel_rfl) (fun _ _ _ h => h) (by rfl) (by assumption) ?_
                                    try simp only [Act.put, List.setIfInBounds_toArray, List.set_cons_zero, List.set_cons_succ]
                                    refine held_skip 16 rfl (by kernel_rfl) (by kernel_rfl) (by kernel_rfl) (fun _ _ _ h => h) (by rfl) (by assumption) ?_
                                    try simp only [Act.put, List.setIfInBounds_toArray, List.set_cons_zero, List.set_cons_succ]
                                    refine held_skip 17 rfl (by kernel_rfl) (by kernel_rfl) (by kernel_rfl) (fun _ _ _ h => h) (by rfl) (by assumption) ?_
                                    try simp only [Act.put, List.setIfInBounds_toArray, List.set_cons_zero, List.set_cons_succ]
                                    refine held_skip 18 rfl (by kernel_rfl) (by kernel_rfl) (by kernel_rfl) (fun _ _ _ h => h) (by rfl) (by assumption) ?_
                                    try simp only [Act.put, List.setIfInBounds_toArray, List.set_cons_zero, List.set_cons_succ]
                                    refine held_skip 19 rfl (by kernel_rfl) (by kernel_rfl) (by kernel_rfl) (fun _ _ _ h => h) (by rfl) (by assumption) ?_
                                    try simp only [Act.put, List.setIfInBounds_toArray, List.set_cons_zero, List.set_cons_succ]
                                    refine held_skip 20 rfl (by kernel_rfl) (by kernel_rfl) (by kernel_rfl) (fun _ _ _ h => h) (by rfl) (by assumption) ?_
                                    try simp only [Act.put, List.setIfInBounds_toArray, List.set_cons_zero, List.set_cons_succ]
                                    refine held_skip 21 rfl (by kernel_rfl) (by kernel_rfl) (by kernel_rfl) (fun _ _ _ h => h) (by rfl) (by assumption) ?_
                                    try simp only [Act.put, List.setIfInBounds_toArray, List.set_cons_zero, List.set_cons_succ]
                                    refine held_skip 22 rfl (by kernel_rfl) (by kernel_rfl) (by kernel_rfl) (fun _ _ _ h => h) (by rfl) (by assumption) ?_
                                    try simp only [Act.put, List.setIfInBounds_toArray, List.set_cons_zero, List.set_cons_succ]
                                    refine held_take (v := ?_) 23 rfl (by kernel_rfl) (by kernel_rfl) (by kernel_rfl) (fun _ _ _ h => h) (by rfl) ?_ (by assumption) ?_
                                    rotate_left
                                    · (intro w hSw; (try dsimp only at hSw); go_simp; try with_reducible rfl)
                                    try simp only [Act.put, List.setIfInBounds_toArray, List.set_cons_zero, List.set_cons_succ]
                                    refine held_take (v := ?_) 24 rfl (by kernel_rfl) (by kernel_rfl) (by kernel_rfl) (fun _ _ _ h => h) (by rfl) ?_ (by assumption) ?_
                                    rotate_left
                                    · (intro w hSw; (try dsimp only at hSw); go_simp; try with_reducible rfl)
                                    try simp only [Act.put, List.setIfInBounds_toArray, List.set_cons_zero, List.set_cons_succ]
                                    refine wpAnyH_done (by kernel_rfl) ?_ _
                                    go_wp2_with fail
                                    go_meet
                                    exact ⟨rfl, rfl⟩
                                  | false =>
                                    have ht : bb = false := by rw [← HSN.out.2.2.2]; simp [hqn]
                                    subst ht
                                    clear hqn
                                    refine wp_region_held_drew (S := (fun _ => True)) (by kernel_rfl) ?_ (fun hHeld0 => ?_)
                                    · first | trivial | ((try dsimp only); (trivial))
                                    refine held_take (v := ?_) 0 rfl (by kernel_rfl) (by kernel_rfl) (by kernel_rfl) (fun _ _ _ h => h) (by rfl) ?_ (by assumption) ?_
                                    rotate_left
                                    · (intro w hSw; (try dsimp only at hSw); go_simp; try with_reducible rfl)
                                    try simp only [Act.put, List.setIfInBounds_toArray, List.set_cons_zero, List.set_cons_succ]
                                    refine held_take (v := ?_) 1 rfl (by kernel_rfl) (by kernel_rfl) (by kernel_rfl) (fun _ _ _ h => h) (by rfl) ?_ (by assumption) ?_
                                    rotate_left
                                    · (intro w hSw; (try dsimp only at hSw); go_simp; try with_reducible rfl)
                                    try simp only [Act.put, List.setIfInBounds_toArray, List.set_cons_zero, List.set_cons_succ]
                                    refine held_take (v := ?_) 2 rfl (by kernel_rfl) (by kernel_rfl) (by kernel_rfl) (fun _ _ _ h => h) (by rfl) ?_ (by assumption) ?_
                                    rotate_left
                                    · (intro w hSw; (try dsimp only at hSw); go_simp; try with_reducible rfl)
                                    try simp only [Act.put, List.setIfInBounds_toArray, List.set_cons_zero, List.set_cons_succ]
                                    refine held_take (v := ?_) 3 rfl (by kernel_rfl) (by kernel_rfl) (by kernel_rfl) (fun _ _ _ h => h) (by rfl) ?_ (by assumption) ?_
                                    rotate_left
                                    · (intro w hSw; (try dsimp only at hSw); go_simp; try with_reducible rfl)
                                    try simp only [Act.put, List.setIfInBounds_toArray, List.set_cons_zero, List.set_cons_succ]
                                    refine held_take (v := ?_) 4 rfl (by kernel_rfl) (by kernel_rfl) (by kernel_rfl) (fun _ _ _ h => h) (by rfl) ?_ (by assumption) ?_
                                    rotate_left
                                    · (intro w hSw; (try dsimp only at hSw); go_simp; try with_reducible rfl)
                                    try simp only [Act.put, List.setIfInBounds_toArray, List.set_cons_zero, List.set_cons_succ]
                                    refine held_take (v := ?_) 5 rfl (by kernel_rfl) (by kernel_rfl) (by kernel_rfl) (fun _ _ _ h => h) (by rfl) ?_ (by assumption) ?_
                                    rotate_left
                                    · (intro w hSw; (try dsimp only at hSw); go_simp; try with_reducible rfl)
                                    try simp only [Act.put, List.setIfInBounds_toArray, List.set_cons_zero, List.set_cons_succ]
                                    refine held_call 6 (by kernel_rfl) rfl (fun K hK => ?_)
                                    go_simp
                                    go_at_call 57; refine (HH.out _ (HKEEP.out.2.at_ HIO.out).drew).mono ?_; rintro e w5 ⟨rfl, rfl⟩
                                    try (go_wp2_with fail)
                                    refine hK.out _ _ ?_ (fun hHeld1 => ?_)
                                    · first | trivial | ((try dsimp only); (trivial))
                                    clear hK K hHeld0
                                    try simp only [Act.put, List.setIfInBounds_toArray, List.set_cons_zero, List.set_cons_succ]
                                    refine held_take (v := ?_) 7 rfl (by kernel_rfl) (by kernel_rfl) (by kernel_rfl) (fun _ _ _ h => h) (by rfl) ?_ (by assumption) ?_
                                    rotate_left
                                    · (intro w hSw; (try dsimp only at hSw); go_simp; try with_reducible rfl)
                                    try simp only [Act.put, List.setIfInBounds_toArray, List.set_cons_zero, List.set_cons_succ]
                                    refine held_take (v := ?_) 8 rfl (by kernel_rfl) (by kernel_rfl) (by kernel_rfl) (fun _ _ _ h => h) (by rfl) ?_ (by assumption) ?_
                                    rotate_left
                                    · (intro w hSw; (try dsimp only at hSw); go_simp; try with_reducible rfl)
                                    try simp only [Act.put, List.setIfInBounds_toArray, List.set_cons_zero, List.set_cons_succ]
                                    refine held_skip 9 rfl (by kernel_rfl) (by kernel_rfl) (by kernel_rfl) (fun _ _ _ h => h) (by rfl) (by assumption) ?_
                                    try simp only [Act.put, List.setIfInBounds_toArray, List.set_cons_zero, List.set_cons_succ]
                                    refine held_skip 10 rfl (by kernel_rfl) (by kernel_rfl) (by kernel_rfl) (fun _ _ _ h => h) (by rfl) (by assumption) ?_
                                    try simp only [Act.put, List.setIfInBounds_toArray, List.set_cons_zero, List.set_cons_succ]
                                    refine held_skip 11 rfl (by kernel_rfl) (by kernel_rfl) (by kernel_rfl) (fun _ _ _ h => h) (by rfl) (by assumption) ?_
                                    try simp only [Act.put, List.setIfInBounds_toArray, List.set_cons_zero, List.set_cons_succ]
                                    refine held_skip 12 rfl (by kernel_rfl) (by kernel_rfl) (by kernel_rfl) (fun _ _ _ h => h) (by rfl) (by assumption) ?_
                                    try simp only [Act.put, List.setIfInBounds_toArray, List.set_cons_zero, List.set_cons_succ]
                                    refine held_skip 13 rfl (by kernel_rfl) (by kernel_rfl) (by kernel_rfl) (fun _ _ _ h => h) (by rfl) (by assumption) ?_
                                    try simp only [Act.put, List.setIfInBounds_toArray, List.set_cons_zero, List.set_cons_succ]
                                    refine held_skip 14 rfl (by kernel_rfl) (by kernel_rfl) (by kernel_rfl) (fun _ _ _ h => h) (by rfl) (by assumption) ?_
                                    try simp only [Act.put, List.setIfInBounds_toArray, List.set_cons_zero, List.set_cons_succ]
                                    refine held_skip 15 rfl (by kernel_rfl) (by kernel_rfl) (by kernel_rfl) (fun _ _ _ h => h) (by rfl) (by assumption) ?_
                                    try simp only [Act.put, List.setIfInBounds_toArray, List.set_cons_zero, List.set_cons_succ]
                                    refine held_skip 16 rfl (by kernel_rfl) (by kernel_rfl) (by kernel_rfl) (fun _ _ _ h => h) (by rfl) (by assumption) ?_
                                    try simp only [Act.put, List.setIfInBounds_toArray, List.set_cons_zero, List.set_cons_succ]
                                    refine held_skip 17 rfl (by kernel_rfl) (by kernel_rfl) (by kernel_rfl) (fun _ _ _ h => h) (by rfl) (by assumption) ?_
                                    try simp only [Act.put, List.setIfInBounds_toArray, List.set_cons_zero, List.set_cons_succ]
                                    refine held_skip 18 rfl (by kernel_rfl) (by kernel_rfl) (by kernel_rfl) (fun _ _ _ h => h) (by rfl) (by assumption) ?_
                                    try simp only [Act.put, List.setIfInBounds_toArray, List.set_cons_zero, List.set_cons_succ]
                                    refine held_skip 19 rfl (by kernel_rfl) (by kernel_rfl) (by kernel_rfl) (fun _ _ _ h => h) (by rfl) (by assumption) ?_
                                    try simp only [Act.put, List.setIfInBounds_toArray, List.set_cons_zero, List.set_cons_succ]
                                    refine held_skip 20 rfl (by kernel_rfl) (by kernel_rfl) (by kernel_rfl) (fun _ _ _ h => h) (by rfl) (by assumption) ?_
                                    try simp only [Act.put, List.setIfInBounds_toArray, List.set_cons_zero, List.set_cons_succ]
                                    refine held_skip 21 rfl (by kernel_rfl) (by kernel_rfl) (by kernel_rfl) (fun _ _ _ h => h) (by rfl) (by assumption) ?_
                                    try simp only [Act.put, List.setIfInBounds_toArray, List.set_cons_zero, List.set_cons_succ]
                                    refine held_skip 22 rfl (by kernel_rfl) (by kernel_rfl) (by kernel_rfl) (fun _ _ _ h => h) (by rfl) (by assumption) ?_
                                    try simp only [Act.put, List.setIfInBounds_toArray, List.set_cons_zero, List.set_cons_succ]
                                    refine held_skip 23 rfl (by kernel_rfl) (by kernel_rfl) (by kernel_rfl) (fun _ _ _ h => h) (by rfl) (by assumption) ?_
                                    try simp only [Act.put, List.setIfInBounds_toArray, List.set_cons_zero, List.set_cons_succ]
                                    refine held_take (v := ?_) 24 rfl (by kernel_rfl) (by kernel_rfl) (by kernel_rfl) (fun _ _ _ h => h) (by rfl) ?_ (by assumption) ?_
                                    rotate_left
                                    · (intro w hSw; (try dsimp only at hSw); go_simp; try with_reducible rfl)
                                    try simp only [Act.put, List.setIfInBounds_toArray, List.set_cons_zero, List.set_cons_succ]
                                    refine wpAnyH_done (by kernel_rfl) ?_ _
                                    go_wp2_with fail
                                    go_meet
                                    exact ⟨rfl, rfl⟩
                              · subst ho
                                have hkol := HSN.out.2.2.1 ko hko
                                obtain ⟨bl', ol', he, -, -, -, -, t1⟩ := hkeep.out.1.hl.pairD hkol
                                injection he with he; injection he with he1 he2; subst he1 he2
                                obtain ⟨t, ht⟩ : ∃ t, (l.getD ko (0, 0)).2 = t := ⟨_, rfl⟩
                                have hbbv := HSN.out.2.2.2
                                rw [Int.toNat_natCast, ht] at hbbv
                                rw [ht] at t1
                                have hd0 : decide ((ko : Int) < 0) = false := by simp
                                rw [hd0, Bool.false_or] at hbbv
                                have hkol2 : (ko : Int) < (l.length : Int) := by omega
                                clear ht
                                by_cases hqn : q = n
                                · have he : ((q : Int) == (n : Int)) = true := by simp [hqn]
                                  have ht : bb = decide (t ≤ y) := by rw [← hbbv]; simp [hqn]
                                  have HT := Lib.hid ht
                                  clear hqn ht hbbv
                                  refine wp_region_held_drew (S := (fun w' => w'.cell? ⟨bl, ol + q * 2 + 1, none⟩ = some (.int .i64 y) ∧ w'.cell? ⟨bl, ol + ko * 2 + 1, none⟩ = some (.int .i64 t))) (by kernel_rfl) ?_ (fun hHeld0 => ?_)
                                  · first | trivial | ((try dsimp only); (exact ⟨y1, t1⟩))
                                  refine held_take (v := ?_) 0 rfl (by kernel_rfl) (by kernel_rfl) (by kernel_rfl) (fun _ _ _ h => h) (by rfl) ?_ (by assumption) ?_
                                  rotate_left
                                  · (intro w hSw; (try dsimp only at hSw); go_simp; try with_reducible rfl)
                                  try simp only [Act.put, List.setIfInBounds_toArray, List.set_cons_zero, List.set_cons_succ]
                                  refine held_take (v := ?_) 1 rfl (by kernel_rfl) (by kernel_rfl) (by kernel_rfl) (fun _ _ _ h => h) (by rfl) ?_ (by assumption) ?_
                                  rotate_left
                                  · (intro w hSw; (try dsimp only at hSw); go_simp; try with_reducible rfl)
                                  try simp only [Act.put, List.setIfInBounds_toArray, List.set_cons_zero, List.set_cons_succ]
                                  refine held_take (v := ?_) 2 rfl (by kernel_rfl) (by kernel_rfl) (by kernel_rfl) (fun _ _ _ h => h) (by rfl) ?_ (by assumption) ?_
                                  rotate_left
                                  · (intro w hSw; (try dsimp only at hSw); go_simp; try with_reducible rfl)
                                  try simp only [Act.put, List.setIfInBounds_toArray, List.set_cons_zero, List.set_cons_succ]
                                  refine held_take (v := ?_) 3 rfl (by kernel_rfl) (by kernel_rfl) (by kernel_rfl) (fun _ _ _ h => h) (by rfl) ?_ (by assumption) ?_
                                  rotate_left
                                  · (intro w hSw; (try dsimp only at hSw); go_simp; try with_reducible rfl)
                                  try simp only [Act.put, List.setIfInBounds_toArray, List.set_cons_zero, List.set_cons_succ]
                                  refine held_skip 4 rfl (by kernel_rfl) (by kernel_rfl) (by kernel_rfl) (fun _ _ _ h => h) (by rfl) (by assumption) ?_
                                  try simp only [Act.put, List.setIfInBounds_toArray, List.set_cons_zero, List.set_cons_succ]
                                  refine held_skip 5 rfl (by kernel_rfl) (by kernel_rfl) (by kernel_rfl) (fun _ _ _ h => h) (by rfl) (by assumption) ?_
                                  try simp only [Act.put, List.setIfInBounds_toArray, List.set_cons_zero, List.set_cons_succ]
                                  refine held_skip 6 rfl (by kernel_rfl) (by kernel_rfl) (by kernel_rfl) (fun _ _ _ h => h) (by rfl) (by assumption) ?_
                                  try simp only [Act.put, List.setIfInBounds_toArray, List.set_cons_zero, List.set_cons_succ]
                                  refine held_take (v := ?_) 7 rfl (by kernel_rfl) (by kernel_rfl) (by kernel_rfl) (fun _ _ _ h => h) (by rfl) ?_ (by assumption) ?_
                                  rotate_left
                                  · (intro w hSw; (try dsimp only at hSw); go_simp; try with_reducible rfl)
                                  try simp only [Act.put, List.setIfInBounds_toArray, List.set_cons_zero, List.set_cons_succ]
                                  refine held_take (v := ?_) 8 rfl (by kernel_rfl) (by kernel_rfl) (by kernel_rfl) (fun _ _ _ h => h) (by rfl) ?_ (by assumption) ?_
                                  rotate_left
                                  · (intro w hSw; (try dsimp only at hSw); go_simp; try with_reducible rfl)
                                  try simp only [Act.put, List.setIfInBounds_toArray, List.set_cons_zero, List.set_cons_succ]
                                  refine held_take (v := ?_) 9 rfl (by kernel_rfl) (by kernel_rfl) (by kernel_rfl) (fun _ _ _ h => h) (by rfl) ?_ (by assumption) ?_
                                  rotate_left
                                  · (intro w hSw; (try dsimp only at hSw); go_simp; try with_reducible rfl)
                                  try simp only [Act.put, List.setIfInBounds_toArray, List.set_cons_zero, List.set_cons_succ]
                                  refine held_take (v := ?_) 10 rfl (by kernel_rfl) (by kernel_rfl) (by kernel_rfl) (fun _ _ _ h => h) (by rfl) ?_ (by assumption) ?_
                                  rotate_left
                                  · (intro w hSw; (try dsimp only at hSw); go_simp; try with_reducible rfl)
                                  try simp only [Act.put, List.setIfInBounds_toArray, List.set_cons_zero, List.set_cons_succ]
                                  refine held_take (v := ?_) 11 rfl (by kernel_rfl) (by kernel_rfl) (by kernel_rfl) (fun _ _ _ h => h) (by rfl) ?_ (by assumption) ?_
                                  rotate_left
                                  · (intro w hSw; (try dsimp only at hSw); go_simp; try with_reducible rfl)
                                  try simp only [Act.put, List.setIfInBounds_toArray, List.set_cons_zero, List.set_cons_succ]
                                  refine held_take (v := ?_) 12 rfl (by kernel_rfl) (by kernel_rfl) (by kernel_rfl) (fun _ _ _ h => h) (by rfl) ?_ (by assumption) ?_
                                  rotate_left
                                  · (intro w hSw; (try dsimp only at hSw); go_simp; try with_reducible rfl)
                                  try simp only [Act.put, List.setIfInBounds_toArray, List.set_cons_zero, List.set_cons_succ]
                                  refine held_take (v := ?_) 13 rfl (by kernel_rfl) (by kernel_rfl) (by kernel_rfl) (fun _ _ _ h => h) (by rfl) ?_ (by assumption) ?_
                                  rotate_left
                                  · (intro w hSw; (try dsimp only at hSw); go_simp; try with_reducible rfl)
                                  try simp only [Act.put, List.setIfInBounds_toArray, List.set_cons_zero, List.set_cons_succ]
                                  refine held_take (v := ?_) 14 rfl (by kernel_rfl) (by kernel_rfl) (by kernel_rfl) (fun _ _ _ h => h) (by rfl) ?_ (by assumption) ?_
                                  rotate_left
                                  · (intro w hSw; (try dsimp only at hSw); go_simp; try with_reducible rfl)
                                  try simp only [Act.put, List.setIfInBounds_toArray, List.set_cons_zero, List.set_cons_succ]
                                  refine held_take (v := ?_) 15 rfl (by kernel_rfl) (by kernel_rfl) (by kernel_rfl) (fun _ _ _ h => h) (by rfl) ?_ (by assumption) ?_
                                  rotate_left
                                  · (intro w hSw; (try dsimp only at hSw); go_simp; try with_reducible rfl)
                                  try simp only [Act.put, List.setIfInBounds_toArray, List.set_cons_zero, List.set_cons_succ]
                                  refine held_take (v := ?_) 16 rfl (by kernel_rfl) (by kernel_rfl) (by kernel_rfl) (fun _ _ _ h => h) (by rfl) ?_ (by assumption) ?_
                                  rotate_left
                                  · (intro w hSw; (try dsimp only at hSw); go_simp; try with_reducible rfl)
                                  try simp only [Act.put, List.setIfInBounds_toArray, List.set_cons_zero, List.set_cons_succ]
                                  refine held_take (v := ?_) 17 rfl (by kernel_rfl) (by kernel_rfl) (by kernel_rfl) (fun _ _ _ h => h) (by rfl) ?_ (by assumption) ?_
                                  rotate_left
                                  · (intro w hSw; (try dsimp only at hSw); go_simp; try with_reducible rfl)
                                  try simp only [Act.put, List.setIfInBounds_toArray, List.set_cons_zero, List.set_cons_succ]
                                  refine held_take (v := ?_) 18 rfl (by kernel_rfl) (by kernel_rfl) (by kernel_rfl) (fun _ _ _ h => h) (by rfl) ?_ (by assumption) ?_
                                  rotate_left
                                  · (intro w hSw; (try dsimp only at hSw); go_simp; try with_reducible rfl)
                                  try simp only [Act.put, List.setIfInBounds_toArray, List.set_cons_zero, List.set_cons_succ]
                                  refine held_take (v := ?_) 19 rfl (by kernel_rfl) (by kernel_rfl) (by kernel_rfl) (fun _ _ _ h => h) (by rfl) ?_ (by assumption) ?_
                                  rotate_left
                                  · (intro w hSw; (try dsimp only at hSw); go_simp; try with_reducible rfl)
                                  try simp only [Act.put, List.setIfInBounds_toArray, List.set_cons_zero, List.set_cons_succ]
                                  refine held_take (v := ?_) 20 rfl (by kernel_rfl) (by kernel_rfl) (by kernel_rfl) (fun _ _ _ h => h) (by rfl) ?_ (by assumption) ?_
                                  rotate_left
                                  · (intro w hSw; (try dsimp only at hSw); go_simp; try with_reducible rfl)
                                  try simp only [Act.put, List.setIfInBounds_toArray, List.set_cons_zero, List.set_cons_succ]
                                  refine held_take (v := ?_) 21 rfl (by kernel_rfl) (by kernel_rfl) (by kernel_rfl) (fun _ _ _ h => h) (by rfl) ?_ (by assumption) ?_
                                  rotate_left
                                  · (intro w hSw; (try dsimp only at hSw); go_simp; try with_reducible rfl)
                                  try simp only [Act.put, List.setIfInBounds_toArray, List.set_cons_zero, List.set_cons_succ]
                                  refine held_take (v := ?_) 22 rfl (by kernel_rfl) (by kernel_rfl) (by kernel_rfl) (fun _ _ _ h => h) (by rfl) ?_ (by assumption) ?_
                                  rotate_left
                                  · (intro w hSw; (try dsimp only at hSw); go_simp; try with_reducible rfl)
                                  try simp only [Act.put, List.setIfInBounds_toArray, List.set_cons_zero, List.set_cons_succ]
                                  refine held_take (v := ?_) 23 rfl (by kernel_rfl) (by kernel_rfl) (by kernel_rfl) (fun _ _ _ h => h) (by rfl) ?_ (by assumption) ?_
                                  rotate_left
                                  · (intro w hSw; (try dsimp only at hSw); go_simp; try with_reducible rfl)
                                  try simp only [Act.put, List.setIfInBounds_toArray, List.set_cons_zero, List.set_cons_succ]
                                  refine held_take (v := ?_) 24 rfl (by kernel_rfl) (by kernel_rfl) (by kernel_rfl) (fun _ _ _ h => h) (by rfl) ?_ (by assumption) ?_
                                  rotate_left
                                  · (intro w hSw; (try dsimp only at hSw); go_simp; try with_reducible rfl)
                                  try simp only [Act.put, List.setIfInBounds_toArray, List.set_cons_zero, List.set_cons_succ]
                                  refine wpAnyH_done (by kernel_rfl) ?_ _
                                  go_wp2_with fail
                                  go_meet
                                  exact ⟨by rw [HT.out], rfl⟩
                                · have he : ((q : Int) == (n : Int)) = false := by simp; omega
                                  cases cb with
                                  | true =>
                                    have ht : bb = decide (t ≤ y) := by rw [← hbbv]; simp
                                    have HT := Lib.hid ht
                                    clear hqn ht hbbv
                                    refine wp_region_held_drew (S := (fun w' => w'.cell? ⟨bl, ol + q * 2 + 1, none⟩ = some (.int .i64 y) ∧ w'.cell? ⟨bl, ol + ko * 2 + 1, none⟩ = some (.int .i64 t))) (by kernel_rfl) ?_ (fun hHeld0 => ?_)
                                    · first | trivial | ((try dsimp only); (exact ⟨y1, t1⟩))
                                    refine held_take (v := ?_) 0 rfl (by kernel_rfl) (by kernel_rfl) (by kernel_rfl) (fun _ _ _ h => h) (by rfl) ?_ (by assumption) ?_
                                    rotate_left
                                    · (intro w hSw; (try dsimp only at hSw); go_simp; try with_reducible rfl)
                                    try simp only [Act.put, List.setIfInBounds_toArray, List.set_cons_zero, List.set_cons_succ]
                                    refine held_take (v := ?_) 1 rfl (by kernel_rfl) (by kernel_rfl) (by kernel_rfl) (fun _ _ _ h => h) (by rfl) ?_ (by assumption) ?_
                                    rotate_left
                                    · (intro w hSw; (try dsimp only at hSw); go_simp; try with_reducible rfl)
                                    try simp only [Act.put, List.setIfInBounds_toArray, List.set_cons_zero, List.set_cons_succ]
                                    refine held_take (v := ?_) 2 rfl (by kernel_rfl) (by kernel_rfl) (by kernel_rfl) (fun _ _ _ h => h) (by rfl) ?_ (by assumption) ?_
                                    rotate_left
                                    · (intro w hSw; (try dsimp only at hSw); go_simp; try with_reducible rfl)
                                    try simp only [Act.put, List.setIfInBounds_toArray, List.set_cons_zero, List.set_cons_succ]
                                    refine held_take (v := ?_) 3 rfl (by kernel_rfl) (by kernel_rfl) (by kernel_rfl) (fun _ _ _ h => h) (by rfl) ?_ (by assumption) ?_
                                    rotate_left
                                    · (intro w hSw; (try dsimp only at hSw); go_simp; try with_reducible rfl)
                                    try simp only [Act.put, List.setIfInBounds_toArray, List.set_cons_zero, List.set_cons_succ]
                                    refine held_take (v := ?_) 4 rfl (by kernel_rfl) (by kernel_rfl) (by kernel_rfl) (fun _ _ _ h => h) (by rfl) ?_ (by assumption) ?_
                                    rotate_left
                                    · (intro w hSw; (try dsimp only at hSw); go_simp; try with_reducible rfl)
                                    try simp only [Act.put, List.setIfInBounds_toArray, List.set_cons_zero, List.set_cons_succ]
                                    refine held_take (v := ?_) 5 rfl (by kernel_rfl) (by kernel_rfl) (by kernel_rfl) (fun _ _ _ h => h) (by rfl) ?_ (by assumption) ?_
                                    rotate_left
                                    · (intro w hSw; (try dsimp only at hSw); go_simp; try with_reducible rfl)
                                    try simp only [Act.put, List.setIfInBounds_toArray, List.set_cons_zero, List.set_cons_succ]
                                    refine held_call 6 (by kernel_rfl) rfl (fun K hK => ?_)
                                    go_simp
                                    go_at_call 57; refine (HH.out _ (HKEEP.out.2.at_ HIO.out).drew).mono ?_; rintro e w5 ⟨rfl, rfl⟩
                                    try (go_wp2_with fail)
                                    refine hK.out _ _ ?_ (fun hHeld1 => ?_)
                                    · first | trivial | ((try dsimp only); (exact ⟨y1, t1⟩))
                                    clear hK K hHeld0
                                    try simp only [Act.put, List.setIfInBounds_toArray, List.set_cons_zero, List.set_cons_succ]
                                    refine held_take (v := ?_) 7 rfl (by kernel_rfl) (by kernel_rfl) (by kernel_rfl) (fun _ _ _ h => h) (by rfl) ?_ (by assumption) ?_
                                    rotate_left
                                    · (intro w hSw; (try dsimp only at hSw); go_simp; try with_reducible rfl)
                                    try simp only [Act.put, List.setIfInBounds_toArray, List.set_cons_zero, List.set_cons_succ]
                                    refine held_take (v := ?_) 8 rfl (by kernel_rfl) (by kernel_rfl) (by kernel_rfl) (fun _ _ _ h => h) (by rfl) ?_ (by assumption) ?_
                                    rotate_left
                                    · (intro w hSw; (try dsimp only at hSw); go_simp; try with_reducible rfl)
                                    try simp only [Act.put, List.setIfInBounds_toArray, List.set_cons_zero, List.set_cons_succ]
                                    refine held_take (v := ?_) 9 rfl (by kernel_rfl) (by kernel_rfl) (by kernel_rfl) (fun _ _ _ h => h) (by rfl) ?_ (by assumption) ?_
                                    rotate_left
                                    · (intro w hSw; (try dsimp only at hSw); go_simp; try with_reducible rfl)
                                    try simp only [Act.put, List.setIfInBounds_toArray, List.set_cons_zero, List.set_cons_succ]
                                    refine held_take (v := ?_) 10 rfl (by kernel_rfl) (by kernel_rfl) (by kernel_rfl) (fun _ _ _ h => h) (by rfl) ?_ (by assumption) ?_
                                    rotate_left
                                    · (intro w hSw; (try dsimp only at hSw); go_simp; try with_reducible rfl)
                                    try simp only [Act.put, List.setIfInBounds_toArray, List.set_cons_zero, List.set_cons_succ]
                                    refine held_take (v := ?_) 11 rfl (by kernel_rfl) (by kernel_rfl) (by kernel_rfl) (fun _ _ _ h => h) (by rfl) ?_ (by assumption) ?_
                                    rotate_left
                                    · (intro w hSw; (try dsimp only at hSw); go_simp; try with_reducible rfl)
                                    try simp only [Act.put, List.setIfInBounds_toArray, List.set_cons_zero, List.set_cons_succ]
                                    refine held_take (v := ?_) 12 rfl (by kernel_rfl) (by kernel_rfl) (by kernel_rfl) (fun _ _ _ h => h) (by rfl) ?_ (by assumption) ?_
                                    rotate_left
                                    · (intro w hSw; (try dsimp only at hSw); go_simp; try with_reducible rfl)
                                    try simp only [Act.put, List.setIfInBounds_toArray, List.set_cons_zero, List.set_cons_succ]
                                    refine held_take (v := ?_) 13 rfl (by kernel_rfl) (by kernel_rfl) (by kernel_rfl) (fun _ _ _ h => h) (by rfl) ?_ (by assumption) ?_
                                    rotate_left
                                    · (intro w hSw; (try dsimp only at hSw); go_simp; try with_reducible rfl)
                                    try simp only [Act.put, List.setIfInBounds_toArray, List.set_cons_zero, List.set_cons_succ]
                                    refine held_take (v := ?_) 14 rfl (by kernel_rfl) (by kernel_rfl) (by kernel_rfl) (fun _ _ _ h => h) (by rfl) ?_ (by assumption) ?_
                                    rotate_left
                                    · (intro w hSw; (try dsimp only at hSw); go_simp; try with_reducible rfl)
                                    try simp only [Act.put, List.setIfInBounds_toArray, List.set_cons_zero, List.set_cons_succ]
                                    refine held_take (v := ?_) 15 rfl (by kernel_rfl) (by kernel_rfl) (by kernel_rfl) (fun _ _ _ h => h) (by rfl) ?_ (by assumption) ?_
                                    rotate_left
                                    · (intro w hSw; (try dsimp only at hSw); go_simp; try with_reducible rfl)
                                    try simp only [Act.put, List.setIfInBounds_toArray, List.set_cons_zero, List.set_cons_succ]
                                    refine held_take (v := ?_) 16 rfl (by kernel_rfl) (by kernel_rfl) (by kernel_rfl) (fun _ _ _ h => h) (by rfl) ?_ (by assumption) ?_
                                    rotate_left
                                    · (intro w hSw; (try dsimp only at hSw); go_simp; try with_reducible rfl)
                                    try simp only [Act.put, List.setIfInBounds_toArray, List.set_cons_zero, List.set_cons_succ]
                                    refine held_take (v := ?_) 17 rfl (by kernel_rfl) (by kernel_rfl) (by kernel_rfl) (fun _ _ _ h => h) (by rfl) ?_ (by assumption) ?_
                                    rotate_left
                                    · (intro w hSw; (try dsimp only at hSw); go_simp; try with_reducible rfl)
                                    try simp only [Act.put, List.setIfInBounds_toArray, List.set_cons_zero, List.set_cons_succ]
                                    refine held_take (v := ?_) 18 rfl (by kernel_rfl) (by kernel_rfl) (by kernel_rfl) (fun _ _ _ h => h) (by rfl) ?_ (by assumption) ?_
                                    rotate_left
                                    · (intro w hSw; (try dsimp only at hSw); go_simp; try with_reducible rfl)
                                    try simp only [Act.put, List.setIfInBounds_toArray, List.set_cons_zero, List.set_cons_succ]
                                    refine held_take (v := ?_) 19 rfl (by kernel_rfl) (by kernel_rfl) (by kernel_rfl) (fun _ _ _ h => h) (by rfl) ?_ (by assumption) ?_
                                    rotate_left
                                    · (intro w hSw; (try dsimp only at hSw); go_simp; try with_reducible rfl)
                                    try simp only [Act.put, List.setIfInBounds_toArray, List.set_cons_zero, List.set_cons_succ]
                                    refine held_take (v := ?_) 20 rfl (by kernel_rfl) (by kernel_rfl) (by kernel_rfl) (fun _ _ _ h => h) (by rfl) ?_ (by assumption) ?_
                                    rotate_left
                                    · (intro w hSw; (try dsimp only at hSw); go_simp; try with_reducible rfl)
                                    try simp only [Act.put, List.setIfInBounds_toArray, List.set_cons_zero, List.set_cons_succ]
                                    refine held_take (v := ?_) 21 rfl (by kernel_rfl) (by kernel_rfl) (by kernel_rfl) (fun _ _ _ h => h) (by rfl) ?_ (by assumption) ?_
                                    rotate_left
                                    · (intro w hSw; (try dsimp only at hSw); go_simp; try with_reducible rfl)
                                    try simp only [Act.put, List.setIfInBounds_toArray, List.set_cons_zero, List.set_cons_succ]
                                    refine held_take (v := ?_) 22 rfl (by kernel_rfl) (by kernel_rfl) (by kernel_rfl) (fun _ _ _ h => h) (by rfl) ?_ (by assumption) ?_
                                    rotate_left
                                    · (intro w hSw; (try dsimp only at hSw); go_simp; try with_reducible rfl)
                                    try simp only [Act.put, List.setIfInBounds_toArray, List.set_cons_zero, List.set_cons_succ]
                                    refine held_take (v := ?_) 23 rfl (by kernel_rfl) (by kernel_rfl) (by kernel_rfl) (fun _ _ _ h => h) (by rfl) ?_ (by assumption) ?_
                                    rotate_left
                                    · (intro w hSw; (try dsimp only at hSw); go_simp; try with_reducible rfl)
                                    try simp only [Act.put, List.setIfInBounds_toArray, List.set_cons_zero, List.set_cons_succ]
                                    refine held_take (v := ?_) 24 rfl (by kernel_rfl) (by kernel_rfl) (by kernel_rfl) (fun _ _ _ h => h) (by rfl) ?_ (by assumption) ?_
                                    rotate_left
                                    · (intro w hSw; (try dsimp only at hSw); go_simp; try with_reducible rfl)
                                    try simp only [Act.put, List.setIfInBounds_toArray, List.set_cons_zero, List.set_cons_succ]
                                    refine wpAnyH_done (by kernel_rfl) ?_ _
                                    go_wp2_with fail
                                    go_meet
                                    exact ⟨by rw [HT.out], rfl⟩
                                  | false =>
                                    have ht : bb = false := by rw [← hbbv]; simp [hqn]
                                    subst ht
                                    clear hqn hbbv
                                    refine wp_region_held_drew (S := (fun _ => True)) (by kernel_rfl) ?_ (fun hHeld0 => ?_)
                                    · first | trivial | ((try dsimp only); (trivial))
                                    refine held_take (v := ?_) 0 rfl (by kernel_rfl) (by kernel_rfl) (by kernel_rfl) (fun _ _ _ h => h) (by rfl) ?_ (by assumption) ?_
                                    rotate_left
                                    · (intro w hSw; (try dsimp only at hSw); go_simp; try with_reducible rfl)
                                    try simp only [Act.put, List.setIfInBounds_toArray, List.set_cons_zero, List.set_cons_succ]
                                    refine held_take (v := ?_) 1 rfl (by kernel_rfl) (by kernel_rfl) (by kernel_rfl) (fun _ _ _ h => h) (by rfl) ?_ (by assumption) ?_
                                    rotate_left
                                    · (intro w hSw; (try dsimp only at hSw); go_simp; try with_reducible rfl)
                                    try simp only [Act.put, List.setIfInBounds_toArray, List.set_cons_zero, List.set_cons_succ]
                                    refine held_take (v := ?_) 2 rfl (by kernel_rfl) (by kernel_rfl) (by kernel_rfl) (fun _ _ _ h => h) (by rfl) ?_ (by assumption) ?_
                                    rotate_left
                                    · (intro w hSw; (try dsimp only at hSw); go_simp; try with_reducible rfl)
                                    try simp only [Act.put, List.setIfInBounds_toArray, List.set_cons_zero, List.set_cons_succ]
                                    refine held_take (v := ?_) 3 rfl (by kernel_rfl) (by kernel_rfl) (by kernel_rfl) (fun _ _ _ h => h) (by rfl) ?_ (by assumption) ?_
                                    rotate_left
                                    · (intro w hSw; (try dsimp only at hSw); go_simp; try with_reducible rfl)
                                    try simp only [Act.put, List.setIfInBounds_toArray, List.set_cons_zero, List.set_cons_succ]
                                    refine held_take (v := ?_) 4 rfl (by kernel_rfl) (by kernel_rfl) (by kernel_rfl) (fun _ _ _ h => h) (by rfl) ?_ (by assumption) ?_
                                    rotate_left
                                    · (intro w hSw; (try dsimp only at hSw); go_simp; try with_reducible rfl)
                                    try simp only [Act.put, List.setIfInBounds_toArray, List.set_cons_zero, List.set_cons_succ]
                                    refine held_take (v := ?_) 5 rfl (by kernel_rfl) (by kernel_rfl) (by kernel_rfl) (fun _ _ _ h => h) (by rfl) ?_ (by assumption) ?_
                                    rotate_left
                                    · (intro w hSw; (try dsimp only at hSw); go_simp; try with_reducible rfl)
                                    try simp only [Act.put, List.setIfInBounds_toArray, List.set_cons_zero, List.set_cons_succ]
                                    refine held_call 6 (by kernel_rfl) rfl (fun K hK => ?_)
                                    go_simp
                                    go_at_call 57; refine (HH.out _ (HKEEP.out.2.at_ HIO.out).drew).mono ?_; rintro e w5 ⟨rfl, rfl⟩
                                    try (go_wp2_with fail)
                                    refine hK.out _ _ ?_ (fun hHeld1 => ?_)
                                    · first | trivial | ((try dsimp only); (trivial))
                                    clear hK K hHeld0
                                    try simp only [Act.put, List.setIfInBounds_toArray, List.set_cons_zero, List.set_cons_succ]
                                    refine held_take (v := ?_) 7 rfl (by kernel_rfl) (by kernel_rfl) (by kernel_rfl) (fun _ _ _ h => h) (by rfl) ?_ (by assumption) ?_
                                    rotate_left
                                    · (intro w hSw; (try dsimp only at hSw); go_simp; try with_reducible rfl)
                                    try simp only [Act.put, List.setIfInBounds_toArray, List.set_cons_zero, List.set_cons_succ]
                                    refine held_take (v := ?_) 8 rfl (by kernel_rfl) (by kernel_rfl) (by kernel_rfl) (fun _ _ _ h => h) (by rfl) ?_ (by assumption) ?_
                                    rotate_left
                                    · (intro w hSw; (try dsimp only at hSw); go_simp; try with_reducible rfl)
                                    try simp only [Act.put, List.setIfInBounds_toArray, List.set_cons_zero, List.set_cons_succ]
                                    refine held_skip 9 rfl (by kernel_rfl) (by kernel_rfl) (by kernel_rfl) (fun _ _ _ h => h) (by rfl) (by assumption) ?_
                                    try simp only [Act.put, List.setIfInBounds_toArray, List.set_cons_zero, List.set_cons_succ]
                                    refine held_skip 10 rfl (by kernel_rfl) (by kernel_rfl) (by kernel_rfl) (fun _ _ _ h => h) (by rfl) (by assumption) ?_
                                    try simp only [Act.put, List.setIfInBounds_toArray, List.set_cons_zero, List.set_cons_succ]
                                    refine held_skip 11 rfl (by kernel_rfl) (by kernel_rfl) (by kernel_rfl) (fun _ _ _ h => h) (by rfl) (by assumption) ?_
                                    try simp only [Act.put, List.setIfInBounds_toArray, List.set_cons_zero, List.set_cons_succ]
                                    refine held_skip 12 rfl (by kernel_rfl) (by kernel_rfl) (by kernel_rfl) (fun _ _ _ h => h) (by rfl) (by assumption) ?_
                                    try simp only [Act.put, List.setIfInBounds_toArray, List.set_cons_zero, List.set_cons_succ]
                                    refine held_skip 13 rfl (by kernel_rfl) (by kernel_rfl) (by kernel_rfl) (fun _ _ _ h => h) (by rfl) (by assumption) ?_
                                    try simp only [Act.put, List.setIfInBounds_toArray, List.set_cons_zero, List.set_cons_succ]
                                    refine held_skip 14 rfl (by kernel_rfl) (by kernel_rfl) (by kernel_rfl) (fun _ _ _ h => h) (by rfl) (by assumption) ?_
                                    try simp only [Act.put, List.setIfInBounds_toArray, List.set_cons_zero, List.set_cons_succ]
                                    refine held_skip 15 rfl (by kernel_rfl) (by kernel_rfl) (by kernel_rfl) (fun _ _ _ h => h) (by rfl) (by assumption) ?_
                                    try simp only [Act.put, List.setIfInBounds_toArray, List.set_cons_zero, List.set_cons_succ]
                                    refine held_skip 16 rfl (by kernel_rfl) (by kernel_rfl) (by kernel_rfl) (fun _ _ _ h => h) (by rfl) (by assumption) ?_
                                    try simp only [Act.put, List.setIfInBounds_toArray, List.set_cons_zero, List.set_cons_succ]
                                    refine held_skip 17 rfl (by kernel_rfl) (by kernel_rfl) (by kernel_rfl) (fun _ _ _ h => h) (by rfl) (by assumption) ?_
                                    try simp only [Act.put, List.setIfInBounds_toArray, List.set_cons_zero, List.set_cons_succ]
                                    refine held_skip 18 rfl (by kernel_rfl) (by kernel_rfl) (by kernel_rfl) (fun _ _ _ h => h) (by rfl) (by assumption) ?_
                                    try simp only [Act.put, List.setIfInBounds_toArray, List.set_cons_zero, List.set_cons_succ]
                                    refine held_skip 19 rfl (by kernel_rfl) (by kernel_rfl) (by kernel_rfl) (fun _ _ _ h => h) (by rfl) (by assumption) ?_
                                    try simp only [Act.put, List.setIfInBounds_toArray, List.set_cons_zero, List.set_cons_succ]
                                    refine held_skip 20 rfl (by kernel_rfl) (by kernel_rfl) (by kernel_rfl) (fun _ _ _ h => h) (by rfl) (by assumption) ?_
                                    try simp only [Act.put, List.setIfInBounds_toArray, List.set_cons_zero, List.set_cons_succ]
                                    refine held_skip 21 rfl (by kernel_rfl) (by kernel_rfl) (by kernel_rfl) (fun _ _ _ h => h) (by rfl) (by assumption) ?_
                                    try simp only [Act.put, List.setIfInBounds_toArray, List.set_cons_zero, List.set_cons_succ]
                                    refine held_skip 22 rfl (by kernel_rfl) (by kernel_rfl) (by kernel_rfl) (fun _ _ _ h => h) (by rfl) (by assumption) ?_
                                    try simp only [Act.put, List.setIfInBounds_toArray, List.set_cons_zero, List.set_cons_succ]
                                    refine held_skip 23 rfl (by kernel_rfl) (by kernel_rfl) (by kernel_rfl) (fun _ _ _ h => h) (by rfl) (by assumption) ?_
                                    try simp only [Act.put, List.setIfInBounds_toArray, List.set_cons_zero, List.set_cons_succ]
                                    refine held_take (v := ?_) 24 rfl (by kernel_rfl) (by kernel_rfl) (by kernel_rfl) (fun _ _ _ h => h) (by rfl) ?_ (by assumption) ?_
                                    rotate_left
                                    · (intro w hSw; (try dsimp only at hSw); go_simp; try with_reducible rfl)
                                    try simp only [Act.put, List.setIfInBounds_toArray, List.set_cons_zero, List.set_cons_succ]
                                    refine wpAnyH_done (by kernel_rfl) ?_ _
                                    go_wp2_with fail
                                    go_meet
                                    exact ⟨rfl, rfl⟩
                            case rest =>
                              obtain ⟨rfl, rfl⟩ := hcut
                              clear y1 g0
                              have hsn := HSN.out.1
                              have hkd : RcW wr.drew B w.heap.size S0 ac oc (some ⟨bl, ol, none⟩) (some ⟨ga, 0, none⟩) (some ⟨bo, oo, none⟩) l a1 order := hkeep.out.1.drew_
                              have HF := Lib.hid (And.intro hkd (And.intro hkeep.out.2.drew hsn)); clear hkd hsn
                              cases bb with
                              | true =>
                                go_wp2_with fail
                                go_roundg (order.length - (j + 1))
                                case measure => omega
                                case rel => exact ⟨j + 1, by omega, rfl, by go_num, by rw [HF.out.2.2]; rfl, ⟨HF.out.1, HF.out.2.1⟩, hbl.drew⟩
                              | false =>
                                go_wp2_with fail
                                go_roundg (order.length - (j + 1))
                                case measure => omega
                                case rel => exact ⟨j + 1, by omega, rfl, by go_num, by rw [HF.out.2.2]; rfl, ⟨HF.out.1, HF.out.2.1⟩, hbl.drew⟩
                        · obtain rfl : j = order.length := by omega
                          rw [List.take_length]
                          obtain ⟨ko, hko, hlg⟩ := Scn.longest_pos (l := l) (at_ := a1) HN.out.1
                          rw [hlg]
                          have hkol := HR.out.2.2.1 ko hko
                          have htk := HM.out.2.2.2.1
                          unfold Scn.take at htk
                          rw [if_neg (by omega), hlg, Int.toNat_natCast] at htk
                          have hsn := HN.out.2.1
                          rw [htk] at hsn
                          clear htk hlg hko
                          by_cases hkn : ko = n
                          · have hne : ((ko : Int) != (n : Int)) = false := by simp [hkn]
                            rw [if_pos (by rw [hkn])] at hsn
                            have HSN := Lib.hid hsn; clear hsn hkn
                            go_wp2_with fail
                            go_roundg (order.length - (k + 1))
                            case measure => omega
                            case rel => exact ⟨k + 1, by omega, rfl, by go_num, by rw [HSN.out]; exact hkeep.out.1, hbl⟩
                          · have hne : ((ko : Int) != (n : Int)) = true := by simp; omega
                            rw [if_neg (by omega)] at hsn
                            have hnl3 : (n : Int) < (l.length : Int) := by omega
                            have hkl3 : (ko : Int) < (l.length : Int) := by omega
                            obtain ⟨p1, -⟩ := hkeep.out.1.ha.pair_cells (i := n) (by omega)
                            obtain ⟨q0, -⟩ := hkeep.out.1.ha.pair_cells (i := ko) (by omega)
                            have z0 := hkeep.out.1.ha.frozen (g := ga) rfl (n * 2)
                            have hokk := pair_ok hkeep.out.1.hok (by omega : ko < a1.length)
                            have hokn := pair_ok hkeep.out.1.hok (by omega : n < a1.length)
                            obtain ⟨v, hv⟩ : ∃ v, (a1.getD ko (0, 0)).1 = v := ⟨_, rfl⟩
                            rw [hv] at q0 hsn hokk
                            have h1 := hkeep.out.1.ha.set_fst v (by omega : n < a1.length)
                            have h2 := h1.set_fst (i := ko) (-1) (by rw [List.length_set]; omega)
                            have hgk : (a1.set n (v, (a1.getD n (0, 0)).2)).getD ko (0, 0) = a1.getD ko (0, 0) := Scn.getD_set_ne (by omega)
                            have q1 := (h1.pair_cells (i := ko) (by rw [List.length_set]; omega)).1
                            rw [hgk, hv] at q1
                            have z1 := h1.frozen (g := ga) rfl (ko * 2)
                            rw [hgk] at h2
                            have hg2 : wr.grownBy ((wr.setCell ⟨ga, n * 2, none⟩ (.int .i64 v)).setCell ⟨ga, ko * 2, none⟩ (.int .i64 (-1))) (some ga) := (grownBy_setCell _ _ _ _).trans (grownBy_setCell _ _ _ _)
                            have hok' : ∀ x ∈ (a1.set n (v, (a1.getD n (0, 0)).2)).set ko (-1, (a1.getD ko (0, 0)).2), Flat.ok x := set_ok (y := (-1, (a1.getD ko (0, 0)).2)) (set_ok (y := (v, (a1.getD n (0, 0)).2)) hkeep.out.1.hok ⟨hokk.1, hokn.2⟩) ⟨by show I64 (-1); unfold I64; omega, hokk.2⟩
                            have hfin := hkeep.out.1.set_ hg2 h2 hok' (by decide)
                            have hbe : Below w.heap.size w ((wr.setCell ⟨ga, n * 2, none⟩ (.int .i64 v)).setCell ⟨ga, ko * 2, none⟩ (.int .i64 (-1))) := (hbl.setCell (hkeep.out.1.ha.lt ga rfl).1 _).setCell (hkeep.out.1.ha.lt ga rfl).1 _
                            have HF := Lib.hid (And.intro hfin (And.intro hbe hsn)); clear hfin hbe hsn h1 h2 hgk hg2 hok' hokk hokn hv hkn
                            go_wp2_with fail
                            go_roundg (order.length - (k + 1))
                            case measure => omega
                            case rel => exact ⟨k + 1, by omega, rfl, by go_num, by rw [HF.out.2.2]; exact HF.out.1, HF.out.2.1⟩
                · as_aux_lemma =>
                    -- set
                    have hna3 : n < (at_.set n ((m : Int), -1)).length := by rw [List.length_set]; exact hna2
                    obtain ⟨a0, -⟩ := hkeep.out.2.1.ha.pair_cells (i := n) hna3
                    rw [Scn.getD_set_self hna2] at a0
                    have htk := HM.out.2.2.2.1
                    unfold Scn.take at htk
                    rw [if_pos (by omega), HN.out.2.2] at htk
                    have hsn := HN.out.2.1
                    rw [htk] at hsn
                    have HSN := Lib.hid hsn; clear hsn htk
                    have hm0 : decide ((m : Int) < 0) = false := by simp
                    have hm1 : decide ((0 : Int) ≤ (m : Int)) = true := by simp
                    by_cases hrl : m + 1 < R
                    · have hd1 : decide ((m : Int) + 1 < (R : Int)) = true := by simp; omega
                      go_wp2_with fail
                      go_roundg (order.length - (k + 1))
                      case measure => omega
                      case rel => exact ⟨k + 1, by omega, rfl, by go_num, by rw [HSN.out]; exact hkeep.out.2.1, hbl⟩
                    · have hd1 : decide ((m : Int) + 1 < (R : Int)) = false := by simp; omega
                      go_wp2_with fail
                      go_roundg (order.length - (k + 1))
                      case measure => omega
                      case rel => exact ⟨k + 1, by omega, rfl, by go_num, by rw [HSN.out]; exact hkeep.out.2.1, hbl⟩
        · as_aux_lemma =>
            obtain rfl : k = order.length := by omega
            clear hkl
            go_wp2_with fail
            go_loopg [20, 22, 23, 24, 26, 172] (order.length) (fun gk v20 v22 v23 v24 v26 iv wr => ∃ (k : Nat), k ≤ order.length ∧ gk = order.length - k ∧ iv = .int .i64 k ∧ v20 = .int .i64 (Scn.slotted l regs order k).2 ∧ Hid (RcW wr B w.heap.size S0 ac oc LA AA OA l (Scn.slotted l regs order k).1 order) ∧ Below w.heap.size w wr)
            case atStart => exact ⟨0, Nat.zero_le _, rfl, rfl, rfl, hkeep.out, hbl⟩
            case round =>
              clear hkeep hbl hk
              obtain ⟨k, hk, rfl, rfl, rfl, hkeep, hbl⟩ := hrel
              have hsl := Scn.slotted_length l regs order k
              obtain ⟨s, hs⟩ : ∃ s, Scn.slotted l regs order k = s := ⟨_, rfl⟩
              rw [hs] at hkeep hsl
              rw [hs]
              obtain ⟨at_, sm⟩ := s
              simp only at hkeep hsl
              by_cases hkl : k < order.length
              · obtain ⟨n, hn⟩ : ∃ n, order[k]? = some n := ⟨_, List.getElem?_eq_getElem hkl⟩
                have hnm := List.mem_of_getElem? hn
                have hnl := HR.out.2.2.1 n hnm
                have hsn := Scn.slotted_succ l regs order hn
                have hfresh := Scn.slotted_fresh l regs order HR.out.2.1 HR.out.2.2.1 k k n (Nat.le_refl _) hn
                rw [hs] at hsn hfresh
                unfold Scn.slotStep at hsn
                simp only at hsn hfresh
                obtain ⟨ga, rfl, hga1, hga2⟩ := hkeep.out.ha.some_ (by omega)
                obtain ⟨bo, oo, rfl, hbo, g0⟩ := ints_at (hkeep.out.ho.at_ (ints_ok HR.out.2.2.1 (by omega))) hn
                have hna2 : n < at_.length := by omega
                obtain ⟨m, hm⟩ : ∃ m, Scn.mex (Scn.busy l at_ Prod.snd n order) = m := ⟨_, rfl⟩
                have hml : m ≤ 60 := by rw [← hm]; have := Scn.mex_le (Scn.busy l at_ Prod.snd n order); have := Scn.busy_length l at_ Prod.snd n order; omega
                have hmf : ∀ r : Nat, r ≤ m → (Scn.takenS l at_ n (r : Int) order = true ↔ r < m) := by
                  intro r hr
                  rw [Scn.takenS_busy l at_ n order (r : Int) (by omega)]
                  constructor
                  · intro h
                    rcases Nat.lt_or_ge r m with h' | h'
                    · exact h'
                    · have e : r = m := by omega
                      rw [e, ← hm, Scn.mex_free] at h; cases h
                  · intro h; exact Scn.mex_lt _ r (by rw [hm]; exact h)
                rw [hm] at hsn
                obtain ⟨v, hv⟩ : ∃ v, (at_.getD n (0, 0)).1 = v := ⟨_, rfl⟩
                rw [hv] at hsn
                have hpo := pair_ok hkeep.out.hok hna2
                rw [hv] at hpo
                have HN := Lib.hid (And.intro hsn (And.intro hfresh (And.intro hmf (And.intro hv hpo)))); clear hsn hfresh hmf hv hm hs hn hpo
                have hnl2 : (n : Int) < (l.length : Int) := by omega
                go_wp2_with fail
                go_loopg [20, 23, 24, 26] (m + 2) (fun gs v20 v23 v24 v26 wr => ∃ (s : Nat) (a1 : List (Int × Int)) (s1 : Int), s ≤ m + 1 ∧ gs = m + 2 - s ∧ v23 = .int .i64 s ∧ v20 = .int .i64 s1 ∧ Hid (((s ≤ m ∧ a1 = at_ ∧ s1 = sm) ∨ (v < 0 ∧ s = m + 1 ∧ a1 = at_.set n (v, (m : Int)) ∧ s1 = max sm ((m : Int) + 1))) ∧ RcW wr B w.heap.size S0 ac oc LA (some ⟨ga, 0, none⟩) (some ⟨bo, oo, none⟩) l a1 order) ∧ Below w.heap.size w wr)
                case atStart => exact ⟨0, at_, sm, by omega, rfl, rfl, rfl, ⟨.inl ⟨by omega, rfl, rfl⟩, hkeep.out⟩, hbl⟩
                case round =>
                  clear hbl hkeep g0
                  obtain ⟨s, a1, s1, hsm, rfl, rfl, rfl, hkeep, hbl⟩ := hrel
                  have hsz2 := hbl.size
                  rcases hkeep.out.1 with ⟨hsm2, rfl, rfl⟩ | ⟨hv0, rfl, rfl, rfl⟩
                  · obtain ⟨p0, p1⟩ := hkeep.out.2.ha.pair_cells (i := n) hna2
                    rw [HN.out.2.2.2.1] at p0
                    rw [HN.out.2.1] at p1
                    by_cases hv0 : v < 0
                    · have hd0 : decide (v < 0) = true := by simpa using hv0
                      go_wp2_with fail
                      go_loopg [24, 26, 194] (order.length) (fun gj v24 v26 jv wr => ∃ (j : Nat), j ≤ order.length ∧ gj = order.length - j ∧ jv = .int .i64 j ∧ v24 = .bool (Scn.takenS l a1 n (s : Int) (order.take j)) ∧ Hid (RcW wr B w.heap.size S0 ac oc LA (some ⟨ga, 0, none⟩) (some ⟨bo, oo, none⟩) l a1 order) ∧ Below w.heap.size w wr)
                      case atStart => exact ⟨0, Nat.zero_le _, rfl, rfl, rfl, hkeep.out.2, hbl⟩
                      case round =>
                        clear hbl hkeep p0 p1 hsz2
                        obtain ⟨j, hj, rfl, rfl, rfl, hkeep, hbl⟩ := hrel
                        have hsz2 := hbl.size
                        by_cases hjl : j < order.length
                        · as_aux_lemma =>
                            obtain ⟨q, hq⟩ : ∃ q, order[j]? = some q := ⟨_, List.getElem?_eq_getElem hjl⟩
                            have hts := Scn.takenS_snoc (l := l) (at_ := a1) (n := n) (s := (s : Int)) hq
                            have hql := HR.out.2.2.1 q (List.mem_of_getElem? hq)
                            obtain ⟨bo', oo', he, hbo', g0⟩ := ints_at (hkeep.out.ho.at_ (ints_ok HR.out.2.2.1 (by omega))) hq
                            injection he with he; injection he with he1 he2; subst he1 he2
                            obtain ⟨bl, ol, hAe, hbl0, -, -, y0, y1⟩ := hkeep.out.hl.pairD hql
                            subst hAe
                            obtain ⟨bl', ol', he, -, -, -, z0, z1⟩ := hkeep.out.hl.pairD hnl
                            injection he with he; injection he with he1 he2; subst he1 he2
                            obtain ⟨-, a0⟩ := hkeep.out.ha.pair_cells (i := q) (by omega)
                            obtain ⟨tb, htb⟩ : ∃ b, Scn.takenS l a1 n (s : Int) (order.take j) = b := ⟨_, rfl⟩
                            rw [htb] at hts
                            rw [htb]
                            obtain ⟨x, hx⟩ : ∃ x, (a1.getD q (0, 0)).2 = x := ⟨_, rfl⟩
                            obtain ⟨y, hy⟩ : ∃ y, l.getD q (0, 0) = y := ⟨_, rfl⟩
                            obtain ⟨z, hz⟩ : ∃ z, l.getD n (0, 0) = z := ⟨_, rfl⟩
                            rw [hx] at a0 hts
                            rw [hy] at y0 y1 hts
                            rw [hz] at z0 z1 hts
                            obtain ⟨bb, hbb⟩ : ∃ b, (tb || (decide (q ≠ n) && (x == (s : Int)) && Scn.meet y z)) = b := ⟨_, rfl⟩
                            rw [hbb] at hts
                            have HQ := Lib.hid (And.intro hts hbb); clear hts hbb htb hx hy hz hq
                            have hqa : (q : Int) < (l.length : Int) := by omega
                            have hblB : bl < wr.heap.size := by have := hkeep.out.hB; omega
                            go_upto_region 51 with fail
                            cases tb with
                            | true =>
                              have ht : bb = true := by rw [← HQ.out.2]; rfl
                              subst ht
                              refine wp_region_held_drew (S := (fun _ => True)) (by kernel_rfl) ?_ (fun hHeld0 => ?_)
                              · first | trivial | ((try dsimp only); (trivial))
                              refine held_take (v := ?_) 0 rfl (by kernel_rfl) (by kernel_rfl) (by kernel_rfl) (fun _ _ _ h => h) (by rfl) ?_ (by assumption) ?_
                              rotate_left
                              · (intro w hSw; (try dsimp only at hSw); go_simp; try with_reducible rfl)
                              try simp only [Act.put, List.setIfInBounds_toArray, List.set_cons_zero, List.set_cons_succ]
                              refine held_take (v := ?_) 1 rfl (by kernel_rfl) (by kernel_rfl) (by kernel_rfl) (fun _ _ _ h => h) (by rfl) ?_ (by assumption) ?_
                              rotate_left
                              · (intro w hSw; (try dsimp only at hSw); go_simp; try with_reducible rfl)
                              try simp only [Act.put, List.setIfInBounds_toArray, List.set_cons_zero, List.set_cons_succ]
                              refine held_skip 2 rfl (by kernel_rfl) (by kernel_rfl) (by kernel_rfl) (fun _ _ _ h => h) (by rfl) (by assumption) ?_
                              try simp only [Act.put, List.setIfInBounds_toArray, List.set_cons_zero, List.set_cons_succ]
                              refine held_skip 3 rfl (by kernel_rfl) (by kernel_rfl) (by kernel_rfl) (fun _ _ _ h => h) (by rfl) (by assumption) ?_
                              try simp only [Act.put, List.setIfInBounds_toArray, List.set_cons_zero, List.set_cons_succ]
                              refine held_skip 4 rfl (by kernel_rfl) (by kernel_rfl) (by kernel_rfl) (fun _ _ _ h => h) (by rfl) (by assumption) ?_
                              try simp only [Act.put, List.setIfInBounds_toArray, List.set_cons_zero, List.set_cons_succ]
                              refine held_skip 5 rfl (by kernel_rfl) (by kernel_rfl) (by kernel_rfl) (fun _ _ _ h => h) (by rfl) (by assumption) ?_
                              try simp only [Act.put, List.setIfInBounds_toArray, List.set_cons_zero, List.set_cons_succ]
                              refine held_skip 6 rfl (by kernel_rfl) (by kernel_rfl) (by kernel_rfl) (fun _ _ _ h => h) (by rfl) (by assumption) ?_
                              try simp only [Act.put, List.setIfInBounds_toArray, List.set_cons_zero, List.set_cons_succ]
                              refine held_skip 7 rfl (by kernel_rfl) (by kernel_rfl) (by kernel_rfl) (fun _ _ _ h => h) (by rfl) (by assumption) ?_
                              try simp only [Act.put, List.setIfInBounds_toArray, List.set_cons_zero, List.set_cons_succ]
                              refine held_skip 8 rfl (by kernel_rfl) (by kernel_rfl) (by kernel_rfl) (fun _ _ _ h => h) (by rfl) (by assumption) ?_
                              try simp only [Act.put, List.setIfInBounds_toArray, List.set_cons_zero, List.set_cons_succ]
                              refine held_skip 9 rfl (by kernel_rfl) (by kernel_rfl) (by kernel_rfl) (fun _ _ _ h => h) (by rfl) (by assumption) ?_
                              try simp only [Act.put, List.setIfInBounds_toArray, List.set_cons_zero, List.set_cons_succ]
                              refine held_skip 10 rfl (by kernel_rfl) (by kernel_rfl) (by kernel_rfl) (fun _ _ _ h => h) (by rfl) (by assumption) ?_
                              try simp only [Act.put, List.setIfInBounds_toArray, List.set_cons_zero, List.set_cons_succ]
                              refine held_skip 11 rfl (by kernel_rfl) (by kernel_rfl) (by kernel_rfl) (fun _ _ _ h => h) (by rfl) (by assumption) ?_
                              try simp only [Act.put, List.setIfInBounds_toArray, List.set_cons_zero, List.set_cons_succ]
                              refine held_skip 12 rfl (by kernel_rfl) (by kernel_rfl) (by kernel_rfl) (fun _ _ _ h => h) (by rfl) (by assumption) ?_
                              try simp only [Act.put, List.setIfInBounds_toArray, List.set_cons_zero, List.set_cons_succ]
                              refine held_skip 13 rfl (by kernel_rfl) (by kernel_rfl) (by kernel_rfl) (fun _ _ _ h => h) (by rfl) (by assumption) ?_
                              try simp only [Act.put, List.setIfInBounds_toArray, List.set_cons_zero, List.set_cons_succ]
                              refine held_skip 14 rfl (by kernel_rfl) (by kernel_rfl) (by kernel_rfl) (fun _ _ _ h => h) (by rfl) (by assumption) ?_
                              try simp only [Act.put, List.setIfInBounds_toArray, List.set_cons_zero, List.set_cons_succ]
                              refine held_skip 15 rfl (by kernel_rfl) (by kernel_rfl) (by kernel_rfl) (fun _ _ _ h => h) (by rfl) (by assumption) ?_
                              try simp only [Act.put, List.setIfInBounds_toArray, List.set_cons_zero, List.set_cons_succ]
                              refine held_skip 16 rfl (by kernel_rfl) (by kernel_rfl) (by kernel_rfl) (fun _ _ _ h => h) (by rfl) (by assumption) ?_
                              try simp only [Act.put, List.setIfInBounds_toArray, List.set_cons_zero, List.set_cons_succ]
                              refine held_skip 17 rfl (by kernel_rfl) (by kernel_rfl) (by kernel_rfl) (fun _ _ _ h => h) (by rfl) (by assumption) ?_
                              try simp only [Act.put, List.setIfInBounds_toArray, List.set_cons_zero, List.set_cons_succ]
                              refine held_skip 18 rfl (by kernel_rfl) (by kernel_rfl) (by kernel_rfl) (fun _ _ _ h => h) (by rfl) (by assumption) ?_
                              try simp only [Act.put, List.setIfInBounds_toArray, List.set_cons_zero, List.set_cons_succ]
                              refine held_skip 19 rfl (by kernel_rfl) (by kernel_rfl) (by kernel_rfl) (fun _ _ _ h => h) (by rfl) (by assumption) ?_
                              try simp only [Act.put, List.setIfInBounds_toArray, List.set_cons_zero, List.set_cons_succ]
                              refine held_skip 20 rfl (by kernel_rfl) (by kernel_rfl) (by kernel_rfl) (fun _ _ _ h => h) (by rfl) (by assumption) ?_
                              try simp only [Act.put, List.setIfInBounds_toArray, List.set_cons_zero, List.set_cons_succ]
                              refine held_skip 21 rfl (by kernel_rfl) (by kernel_rfl) (by kernel_rfl) (fun _ _ _ h => h) (by rfl) (by assumption) ?_
                              try simp only [Act.put, List.setIfInBounds_toArray, List.set_cons_zero, List.set_cons_succ]
                              refine held_skip 22 rfl (by kernel_rfl) (by kernel_rfl) (by kernel_rfl) (fun _ _ _ h => h) (by rfl) (by assumption) ?_
                              try simp only [Act.put, List.setIfInBounds_toArray, List.set_cons_zero, List.set_cons_succ]
                              refine held_skip 23 rfl (by kernel_rfl) (by kernel_rfl) (by kernel_rfl) (fun _ _ _ h => h) (by rfl) (by assumption) ?_
                              try simp only [Act.put, List.setIfInBounds_toArray, List.set_cons_zero, List.set_cons_succ]
                              refine held_skip 24 rfl (by kernel_rfl) (by kernel_rfl) (by kernel_rfl) (fun _ _ _ h => h) (by rfl) (by assumption) ?_
                              try simp only [Act.put, List.setIfInBounds_toArray, List.set_cons_zero, List.set_cons_succ]
                              refine held_take (v := ?_) 25 rfl (by kernel_rfl) (by kernel_rfl) (by kernel_rfl) (fun _ _ _ h => h) (by rfl) ?_ (by assumption) ?_
                              rotate_left
                              · (intro w hSw; (try dsimp only at hSw); go_simp; try with_reducible rfl)
                              try simp only [Act.put, List.setIfInBounds_toArray, List.set_cons_zero, List.set_cons_succ]
                              refine held_take (v := ?_) 26 rfl (by kernel_rfl) (by kernel_rfl) (by kernel_rfl) (fun _ _ _ h => h) (by rfl) ?_ (by assumption) ?_
                              rotate_left
                              · (intro w hSw; (try dsimp only at hSw); go_simp; try with_reducible rfl)
                              try simp only [Act.put, List.setIfInBounds_toArray, List.set_cons_zero, List.set_cons_succ]
                              refine wpAnyH_done (by kernel_rfl) ?_ _
                              have hbc : Below wr.heap.size wr _ := (Below.refl _ wr).drew
                              have hkc := hkeep.out.below hbc
                              have HF := Lib.hid (And.intro hkc HQ.out.1); clear hkc
                              have hblc := hbl.trans (hbc.mono hsz2)
                              go_wp2_with fail
                              go_roundg (order.length - (j + 1))
                              case measure => omega
                              case rel => exact ⟨j + 1, by omega, rfl, by go_num, by rw [HF.out.2], HF.out.1, hblc⟩
                            | false =>
                              have hbv := HQ.out.2
                              rw [Bool.false_or] at hbv
                              by_cases hqn : q = n
                              · have ht : bb = false := by rw [← hbv]; simp [hqn]
                                have hne : ((q : Int) != (n : Int)) = false := by simp [hqn]
                                subst ht
                                clear hqn hbv
                                refine wp_region_held_drew (S := (fun _ => True)) (by kernel_rfl) ?_ (fun hHeld0 => ?_)
                                · first | trivial | ((try dsimp only); (trivial))
                                refine held_take (v := ?_) 0 rfl (by kernel_rfl) (by kernel_rfl) (by kernel_rfl) (fun _ _ _ h => h) (by rfl) ?_ (by assumption) ?_
                                rotate_left
                                · (intro w hSw; (try dsimp only at hSw); go_simp; try with_reducible rfl)
                                try simp only [Act.put, List.setIfInBounds_toArray, List.set_cons_zero, List.set_cons_succ]
                                refine held_take (v := ?_) 1 rfl (by kernel_rfl) (by kernel_rfl) (by kernel_rfl) (fun _ _ _ h => h) (by rfl) ?_ (by assumption) ?_
                                rotate_left
                                · (intro w hSw; (try dsimp only at hSw); go_simp; try with_reducible rfl)
                                try simp only [Act.put, List.setIfInBounds_toArray, List.set_cons_zero, List.set_cons_succ]
                                refine held_take (v := ?_) 2 rfl (by kernel_rfl) (by kernel_rfl) (by kernel_rfl) (fun _ _ _ h => h) (by rfl) ?_ (by assumption) ?_
                                rotate_left
                                · (intro w hSw; (try dsimp only at hSw); go_simp; try with_reducible rfl)
                                try simp only [Act.put, List.setIfInBounds_toArray, List.set_cons_zero, List.set_cons_succ]
                                refine held_take (v := ?_) 3 rfl (by kernel_rfl) (by kernel_rfl) (by kernel_rfl) (fun _ _ _ h => h) (by rfl) ?_ (by assumption) ?_
                                rotate_left
                                · (intro w hSw; (try dsimp only at hSw); go_simp; try with_reducible rfl)
                                try simp only [Act.put, List.setIfInBounds_toArray, List.set_cons_zero, List.set_cons_succ]
                                refine held_take (v := ?_) 4 rfl (by kernel_rfl) (by kernel_rfl) (by kernel_rfl) (fun _ _ _ h => h) (by rfl) ?_ (by assumption) ?_
                                rotate_left
                                · (intro w hSw; (try dsimp only at hSw); go_simp; try with_reducible rfl)
                                try simp only [Act.put, List.setIfInBounds_toArray, List.set_cons_zero, List.set_cons_succ]
                                refine held_take (v := ?_) 5 rfl (by kernel_rfl) (by kernel_rfl) (by kernel_rfl) (fun _ _ _ h => h) (by rfl) ?_ (by assumption) ?_
                                rotate_left
                                · (intro w hSw; (try dsimp only at hSw); go_simp; try with_reducible rfl)
                                try simp only [Act.put, List.setIfInBounds_toArray, List.set_cons_zero, List.set_cons_succ]
                                refine held_skip 6 rfl (by kernel_rfl) (by kernel_rfl) (by kernel_rfl) (fun _ _ _ h => h) (by rfl) (by assumption) ?_
                                try simp only [Act.put, List.setIfInBounds_toArray, List.set_cons_zero, List.set_cons_succ]
                                refine held_skip 7 rfl (by kernel_rfl) (by kernel_rfl) (by kernel_rfl) (fun _ _ _ h => h) (by rfl) (by assumption) ?_
                                try simp only [Act.put, List.setIfInBounds_toArray, List.set_cons_zero, List.set_cons_succ]
                                refine held_skip 8 rfl (by kernel_rfl) (by kernel_rfl) (by kernel_rfl) (fun _ _ _ h => h) (by rfl) (by assumption) ?_
                                try simp only [Act.put, List.setIfInBounds_toArray, List.set_cons_zero, List.set_cons_succ]
                                refine held_skip 9 rfl (by kernel_rfl) (by kernel_rfl) (by kernel_rfl) (fun _ _ _ h => h) (by rfl) (by assumption) ?_
                                try simp only [Act.put, List.setIfInBounds_toArray, List.set_cons_zero, List.set_cons_succ]
                                refine held_skip 10 rfl (by kernel_rfl) (by kernel_rfl) (by kernel_rfl) (fun _ _ _ h => h) (by rfl) (by assumption) ?_
                                try simp only [Act.put, List.setIfInBounds_toArray, List.set_cons_zero, List.set_cons_succ]
                                refine held_skip 11 rfl (by kernel_rfl) (by kernel_rfl) (by kernel_rfl) (fun _ _ _ h => h) (by rfl) (by assumption) ?_
                                try simp only [Act.put, List.setIfInBounds_toArray, List.set_cons_zero, List.set_cons_succ]
                                refine held_skip 12 rfl (by kernel_rfl) (by kernel_rfl) (by kernel_rfl) (fun _ _ _ h => h) (by rfl) (by assumption) ?_
                                try simp only [Act.put, List.setIfInBounds_toArray, List.set_cons_zero, List.set_cons_succ]
                                refine held_take (v := ?_) 13 rfl (by kernel_rfl) (by kernel_rfl) (by kernel_rfl) (fun _ _ _ h => h) (by rfl) ?_ (by assumption) ?_
                                rotate_left
                                · (intro w hSw; (try dsimp only at hSw); go_simp; try with_reducible rfl)
                                try simp only [Act.put, List.setIfInBounds_toArray, List.set_cons_zero, List.set_cons_succ]
                                refine held_take (v := ?_) 14 rfl (by kernel_rfl) (by kernel_rfl) (by kernel_rfl) (fun _ _ _ h => h) (by rfl) ?_ (by assumption) ?_
                                rotate_left
                                · (intro w hSw; (try dsimp only at hSw); go_simp; try with_reducible rfl)
                                try simp only [Act.put, List.setIfInBounds_toArray, List.set_cons_zero, List.set_cons_succ]
                                refine held_skip 15 rfl (by kernel_rfl) (by kernel_rfl) (by kernel_rfl) (fun _ _ _ h => h) (by rfl) (by assumption) ?_
                                try simp only [Act.put, List.setIfInBounds_toArray, List.set_cons_zero, List.set_cons_succ]
                                refine held_skip 16 rfl (by kernel_rfl) (by kernel_rfl) (by kernel_rfl) (fun _ _ _ h => h) (by rfl) (by assumption) ?_
                                try simp only [Act.put, List.setIfInBounds_toArray, List.set_cons_zero, List.set_cons_succ]
                                refine held_skip 17 rfl (by kernel_rfl) (by kernel_rfl) (by kernel_rfl) (fun _ _ _ h => h) (by rfl) (by assumption) ?_
                                try simp only [Act.put, List.setIfInBounds_toArray, List.set_cons_zero, List.set_cons_succ]
                                refine held_skip 18 rfl (by kernel_rfl) (by kernel_rfl) (by kernel_rfl) (fun _ _ _ h => h) (by rfl) (by assumption) ?_
                                try simp only [Act.put, List.setIfInBounds_toArray, List.set_cons_zero, List.set_cons_succ]
                                refine held_skip 19 rfl (by kernel_rfl) (by kernel_rfl) (by kernel_rfl) (fun _ _ _ h => h) (by rfl) (by assumption) ?_
                                try simp only [Act.put, List.setIfInBounds_toArray, List.set_cons_zero, List.set_cons_succ]
                                refine held_skip 20 rfl (by kernel_rfl) (by kernel_rfl) (by kernel_rfl) (fun _ _ _ h => h) (by rfl) (by assumption) ?_
                                try simp only [Act.put, List.setIfInBounds_toArray, List.set_cons_zero, List.set_cons_succ]
                                refine held_skip 21 rfl (by kernel_rfl) (by kernel_rfl) (by kernel_rfl) (fun _ _ _ h => h) (by rfl) (by assumption) ?_
                                try simp only [Act.put, List.setIfInBounds_toArray, List.set_cons_zero, List.set_cons_succ]
                                refine held_skip 22 rfl (by kernel_rfl) (by kernel_rfl) (by kernel_rfl) (fun _ _ _ h => h) (by rfl) (by assumption) ?_
                                try simp only [Act.put, List.setIfInBounds_toArray, List.set_cons_zero, List.set_cons_succ]
                                refine held_skip 23 rfl (by kernel_rfl) (by kernel_rfl) (by kernel_rfl) (fun _ _ _ h => h) (by rfl) (by assumption) ?_
                                try simp only [Act.put, List.setIfInBounds_toArray, List.set_cons_zero, List.set_cons_succ]
                                refine held_take (v := ?_) 24 rfl (by kernel_rfl) (by kernel_rfl) (by kernel_rfl) (fun _ _ _ h => h) (by rfl) ?_ (by assumption) ?_
                                rotate_left
                                · (intro w hSw; (try dsimp only at hSw); go_simp; try with_reducible rfl)
                                try simp only [Act.put, List.setIfInBounds_toArray, List.set_cons_zero, List.set_cons_succ]
                                refine held_take (v := ?_) 25 rfl (by kernel_rfl) (by kernel_rfl) (by kernel_rfl) (fun _ _ _ h => h) (by rfl) ?_ (by assumption) ?_
                                rotate_left
                                · (intro w hSw; (try dsimp only at hSw); go_simp; try with_reducible rfl)
                                try simp only [Act.put, List.setIfInBounds_toArray, List.set_cons_zero, List.set_cons_succ]
                                refine held_take (v := ?_) 26 rfl (by kernel_rfl) (by kernel_rfl) (by kernel_rfl) (fun _ _ _ h => h) (by rfl) ?_ (by assumption) ?_
                                rotate_left
                                · (intro w hSw; (try dsimp only at hSw); go_simp; try with_reducible rfl)
                                try simp only [Act.put, List.setIfInBounds_toArray, List.set_cons_zero, List.set_cons_succ]
                                refine wpAnyH_done (by kernel_rfl) ?_ _
                                have hbc : Below wr.heap.size wr _ := (Below.refl _ wr).drew
                                have hkc := hkeep.out.below hbc
                                have HF := Lib.hid (And.intro hkc HQ.out.1); clear hkc
                                have hblc := hbl.trans (hbc.mono hsz2)
                                go_wp2_with fail
                                go_roundg (order.length - (j + 1))
                                case measure => omega
                                case rel => exact ⟨j + 1, by omega, rfl, by go_num, by rw [HF.out.2], HF.out.1, hblc⟩
                              · have hne : ((q : Int) != (n : Int)) = true := by simp; omega
                                by_cases hxs : x = (s : Int)
                                · have hd : (x == (s : Int)) = true := by simpa using hxs
                                  have ht : Scn.meet y z = bb := by rw [← hbv, hd]; simp [hqn]
                                  have hmt := fun W => srmeet_any y z W
                                  rw [ht] at hmt
                                  have HT := Lib.hid hmt; clear ht hmt hqn hbv hxs
                                  refine wp_region_held_drew (S := (fun w' => w'.cell? ⟨ga, q * 2 + 1, none⟩ = some (.int .i64 x) ∧ w'.cell? ⟨bl, ol + q * 2, none⟩ = some (.int .i64 y.1) ∧ w'.cell? ⟨bl, ol + q * 2 + 1, none⟩ = some (.int .i64 y.2) ∧ w'.cell? ⟨bl, ol + n * 2, none⟩ = some (.int .i64 z.1) ∧ w'.cell? ⟨bl, ol + n * 2 + 1, none⟩ = some (.int .i64 z.2))) (by kernel_rfl) ?_ (fun hHeld0 => ?_)
                                  · first | trivial | ((try dsimp only); (exact ⟨a0, y0, y1, z0, z1⟩))
                                  refine held_take (v := ?_) 0 rfl (by kernel_rfl) (by kernel_rfl) (by kernel_rfl) (fun _ _ _ h => h) (by rfl) ?_ (by assumption) ?_
                                  rotate_left
                                  · (intro w hSw; (try dsimp only at hSw); go_simp; try with_reducible rfl)
                                  try simp only [Act.put, List.setIfInBounds_toArray, List.set_cons_zero, List.set_cons_succ]
                                  refine held_take (v := ?_) 1 rfl (by kernel_rfl) (by kernel_rfl) (by kernel_rfl) (fun _ _ _ h => h) (by rfl) ?_ (by assumption) ?_
                                  rotate_left
                                  · (intro w hSw; (try dsimp only at hSw); go_simp; try with_reducible rfl)
                                  try simp only [Act.put, List.setIfInBounds_toArray, List.set_cons_zero, List.set_cons_succ]
                                  refine held_take (v := ?_) 2 rfl (by kernel_rfl) (by kernel_rfl) (by kernel_rfl) (fun _ _ _ h => h) (by rfl) ?_ (by assumption) ?_
                                  rotate_left
                                  · (intro w hSw; (try dsimp only at hSw); go_simp; try with_reducible rfl)
                                  try simp only [Act.put, List.setIfInBounds_toArray, List.set_cons_zero, List.set_cons_succ]
                                  refine held_take (v := ?_) 3 rfl (by kernel_rfl) (by kernel_rfl) (by kernel_rfl) (fun _ _ _ h => h) (by rfl) ?_ (by assumption) ?_
                                  rotate_left
                                  · (intro w hSw; (try dsimp only at hSw); go_simp; try with_reducible rfl)
                                  try simp only [Act.put, List.setIfInBounds_toArray, List.set_cons_zero, List.set_cons_succ]
                                  refine held_take (v := ?_) 4 rfl (by kernel_rfl) (by kernel_rfl) (by kernel_rfl) (fun _ _ _ h => h) (by rfl) ?_ (by assumption) ?_
                                  rotate_left
                                  · (intro w hSw; (try dsimp only at hSw); go_simp; try with_reducible rfl)
                                  try simp only [Act.put, List.setIfInBounds_toArray, List.set_cons_zero, List.set_cons_succ]
                                  refine held_take (v := ?_) 5 rfl (by kernel_rfl) (by kernel_rfl) (by kernel_rfl) (fun _ _ _ h => h) (by rfl) ?_ (by assumption) ?_
                                  rotate_left
                                  · (intro w hSw; (try dsimp only at hSw); go_simp; try with_reducible rfl)
                                  try simp only [Act.put, List.setIfInBounds_toArray, List.set_cons_zero, List.set_cons_succ]
                                  refine held_take (v := ?_) 6 rfl (by kernel_rfl) (by kernel_rfl) (by kernel_rfl) (fun _ _ _ h => h) (by rfl) ?_ (by assumption) ?_
                                  rotate_left
                                  · (intro w hSw; (try dsimp only at hSw); go_simp; try with_reducible rfl)
                                  try simp only [Act.put, List.setIfInBounds_toArray, List.set_cons_zero, List.set_cons_succ]
                                  refine held_take (v := ?_) 7 rfl (by kernel_rfl) (by kernel_rfl) (by kernel_rfl) (fun _ _ _ h => h) (by rfl) ?_ (by assumption) ?_
                                  rotate_left
                                  · (intro w hSw; (try dsimp only at hSw); go_simp; try with_reducible rfl)
                                  try simp only [Act.put, List.setIfInBounds_toArray, List.set_cons_zero, List.set_cons_succ]
                                  refine held_take (v := ?_) 8 rfl (by kernel_rfl) (by kernel_rfl) (by kernel_rfl) (fun _ _ _ h => h) (by rfl) ?_ (by assumption) ?_
                                  rotate_left
                                  · (intro w hSw; (try dsimp only at hSw); go_simp; try with_reducible rfl)
                                  try simp only [Act.put, List.setIfInBounds_toArray, List.set_cons_zero, List.set_cons_succ]
                                  refine held_take (v := ?_) 9 rfl (by kernel_rfl) (by kernel_rfl) (by kernel_rfl) (fun _ _ _ h => h) (by rfl) ?_ (by assumption) ?_
                                  rotate_left
                                  · (intro w hSw; (try dsimp only at hSw); go_simp; try with_reducible rfl)
                                  try simp only [Act.put, List.setIfInBounds_toArray, List.set_cons_zero, List.set_cons_succ]
                                  refine held_take (v := ?_) 10 rfl (by kernel_rfl) (by kernel_rfl) (by kernel_rfl) (fun _ _ _ h => h) (by rfl) ?_ (by assumption) ?_
                                  rotate_left
                                  · (intro w hSw; (try dsimp only at hSw); go_simp; try with_reducible rfl)
                                  try simp only [Act.put, List.setIfInBounds_toArray, List.set_cons_zero, List.set_cons_succ]
                                  refine held_take (v := ?_) 11 rfl (by kernel_rfl) (by kernel_rfl) (by kernel_rfl) (fun _ _ _ h => h) (by rfl) ?_ (by assumption) ?_
                                  rotate_left
                                  · (intro w hSw; (try dsimp only at hSw); go_simp; try with_reducible rfl)
                                  try simp only [Act.put, List.setIfInBounds_toArray, List.set_cons_zero, List.set_cons_succ]
                                  refine held_take (v := ?_) 12 rfl (by kernel_rfl) (by kernel_rfl) (by kernel_rfl) (fun _ _ _ h => h) (by rfl) ?_ (by assumption) ?_
                                  rotate_left
                                  · (intro w hSw; (try dsimp only at hSw); go_simp; try with_reducible rfl)
                                  try simp only [Act.put, List.setIfInBounds_toArray, List.set_cons_zero, List.set_cons_succ]
                                  refine held_take (v := ?_) 13 rfl (by kernel_rfl) (by kernel_rfl) (by kernel_rfl) (fun _ _ _ h => h) (by rfl) ?_ (by assumption) ?_
                                  rotate_left
                                  · (intro w hSw; (try dsimp only at hSw); go_simp; try with_reducible rfl)
                                  try simp only [Act.put, List.setIfInBounds_toArray, List.set_cons_zero, List.set_cons_succ]
                                  refine held_take (v := ?_) 14 rfl (by kernel_rfl) (by kernel_rfl) (by kernel_rfl) (fun _ _ _ h => h) (by rfl) ?_ (by assumption) ?_
                                  rotate_left
                                  · (intro w hSw; (try dsimp only at hSw); go_simp; try with_reducible rfl)
                                  try simp only [Act.put, List.setIfInBounds_toArray, List.set_cons_zero, List.set_cons_succ]
                                  refine held_take (v := ?_) 15 rfl (by kernel_rfl) (by kernel_rfl) (by kernel_rfl) (fun _ _ _ h => h) (by rfl) ?_ (by assumption) ?_
                                  rotate_left
                                  · (intro w hSw; (try dsimp only at hSw); go_simp; try with_reducible rfl)
                                  try simp only [Act.put, List.setIfInBounds_toArray, List.set_cons_zero, List.set_cons_succ]
                                  refine held_take (v := ?_) 16 rfl (by kernel_rfl) (by kernel_rfl) (by kernel_rfl) (fun _ _ _ h => h) (by rfl) ?_ (by assumption) ?_
                                  rotate_left
                                  · (intro w hSw; (try dsimp only at hSw); go_simp; try with_reducible rfl)
                                  try simp only [Act.put, List.setIfInBounds_toArray, List.set_cons_zero, List.set_cons_succ]
                                  refine held_take (v := ?_) 17 rfl (by kernel_rfl) (by kernel_rfl) (by kernel_rfl) (fun _ _ _ h => h) (by rfl) ?_ (by assumption) ?_
                                  rotate_left
                                  · (intro w hSw; (try dsimp only at hSw); go_simp; try with_reducible rfl)
                                  try simp only [Act.put, List.setIfInBounds_toArray, List.set_cons_zero, List.set_cons_succ]
                                  refine held_take (v := ?_) 18 rfl (by kernel_rfl) (by kernel_rfl) (by kernel_rfl) (fun _ _ _ h => h) (by rfl) ?_ (by assumption) ?_
                                  rotate_left
                                  · (intro w hSw; (try dsimp only at hSw); go_simp; try with_reducible rfl)
                                  try simp only [Act.put, List.setIfInBounds_toArray, List.set_cons_zero, List.set_cons_succ]
                                  refine held_take (v := ?_) 19 rfl (by kernel_rfl) (by kernel_rfl) (by kernel_rfl) (fun _ _ _ h => h) (by rfl) ?_ (by assumption) ?_
                                  rotate_left
                                  · (intro w hSw; (try dsimp only at hSw); go_simp; try with_reducible rfl)
                                  try simp only [Act.put, List.setIfInBounds_toArray, List.set_cons_zero, List.set_cons_succ]
                                  refine held_take (v := ?_) 20 rfl (by kernel_rfl) (by kernel_rfl) (by kernel_rfl) (fun _ _ _ h => h) (by rfl) ?_ (by assumption) ?_
                                  rotate_left
                                  · (intro w hSw; (try dsimp only at hSw); go_simp; try with_reducible rfl)
                                  try simp only [Act.put, List.setIfInBounds_toArray, List.set_cons_zero, List.set_cons_succ]
                                  refine held_take (v := ?_) 21 rfl (by kernel_rfl) (by kernel_rfl) (by kernel_rfl) (fun _ _ _ h => h) (by rfl) ?_ (by assumption) ?_
                                  rotate_left
                                  · (intro w hSw; (try dsimp only at hSw); go_simp; try with_reducible rfl)
                                  try simp only [Act.put, List.setIfInBounds_toArray, List.set_cons_zero, List.set_cons_succ]
                                  refine held_take (v := ?_) 22 rfl (by kernel_rfl) (by kernel_rfl) (by kernel_rfl) (fun _ _ _ h => h) (by rfl) ?_ (by assumption) ?_
                                  rotate_left
                                  · (intro w hSw; (try dsimp only at hSw); go_simp; try with_reducible rfl)
                                  try simp only [Act.put, List.setIfInBounds_toArray, List.set_cons_zero, List.set_cons_succ]
                                  refine held_call 23 (by kernel_rfl) rfl (fun K hK => ?_)
                                  go_simp
                                  go_at_call 41; refine (HT.out _).mono ?_; rintro e w2 ⟨rfl, hb2d⟩; have hb2 : Below wr.heap.size wr w2 := undrew hb2d; clear hb2d
                                  try (go_wp2_with fail)
                                  refine hK.out _ _ ?_ (fun hHeld1 => ?_)
                                  · first | trivial | ((try dsimp only); (exact ⟨(hb2.cell (p := ⟨ga, q * 2 + 1, none⟩) (show ga < wr.heap.size by have := (hkeep.out.ha.lt ga rfl).2; omega)).trans a0, (hb2.cell (p := ⟨bl, ol + q * 2, none⟩) hblB).trans y0, (hb2.cell (p := ⟨bl, ol + q * 2 + 1, none⟩) hblB).trans y1, (hb2.cell (p := ⟨bl, ol + n * 2, none⟩) hblB).trans z0, (hb2.cell (p := ⟨bl, ol + n * 2 + 1, none⟩) hblB).trans z1⟩))
                                  clear hK K hHeld0
                                  try simp only [Act.put, List.setIfInBounds_toArray, List.set_cons_zero, List.set_cons_succ]
                                  refine held_take (v := ?_) 24 rfl (by kernel_rfl) (by kernel_rfl) (by kernel_rfl) (fun _ _ _ h => h) (by rfl) ?_ (by assumption) ?_
                                  rotate_left
                                  · (intro w hSw; (try dsimp only at hSw); go_simp; try with_reducible rfl)
                                  try simp only [Act.put, List.setIfInBounds_toArray, List.set_cons_zero, List.set_cons_succ]
                                  refine held_take (v := ?_) 25 rfl (by kernel_rfl) (by kernel_rfl) (by kernel_rfl) (fun _ _ _ h => h) (by rfl) ?_ (by assumption) ?_
                                  rotate_left
                                  · (intro w hSw; (try dsimp only at hSw); go_simp; try with_reducible rfl)
                                  try simp only [Act.put, List.setIfInBounds_toArray, List.set_cons_zero, List.set_cons_succ]
                                  refine held_take (v := ?_) 26 rfl (by kernel_rfl) (by kernel_rfl) (by kernel_rfl) (fun _ _ _ h => h) (by rfl) ?_ (by assumption) ?_
                                  rotate_left
                                  · (intro w hSw; (try dsimp only at hSw); go_simp; try with_reducible rfl)
                                  try simp only [Act.put, List.setIfInBounds_toArray, List.set_cons_zero, List.set_cons_succ]
                                  refine wpAnyH_done (by kernel_rfl) ?_ _
                                  have hbc : Below wr.heap.size wr _ := hb2
                                  have hkc := hkeep.out.below hbc
                                  have HF := Lib.hid (And.intro hkc HQ.out.1); clear hkc
                                  have hblc := hbl.trans (hbc.mono hsz2)
                                  go_wp2_with fail
                                  go_roundg (order.length - (j + 1))
                                  case measure => omega
                                  case rel => exact ⟨j + 1, by omega, rfl, by go_num, by rw [HF.out.2], HF.out.1, hblc⟩
                                · have hd : (x == (s : Int)) = false := by simpa using hxs
                                  have ht : bb = false := by rw [← hbv, hd]; simp
                                  subst ht
                                  clear hqn hbv hxs
                                  refine wp_region_held_drew (S := (fun w' => w'.cell? ⟨ga, q * 2 + 1, none⟩ = some (.int .i64 x))) (by kernel_rfl) ?_ (fun hHeld0 => ?_)
                                  · first | trivial | ((try dsimp only); (exact a0))
                                  refine held_take (v := ?_) 0 rfl (by kernel_rfl) (by kernel_rfl) (by kernel_rfl) (fun _ _ _ h => h) (by rfl) ?_ (by assumption) ?_
                                  rotate_left
                                  · (intro w hSw; (try dsimp only at hSw); go_simp; try with_reducible rfl)
                                  try simp only [Act.put, List.setIfInBounds_toArray, List.set_cons_zero, List.set_cons_succ]
                                  refine held_take (v := ?_) 1 rfl (by kernel_rfl) (by kernel_rfl) (by kernel_rfl) (fun _ _ _ h => h) (by rfl) ?_ (by assumption) ?_
                                  rotate_left
                                  · (intro w hSw; (try dsimp only at hSw); go_simp; try with_reducible rfl)
                                  try simp only [Act.put, List.setIfInBounds_toArray, List.set_cons_zero, List.set_cons_succ]
                                  refine held_take (v := ?_) 2 rfl (by kernel_rfl) (by kernel_rfl) (by kernel_rfl) (fun _ _ _ h => h) (by rfl) ?_ (by assumption) ?_
                                  rotate_left
                                  · (intro w hSw; (try dsimp only at hSw); go_simp; try with_reducible rfl)
                                  try simp only [Act.put, List.setIfInBounds_toArray, List.set_cons_zero, List.set_cons_succ]
                                  refine held_take (v := ?_) 3 rfl (by kernel_rfl) (by kernel_rfl) (by kernel_rfl) (fun _ _ _ h => h) (by rfl) ?_ (by assumption) ?_
                                  rotate_left
                                  · (intro w hSw; (try dsimp only at hSw); go_simp; try with_reducible rfl)
                                  try simp only [Act.put, List.setIfInBounds_toArray, List.set_cons_zero, List.set_cons_succ]
                                  refine held_take (v := ?_) 4 rfl (by kernel_rfl) (by kernel_rfl) (by kernel_rfl) (fun _ _ _ h => h) (by rfl) ?_ (by assumption) ?_
                                  rotate_left
                                  · (intro w hSw; (try dsimp only at hSw); go_simp; try with_reducible rfl)
                                  try simp only [Act.put, List.setIfInBounds_toArray, List.set_cons_zero, List.set_cons_succ]
                                  refine held_take (v := ?_) 5 rfl (by kernel_rfl) (by kernel_rfl) (by kernel_rfl) (fun _ _ _ h => h) (by rfl) ?_ (by assumption) ?_
                                  rotate_left
                                  · (intro w hSw; (try dsimp only at hSw); go_simp; try with_reducible rfl)
                                  try simp only [Act.put, List.setIfInBounds_toArray, List.set_cons_zero, List.set_cons_succ]
                                  refine held_take (v := ?_) 6 rfl (by kernel_rfl) (by kernel_rfl) (by kernel_rfl) (fun _ _ _ h => h) (by rfl) ?_ (by assumption) ?_
                                  rotate_left
                                  · (intro w hSw; (try dsimp only at hSw); go_simp; try with_reducible rfl)
                                  try simp only [Act.put, List.setIfInBounds_toArray, List.set_cons_zero, List.set_cons_succ]
                                  refine held_take (v := ?_) 7 rfl (by kernel_rfl) (by kernel_rfl) (by kernel_rfl) (fun _ _ _ h => h) (by rfl) ?_ (by assumption) ?_
                                  rotate_left
                                  · (intro w hSw; (try dsimp only at hSw); go_simp; try with_reducible rfl)
                                  try simp only [Act.put, List.setIfInBounds_toArray, List.set_cons_zero, List.set_cons_succ]
                                  refine held_take (v := ?_) 8 rfl (by kernel_rfl) (by kernel_rfl) (by kernel_rfl) (fun _ _ _ h => h) (by rfl) ?_ (by assumption) ?_
                                  rotate_left
                                  · (intro w hSw; (try dsimp only at hSw); go_simp; try with_reducible rfl)
                                  try simp only [Act.put, List.setIfInBounds_toArray, List.set_cons_zero, List.set_cons_succ]
                                  refine held_take (v := ?_) 9 rfl (by kernel_rfl) (by kernel_rfl) (by kernel_rfl) (fun _ _ _ h => h) (by rfl) ?_ (by assumption) ?_
                                  rotate_left
                                  · (intro w hSw; (try dsimp only at hSw); go_simp; try with_reducible rfl)
                                  try simp only [Act.put, List.setIfInBounds_toArray, List.set_cons_zero, List.set_cons_succ]
                                  refine held_take (v := ?_) 10 rfl (by kernel_rfl) (by kernel_rfl) (by kernel_rfl) (fun _ _ _ h => h) (by rfl) ?_ (by assumption) ?_
                                  rotate_left
                                  · (intro w hSw; (try dsimp only at hSw); go_simp; try with_reducible rfl)
                                  try simp only [Act.put, List.setIfInBounds_toArray, List.set_cons_zero, List.set_cons_succ]
                                  refine held_take (v := ?_) 11 rfl (by kernel_rfl) (by kernel_rfl) (by kernel_rfl) (fun _ _ _ h => h) (by rfl) ?_ (by assumption) ?_
                                  rotate_left
                                  · (intro w hSw; (try dsimp only at hSw); go_simp; try with_reducible rfl)
                                  try simp only [Act.put, List.setIfInBounds_toArray, List.set_cons_zero, List.set_cons_succ]
                                  refine held_take (v := ?_) 12 rfl (by kernel_rfl) (by kernel_rfl) (by kernel_rfl) (fun _ _ _ h => h) (by rfl) ?_ (by assumption) ?_
                                  rotate_left
                                  · (intro w hSw; (try dsimp only at hSw); go_simp; try with_reducible rfl)
                                  try simp only [Act.put, List.setIfInBounds_toArray, List.set_cons_zero, List.set_cons_succ]
                                  refine held_take (v := ?_) 13 rfl (by kernel_rfl) (by kernel_rfl) (by kernel_rfl) (fun _ _ _ h => h) (by rfl) ?_ (by assumption) ?_
                                  rotate_left
                                  · (intro w hSw; (try dsimp only at hSw); go_simp; try with_reducible rfl)
                                  try simp only [Act.put, List.setIfInBounds_toArray, List.set_cons_zero, List.set_cons_succ]
                                  refine held_take (v := ?_) 14 rfl (by kernel_rfl) (by kernel_rfl) (by kernel_rfl) (fun _ _ _ h => h) (by rfl) ?_ (by assumption) ?_
                                  rotate_left
                                  · (intro w hSw; (try dsimp only at hSw); go_simp; try with_reducible rfl)
                                  try simp only [Act.put, List.setIfInBounds_toArray, List.set_cons_zero, List.set_cons_succ]
                                  refine held_skip 15 rfl (by kernel_rfl) (by kernel_rfl) (by kernel_rfl) (fun _ _ _ h => h) (by rfl) (by assumption) ?_
                                  try simp only [Act.put, List.setIfInBounds_toArray, List.set_cons_zero, List.set_cons_succ]
                                  refine held_skip 16 rfl (by kernel_rfl) (by kernel_rfl) (by kernel_rfl) (fun _ _ _ h => h) (by rfl) (by assumption) ?_
                                  try simp only [Act.put, List.setIfInBounds_toArray, List.set_cons_zero, List.set_cons_succ]
                                  refine held_skip 17 rfl (by kernel_rfl) (by kernel_rfl) (by kernel_rfl) (fun _ _ _ h => h) (by rfl) (by assumption) ?_
                                  try simp only [Act.put, List.setIfInBounds_toArray, List.set_cons_zero, List.set_cons_succ]
                                  refine held_skip 18 rfl (by kernel_rfl) (by kernel_rfl) (by kernel_rfl) (fun _ _ _ h => h) (by rfl) (by assumption) ?_
                                  try simp only [Act.put, List.setIfInBounds_toArray, List.set_cons_zero, List.set_cons_succ]
                                  refine held_skip 19 rfl (by kernel_rfl) (by kernel_rfl) (by kernel_rfl) (fun _ _ _ h => h) (by rfl) (by assumption) ?_
                                  try simp only [Act.put, List.setIfInBounds_toArray, List.set_cons_zero, List.set_cons_succ]
                                  refine held_skip 20 rfl (by kernel_rfl) (by kernel_rfl) (by kernel_rfl) (fun _ _ _ h => h) (by rfl) (by assumption) ?_
                                  try simp only [Act.put, List.setIfInBounds_toArray, List.set_cons_zero, List.set_cons_succ]
                                  refine held_skip 21 rfl (by kernel_rfl) (by kernel_rfl) (by kernel_rfl) (fun _ _ _ h => h) (by rfl) (by assumption) ?_
                                  try simp only [Act.put, List.setIfInBounds_toArray, List.set_cons_zero, List.set_cons_succ]
                                  refine held_skip 22 rfl (by kernel_rfl) (by kernel_rfl) (by kernel_rfl) (fun _ _ _ h => h) (by rfl) (by assumption) ?_
                                  try simp only [Act.put, List.setIfInBounds_toArray, List.set_cons_zero, List.set_cons_succ]
                                  refine held_skip 23 rfl (by kernel_rfl) (by kernel_rfl) (by kernel_rfl) (fun _ _ _ h => h) (by rfl) (by assumption) ?_
                                  try simp only [Act.put, List.setIfInBounds_toArray, List.set_cons_zero, List.set_cons_succ]
                                  refine held_take (v := ?_) 24 rfl (by kernel_rfl) (by kernel_rfl) (by kernel_rfl) (fun _ _ _ h => h) (by rfl) ?_ (by assumption) ?_
                                  rotate_left
                                  · (intro w hSw; (try dsimp only at hSw); go_simp; try with_reducible rfl)
                                  try simp only [Act.put, List.setIfInBounds_toArray, List.set_cons_zero, List.set_cons_succ]
                                  refine held_take (v := ?_) 25 rfl (by kernel_rfl) (by kernel_rfl) (by kernel_rfl) (fun _ _ _ h => h) (by rfl) ?_ (by assumption) ?_
                                  rotate_left
                                  · (intro w hSw; (try dsimp only at hSw); go_simp; try with_reducible rfl)
                                  try simp only [Act.put, List.setIfInBounds_toArray, List.set_cons_zero, List.set_cons_succ]
                                  refine held_take (v := ?_) 26 rfl (by kernel_rfl) (by kernel_rfl) (by kernel_rfl) (fun _ _ _ h => h) (by rfl) ?_ (by assumption) ?_
                                  rotate_left
                                  · (intro w hSw; (try dsimp only at hSw); go_simp; try with_reducible rfl)
                                  try simp only [Act.put, List.setIfInBounds_toArray, List.set_cons_zero, List.set_cons_succ]
                                  refine wpAnyH_done (by kernel_rfl) ?_ _
                                  have hbc : Below wr.heap.size wr _ := (Below.refl _ wr).drew
                                  have hkc := hkeep.out.below hbc
                                  have HF := Lib.hid (And.intro hkc HQ.out.1); clear hkc
                                  have hblc := hbl.trans (hbc.mono hsz2)
                                  go_wp2_with fail
                                  go_roundg (order.length - (j + 1))
                                  case measure => omega
                                  case rel => exact ⟨j + 1, by omega, rfl, by go_num, by rw [HF.out.2], HF.out.1, hblc⟩
                        · obtain rfl : j = order.length := by omega
                          have hmf := HN.out.2.2.1 s hsm2
                          rw [List.take_length]
                          obtain ⟨tb, htb⟩ : ∃ b, Scn.takenS l a1 n (s : Int) order = b := ⟨_, rfl⟩
                          rw [htb] at hmf
                          rw [htb]
                          have HT := Lib.hid hmf; clear hmf htb
                          cases tb with
                          | true =>
                            have hsm3 : s < m := HT.out.1 rfl
                            go_wp2_with fail
                            go_roundg (m + 2 - (s + 1))
                            case measure => omega
                            case rel => exact ⟨s + 1, a1, _, by omega, rfl, by go_num, rfl, ⟨.inl ⟨by omega, rfl, rfl⟩, hkeep.out⟩, hbl⟩
                          | false =>
                            have hsm3 : s = m := by
                              rcases Nat.lt_or_ge s m with h | h
                              · have := HT.out.2 h; cases this
                              · omega
                            subst hsm3
                            have hset := hkeep.out.ha.set_snd (s : Int) hna2
                            have z0 := hkeep.out.ha.frozen (g := ga) rfl (n * 2 + 1)
                            obtain ⟨-, p1⟩ := hkeep.out.ha.pair_cells (i := n) hna2
                            rw [HN.out.2.2.2.1] at hset
                            have hok' : ∀ x ∈ a1.set n (v, (s : Int)), Flat.ok x := set_ok hkeep.out.hok ⟨HN.out.2.2.2.2.1, by show I64 _; unfold I64; omega⟩
                            have hrs := hkeep.out.set_ (grownBy_setCell wr ga (n * 2 + 1) (.int .i64 s)) hset hok' (by decide)
                            have hbs : Below w.heap.size w (wr.setCell ⟨ga, n * 2 + 1, none⟩ (.int .i64 s)) := hbl.setCell (hkeep.out.ha.lt ga rfl).1 _
                            have HS := Lib.hid (And.intro hrs hbs); clear hrs hbs hok' hset
                            have hss : IntKind.i64.wrap ((s : Int) + 1) = (s : Int) + 1 := IntWalk.i64_in _ (by omega)
                            go_wp2_with fail
                            go_roundg (s + 2 - (s + 1))
                            case measure => omega
                            case rel => exact ⟨s + 1, _, _, by omega, rfl, by go_num, rfl, ⟨.inr ⟨hv0, rfl, rfl, rfl⟩, HS.out.1⟩, HS.out.2⟩
                    · have hd0 : decide (v < 0) = false := by simpa using hv0
                      have hsn := HN.out.1
                      rw [if_neg hv0] at hsn
                      have HSN := Lib.hid hsn; clear hsn
                      go_wp2_with fail
                      go_roundg (order.length - (k + 1))
                      case measure => omega
                      case rel => exact ⟨k + 1, by omega, rfl, by go_num, by rw [HSN.out], by rw [HSN.out]; exact hkeep.out.2, hbl⟩
                  · have hna3 : n < (at_.set n (v, (m : Int))).length := by rw [List.length_set]; exact hna2
                    obtain ⟨p0, p1⟩ := hkeep.out.2.ha.pair_cells (i := n) hna3
                    rw [Scn.getD_set_self hna2] at p0 p1
                    have hd0 : decide (v < 0) = true := by simpa using hv0
                    have hd1 : decide ((m : Int) < 0) = false := by simp
                    have hsn := HN.out.1
                    rw [if_pos hv0] at hsn
                    have HSN := Lib.hid hsn; clear hsn
                    go_wp2_with fail
                    go_roundg (order.length - (k + 1))
                    case measure => omega
                    case rel => exact ⟨k + 1, by omega, rfl, by go_num, by rw [HSN.out], by rw [HSN.out]; exact hkeep.out.2, hbl⟩
              · obtain rfl : k = order.length := by omega
                have HS := Lib.hid hs; clear hs
                go_wp2_with fail
                go_returns
                have hs1 := HS.out
                rw [← HR.out.2.2.2] at hs1
                rw [hs1]
                exact ⟨AA, ac, rfl, hkeep.out.ha, hkeep.out.hok, hbl⟩

end Go.Proofs.Ytljdnadejmkaeaa
