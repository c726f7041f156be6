/- R.ByFrom. -/
import Derived.Test.YtljdnadejmkaeaaScan4
import Derived.Test.YtljdnadejmkaeaaHeld2
import Derived.Test.YtljdnadejmkaeaaCopyA
import Derived.Test.YtljdnadejmkaeaaSteps
import Derived.BigQuiet
import Derived.Handy
namespace Go.Proofs.Ytljdnadejmkaeaa
open Go.RowKit

attribute [local go_sem ↓] Go.wp_at_zero Go.wp_at_succ

theorem copyInt_n (A : Option Addr) (c B n : Nat) (l : List Int) (w : World) (hn : l.length = n) (h : At w B A l) (hl : n * 8 ≤ 140737488355328) :
    Calls Try.prog 25 #[.slice A n c] w fun e w' => ∃ A' c', e = .returned (.slice A' n c') ∧ Own w' w.heap.size 3 A' c' l ∧ Below w.heap.size w w' := by
  subst hn; exact copyInt_any A c B l w h hl

theorem Scn.later_eq {l : List (Int × Int)} {v : Int} {out : List Nat} {j : Nat} (hj : j ≤ out.length) (h1 : ∀ k ∈ out.drop j, v < Scn.fr l k) (h2 : j = 0 ∨ ∃ t, out[j - 1]? = some t ∧ Scn.fr l t ≤ v) : out.length - Scn.later l v out = j := by
  have hs := Scn.later_spec l v out
  have hle := Scn.later_le l v out
  rcases Nat.lt_trichotomy (out.length - Scn.later l v out) j with h | h | h
  · exfalso
    rcases h2 with rfl | ⟨t, ht, hle2⟩
    · omega
    · have hm : t ∈ out.drop (out.length - Scn.later l v out) := by
        refine List.mem_iff_getElem?.2 ⟨j - 1 - (out.length - Scn.later l v out), ?_⟩
        rw [List.getElem?_drop, ← ht]; congr 1; omega
      have := hs.1 t hm
      omega
  · exact h
  · exfalso
    rcases hs.2 with h0 | ⟨t, ht, hle2⟩
    · have := congrArg List.length h0
      rw [List.length_take, List.length_nil] at this; omega
    · rw [List.getLast?_eq_getElem?, List.length_take, Nat.min_eq_left (by omega), List.getElem?_take, if_pos (by omega)] at ht
      have hm : t ∈ out.drop j := by
        refine List.mem_iff_getElem?.2 ⟨out.length - Scn.later l v out - 1 - j, ?_⟩
        rw [List.getElem?_drop, ← ht]; congr 1; omega
      have := h1 t hm
      omega
theorem ints_ok' {order : List Nat} {n : Nat} (h : ∀ k ∈ order, k < n) (hn : n ≤ 100000) : ∀ x ∈ ints order, Flat.ok x := by
  intro x hx
  unfold ints at hx
  obtain ⟨k, hk, rfl⟩ := List.mem_map.1 hx
  have := h k hk
  show I64 _
  unfold I64
  omega
theorem Scn.byFrom_lt (l : List (Int × Int)) (m : Nat) : ∀ k ∈ Scn.byFrom l m, k < m := fun k hk => Scn.counted_lt l m k ((Scn.byFrom_perm l m).mem_iff.1 hk)
theorem Scn.byFrom_length (l : List (Int × Int)) (m : Nat) : (Scn.byFrom l m).length ≤ m := by rw [(Scn.byFrom_perm l m).length_eq]; exact Scn.counted_length l m
theorem at_takeS {α : Type} [Enc α] {w : World} {B : Nat} {A : Option Addr} {l : List α} (h : At w B A l) (n : Nat) : At w B A (l.take n) := fun i x hx => by
  rw [List.getElem?_take] at hx
  split at hx
  · exact h i x hx
  · cases hx
theorem ints_take (l : List Nat) (k : Nat) : ints (l.take k) = (ints l).take k := by unfold ints; rw [List.map_take]
theorem ints_drop (l : List Nat) (k : Nat) : ints (l.drop k) = (ints l).drop k := by unfold ints; rw [List.map_drop]
theorem ins_ints (l : List (Int × Int)) (n : Nat) (out : List Nat) (j : Nat) (h : out.length - Scn.later l (Scn.fr l n) out = j) : ints (Scn.ins l n out) = (ints out).take j ++ [(n : Int)] ++ (ints out).drop j := by
  unfold Scn.ins
  rw [h, ← ints_take, ← ints_drop]
  unfold ints
  simp

set_option maxHeartbeats 3200000 in
set_option maxRecDepth 100000 in
theorem byFrom_any (B lc : Nat) (LA : Option Addr) (l : List (Int × Int)) (w : World) (hl : At w B LA l) (hB : B ≤ w.heap.size) (hN : l.length ≤ 1000) :
    Calls Try.prog 85 #[.slice LA l.length lc] w fun e w' => ∃ OA oc, e = .returned (.slice OA (Scn.byFrom l l.length).length oc) ∧ Own w' w.heap.size 3 OA oc (ints (Scn.byFrom l l.length)) ∧ Below w.heap.size w w' := by
  obtain ⟨i0, hi, hz0, hz1, hz2⟩ := info_parts infoInt
  have H := Lib.hid hl; clear hl
  go_enter Try.func85, Try.ntmps85
  go_wp2_with fail
  go_loopg [3, 4, 5, 6, 9] (l.length) (fun gk v3 v4 v5 v6 iv wr => ∃ (k : Nat) (OA : Option Addr) (oc : Nat), k ≤ l.length ∧ gk = l.length - k ∧ iv = .int .i64 k ∧ v3 = .slice OA (Scn.byFrom l k).length oc ∧ Hid (Own wr w.heap.size 3 OA oc (ints (Scn.byFrom l k)) ∧ (Scn.byFrom l k = [] → OA = none ∧ oc = 0)) ∧ Below w.heap.size w wr)
  case atStart => exact ⟨0, none, 0, Nat.zero_le _, rfl, rfl, rfl, ⟨Own.nil_, fun _ => ⟨rfl, rfl⟩⟩, Below.refl _ _⟩
  case round =>
    obtain ⟨k, OA, oc, hk, rfl, rfl, rfl, hkeep, hbl⟩ := hrel
    have hsz := hbl.size
    by_cases hlt : k < l.length
    · obtain ⟨bl, ol, rfl, hbl0, io0, io1, l0, l1⟩ := (H.out.below (hbl.mono hB)).pairD hlt
      obtain ⟨x, hx⟩ : ∃ x, l.getD k (0, 0) = x := ⟨_, rfl⟩
      have hfr : Scn.fr l k = x.1 := by unfold Scn.fr; rw [hx]
      have hbf : Scn.byFrom l (k + 1) = if Scn.counts x = true then Scn.ins l k (Scn.byFrom l k) else Scn.byFrom l k := by rw [← hx]; rfl
      rw [hx] at l0 l1
      have hlo := Scn.byFrom_lt l k
      have hll := Scn.byFrom_length l k
      obtain ⟨out, hout⟩ : ∃ o, Scn.byFrom l k = o := ⟨_, rfl⟩
      rw [hout] at hkeep hbf hlo hll
      rw [hout]
      obtain ⟨n, hn⟩ : ∃ n, out.length = n := ⟨_, rfl⟩
      rw [hn] at hll
      rw [hn]
      obtain ⟨bb, hbb⟩ : ∃ b, Scn.counts x = b := ⟨_, rfl⟩
      rw [hbb] at hbf
      have hsc := fun W => srcounts_any x W
      rw [hbb] at hsc
      have HSC := Lib.hid hsc; clear hsc
      obtain ⟨XB, hXB⟩ : ∃ b, wr.heap.size = b := ⟨_, rfl⟩
      have HXB := Lib.hid hXB; clear hXB
      have HK := Lib.hid (And.intro hkeep.out (And.intro hfr (And.intro hbf (And.intro hlo hn)))); clear hkeep hfr hbf hlo hn hbb hx hout
      go_wp2_with fail
      rw [HXB.out]
      refine calls_world (fun W => Blk W XB 78 #[.int .i64 x.1, .int .i64 x.2] ∧ Below wr.heap.size wr W ∧ wr.heap.size + 1 ≤ W.heap.size) ⟨by rw [← HXB.out]; exact Blk.new _ _ _, (Below.refl _ _).alloc (Nat.le_refl _) _, by simp⟩ ?_
      rintro W1 ⟨hF1, hb1, hs1⟩
      refine (HSC.out _).mono ?_
      rintro e w3 ⟨rfl, hb3d⟩
      have hb3 : Below wr.heap.size wr w3 := hb1.trans (hb3d.mono (by omega))
      have hF3 := hF1.fresh hb3d
      have hs3 := hb3.size
      have hs3' := hF3.lt
      clear hb1 hF1 hb3d hs1 W1 l0 l1
      have hbw : Below w.heap.size w w3 := hbl.trans (hb3.mono (by omega))
      have ho3 := HK.out.1.1.fresh hb3
      have hlw := H.out.below (hbw.mono hB)
      have HW := Lib.hid (And.intro ho3 (And.intro hF3 hlw)); clear ho3 hF3 hlw
      cases bb with
      | false =>
        have hbf := HK.out.2.2.1
        rw [if_neg (by decide)] at hbf
        have HX := Lib.hid hbf; clear hbf
        go_wp2_with fail
        go_roundg (l.length - (k + 1))
        case measure => omega
        case rel => exact ⟨k + 1, OA, oc, by omega, rfl, by go_num, by rw [HX.out, HK.out.2.2.2.2], ⟨by rw [HX.out]; exact HW.out.1, by rw [HX.out]; exact HK.out.1.2⟩, hbw⟩
      | true =>
        have hbf := HK.out.2.2.1
        rw [if_pos rfl] at hbf
        have HX := Lib.hid hbf; clear hbf
        go_wp2_with fail
        go_loopg [6] n (fun gj jv wr2 => ∃ (j : Nat), j ≤ n ∧ gj = 0 + j ∧ jv = .int .i64 j ∧ Hid (∀ t ∈ out.drop j, x.1 < Scn.fr l t) ∧ Below w3.heap.size w3 wr2)
        case atStart => exact ⟨n, Nat.le_refl _, (Nat.zero_add _).symm, rfl, (by unfold Hid; intro t ht; rw [List.drop_eq_nil_of_le (by rw [HK.out.2.2.2.2]; exact Nat.le_refl _)] at ht; cases ht), Below.refl _ _⟩
        case round =>
          obtain ⟨j, hjn, rfl, rfl, hkj, hbj⟩ := hrel
          have hsj := hbj.size
          have hbwj : Below w.heap.size w wr := hbw.trans (hbj.mono (by omega))
          have hoj := HW.out.1.fresh hbj
          have hiok : ∀ z ∈ ints out, Flat.ok z := ints_ok' HK.out.2.2.2.1 (by omega)
          have hil : (ints out).length = n := by rw [ints_length]; exact HK.out.2.2.2.2
          have hFj := HW.out.2.1.fresh hbj
          have HJ := Lib.hid (And.intro hoj (And.intro hiok (And.intro hil hFj))); clear hoj hiok hil hFj
          obtain ⟨cont, hcont⟩ : ∃ b : Bool, (b = true ↔ ∃ t, out[j - 1]? = some t ∧ 0 < j ∧ x.1 < Scn.fr l t) := by
            by_cases h : ∃ t, out[j - 1]? = some t ∧ 0 < j ∧ x.1 < Scn.fr l t
            · exact ⟨true, by simp [h]⟩
            · exact ⟨false, by simp [h]⟩
          have HCO := Lib.hid hcont; clear hcont
          go_upto_region 7 with fail
          go_cut [34] from 19 to 33 (fun ov W => ov = .bool cont ∧ Below wr.heap.size wr W)
          case first =>
            by_cases hj0 : 0 < j
            · obtain ⟨q, hjq⟩ : ∃ q, j - 1 = q := ⟨_, rfl⟩
              obtain ⟨t, ht⟩ : ∃ t, out[q]? = some t := ⟨_, List.getElem?_eq_getElem (by rw [HK.out.2.2.2.2]; omega)⟩
              have htk := HK.out.2.2.2.1 t (List.mem_of_getElem? ht)
              obtain ⟨bo, oo, rfl, hbo, g0⟩ := ints_at (HJ.out.1.at_ HJ.out.2.1) ht
              obtain ⟨bt, ot, he, -, -, -, t0, -⟩ := (HW.out.2.2.below (hbj.mono (by omega))).pairD (by omega : t < l.length)
              injection he with he; injection he with he1 he2; subst he1 he2
              have x0 := HJ.out.2.2.2.cell 0 (v := .int .i64 x.1) rfl
              obtain ⟨y, hy⟩ : ∃ y, (l.getD t (0, 0)).1 = y := ⟨_, rfl⟩
              have hyf : Scn.fr l t = y := hy
              have hct : cont = decide (x.1 < y) := by
                have h := HCO.out
                rw [hjq, ht] at h
                by_cases hd : x.1 < y
                · rw [h.2 ⟨t, rfl, by omega, by rw [hyf]; exact hd⟩]; simp [hd]
                · cases hc : cont with
                  | false => simp [hd]
                  | true =>
                    obtain ⟨t', ht', -, h3⟩ := h.1 hc
                    injection ht' with ht'; subst ht'
                    rw [hyf] at h3; exact absurd h3 hd
              rw [hy] at t0
              have hq1 : IntKind.i64.wrap ((j : Int) - 1) = (q : Int) := by rw [IntWalk.i64_in _ (by omega)]; omega
              have hqn : (q : Int) < (n : Int) := by omega
              have htl : (t : Int) < (l.length : Int) := by omega
              have hpd : decide ((0 : Int) < (j : Int)) = true := by simp; omega
              clear ht hyf hy htk hjq
              have HT := Lib.hid hct; clear hct
              go_wp2_with fail
              refine wp_region_held_drew (S := (fun w' => w'.cell? ⟨bo, oo + q, none⟩ = some (.int .i64 t) ∧ w'.cell? ⟨bl, ol + t * 2, none⟩ = some (.int .i64 y) ∧ w'.cell? ⟨XB, 0, none⟩ = some (.int .i64 x.1))) (by kernel_rfl) ?_ (fun hHeld0 => ?_)
              · first | trivial | ((try dsimp only); (exact ⟨g0, t0, x0⟩))
              refine held_take (v := ?_) 0 rfl (by kernel_rfl) (by kernel_rfl) (by kernel_rfl) (fun _ _ _ h => h) (by rfl) ?_ (by assumption) ?_
              rotate_left
              · (intro w hSw; (try dsimp only at hSw); go_simp; try with_reducible rfl)
              try simp only [Act.put, List.setIfInBounds_toArray, List.set_cons_zero, List.set_cons_succ]
              refine held_take (v := ?_) 1 rfl (by kernel_rfl) (by kernel_rfl) (by kernel_rfl) (fun _ _ _ h => h) (by rfl) ?_ (by assumption) ?_
              rotate_left
              · (intro w hSw; (try dsimp only at hSw); go_simp; try with_reducible rfl)
              try simp only [Act.put, List.setIfInBounds_toArray, List.set_cons_zero, List.set_cons_succ]
              refine held_take (v := ?_) 2 rfl (by kernel_rfl) (by kernel_rfl) (by kernel_rfl) (fun _ _ _ h => h) (by rfl) ?_ (by assumption) ?_
              rotate_left
              · (intro w hSw; (try dsimp only at hSw); go_simp; try with_reducible rfl)
              try simp only [Act.put, List.setIfInBounds_toArray, List.set_cons_zero, List.set_cons_succ]
              refine held_take (v := ?_) 3 rfl (by kernel_rfl) (by kernel_rfl) (by kernel_rfl) (fun _ _ _ h => h) (by rfl) ?_ (by assumption) ?_
              rotate_left
              · (intro w hSw; (try dsimp only at hSw); go_simp; try with_reducible rfl)
              try simp only [Act.put, List.setIfInBounds_toArray, List.set_cons_zero, List.set_cons_succ]
              refine held_take (v := ?_) 4 rfl (by kernel_rfl) (by kernel_rfl) (by kernel_rfl) (fun _ _ _ h => h) (by rfl) ?_ (by assumption) ?_
              rotate_left
              · (intro w hSw; (try dsimp only at hSw); go_simp; try with_reducible rfl)
              try simp only [Act.put, List.setIfInBounds_toArray, List.set_cons_zero, List.set_cons_succ]
              refine held_take (v := ?_) 5 rfl (by kernel_rfl) (by kernel_rfl) (by kernel_rfl) (fun _ _ _ h => h) (by rfl) ?_ (by assumption) ?_
              rotate_left
              · (intro w hSw; (try dsimp only at hSw); go_simp; try with_reducible rfl)
              try simp only [Act.put, List.setIfInBounds_toArray, List.set_cons_zero, List.set_cons_succ]
              refine held_take (v := ?_) 6 rfl (by kernel_rfl) (by kernel_rfl) (by kernel_rfl) (fun _ _ _ h => h) (by rfl) ?_ (by assumption) ?_
              rotate_left
              · (intro w hSw; (try dsimp only at hSw); go_simp; try with_reducible rfl)
              try simp only [Act.put, List.setIfInBounds_toArray, List.set_cons_zero, List.set_cons_succ]
              refine held_take (v := ?_) 7 rfl (by kernel_rfl) (by kernel_rfl) (by kernel_rfl) (fun _ _ _ h => h) (by rfl) ?_ (by assumption) ?_
              rotate_left
              · (intro w hSw; (try dsimp only at hSw); go_simp; try with_reducible rfl)
              try simp only [Act.put, List.setIfInBounds_toArray, List.set_cons_zero, List.set_cons_succ]
              refine held_take (v := ?_) 8 rfl (by kernel_rfl) (by kernel_rfl) (by kernel_rfl) (fun _ _ _ h => h) (by rfl) ?_ (by assumption) ?_
              rotate_left
              · (intro w hSw; (try dsimp only at hSw); go_simp; try with_reducible rfl)
              try simp only [Act.put, List.setIfInBounds_toArray, List.set_cons_zero, List.set_cons_succ]
              refine held_take (v := ?_) 9 rfl (by kernel_rfl) (by kernel_rfl) (by kernel_rfl) (fun _ _ _ h => h) (by rfl) ?_ (by assumption) ?_
              rotate_left
              · (intro w hSw; (try dsimp only at hSw); go_simp; try with_reducible rfl)
              try simp only [Act.put, List.setIfInBounds_toArray, List.set_cons_zero, List.set_cons_succ]
              refine held_take (v := ?_) 10 rfl (by kernel_rfl) (by kernel_rfl) (by kernel_rfl) (fun _ _ _ h => h) (by rfl) ?_ (by assumption) ?_
              rotate_left
              · (intro w hSw; (try dsimp only at hSw); go_simp; try with_reducible rfl)
              try simp only [Act.put, List.setIfInBounds_toArray, List.set_cons_zero, List.set_cons_succ]
              refine held_take (v := ?_) 11 rfl (by kernel_rfl) (by kernel_rfl) (by kernel_rfl) (fun _ _ _ h => h) (by rfl) ?_ (by assumption) ?_
              rotate_left
              · (intro w hSw; (try dsimp only at hSw); go_simp; try with_reducible rfl)
              try simp only [Act.put, List.setIfInBounds_toArray, List.set_cons_zero, List.set_cons_succ]
              refine held_take (v := ?_) 12 rfl (by kernel_rfl) (by kernel_rfl) (by kernel_rfl) (fun _ _ _ h => h) (by rfl) ?_ (by assumption) ?_
              rotate_left
              · (intro w hSw; (try dsimp only at hSw); go_simp; try with_reducible rfl)
              try simp only [Act.put, List.setIfInBounds_toArray, List.set_cons_zero, List.set_cons_succ]
              refine held_take (v := ?_) 13 rfl (by kernel_rfl) (by kernel_rfl) (by kernel_rfl) (fun _ _ _ h => h) (by rfl) ?_ (by assumption) ?_
              rotate_left
              · (intro w hSw; (try dsimp only at hSw); go_simp; try with_reducible rfl)
              try simp only [Act.put, List.setIfInBounds_toArray, List.set_cons_zero, List.set_cons_succ]
              refine held_take (v := ?_) 14 rfl (by kernel_rfl) (by kernel_rfl) (by kernel_rfl) (fun _ _ _ h => h) (by rfl) ?_ (by assumption) ?_
              rotate_left
              · (intro w hSw; (try dsimp only at hSw); go_simp; try with_reducible rfl)
              try simp only [Act.put, List.setIfInBounds_toArray, List.set_cons_zero, List.set_cons_succ]
              refine held_take (v := ?_) 15 rfl (by kernel_rfl) (by kernel_rfl) (by kernel_rfl) (fun _ _ _ h => h) (by rfl) ?_ (by assumption) ?_
              rotate_left
              · (intro w hSw; (try dsimp only at hSw); go_simp; try with_reducible rfl)
              try simp only [Act.put, List.setIfInBounds_toArray, List.set_cons_zero, List.set_cons_succ]
              refine wpAnyH_done (by kernel_rfl) ?_ _
              go_wp2_with fail
              go_meet
              exact ⟨by rw [HT.out], (Below.refl _ _).drew⟩
            · obtain rfl : j = 0 := by omega
              have hct : cont = false := by
                cases hc : cont with
                | false => rfl
                | true => obtain ⟨_, _, h3, _⟩ := HCO.out.1 hc; omega
              subst hct
              go_wp2_with fail
              refine wp_region_held_drew (S := (fun _ => True)) (by kernel_rfl) ?_ (fun hHeld0 => ?_)
              · first | trivial | ((try dsimp only); (trivial))
              refine held_take (v := ?_) 0 rfl (by kernel_rfl) (by kernel_rfl) (by kernel_rfl) (fun _ _ _ h => h) (by rfl) ?_ (by assumption) ?_
              rotate_left
              · (intro w hSw; (try dsimp only at hSw); go_simp; try with_reducible rfl)
              try simp only [Act.put, List.setIfInBounds_toArray, List.set_cons_zero, List.set_cons_succ]
              refine held_take (v := ?_) 1 rfl (by kernel_rfl) (by kernel_rfl) (by kernel_rfl) (fun _ _ _ h => h) (by rfl) ?_ (by assumption) ?_
              rotate_left
              · (intro w hSw; (try dsimp only at hSw); go_simp; try with_reducible rfl)
              try simp only [Act.put, List.setIfInBounds_toArray, List.set_cons_zero, List.set_cons_succ]
              refine held_take (v := ?_) 2 rfl (by kernel_rfl) (by kernel_rfl) (by kernel_rfl) (fun _ _ _ h => h) (by rfl) ?_ (by assumption) ?_
              rotate_left
              · (intro w hSw; (try dsimp only at hSw); go_simp; try with_reducible rfl)
              try simp only [Act.put, List.setIfInBounds_toArray, List.set_cons_zero, List.set_cons_succ]
              refine held_skip 3 rfl (by kernel_rfl) (by kernel_rfl) (by kernel_rfl) (fun _ _ _ h => h) (by rfl) (by assumption) ?_
              try simp only [Act.put, List.setIfInBounds_toArray, List.set_cons_zero, List.set_cons_succ]
              refine held_skip 4 rfl (by kernel_rfl) (by kernel_rfl) (by kernel_rfl) (fun _ _ _ h => h) (by rfl) (by assumption) ?_
              try simp only [Act.put, List.setIfInBounds_toArray, List.set_cons_zero, List.set_cons_succ]
              refine held_skip 5 rfl (by kernel_rfl) (by kernel_rfl) (by kernel_rfl) (fun _ _ _ h => h) (by rfl) (by assumption) ?_
              try simp only [Act.put, List.setIfInBounds_toArray, List.set_cons_zero, List.set_cons_succ]
              refine held_skip 6 rfl (by kernel_rfl) (by kernel_rfl) (by kernel_rfl) (fun _ _ _ h => h) (by rfl) (by assumption) ?_
              try simp only [Act.put, List.setIfInBounds_toArray, List.set_cons_zero, List.set_cons_succ]
              refine held_skip 7 rfl (by kernel_rfl) (by kernel_rfl) (by kernel_rfl) (fun _ _ _ h => h) (by rfl) (by assumption) ?_
              try simp only [Act.put, List.setIfInBounds_toArray, List.set_cons_zero, List.set_cons_succ]
              refine held_skip 8 rfl (by kernel_rfl) (by kernel_rfl) (by kernel_rfl) (fun _ _ _ h => h) (by rfl) (by assumption) ?_
              try simp only [Act.put, List.setIfInBounds_toArray, List.set_cons_zero, List.set_cons_succ]
              refine held_skip 9 rfl (by kernel_rfl) (by kernel_rfl) (by kernel_rfl) (fun _ _ _ h => h) (by rfl) (by assumption) ?_
              try simp only [Act.put, List.setIfInBounds_toArray, List.set_cons_zero, List.set_cons_succ]
              refine held_skip 10 rfl (by kernel_rfl) (by kernel_rfl) (by kernel_rfl) (fun _ _ _ h => h) (by rfl) (by assumption) ?_
              try simp only [Act.put, List.setIfInBounds_toArray, List.set_cons_zero, List.set_cons_succ]
              refine held_skip 11 rfl (by kernel_rfl) (by kernel_rfl) (by kernel_rfl) (fun _ _ _ h => h) (by rfl) (by assumption) ?_
              try simp only [Act.put, List.setIfInBounds_toArray, List.set_cons_zero, List.set_cons_succ]
              refine held_skip 12 rfl (by kernel_rfl) (by kernel_rfl) (by kernel_rfl) (fun _ _ _ h => h) (by rfl) (by assumption) ?_
              try simp only [Act.put, List.setIfInBounds_toArray, List.set_cons_zero, List.set_cons_succ]
              refine held_skip 13 rfl (by kernel_rfl) (by kernel_rfl) (by kernel_rfl) (fun _ _ _ h => h) (by rfl) (by assumption) ?_
              try simp only [Act.put, List.setIfInBounds_toArray, List.set_cons_zero, List.set_cons_succ]
              refine held_skip 14 rfl (by kernel_rfl) (by kernel_rfl) (by kernel_rfl) (fun _ _ _ h => h) (by rfl) (by assumption) ?_
              try simp only [Act.put, List.setIfInBounds_toArray, List.set_cons_zero, List.set_cons_succ]
              refine held_take (v := ?_) 15 rfl (by kernel_rfl) (by kernel_rfl) (by kernel_rfl) (fun _ _ _ h => h) (by rfl) ?_ (by assumption) ?_
              rotate_left
              · (intro w hSw; (try dsimp only at hSw); go_simp; try with_reducible rfl)
              try simp only [Act.put, List.setIfInBounds_toArray, List.set_cons_zero, List.set_cons_succ]
              refine wpAnyH_done (by kernel_rfl) ?_ _
              go_wp2_with fail
              go_meet
              exact ⟨rfl, (Below.refl _ _).drew⟩
          case rest =>
            obtain ⟨rfl, hbd⟩ := hcut
            rename World => wd
            have hsd := hbd.size
            have hbwd : Below w3.heap.size w3 wd := hbj.trans (hbd.mono hsj)
            cases cont with
            | true =>
              obtain ⟨t, ht, hj0, hxt⟩ := HCO.out.1 rfl
              have HT := Lib.hid (And.intro ht hxt); clear ht hxt
              obtain ⟨q, rfl⟩ : ∃ q, j = q + 1 := ⟨j - 1, by omega⟩
              go_wp2_with fail
              go_roundg (0 + q)
              case measure => omega
              case rel => exact ⟨q, by omega, rfl, by go_num, by unfold Hid; intro u hu; rw [List.drop_eq_getElem_cons (by rw [HK.out.2.2.2.2]; omega)] at hu; rcases List.mem_cons.1 hu with rfl | hu; (have := HT.out.1; rw [show q + 1 - 1 = q by omega, List.getElem?_eq_getElem (by rw [HK.out.2.2.2.2]; omega)] at this; injection this with this; rw [this]; exact HT.out.2); exact hkj.out u hu, hbwd⟩
            | false =>
              have hstop : j = 0 ∨ ∃ t, out[j - 1]? = some t ∧ Scn.fr l t ≤ x.1 := by
                by_cases hj0 : j = 0
                · exact .inl hj0
                · obtain ⟨t, ht⟩ : ∃ t, out[j - 1]? = some t := ⟨_, List.getElem?_eq_getElem (by rw [HK.out.2.2.2.2]; omega)⟩
                  refine .inr ⟨t, ht, ?_⟩
                  by_cases h : x.1 < Scn.fr l t
                  · have := HCO.out.2 ⟨t, ht, by omega, h⟩; cases this
                  · omega
              have hje := Scn.later_eq (l := l) (v := x.1) (out := out) (j := j) (by rw [HK.out.2.2.2.2]; exact hjn) hkj.out hstop
              rw [← HK.out.2.1] at hje
              have hins := ins_ints l k out j hje
              have hinl : (Scn.ins l k out).length = n + 1 := by rw [(Scn.ins_perm l k out).length_eq, List.length_append, HK.out.2.2.2.2]; rfl
              have hod := HJ.out.1.fresh hbd
              have HD := Lib.hid (And.intro hod (And.intro hins hinl)); clear hod hins hinl hje hstop
              have hbwd2 : Below w.heap.size w wd := hbw.trans (hbwd.mono (by omega))
              go_upto_region 9 with fail
              by_cases hn0 : n = 0
              · obtain rfl : j = 0 := by omega
                have hout0 : out = [] := List.eq_nil_of_length_eq_zero (by rw [HK.out.2.2.2.2]; exact hn0)
                obtain ⟨rfl, rfl⟩ := HK.out.1.2 hout0
                subst hn0 hout0
                have hins := HD.out.2.1
                have hin2 : ints (Scn.ins l k []) = [] ++ [(k : Int)] ++ [] := by rw [hins]; rfl
                have HI := Lib.hid hin2; clear hins hin2
                have HDL := Lib.hid (show ((ints []).take 0).length = 0 ∧ ((ints []).take 0 ++ [(k : Int)]).length = 0 + 1 ∧ ((ints []).drop 0).length = 0 - 0 from ⟨rfl, rfl, rfl⟩)
                refine wp_region_held_drew (S := (fun _ => True)) (by kernel_rfl) ?_ (fun hHeld0 => ?_)
                · first | trivial | ((try dsimp only); (trivial))
                refine held_take (v := ?_) 0 rfl (by kernel_rfl) (by kernel_rfl) (by kernel_rfl) (fun _ _ _ h => h) (by rfl) ?_ (by assumption) ?_
                rotate_left
                · (intro w hSw; (try dsimp only at hSw); go_simp; try with_reducible rfl)
                try simp only [Act.put, List.setIfInBounds_toArray, List.set_cons_zero, List.set_cons_succ]
                refine held_take (v := ?_) 1 rfl (by kernel_rfl) (by kernel_rfl) (by kernel_rfl) (fun _ _ _ h => h) (by rfl) ?_ (by assumption) ?_
                rotate_left
                · (intro w hSw; (try dsimp only at hSw); go_simp; try with_reducible rfl)
                try simp only [Act.put, List.setIfInBounds_toArray, List.set_cons_zero, List.set_cons_succ]
                refine held_take (v := ?_) 2 rfl (by kernel_rfl) (by kernel_rfl) (by kernel_rfl) (fun _ _ _ h => h) (by rfl) ?_ (by assumption) ?_
                rotate_left
                · (intro w hSw; (try dsimp only at hSw); go_simp; try with_reducible rfl)
                try simp only [Act.put, List.setIfInBounds_toArray, List.set_cons_zero, List.set_cons_succ]
                refine held_take (v := ?_) 4 rfl (by kernel_rfl) (by kernel_rfl) (by kernel_rfl) (fun _ _ _ h => h) (by rfl) ?_ (by assumption) ?_
                rotate_left
                · (intro w hSw; (try dsimp only at hSw); go_simp; try with_reducible rfl)
                try simp only [Act.put, List.setIfInBounds_toArray, List.set_cons_zero, List.set_cons_succ]
                refine held_take (v := ?_) 7 rfl (by kernel_rfl) (by kernel_rfl) (by kernel_rfl) (fun _ _ _ h => h) (by rfl) ?_ (by assumption) ?_
                rotate_left
                · (intro w hSw; (try dsimp only at hSw); go_simp; try with_reducible rfl)
                try simp only [Act.put, List.setIfInBounds_toArray, List.set_cons_zero, List.set_cons_succ]
                refine held_take (v := ?_) 8 rfl (by kernel_rfl) (by kernel_rfl) (by kernel_rfl) (fun _ _ _ h => h) (by rfl) ?_ (by assumption) ?_
                rotate_left
                · (intro w hSw; (try dsimp only at hSw); go_simp; try with_reducible rfl)
                try simp only [Act.put, List.setIfInBounds_toArray, List.set_cons_zero, List.set_cons_succ]
                refine held_take (v := ?_) 9 rfl (by kernel_rfl) (by kernel_rfl) (by kernel_rfl) (fun _ _ _ h => h) (by rfl) ?_ (by assumption) ?_
                rotate_left
                · (intro w hSw; (try dsimp only at hSw); go_simp; try with_reducible rfl)
                try simp only [Act.put, List.setIfInBounds_toArray, List.set_cons_zero, List.set_cons_succ]
                refine held_call2 3 5 (by kernel_rfl) rfl rfl (fun K hK => ?_) (fun K hK => ?_)
                · go_simp
                  go_at_call 25; refine (copyInt_n none 0 wd.heap.size 0 ((ints ([] : List Nat)).take 0) _ HDL.out.1 (by exact At.nil_) (by omega)).mono ?_; rintro e w4 ⟨A4, c4, rfl, ho4, hb4⟩
                  try (go_wp2_with fail)
                  refine hK.out _ _ ?_ (fun hHeld1 => ?_)
                  · first | trivial | ((try dsimp only); (trivial))
                  clear hK K hHeld0
                  try simp only [Act.put, List.setIfInBounds_toArray, List.set_cons_zero, List.set_cons_succ]
                  refine held_call 5 (by kernel_rfl) rfl (fun K hK => ?_)
                  go_simp
                  have HV := Lib.hid (And.intro ((ho4.base_le (show wd.heap.size ≤ wd.drew.heap.size from Nat.le_refl _)).alloc (.cells #[.int .i64 (k : Int)] 3)) (And.intro (At.built w4 #[.int .i64 (k : Int)] 3 [(k : Int)] rfl (by intro z hz; simp at hz; subst hz; show I64 _; unfold I64; omega)) (And.intro ((undrew hb4).alloc (undrew hb4).size (.cells #[.int .i64 (k : Int)] 3)) (show wd.heap.size ≤ (w4.alloc (.cells #[.int .i64 (k : Int)] 3)).heap.size by have := (undrew hb4).size; simp only [World.size_alloc]; omega))))
                  refine hK.out _ _ ?_ (fun hHeld2 => ?_)
                  · first | trivial | ((try dsimp only); (trivial))
                  clear hK K hHeld1
                  try simp only [Act.put, List.setIfInBounds_toArray, List.set_cons_zero, List.set_cons_succ]
                  refine held_call 6 (by kernel_rfl) rfl (fun K hK => ?_)
                  refine step_app (α := Int) (n := 0) (m := 1) (nm := 0 + 1) (r := [(k : Int)]) (by rfl) (.tmp 40) (.tmp 42) _ (by rfl) wd.heap.size 3 i0 _ 8 Try.underlying40 hi hz0 hz1 hz2 rfl (by decide) int_one (by rfl) HDL.out.1 HV.out.1 (by rfl) HV.out.2.1 rfl rfl (by omega) (by simp only [maxLen]; omega) HV.out.2.2.2 ?_; intro A5 c5 w5 ho5 hgr5 hat5; have HV5 := Lib.hid (And.intro ho5 (And.intro (HV.out.2.2.1.grown hgr5 HV.out.2.2.2 (fun g hg => (HV.out.1.lt g hg).1)) (Nat.le_trans HV.out.2.2.2 hgr5.size)))
                  refine hK.out _ _ ?_ (fun hHeld3 => ?_)
                  · first | trivial | ((try dsimp only); (trivial))
                  clear hK K hHeld2
                  try simp only [Act.put, List.setIfInBounds_toArray, List.set_cons_zero, List.set_cons_succ]
                  refine held_call 10 (by kernel_rfl) rfl (fun K hK => ?_)
                  refine step_app (α := Int) (n := 0 + 1) (m := 0 - 0) (nm := 0 + 1) (r := (ints ([] : List Nat)).drop 0) (by rfl) (.tmp 43) (.tmp 46) _ (by rfl) wd.heap.size 3 i0 _ 8 Try.underlying40 hi hz0 hz1 hz2 rfl (by decide) int_one (by rfl) HDL.out.2.1 HV5.out.1 (X := none) (d := 0) (B := 0) (by rfl) At.nil_ HDL.out.2.2 (by omega) (by omega) (by simp only [maxLen]; omega) HV5.out.2.2 ?_; intro A6 c6 w6 ho6 hgr6 hat6
                  refine hK.out _ _ ?_ (fun hHeld4 => ?_)
                  · first | trivial | ((try dsimp only); (trivial))
                  clear hK K hHeld3
                  try simp only [Act.put, List.setIfInBounds_toArray, List.set_cons_zero, List.set_cons_succ]
                  refine held_take (v := ?_) 11 rfl (by kernel_rfl) (by kernel_rfl) (by kernel_rfl) (fun _ _ _ h => h) (by rfl) ?_ (by assumption) ?_
                  rotate_left
                  · (intro w hSw; (try dsimp only at hSw); go_simp; try with_reducible rfl)
                  try simp only [Act.put, List.setIfInBounds_toArray, List.set_cons_zero, List.set_cons_succ]
                  refine wpAnyH_done (by kernel_rfl) ?_ _
                  have hfin : Own w6 w.heap.size 3 A6 c6 (ints (Scn.ins l k ([] : List Nat))) := by rw [HI.out]; exact ho6.base_le (by show w.heap.size ≤ wd.heap.size; omega)
                  have hbl6 : Below w.heap.size w w6 := hbwd2.trans ((HV5.out.2.1.grown hgr6 HV5.out.2.2 (fun g hg => (HV5.out.1.lt g hg).1)).mono (by show w.heap.size ≤ wd.heap.size; omega))
                  have HF := Lib.hid (And.intro hfin hbl6); clear hfin hbl6 ho6 hgr6 hat6 ho5 hgr5 hat5
                  go_wp2_with fail
                  go_roundg (l.length - (k + 1))
                  case measure => omega
                  case rel => exact ⟨k + 1, A6, c6, by omega, rfl, by go_num, by rw [HX.out, HD.out.2.2], ⟨by rw [HX.out]; exact HF.out.1, fun e => by rw [HX.out] at e; have := HD.out.2.2; rw [e] at this; simp at this⟩, HF.out.2⟩
                · go_simp
                  have hlb := At.built wd.drew #[.int .i64 (k : Int)] 3 [(k : Int)] rfl (by intro z hz; simp at hz; subst hz; show I64 _; unfold I64; omega)
                  refine hK.out _ _ ?_ (fun hHeld1 => ?_)
                  · first | trivial | ((try dsimp only); (trivial))
                  clear hK K hHeld0
                  try simp only [Act.put, List.setIfInBounds_toArray, List.set_cons_zero, List.set_cons_succ]
                  refine held_call 3 (by kernel_rfl) rfl (fun K hK => ?_)
                  go_simp
                  go_at_call 25; refine (copyInt_n none 0 wd.heap.size 0 ((ints ([] : List Nat)).take 0) _ HDL.out.1 (by exact At.nil_) (by omega)).mono ?_; rintro e w4 ⟨A4, c4, rfl, ho4, hb4⟩; have hb4w : Below wd.heap.size wd w4 := undrew (((Below.refl wd.heap.size wd.drew).alloc (Nat.le_refl _) (.cells #[.int .i64 (k : Int)] 3)).trans (hb4.mono (show wd.heap.size ≤ (wd.alloc (.cells #[.int .i64 (k : Int)] 3)).heap.size by simp))); have hb4e : Below (wd.heap.size + 1) (wd.drew.alloc (.cells #[.int .i64 (k : Int)] 3)) w4 := hb4.mono (show wd.heap.size + 1 ≤ (wd.alloc (.cells #[.int .i64 (k : Int)] 3)).heap.size by simp); have HV := Lib.hid (And.intro (ho4.base_le (show wd.heap.size ≤ (wd.alloc (.cells #[.int .i64 (k : Int)] 3)).heap.size by simp)) (And.intro (hlb.below hb4e) (And.intro hb4w hb4w.size)))
                  try (go_wp2_with fail)
                  refine hK.out _ _ ?_ (fun hHeld2 => ?_)
                  · first | trivial | ((try dsimp only); (trivial))
                  clear hK K hHeld1
                  try simp only [Act.put, List.setIfInBounds_toArray, List.set_cons_zero, List.set_cons_succ]
                  refine held_call 6 (by kernel_rfl) rfl (fun K hK => ?_)
                  refine step_app (α := Int) (n := 0) (m := 1) (nm := 0 + 1) (r := [(k : Int)]) (by rfl) (.tmp 40) (.tmp 42) _ (by rfl) wd.heap.size 3 i0 _ 8 Try.underlying40 hi hz0 hz1 hz2 rfl (by decide) int_one (by rfl) HDL.out.1 HV.out.1 (by rfl) HV.out.2.1 rfl rfl (by omega) (by simp only [maxLen]; omega) HV.out.2.2.2 ?_; intro A5 c5 w5 ho5 hgr5 hat5; have HV5 := Lib.hid (And.intro ho5 (And.intro (HV.out.2.2.1.grown hgr5 HV.out.2.2.2 (fun g hg => (HV.out.1.lt g hg).1)) (Nat.le_trans HV.out.2.2.2 hgr5.size)))
                  refine hK.out _ _ ?_ (fun hHeld3 => ?_)
                  · first | trivial | ((try dsimp only); (trivial))
                  clear hK K hHeld2
                  try simp only [Act.put, List.setIfInBounds_toArray, List.set_cons_zero, List.set_cons_succ]
                  refine held_call 10 (by kernel_rfl) rfl (fun K hK => ?_)
                  refine step_app (α := Int) (n := 0 + 1) (m := 0 - 0) (nm := 0 + 1) (r := (ints ([] : List Nat)).drop 0) (by rfl) (.tmp 43) (.tmp 46) _ (by rfl) wd.heap.size 3 i0 _ 8 Try.underlying40 hi hz0 hz1 hz2 rfl (by decide) int_one (by rfl) HDL.out.2.1 HV5.out.1 (X := none) (d := 0) (B := 0) (by rfl) At.nil_ HDL.out.2.2 (by omega) (by omega) (by simp only [maxLen]; omega) HV5.out.2.2 ?_; intro A6 c6 w6 ho6 hgr6 hat6
                  refine hK.out _ _ ?_ (fun hHeld4 => ?_)
                  · first | trivial | ((try dsimp only); (trivial))
                  clear hK K hHeld3
                  try simp only [Act.put, List.setIfInBounds_toArray, List.set_cons_zero, List.set_cons_succ]
                  refine held_take (v := ?_) 11 rfl (by kernel_rfl) (by kernel_rfl) (by kernel_rfl) (fun _ _ _ h => h) (by rfl) ?_ (by assumption) ?_
                  rotate_left
                  · (intro w hSw; (try dsimp only at hSw); go_simp; try with_reducible rfl)
                  try simp only [Act.put, List.setIfInBounds_toArray, List.set_cons_zero, List.set_cons_succ]
                  refine wpAnyH_done (by kernel_rfl) ?_ _
                  have hfin : Own w6 w.heap.size 3 A6 c6 (ints (Scn.ins l k ([] : List Nat))) := by rw [HI.out]; exact ho6.base_le (by show w.heap.size ≤ wd.heap.size; omega)
                  have hbl6 : Below w.heap.size w w6 := hbwd2.trans ((HV5.out.2.1.grown hgr6 HV5.out.2.2 (fun g hg => (HV5.out.1.lt g hg).1)).mono (by show w.heap.size ≤ wd.heap.size; omega))
                  have HF := Lib.hid (And.intro hfin hbl6); clear hfin hbl6 ho6 hgr6 hat6 ho5 hgr5 hat5
                  go_wp2_with fail
                  go_roundg (l.length - (k + 1))
                  case measure => omega
                  case rel => exact ⟨k + 1, A6, c6, by omega, rfl, by go_num, by rw [HX.out, HD.out.2.2], ⟨by rw [HX.out]; exact HF.out.1, fun e => by rw [HX.out] at e; have := HD.out.2.2; rw [e] at this; simp at this⟩, HF.out.2⟩
              · obtain ⟨g, rfl, hg0, hg1⟩ := HD.out.1.some_ (by rw [HJ.out.2.2.1]; omega)
                have hcap := HD.out.1.le_cap
                rw [HJ.out.2.2.1] at hcap
                obtain ⟨hcap1, hcap2⟩ := hcap
                unfold maxLen at hcap2
                have hdl : ((ints out).drop j).length = n - j := by rw [List.length_drop, HJ.out.2.2.1]
                have htl : ((ints out).take j).length = j := by rw [List.length_take, HJ.out.2.2.1]; omega
                have htl2 : ((ints out).take j ++ [(k : Int)]).length = j + 1 := by rw [List.length_append, htl]; rfl
                have HDL := Lib.hid (And.intro htl (And.intro htl2 hdl)); clear htl htl2 hdl
                have HI := Lib.hid HD.out.2.1
                have hq1 : j ≤ oc := by omega
                have hq3 : (j : Int) ≤ (n : Int) := by omega
                obtain ⟨ad, hA, hsrc⟩ : ∃ ad : Addr, (if oc = j then some (⟨g, 0, none⟩ : Addr) else some ⟨g, j, none⟩) = some ad ∧ Hid (∀ W : World, Own W w.heap.size 3 (some ⟨g, 0, none⟩) oc (ints out) → At W W.heap.size (some ad) ((ints out).drop j)) := by
                  by_cases hc : oc = j
                  · refine ⟨_, if_pos hc, fun W _ => ?_⟩
                    have : (ints out).drop j = [] := List.drop_eq_nil_of_le (by rw [HJ.out.2.2.1]; omega)
                    rw [this]; exact At.nil_
                  · refine ⟨_, if_neg hc, fun W hW => ?_⟩
                    have := (hW.at_ HJ.out.2.1).drop_ j
                    rw [Nat.zero_add, show j * Enc.sz Int = j from Nat.mul_one j] at this
                    exact this
                refine wp_region_held_drew (S := (fun _ => True)) (by kernel_rfl) ?_ (fun hHeld0 => ?_)
                · first | trivial | ((try dsimp only); (trivial))
                refine held_take (v := ?_) 0 rfl (by kernel_rfl) (by kernel_rfl) (by kernel_rfl) (fun _ _ _ h => h) (by rfl) ?_ (by assumption) ?_
                rotate_left
                · (intro w hSw; (try dsimp only at hSw); go_simp; try with_reducible rfl)
                try simp only [Act.put, List.setIfInBounds_toArray, List.set_cons_zero, List.set_cons_succ]
                refine held_take (v := ?_) 1 rfl (by kernel_rfl) (by kernel_rfl) (by kernel_rfl) (fun _ _ _ h => h) (by rfl) ?_ (by assumption) ?_
                rotate_left
                · (intro w hSw; (try dsimp only at hSw); go_simp; try with_reducible rfl)
                try simp only [Act.put, List.setIfInBounds_toArray, List.set_cons_zero, List.set_cons_succ]
                refine held_take (v := ?_) 2 rfl (by kernel_rfl) (by kernel_rfl) (by kernel_rfl) (fun _ _ _ h => h) (by rfl) ?_ (by assumption) ?_
                rotate_left
                · (intro w hSw; (try dsimp only at hSw); go_simp; try with_reducible rfl)
                try simp only [Act.put, List.setIfInBounds_toArray, List.set_cons_zero, List.set_cons_succ]
                refine held_take (v := ?_) 4 rfl (by kernel_rfl) (by kernel_rfl) (by kernel_rfl) (fun _ _ _ h => h) (by rfl) ?_ (by assumption) ?_
                rotate_left
                · (intro w hSw; (try dsimp only at hSw); go_simp; try with_reducible rfl)
                try simp only [Act.put, List.setIfInBounds_toArray, List.set_cons_zero, List.set_cons_succ]
                refine held_take (v := ?_) 7 rfl (by kernel_rfl) (by kernel_rfl) (by kernel_rfl) (fun _ _ _ h => h) (by rfl) ?_ (by assumption) ?_
                rotate_left
                · (intro w hSw; (try dsimp only at hSw); go_simp; try with_reducible rfl)
                try simp only [Act.put, List.setIfInBounds_toArray, List.set_cons_zero, List.set_cons_succ]
                refine held_take (v := ?_) 8 rfl (by kernel_rfl) (by kernel_rfl) (by kernel_rfl) (fun _ _ _ h => h) (by rfl) ?_ (by assumption) ?_
                rotate_left
                · (intro w hSw; (try dsimp only at hSw); go_simp; try with_reducible rfl)
                try simp only [Act.put, List.setIfInBounds_toArray, List.set_cons_zero, List.set_cons_succ]
                refine held_take (v := ?_) 9 rfl (by kernel_rfl) (by kernel_rfl) (by kernel_rfl) (fun _ _ _ h => h) (by rfl) ?_ (by assumption) ?_
                rotate_left
                · (intro w hSw; (try dsimp only at hSw); go_simp; try with_reducible rfl)
                try simp only [Act.put, List.setIfInBounds_toArray, List.set_cons_zero, List.set_cons_succ]
                refine held_call2 3 5 (by kernel_rfl) rfl rfl (fun K hK => ?_) (fun K hK => ?_)
                · go_simp
                  go_at_call 25; refine (copyInt_n (some ⟨g, 0, none⟩) oc wd.heap.size j ((ints out).take j) _ HDL.out.1 (by exact (at_takeS (HD.out.1.at_ HJ.out.2.1) j).drew) (by omega)).mono ?_; rintro e w4 ⟨A4, c4, rfl, ho4, hb4⟩
                  try (go_wp2_with fail)
                  refine hK.out _ _ ?_ (fun hHeld1 => ?_)
                  · first | trivial | ((try dsimp only); (trivial))
                  clear hK K hHeld0
                  try simp only [Act.put, List.setIfInBounds_toArray, List.set_cons_zero, List.set_cons_succ]
                  refine held_call 5 (by kernel_rfl) rfl (fun K hK => ?_)
                  go_simp
                  have HV := Lib.hid (And.intro ((ho4.base_le (show wd.heap.size ≤ wd.drew.heap.size from Nat.le_refl _)).alloc (.cells #[.int .i64 (k : Int)] 3)) (And.intro (At.built w4 #[.int .i64 (k : Int)] 3 [(k : Int)] rfl (by intro z hz; simp at hz; subst hz; show I64 _; unfold I64; omega)) (And.intro ((undrew hb4).alloc (undrew hb4).size (.cells #[.int .i64 (k : Int)] 3)) (show wd.heap.size ≤ (w4.alloc (.cells #[.int .i64 (k : Int)] 3)).heap.size by have := (undrew hb4).size; simp only [World.size_alloc]; omega))))
                  refine hK.out _ _ ?_ (fun hHeld2 => ?_)
                  · first | trivial | ((try dsimp only); (trivial))
                  clear hK K hHeld1
                  try simp only [Act.put, List.setIfInBounds_toArray, List.set_cons_zero, List.set_cons_succ]
                  refine held_call 6 (by kernel_rfl) rfl (fun K hK => ?_)
                  refine step_app (α := Int) (n := j) (m := 1) (nm := j + 1) (r := [(k : Int)]) (by rfl) (.tmp 40) (.tmp 42) _ (by rfl) wd.heap.size 3 i0 _ 8 Try.underlying40 hi hz0 hz1 hz2 rfl (by decide) int_one (by rfl) HDL.out.1 HV.out.1 (by rfl) HV.out.2.1 rfl rfl (by omega) (by simp only [maxLen]; omega) HV.out.2.2.2 ?_; intro A5 c5 w5 ho5 hgr5 hat5; have HV5 := Lib.hid (And.intro ho5 (And.intro (HV.out.2.2.1.grown hgr5 HV.out.2.2.2 (fun g hg => (HV.out.1.lt g hg).1)) (Nat.le_trans HV.out.2.2.2 hgr5.size)))
                  refine hK.out _ _ ?_ (fun hHeld3 => ?_)
                  · first | trivial | ((try dsimp only); (trivial))
                  clear hK K hHeld2
                  try simp only [Act.put, List.setIfInBounds_toArray, List.set_cons_zero, List.set_cons_succ]
                  refine held_call 10 (by kernel_rfl) rfl (fun K hK => ?_)
                  refine step_app (α := Int) (n := j + 1) (m := n - j) (nm := n + 1) (r := (ints out).drop j) (by rfl) (.tmp 43) (.tmp 46) _ (by rfl) wd.heap.size 3 i0 _ 8 Try.underlying40 hi hz0 hz1 hz2 rfl (by decide) int_one (by rfl) HDL.out.2.1 HV5.out.1 (X := some ad) (d := oc - j) (by simp [Act.eval, Act.put, hA]) (hsrc.out _ (HD.out.1.fresh HV5.out.2.1)) HDL.out.2.2 (by omega) (by omega) (by simp only [maxLen]; omega) HV5.out.2.2 ?_; intro A6 c6 w6 ho6 hgr6 hat6
                  refine hK.out _ _ ?_ (fun hHeld4 => ?_)
                  · first | trivial | ((try dsimp only); (trivial))
                  clear hK K hHeld3
                  try simp only [Act.put, List.setIfInBounds_toArray, List.set_cons_zero, List.set_cons_succ]
                  refine held_take (v := ?_) 11 rfl (by kernel_rfl) (by kernel_rfl) (by kernel_rfl) (fun _ _ _ h => h) (by rfl) ?_ (by assumption) ?_
                  rotate_left
                  · (intro w hSw; (try dsimp only at hSw); go_simp; try with_reducible rfl)
                  try simp only [Act.put, List.setIfInBounds_toArray, List.set_cons_zero, List.set_cons_succ]
                  refine wpAnyH_done (by kernel_rfl) ?_ _
                  have hfin : Own w6 w.heap.size 3 A6 c6 (ints (Scn.ins l k out)) := by rw [HI.out]; exact ho6.base_le (by show w.heap.size ≤ wd.heap.size; omega)
                  have hbl6 : Below w.heap.size w w6 := hbwd2.trans ((HV5.out.2.1.grown hgr6 HV5.out.2.2 (fun g hg => (HV5.out.1.lt g hg).1)).mono (by show w.heap.size ≤ wd.heap.size; omega))
                  have HF := Lib.hid (And.intro hfin hbl6); clear hfin hbl6 ho6 hgr6 hat6 ho5 hgr5 hat5
                  go_wp2_with fail
                  go_roundg (l.length - (k + 1))
                  case measure => omega
                  case rel => exact ⟨k + 1, A6, c6, by omega, rfl, by go_num, by rw [HX.out, HD.out.2.2], ⟨by rw [HX.out]; exact HF.out.1, fun e => by rw [HX.out] at e; have := HD.out.2.2; rw [e] at this; simp at this⟩, HF.out.2⟩
                · go_simp
                  have hlb := At.built wd.drew #[.int .i64 (k : Int)] 3 [(k : Int)] rfl (by intro z hz; simp at hz; subst hz; show I64 _; unfold I64; omega)
                  refine hK.out _ _ ?_ (fun hHeld1 => ?_)
                  · first | trivial | ((try dsimp only); (trivial))
                  clear hK K hHeld0
                  try simp only [Act.put, List.setIfInBounds_toArray, List.set_cons_zero, List.set_cons_succ]
                  refine held_call 3 (by kernel_rfl) rfl (fun K hK => ?_)
                  go_simp
                  go_at_call 25; refine (copyInt_n (some ⟨g, 0, none⟩) oc wd.heap.size j ((ints out).take j) _ HDL.out.1 (by exact (((at_takeS (HD.out.1.at_ HJ.out.2.1) j).drew).alloc (Nat.le_refl _) _)) (by omega)).mono ?_; rintro e w4 ⟨A4, c4, rfl, ho4, hb4⟩; have hb4w : Below wd.heap.size wd w4 := undrew (((Below.refl wd.heap.size wd.drew).alloc (Nat.le_refl _) (.cells #[.int .i64 (k : Int)] 3)).trans (hb4.mono (show wd.heap.size ≤ (wd.alloc (.cells #[.int .i64 (k : Int)] 3)).heap.size by simp))); have hb4e : Below (wd.heap.size + 1) (wd.drew.alloc (.cells #[.int .i64 (k : Int)] 3)) w4 := hb4.mono (show wd.heap.size + 1 ≤ (wd.alloc (.cells #[.int .i64 (k : Int)] 3)).heap.size by simp); have HV := Lib.hid (And.intro (ho4.base_le (show wd.heap.size ≤ (wd.alloc (.cells #[.int .i64 (k : Int)] 3)).heap.size by simp)) (And.intro (hlb.below hb4e) (And.intro hb4w hb4w.size)))
                  try (go_wp2_with fail)
                  refine hK.out _ _ ?_ (fun hHeld2 => ?_)
                  · first | trivial | ((try dsimp only); (trivial))
                  clear hK K hHeld1
                  try simp only [Act.put, List.setIfInBounds_toArray, List.set_cons_zero, List.set_cons_succ]
                  refine held_call 6 (by kernel_rfl) rfl (fun K hK => ?_)
                  refine step_app (α := Int) (n := j) (m := 1) (nm := j + 1) (r := [(k : Int)]) (by rfl) (.tmp 40) (.tmp 42) _ (by rfl) wd.heap.size 3 i0 _ 8 Try.underlying40 hi hz0 hz1 hz2 rfl (by decide) int_one (by rfl) HDL.out.1 HV.out.1 (by rfl) HV.out.2.1 rfl rfl (by omega) (by simp only [maxLen]; omega) HV.out.2.2.2 ?_; intro A5 c5 w5 ho5 hgr5 hat5; have HV5 := Lib.hid (And.intro ho5 (And.intro (HV.out.2.2.1.grown hgr5 HV.out.2.2.2 (fun g hg => (HV.out.1.lt g hg).1)) (Nat.le_trans HV.out.2.2.2 hgr5.size)))
                  refine hK.out _ _ ?_ (fun hHeld3 => ?_)
                  · first | trivial | ((try dsimp only); (trivial))
                  clear hK K hHeld2
                  try simp only [Act.put, List.setIfInBounds_toArray, List.set_cons_zero, List.set_cons_succ]
                  refine held_call 10 (by kernel_rfl) rfl (fun K hK => ?_)
                  refine step_app (α := Int) (n := j + 1) (m := n - j) (nm := n + 1) (r := (ints out).drop j) (by rfl) (.tmp 43) (.tmp 46) _ (by rfl) wd.heap.size 3 i0 _ 8 Try.underlying40 hi hz0 hz1 hz2 rfl (by decide) int_one (by rfl) HDL.out.2.1 HV5.out.1 (X := some ad) (d := oc - j) (by simp [Act.eval, Act.put, hA]) (hsrc.out _ (HD.out.1.fresh HV5.out.2.1)) HDL.out.2.2 (by omega) (by omega) (by simp only [maxLen]; omega) HV5.out.2.2 ?_; intro A6 c6 w6 ho6 hgr6 hat6
                  refine hK.out _ _ ?_ (fun hHeld4 => ?_)
                  · first | trivial | ((try dsimp only); (trivial))
                  clear hK K hHeld3
                  try simp only [Act.put, List.setIfInBounds_toArray, List.set_cons_zero, List.set_cons_succ]
                  refine held_take (v := ?_) 11 rfl (by kernel_rfl) (by kernel_rfl) (by kernel_rfl) (fun _ _ _ h => h) (by rfl) ?_ (by assumption) ?_
                  rotate_left
                  · (intro w hSw; (try dsimp only at hSw); go_simp; try with_reducible rfl)
                  try simp only [Act.put, List.setIfInBounds_toArray, List.set_cons_zero, List.set_cons_succ]
                  refine wpAnyH_done (by kernel_rfl) ?_ _
                  have hfin : Own w6 w.heap.size 3 A6 c6 (ints (Scn.ins l k out)) := by rw [HI.out]; exact ho6.base_le (by show w.heap.size ≤ wd.heap.size; omega)
                  have hbl6 : Below w.heap.size w w6 := hbwd2.trans ((HV5.out.2.1.grown hgr6 HV5.out.2.2 (fun g hg => (HV5.out.1.lt g hg).1)).mono (by show w.heap.size ≤ wd.heap.size; omega))
                  have HF := Lib.hid (And.intro hfin hbl6); clear hfin hbl6 ho6 hgr6 hat6 ho5 hgr5 hat5
                  go_wp2_with fail
                  go_roundg (l.length - (k + 1))
                  case measure => omega
                  case rel => exact ⟨k + 1, A6, c6, by omega, rfl, by go_num, by rw [HX.out, HD.out.2.2], ⟨by rw [HX.out]; exact HF.out.1, fun e => by rw [HX.out] at e; have := HD.out.2.2; rw [e] at this; simp at this⟩, HF.out.2⟩
    · obtain rfl : k = l.length := by omega
      go_wp2_with fail
      go_returns
      exact ⟨OA, oc, rfl, hkeep.out.1, hbl⟩

end Go.Proofs.Ytljdnadejmkaeaa
