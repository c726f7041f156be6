/- The reference: moves in a row. -/
import Derived.Test.YtljdnadejmkaeaaMov4
import Derived.Test.YtljdnadejmkaeaaMov5
import Derived.Deep.RegionHeld3
import Derived.Deep.DeepCutAuto
import Derived.IntWalk
namespace Go.Proofs.Ytljdnadejmkaeaa
open Go.RowKit

def MovesPost (l : List (Int × Int)) (spare : Int) (w : World) (e : Ending) (w' : World) : Prop :=
  Below w.heap.size w w' ∧ ∃ A c, e = .returned (.slice A (mvAll l spare).length c) ∧ Own w' w.heap.size 62 A c (mvAll l spare)

theorem proper_snoc (l : List (Int × Int)) (k : Nat) (x : Int × Int) (h : l[k]? = some x) : proper (l.take (k + 1)) = proper (l.take k) ++ if x.1 = x.2 then [] else [x] := by
  unfold proper
  rw [take_snoc _ _ _ h, List.filter_append]
  by_cases hx : x.1 = x.2 <;> simp [hx]

theorem fre_any (left : List (Int × Int)) (m : Int × Int) : fre left m = !(decide (m.1 ∈ left.map (·.2))) := by
  unfold fre
  congr 1
  rw [Bool.eq_iff_iff, List.any_eq_true]
  simp only [decide_eq_true_eq, List.mem_map]

theorem idxI_snoc {α : Type} (p : α → Bool) (l : List α) (k : Nat) (x : α) (h : l[k]? = some x) : idxI p (l.take (k + 1)) = if (l.take k).any p = true then idxI p (l.take k) else if p x = true then (k : Int) else -1 := by
  have hk : k < l.length := (List.getElem?_eq_some_iff.1 h).1
  have hl : (l.take k).length = k := by rw [List.length_take]; omega
  unfold idxI
  rw [any_snoc p l k x h]
  by_cases h1 : (l.take k).any p = true
  · rw [if_pos h1, if_pos (by simp [h1]), if_pos h1, take_snoc _ _ _ h, List.findIdx_append, if_pos (by rw [List.findIdx_lt_length]; exact List.any_eq_true.1 h1)]
  · rw [if_neg h1]
    by_cases h2 : p x = true
    · rw [if_pos (by simp [h2]), if_pos h2, take_snoc _ _ _ h, List.findIdx_append, if_neg (by
        intro h3; rw [List.findIdx_lt_length] at h3; exact h1 (List.any_eq_true.2 h3))]
      rw [List.findIdx_cons, h2, hl]; simp
    · rw [if_neg (by simp [h1, h2]), if_neg h2]
theorem copyRMove_n (A : Option Addr) (c B n : Nat) (l : List (Int × Int)) (w : World) (hn : l.length = n) (h : At w B A l) (hl : n * 16 ≤ 140737488355328) :
    Calls Try.prog 58 #[.slice A n c] w fun e w' => ∃ A' c', e = .returned (.slice A' n c') ∧ Own w' w.heap.size 62 A' c' l ∧ Below w.heap.size w w' := by
  subst hn; exact copyRMove_any A c B l w h hl

set_option maxHeartbeats 3200000 in
set_option maxRecDepth 100000 in
theorem moves_any (A : Option Addr) (c B : Nat) (l : List (Int × Int)) (spare : Int) (w : World) (h : At w B A l) (hB : B ≤ w.heap.size) (hsp : I64 spare) (he : mvErr l spare = 0) :
    Calls Try.prog 24 #[.slice A l.length c, .int .i64 spare] w (MovesPost l spare w) := by
  obtain ⟨i0, hi, hz0, hz1, hz2⟩ := info_parts infoRMove
  obtain ⟨j0, hj, hy0, hy1, hy2⟩ := info_parts infoInt
  have hok := h.ok_
  have hlen : l.length ≤ 60 := by have := he; unfold mvErr at this; split at this <;> omega
  have hok0 := proper_ok l spare he
  have H := Lib.hid h; clear h
  have HOK := Lib.hid (And.intro hok (And.intro hsp hok0)); clear hok hsp hok0 he
  go_enter Try.func24, Try.ntmps24
  go_wp2_with fail
  go_loopg [5, 19] (l.length) (fun gk lv iv wr => ∃ (k : Nat) (A1 : Option Addr) (c1 : Nat), k ≤ l.length ∧ gk = l.length - k ∧ iv = .int .i64 k ∧ lv = .slice A1 (proper (l.take k)).length c1 ∧ Hid (Own wr w.heap.size 62 A1 c1 (proper (l.take k))) ∧ Below w.heap.size w wr)
  case atStart => exact ⟨0, none, 0, Nat.zero_le _, rfl, rfl, rfl, Own.nil_, Below.refl _ _⟩
  case round =>
    obtain ⟨k, A1, c1, hk, rfl, rfl, rfl, hkeep, hbl⟩ := hrel
    have hsz := hbl.size
    by_cases hlt : k < l.length
    · obtain ⟨b, o, x, y, rfl, hb, hx, hox, hoy, g0, g1⟩ := (H.out.below (hbl.mono hB)).pair hlt
      have hps := proper_snoc l k _ hx
      have hpl : (proper (l.take k)).length ≤ 60 := by have := List.length_filter_le (fun m : Int × Int => decide (m.1 ≠ m.2)) (l.take k); rw [List.length_take] at this; unfold proper; omega
      by_cases hxy : x = y
      · have h1 : (x != y) = false := by simp [hxy]
        rw [if_pos hxy, List.append_nil] at hps
        have HP := Lib.hid hps; clear hps hx hxy hox hoy
        go_wp2_with fail
        go_roundg (l.length - (k + 1))
        case measure => omega
        case rel => exact ⟨k + 1, A1, c1, by omega, rfl, by go_num, by rw [HP.out], by unfold Hid; rw [HP.out]; exact hkeep.out.alloc _, hbl.alloc hsz _⟩
      · have h1 : (x != y) = true := by simp [hxy]
        rw [if_neg hxy] at hps
        have HP := Lib.hid (And.intro hps (And.intro hox hoy)); clear hps hx hxy hox hoy
        go_wp2_with (at_builtin; go_must (refine wpList_app (α := Int × Int) (m := 1) (B := wr.heap.size + 1 + 1) (r := [(x, y)]) rfl (.tmp 28) (.tmp 30) _ rfl w.heap.size 62 i0 _ 16 Try.underlying56 hi hz0 hz1 hz2 rfl (by decide) pair_one (by rfl) rfl ((hkeep.out.alloc _).alloc _) (by rfl) ?_ rfl (by omega) (by simp only [maxLen]; omega) (by simp; omega) ?_))
        · have := At.built (wr.alloc (.cells #[.int .i64 x, .int .i64 y] 62)) #[.int .i64 x, .int .i64 y] 62 [(x, y)] rfl (by intro z hz; simp at hz; subst hz; exact HP.out.2)
          simpa using this
        intro A2 c2 w2 hown2 hgr2 hat2
        have hbl2 : Below w.heap.size w w2 := ((hbl.alloc hsz _).alloc (by simp; omega) _).grown hgr2 (by simp; omega) (fun g hg => (hkeep.out.lt g hg).1)
        have HO2 := Lib.hid hown2; clear hown2
        go_wp2_with fail
        go_roundg (l.length - (k + 1))
        case measure => omega
        case rel => exact ⟨k + 1, A2, c2, by omega, rfl, by go_num, by rw [HP.out.1, List.length_append]; rfl, by unfold Hid; rw [HP.out.1]; exact HO2.out, hbl2⟩
    · have hk2 : proper (l.take k) = proper l := by rw [List.take_of_length_le (by omega)]
      rw [hk2] at hkeep ⊢
      have hpl : (proper l).length ≤ l.length := List.length_filter_le _ _
      have hm0 := mvMeas_le (proper l)
      clear hk2
      go_wp2_with fail
      go_loopg [5, 6] (2 * (proper l).length + 2) (fun gk lv ov wr => ∃ (left out : List (Int × Int)) (A3 A4 : Option Addr) (c3 c4 : Nat), lv = .slice A3 left.length c3 ∧ ov = .slice A4 out.length c4 ∧ left.length ≤ 60 ∧ out.length + gk ≤ 122 ∧ mvMeas left < gk ∧
        Hid (mvOk spare left ∧ mvs spare gk left out = mvAll l spare ∧ Own wr w.heap.size 62 A3 c3 left ∧ Own wr w.heap.size 62 A4 c4 out ∧ (∀ g, rowOf A3 = some g → rowOf A4 ≠ some g) ∧ (∀ x ∈ left, Flat.ok x)) ∧ Below w.heap.size w wr)
      case atStart => exact ⟨proper l, [], A1, none, c1, 0, rfl, rfl, by omega, by simp; omega, by omega, ⟨HOK.out.2.2, rfl, hkeep.out, Own.nil_, fun g _ h => (by cases h), fun x hx => HOK.out.1 x (List.mem_filter.1 hx).1⟩, hbl⟩
      case round =>
        obtain ⟨left, out, A3, A4, c3, c4, rfl, rfl, hl60, hout, hmeas, hkeep, hbl⟩ := hrel
        have hsz := hbl.size
        by_cases hlt2 : 0 < left.length
        · go_wp2_with fail
          -- the froms
          obtain ⟨wo, rfl⟩ : ∃ wo : World, wo = wr := ⟨_, rfl⟩
          go_loopg [9, 38] (left.length) (fun gi fv iv wi => ∃ (k : Nat) (A5 : Option Addr) (c5 : Nat), k ≤ left.length ∧ gi = left.length - k ∧ iv = .int .i64 k ∧ fv = .slice A5 k c5 ∧ Hid (Own wi wo.heap.size 3 A5 c5 ((left.map (·.2)).take k)) ∧ Below wo.heap.size wo wi)
          case atStart => exact ⟨0, none, 0, Nat.zero_le _, rfl, rfl, rfl, Own.nil_, Below.refl _ _⟩
          case round =>
            obtain ⟨k, A5, c5, hk, rfl, rfl, rfl, hkeep5, hbl5⟩ := hrel
            have hsz5 := hbl5.size
            by_cases hklt : k < left.length
            · obtain ⟨b, o, x, y, rfl, hb, hx, hox, hoy, g0, g1⟩ := ((hkeep.out.2.2.1.fresh hbl5).at_ hkeep.out.2.2.2.2.2).pair hklt
              have hle : ((left.map (·.2)).take k).length = k := by simp; omega
              have hsn : (left.map (·.2)).take (k + 1) = (left.map (·.2)).take k ++ [y] := take_snoc _ _ _ (by rw [List.getElem?_map, hx]; rfl)
              have HX := Lib.hid (And.intro hle (And.intro hsn hoy)); clear hx hle hsn hoy hox
              go_wp2_with (at_builtin; go_must (refine wpList_app (α := Int) (n := k) (m := 1) (B := wr.heap.size + 1 + 1) (r := [y]) rfl (.tmp 42) (.tmp 45) _ rfl wo.heap.size 3 j0 _ 8 Try.underlying40 hj hy0 hy1 hy2 rfl (by decide) int_one (by rfl) HX.out.1 ((hkeep5.out.alloc _).alloc _) (by rfl) ?_ rfl (by omega) (by simp only [maxLen]; omega) (by simp; omega) ?_))
              · have := At.built (wr.alloc (.cells #[.int .i64 x, .int .i64 y] 62)) #[.int .i64 y] 3 [y] rfl (by intro z hz; simp at hz; subst hz; exact HX.out.2.2)
                simpa using this
              intro A6 c6 w6 hown6 hgr6 hat6
              have hbl6 : Below wo.heap.size wo w6 := ((hbl5.alloc hsz5 _).alloc (by simp; omega) _).grown hgr6 (by simp; omega) (fun g hg => (hkeep5.out.lt g hg).1)
              have HO6 := Lib.hid hown6; clear hown6
              go_wp2_with fail
              go_roundg (left.length - (k + 1))
              case measure => omega
              case rel => exact ⟨k + 1, A6, c6, by omega, rfl, by go_num, rfl, by unfold Hid; rw [HX.out.2.1]; exact HO6.out, hbl6⟩
            · have hk3 : (left.map (·.2)).take k = left.map (·.2) := List.take_of_length_le (by simp; omega)
              rw [hk3] at hkeep5
              obtain rfl : k = left.length := by omega
              clear hk3
              go_wp2_with fail
              obtain ⟨wp, rfl⟩ : ∃ wp : World, wp = wr := ⟨_, rfl⟩
              go_loopg [12, 50] (left.length) (fun gi dv iv wi => ∃ (k : Nat), k ≤ left.length ∧ gi = left.length - k ∧ iv = .int .i64 k ∧ dv = .int .i64 (idxI (fre left) (left.take k)) ∧ Below wp.heap.size wp wi)
              case atStart => exact ⟨0, Nat.zero_le _, rfl, rfl, rfl, Below.refl _ _⟩
              case round =>
                obtain ⟨k, hk2, rfl, rfl, rfl, hbl7⟩ := hrel
                have hsz7 := hbl7.size
                by_cases hklt : k < left.length
                · obtain ⟨b, o, x, y, rfl, hb, hx, hox, hoy, g0, g1⟩ := ((((hkeep.out.2.2.1.fresh hbl5).fresh hbl7)).at_ hkeep.out.2.2.2.2.2).pair hklt
                  have hsn := idxI_snoc (fre left) left k _ hx
                  cases hq : (left.take k).any (fre left) with
                  | true =>
                    have hi : idxI (fre left) (left.take k) = ((left.take k).findIdx (fre left) : Int) := by unfold idxI; rw [if_pos hq]
                    rw [if_pos hq, hi] at hsn
                    rw [hi]
                    obtain ⟨q, hqq⟩ : ∃ q, (left.take k).findIdx (fre left) = q := ⟨_, rfl⟩
                    rw [hqq] at hsn ⊢
                    have HS := Lib.hid hsn; clear hsn hi hqq hq hx hox hoy
                    go_wp2_with fail
                    go_roundg (left.length - (k + 1))
                    case measure => omega
                    case rel => exact ⟨k + 1, by omega, rfl, by go_num, by rw [HS.out], hbl7.alloc hsz7 _⟩
                  | false =>
                    have hi : idxI (fre left) (left.take k) = -1 := by unfold idxI; rw [hq]; rfl
                    rw [if_neg (by simp [hq]), fre_any] at hsn
                    rw [hi]
                    have hat5 := ((hkeep5.out.fresh hbl7).alloc (.cells #[.int .i64 x, .int .i64 y] 62)).at_ (fun z hz => by
                      obtain ⟨u, hu, rfl⟩ := List.mem_map.1 hz
                      exact (hkeep.out.2.2.2.2.2 u hu).2)
                    have hhas := hasInt_any A5 c5 _ left.length (left.map (·.2)) x _ (by rw [List.length_map]) hat5 (by omega)
                    cases hd : decide (x ∈ left.map (·.2)) with
                    | true =>
                      rw [hd] at hhas hsn
                      have HH := Lib.hid hhas
                      have HS := Lib.hid hsn; clear hsn hi hq hx hox hoy hhas hd hat5
                      go_wp2_with (go_at_call 57; refine HH.out.mono ?_; rintro e w9 ⟨rfl, rfl⟩)
                      go_roundg (left.length - (k + 1))
                      case measure => omega
                      case rel => exact ⟨k + 1, by omega, rfl, by go_num, by rw [HS.out]; rfl, hbl7.alloc hsz7 _⟩
                    | false =>
                      rw [hd] at hhas hsn
                      have HH := Lib.hid hhas
                      have HS := Lib.hid hsn; clear hsn hi hq hx hox hoy hhas hd hat5
                      go_wp2_with (go_at_call 57; refine HH.out.mono ?_; rintro e w9 ⟨rfl, rfl⟩)
                      go_roundg (left.length - (k + 1))
                      case measure => omega
                      case rel => exact ⟨k + 1, by omega, rfl, by go_num, by rw [HS.out]; rfl, hbl7.alloc hsz7 _⟩
                · have hk4 : left.take k = left := List.take_of_length_le (by omega)
                  rw [hk4]
                  obtain rfl : k = left.length := by omega
                  clear hk4
                  obtain ⟨k1, k2, k3', k4', k5, k6⟩ := hkeep.out
                  have hb57 : Below wo.heap.size wo wr := hbl5.trans (hbl7.mono (by omega))
                  have k3 := k3'.fresh hb57
                  have k4 := k4'.fresh hb57
                  have hblr : Below w.heap.size w wr := hbl.trans (hb57.mono hsz)
                  have hszr := hblr.size
                  have hne : left ≠ [] := List.ne_nil_of_length_pos hlt2
                  obtain ⟨b, rfl, hb1, hb2⟩ := k3.some_ hlt2
                  have hbo : b < wo.heap.size := (k3'.lt b rfl).2
                  obtain ⟨gk', rfl⟩ : ∃ n, gk = n + 1 := ⟨gk - 1, by omega⟩
                  have hcp := k3.le_cap.1
                  cases hq : left.any (fre left) with
                  | true =>
                    have hi : idxI (fre left) left = (left.findIdx (fre left) : Int) := by unfold idxI; rw [if_pos hq]
                    have hstep := mvs_do (spare := spare) (n := gk') (out := out) hne hq
                    have hmd := mvMeas_do hq
                    have hilt : left.findIdx (fre left) < left.length := by rw [List.findIdx_lt_length]; exact List.any_eq_true.1 hq
                    have hel : (left.eraseIdx (left.findIdx (fre left))).length = left.length - 1 := List.length_eraseIdx_of_lt hilt
                    rw [hi]
                    obtain ⟨i, hidx⟩ : ∃ i, left.findIdx (fre left) = i := ⟨_, rfl⟩
                    rw [hidx] at hstep hmd hilt hel ⊢
                    obtain ⟨⟨x, y⟩, hx⟩ : ∃ x, left[i]? = some x := ⟨_, List.getElem?_eq_getElem hilt⟩
                    have hgd : left.getD i (0, 0) = (x, y) := by rw [List.getD_eq_getElem?_getD, hx]; rfl
                    rw [hgd] at hstep
                    have hers : left.take i ++ left.drop (i + 1) = left.eraseIdx i := (List.eraseIdx_eq_take_drop_succ left i).symm
                    have hoxy := k6 _ (List.mem_of_getElem? hx)
                    have c0 := k3.cells_ (g := b) (o := 0) rfl (i * 2) (.int .i64 x) (by have := flat_get _ i 0 _ hx (by decide); simpa [Flat.sz, Flat.cells] using this)
                    have c1' := k3.cells_ (g := b) (o := 0) rfl (i * 2 + 1) (.int .i64 y) (by have := flat_get _ i 1 _ hx (by decide); simpa [Flat.sz, Flat.cells] using this)
                    rw [Nat.zero_add] at c0 c1'
                    have HM := Lib.hid (And.intro hstep (And.intro hmd (And.intro hel (And.intro hers hoxy))))
                    have HK := Lib.hid (And.intro k1 (And.intro k2 (And.intro k3 (And.intro k4 (And.intro k5 k6)))))
                    have hi0 : (0 : Int) ≤ (i : Int) := by omega
                    have hi1 : (i : Int) < (left.length : Int) := by omega
                    clear hstep hmd hx hgd hq hidx hkeep hkeep5 k1 k2 k3 k4 k5 k6 k3' k4' hne hel hers hoxy hi
                    go_wp2_with (at_builtin; go_must (refine wpList_app (α := Int × Int) (n := out.length) (m := 1) (B := wr.heap.size + 1) (r := [(x, y)]) rfl (.tmp 68) (.tmp 73) _ rfl w.heap.size 62 i0 _ 16 Try.underlying56 hi hz0 hz1 hz2 rfl (by decide) pair_one (by rfl) rfl (HK.out.2.2.2.1.alloc _) (by rfl) ?_ rfl (by omega) (by simp only [maxLen]; omega) (by simp; omega) ?_))
                    · exact At.built wr _ _ [(x, y)] rfl (by intro z hz; simp at hz; subst hz; exact HM.out.2.2.2.2)
                    intro A7 c7 w7 hown7 hgr7 hat7
                    have hs7 := hgr7.size
                    simp only [World.size_alloc] at hs7
                    have h37 : Own w7 w.heap.size 62 (some ⟨b, 0, none⟩) c3 left := (HK.out.2.2.1.alloc _).grown hgr7 (fun g hg => fun e => HK.out.2.2.2.2.1 g hg e)
                    have hbl8 : Below w.heap.size w w7 := (hblr.alloc (by omega) _).grown hgr7 (by simp; omega) (fun g hg => (HK.out.2.2.2.1.lt g hg).1)
                    have hA7 : ∀ g, rowOf A7 = some g → g < w7.heap.size := fun g hg => (hown7.lt g hg).2
                    have HO7 := Lib.hid (And.intro h37 (And.intro hown7 hA7)); clear h37 hown7 hat7 hgr7 hA7 c0 c1'
                    have hdl : (left.drop (i + 1)).length = left.length - (i + 1) := by rw [List.length_drop]
                    have htl : (left.take i).length = i := by rw [List.length_take]; omega
                    have HDL := Lib.hid (And.intro hdl htl); clear hdl htl
                    have hq1 : i ≤ c3 := by omega
                    have hq2 : (0 : Int) ≤ (i : Int) + 1 := by omega
                    have hq3 : (i : Int) + 1 ≤ (left.length : Int) := by omega
                    have hq4 : i + 1 ≤ c3 := by omega
                    have hb7 : b < w7.heap.size := by omega
                    obtain ⟨ad, hA, hsrc⟩ : ∃ ad : Addr, (if c3 = i + 1 then some (⟨b, 0, none⟩ : Addr) else some ⟨b, (i + 1) * 2, none⟩) = some ad ∧ Hid (∀ W : World, Own W w.heap.size 62 (some ⟨b, 0, none⟩) c3 left → At W W.heap.size (some ad) (left.drop (i + 1))) := by
                      by_cases hc : c3 = i + 1
                      · refine ⟨_, if_pos hc, fun W _ => ?_⟩
                        have : left.drop (i + 1) = [] := List.drop_eq_nil_of_le (by omega)
                        rw [this]; exact At.nil_
                      · refine ⟨_, if_neg hc, fun W hW => ?_⟩
                        have := (hW.at_ HK.out.2.2.2.2.2).drop_ (i + 1)
                        rw [Nat.zero_add] at this
                        exact this
                    go_wp2_with fail
                    have hwr : IntKind.i64.wrap ((i : Int) + 1) = (i : Int) + 1 := IntWalk.i64_in _ (by omega)
                    go_region_held3 (fun _ => True) (trivial) (first
                      | (go_at_call 58; clear hwr; refine (copyRMove_n (some ⟨b, 0, none⟩) c3 w7.heap.size i (left.take i) _ HDL.out.2 (by exact ((HO7.out.1.at_ HK.out.2.2.2.2.2).take_ i).drew) (by omega)).mono ?_; rintro e w9 ⟨A9, c9, rfl, hown9, hb9⟩)
                      | (refine step_app (α := Int × Int) (by rfl) (.tmp 78) (.tmp 82) _ (by rfl) w.heap.size 62 i0 _ 16 Try.underlying56 hi hz0 hz1 hz2 rfl (by decide) pair_one (by rfl) HDL.out.2 (hown9.base_le (by simp; omega)) (X := some ad) (m := left.length - (i + 1)) (d := c3 - (i + 1)) (by simp [Act.eval, Act.put, hA]) (hsrc.out _ (HO7.out.1.fresh (undrew hb9))) HDL.out.1 (nm := left.length - 1) (by omega) (by omega) (by simp only [maxLen]; omega) (by have := hb9.size; simp at this; omega) ?_; intro A8 c8 w8 hown8 hgr8 hat8))
                    have hb9' : Below w7.heap.size w7 w9 := undrew hb9
                    have hb9s := hb9'.size
                    have hL9 : ∀ g, rowOf A9 = some g → w7.heap.size ≤ g := fun g hg => (hown9.lt g hg).1
                    have hs8 := hgr8.size
                    rw [HM.out.2.2.2.1] at hown8
                    have hA7n : Own w8 w.heap.size 62 A7 c7 (out ++ [(x, y)]) := (HO7.out.2.1.fresh hb9').grown hgr8 (fun g hg e => by have := HO7.out.2.2 g hg; have := hL9 g e; omega)
                    have hdis : ∀ g, rowOf A8 = some g → rowOf A7 ≠ some g := fun g hg e => by
                      have h1 := HO7.out.2.2 g e
                      rcases hat8 with h | h
                      · have := hL9 g (by rw [← h]; exact hg); omega
                      · rw [h] at hg; injection hg with hg; omega
                    have hblf : Below w.heap.size w w8 := (hbl8.trans (hb9'.mono (by omega))).grown hgr8 (by omega) (fun g hg => by have := hL9 g hg; omega)
                    have HF := Lib.hid (And.intro hown8 (And.intro hA7n hdis)); clear hown8 hA7n hdis hb9 hgr8 hat8
                    go_wp2_with fail
                    go_roundg gk'
                    case measure => omega
                    case rel => exact ⟨left.eraseIdx i, out ++ [(x, y)], A8, A7, c8, c7, by rw [HM.out.2.2.1], by rw [List.length_append]; rfl, by rw [HM.out.2.2.1]; omega, by rw [List.length_append, List.length_singleton]; omega, by have := HM.out.2.1; omega, ⟨HK.out.1.erase i, by rw [← HM.out.1]; exact HK.out.2.1, HF.out.1, HF.out.2.1, HF.out.2.2, fun z hz => HK.out.2.2.2.2.2 z (List.mem_of_mem_eraseIdx hz)⟩, hblf⟩
                  | false =>
                    have hi : idxI (fre left) left = -1 := by unfold idxI; rw [hq]; rfl
                    have hstep := mvs_cyc (spare := spare) (n := gk') (out := out) hne hq
                    have hmd := mvMeas_cyc (spare := spare) hne hq k1
                    obtain ⟨⟨x, y⟩, hx⟩ : ∃ x, left[0]? = some x := ⟨_, List.getElem?_eq_getElem hlt2⟩
                    have hhd : left.headD (0, 0) = (x, y) := by cases left with
                      | nil => cases hx
                      | cons a r => simp at hx; simp [hx]
                    rw [hhd] at hstep hmd
                    rw [hi]
                    have hoxy := k6 _ (List.mem_of_getElem? hx)
                    have HM := Lib.hid (And.intro hstep (And.intro hmd hx))
                    have c0 := k3.cells_ (g := b) (o := 0) rfl 0 (.int .i64 x) (by have := flat_get _ 0 0 _ hx (by decide); simpa [Flat.sz, Flat.cells] using this)
                    rw [Nat.zero_add] at c0
                    have HK := Lib.hid (And.intro k1 (And.intro k2 (And.intro k3 (And.intro k4 (And.intro k5 (And.intro k6 hoxy))))))
                    have HO := Lib.hid (And.intro k3 k4)
                    have hi1 : (0 : Int) < (left.length : Int) := by omega
                    clear hstep hmd hx hhd hq hkeep hkeep5 k1 k2 k3 k4 k5 k6 k3' k4' hne hcp hoxy hi
                    obtain ⟨w4, rfl⟩ : ∃ w4 : World, w4 = wr := ⟨_, rfl⟩
                    have hbl := hblr
                    have hb4 := Below.refl w4.heap.size w4
                    have hs4 : w4.heap.size ≤ w4.heap.size := Nat.le_refl _
                    go_wp2_with (at_builtin; go_must (refine wpList_app (α := Int × Int) (n := out.length) (m := 1) (B := w4.heap.size + 1) (r := [(spare, x)]) rfl (.tmp 88) (.tmp 92) _ rfl w.heap.size 62 i0 _ 16 Try.underlying56 hi hz0 hz1 hz2 rfl (by decide) pair_one (by rfl) rfl (HO.out.2.alloc _) (by rfl) ?_ rfl (by omega) (by simp only [maxLen]; omega) (by simp; omega) ?_))
                    · exact At.built w4 _ _ [(spare, x)] rfl (by intro z hz; simp at hz; subst hz; exact ⟨HOK.out.2.1, HK.out.2.2.2.2.2.2.1⟩)
                    intro A5 c5 w5 hown5 hgr5 hat5
                    have hs5 := hgr5.size
                    simp only [World.size_alloc] at hs5
                    have h35 : Own w5 w.heap.size 62 (some ⟨b, 0, none⟩) c3 left := (HO.out.1.alloc _).grown hgr5 (fun g hg => fun e => HK.out.2.2.2.2.1 g hg e)
                    have hA5 : ∀ g, b = g → rowOf A5 ≠ some g := by
                      intro g hg e
                      subst hg
                      rcases hat5 with h | h
                      · exact HK.out.2.2.2.2.1 b rfl (by rw [← h]; exact e)
                      · rw [h] at e; injection e with e; omega
                    have HO5 := Lib.hid (And.intro h35 (And.intro hown5 hA5)); clear h35 hown5 hA5
                    have hbl5 : Below w.heap.size w w5 := ((hblr.alloc (by omega) _).grown hgr5 (by simp; omega) (fun g hg => (HO.out.2.lt g hg).1))
                    have hsz5 := hbl5.size
                    clear hat5 hgr5 c0
                    go_wp2_with fail
                    go_loopg [96] (left.length) (fun gi iv wi => ∃ k : Nat, k ≤ left.length ∧ gi = left.length - k ∧ iv = .int .i64 k ∧ Hid (Own wi w.heap.size 62 (some ⟨b, 0, none⟩) c3 (mapTo (cyc spare x) left k) ∧ Own wi w.heap.size 62 A5 c5 (out ++ [(spare, x)])) ∧ Below w.heap.size w wi ∧ w5.heap.size ≤ wi.heap.size)
                    case atStart => exact ⟨0, Nat.zero_le _, rfl, rfl, ⟨by rw [mapTo_zero]; exact HO5.out.1, HO5.out.2.1⟩, hbl5, Nat.le_refl _⟩
                    case round =>
                      obtain ⟨k, hk, rfl, rfl, hkeep, hbl6, hsz6⟩ := hrel
                      by_cases hklt : k < left.length
                      · obtain ⟨⟨p, q⟩, hx⟩ : ∃ x, left[k]? = some x := ⟨_, List.getElem?_eq_getElem hklt⟩
                        have hg := mapTo_get (cyc spare x) left k _ hx
                        have h3 := hkeep.out.1
                        have c0 := h3.cells_ (g := b) (o := 0) rfl (k * 2 + 1) (.int .i64 q) (by have := flat_get _ k 1 _ hg (by decide); simpa [Flat.sz, Flat.cells] using this)
                        rw [Nat.zero_add] at c0
                        have z0 := h3.frozen (g := b) rfl (k * 2 + 1)
                        have hk0 : (0 : Int) ≤ (k : Int) := by omega
                        have hk1 : (k : Int) < (left.length : Int) := by omega
                        by_cases hqx : q = x
                        · subst hqx
                          have hset : Own (wr.setCell ⟨b, k * 2 + 1, none⟩ (.int .i64 spare)) w.heap.size 62 (some ⟨b, 0, none⟩) c3 (mapTo (cyc spare q) left (k + 1)) := by
                            have := h3.set_ (i := k) (j := 1) (x := (p, q)) (y := (p, spare)) (u := .int .i64 spare) rfl hg (by decide) rfl
                            rw [← mapTo_set (cyc spare q) left k _ hx, show cyc spare q (p, q) = (p, spare) by simp [cyc]]
                            exact this
                          have hoth : Own (wr.setCell ⟨b, k * 2 + 1, none⟩ (.int .i64 spare)) w.heap.size 62 A5 c5 (out ++ [(spare, q)]) := hkeep.out.2.setCell _ _ (HO5.out.2.2 b rfl)
                          have HN := Lib.hid (And.intro hset hoth)
                          clear hset hoth h3 hg hkeep hx
                          go_wp2_with fail
                          go_roundg (left.length - (k + 1))
                          case measure => omega
                          case rel => exact ⟨k + 1, by omega, rfl, by go_num, HN.out, hbl6.setCell (by simp; omega) _, by simp [World.setCell]; omega⟩
                        · have hf : cyc spare x (p, q) = (p, q) := by simp [cyc, hqx]
                          have hq2 : (q == x) = false := by simpa using hqx
                          have HN := Lib.hid (And.intro (mapTo_skip _ _ _ _ hx hf) hkeep.out)
                          clear h3 hg hkeep hx hf hqx
                          go_wp2_with fail
                          go_roundg (left.length - (k + 1))
                          case measure => omega
                          case rel => exact ⟨k + 1, by omega, rfl, by go_num, by unfold Hid; rw [HN.out.1]; exact HN.out.2, hbl6, hsz6⟩
                      · have hend := hkeep.out
                        rw [mapTo_all _ _ (by omega)] at hend
                        have HN := Lib.hid hend
                        clear hend hkeep
                        go_wp2_with fail
                        go_roundg gk'
                        case measure => omega
                        case rel => exact ⟨left.map (cyc spare x), out ++ [(spare, x)], some ⟨b, 0, none⟩, A5, c3, c5, by rw [List.length_map], by rw [List.length_append]; rfl, by rw [List.length_map]; omega, by rw [List.length_append, List.length_singleton]; omega, by have := HM.out.2.1; omega, ⟨HK.out.1.cyc, by rw [← HM.out.1]; exact HK.out.2.1, HN.out.1, HN.out.2, fun g hg => HO5.out.2.2 g (by injection hg), fun z hz => by
                          obtain ⟨u, hu, rfl⟩ := List.mem_map.1 hz
                          have := HK.out.2.2.2.2.2.1 u hu
                          unfold cyc
                          split
                          · exact ⟨this.1, HOK.out.2.1⟩
                          · exact this⟩, hbl6⟩
        · obtain rfl : left = [] := List.eq_nil_of_length_eq_zero (by omega)
          have hfin := hkeep.out.2.1
          rw [mvs_end] at hfin
          have HF := Lib.hid hfin; clear hfin
          have HO := Lib.hid hkeep.out.2.2.2.1
          clear hkeep
          go_wp2_with fail
          go_ret
          exact ⟨hbl, A4, c4, ret_slice (by rw [HF.out]), by rw [← HF.out]; exact HO.out⟩

end Go.Proofs.Ytljdnadejmkaeaa
