/- R.object, R.told. -/
import Derived.Test.YtpkccpegdpodoaaHaul8
import Derived.BigQuiet
namespace Go.Proofs.Ytpkccpegdpodoaa
open Go.RowKit Go.Maps

attribute [local go_sem ↓] Go.wp_at_zero Go.wp_at_succ

set_option maxHeartbeats 800000 in
set_option maxRecDepth 100000 in
theorem robject_any (B wc gc gn p : Nat) (WA GA : Option Addr) (ws : List U64) (w : World) (hw : At w B WA ws) (hB : B ≤ w.heap.size) (hp : p + Hau.sz ws p ≤ ws.length) (hwc : ws.length ≤ wc) (hl : ws.length ≤ 2000) :
    Calls Try.prog 117 #[.agg #[.slice WA ws.length wc, .slice GA gn gc], .int .i64 p] w fun e w' => ∃ b o, WA = some ⟨b, o, none⟩ ∧ e = .returned (.slice (some ⟨b, o + p, none⟩) (Hau.sz ws p) (wc - p)) ∧ Below w.heap.size w w' := by
  have hsz := Hau.sz_pos ws p
  obtain ⟨b, o, rfl, hbB, hoky, -⟩ := hw.u64H (show p < ws.length by omega)
  have H := Lib.hid hw; clear hw
  obtain ⟨y, hy⟩ : ∃ y, Hau.wat ws p = y := ⟨_, rfl⟩
  have hsy : Hau.sz ws p = 1 + Hau.lg y := by unfold Hau.sz; rw [hy]
  rw [hy] at hoky
  obtain ⟨q, hq⟩ : ∃ q, Hau.lg y = q := ⟨_, rfl⟩
  rw [hq] at hsy
  have hlg : y.val % 4294967296 = ((q : Nat) : Int) := by have := hoky.1; rw [← hq]; unfold Hau.lg; omega
  rw [hsy] at hp
  rw [hsy]
  have hx0 := hoky.1
  have hx1 : y.val ≤ 18446744073709551615 := hoky.2
  have hw0 : IntKind.i64.wrap (q : Int) = (q : Int) := IntWalk.i64_in _ (by omega)
  have hw1 : IntKind.i64.wrap ((p : Int) + 1) = (p : Int) + 1 := IntWalk.i64_in _ (by omega)
  obtain ⟨r, hr⟩ : ∃ r, p + 1 + q = r := ⟨_, rfl⟩
  have hw2 : IntKind.i64.wrap ((p : Int) + 1 + (q : Int)) = (r : Int) := by rw [IntWalk.i64_in _ (by omega)]; omega
  have hr1 : (r : Int) ≤ (wc : Int) := by omega
  have hr2 : p ≤ r := by omega
  have hr3 : r - p = 1 + q := by omega
  have hr4 : ¬ wc = p := by omega
  have hp0 : (0 : Int) ≤ (p : Int) := by omega
  have hp1 : (p : Int) < (ws.length : Int) := by omega
  have HY := Lib.hid hy; clear hy hq hsy hr hsz hoky
  go_enter Try.func117, Try.ntmps117
  go_upto_region 1 with fail
  refine wp_world (fun W => W.cell? ⟨w.heap.size, 0, none⟩ = some (.slice (some ⟨b, o, none⟩) ws.length wc) ∧ W.cell? ⟨b, o + p, none⟩ = some (.int .u64 y.val) ∧ Below w.heap.size w W) ⟨(Blk.new w _ _).cell 0 rfl, ?_, (Below.refl _ _).alloc (Nat.le_refl _) _⟩ ?_
  · obtain ⟨b', o', he, -, -, q0⟩ := ((H.out.alloc hB (.cells #[.slice (some ⟨b, o, none⟩) ws.length wc, .slice GA gn gc] 70))).u64H (show p < ws.length by omega)
    injection he with he; injection he with h1 h2; subst h1 h2
    rw [HY.out] at q0
    exact q0
  rintro W ⟨g0, q0, hbW⟩
  go_quiet (fail)
  go_wp2_with fail
  go_returns
  exact ⟨_, _, rfl, rfl, below_drewN hbW _⟩

def Hau.refs (l : List U64) : List Nat := l.filterMap Hau.refOf
theorem Hau.refs_snoc {l : List U64} {k : Nat} {x : U64} (h : l[k]? = some x) : Hau.refs (l.take (k + 1)) = Hau.refs (l.take k) ++ (Hau.refOf x).toList := by
  unfold Hau.refs
  rw [take_snocH l k x h, List.filterMap_append]
  cases hr : Hau.refOf x <;> simp [hr]
theorem Hau.addAll_refs : ∀ (l : List U64) (F : List Nat), Hau.addAll F l = (Hau.refs l).foldl Hau.add F
  | [], F => rfl
  | x :: l, F => by
    unfold Hau.addAll Hau.refs
    rw [List.foldl_cons, List.filterMap_cons]
    have ih := Hau.addAll_refs l (Hau.addW F x)
    unfold Hau.addAll Hau.refs at ih
    rw [ih]
    unfold Hau.addW
    cases hr : Hau.refOf x <;> simp [hr]

set_option maxHeartbeats 800000 in
set_option maxRecDepth 100000 in
theorem rtold_any (B n c : Nat) (A : Option Addr) (l : List U64) (w : World) (h : At w B A l) (hn : l.length = n) (hB : B ≤ w.heap.size) (hl : n ≤ 2000) :
    Calls Try.prog 116 #[.slice A n c] w fun e w' => ∃ OA oc, e = .returned (.slice OA (Hau.refs l).length oc) ∧ Own w' w.heap.size 3 OA oc (ints (Hau.refs l)) ∧ Below w.heap.size w w' := by
  obtain ⟨i0, hi, hz0, hz1, hz2⟩ := info_partsH infoIntH
  have H := Lib.hid (And.intro h hn); clear h hn
  go_enter Try.func116, Try.ntmps116
  go_wp2_with fail
  go_loopg [3, 5, 6, 7, 10] n (fun gk v3 v5 v6 v7 v10 wr => ∃ (k m : Nat) (OA : Option Addr) (oc : Nat), k ≤ n ∧ gk = n - k ∧ v10 = .int .i64 k ∧ v3 = .slice OA m oc ∧ m ≤ k ∧ Hid (Own wr w.heap.size 3 OA oc (ints (Hau.refs (l.take k))) ∧ (Hau.refs (l.take k)).length = m) ∧ Below w.heap.size w wr)
  case atStart => exact ⟨0, 0, none, 0, by omega, rfl, rfl, rfl, by omega, ⟨Own.nil_, rfl⟩, Below.refl _ _⟩
  case round =>
    obtain ⟨k, m, OA, oc, hk, rfl, rfl, rfl, hmk, hkeep, hbl⟩ := hrel
    have hsz := hbl.size
    by_cases hlt : k < n
    · obtain ⟨b, o, rfl, hbB, hok, g0⟩ := (H.out.1.below (hbl.mono hB)).u64H (show k < l.length by rw [H.out.2]; exact hlt)
      have hgx : l[k]? = some (Hau.wat l k) := by unfold Hau.wat; rw [List.getD_eq_getElem?_getD, List.getElem?_eq_getElem (by rw [H.out.2]; exact hlt)]; rfl
      have hsn := Hau.refs_snoc hgx
      obtain ⟨x, hx⟩ : ∃ x, Hau.wat l k = x := ⟨_, rfl⟩
      rw [hx] at hok g0 hsn
      have hlt2 : (k : Int) < (n : Int) := by omega
      have hub := runbox_any x.val wr hok
      have HX := Lib.hid (And.intro hub (And.intro hsn hok)); clear hub hsn hok hgx hx
      go_wp2_with fail
      refine HX.out.1.mono ?_
      rintro e w1 ⟨hb1, hr⟩
      have hs1 := hb1.size
      have hbl1 : Below w.heap.size w w1 := hbl.trans (hb1.mono hsz)
      rcases hr with ⟨kk, mm, hu, rfl⟩ | ⟨hu, rfl⟩
      · by_cases hk5 : kk = 5
        · subst hk5
          have hm0 := Hau.unb5 HX.out.2.2.1 hu
          have hrf : Hau.refOf x = some mm.toNat := by unfold Hau.refOf; rw [hu]; rfl
          obtain ⟨j, rfl⟩ := Int.eq_ofNat_of_zero_le hm0.1
          have hsn := HX.out.2.1
          rw [hrf] at hsn
          have hsn : Hau.refs (l.take (k + 1)) = Hau.refs (l.take k) ++ [j] := hsn
          have hil : (ints (Hau.refs (l.take k))).length = m := by rw [ints_length]; exact hkeep.out.2
          have HS := Lib.hid (And.intro hsn (And.intro (hkeep.out.1.fresh hb1) (And.intro hkeep.out.2 hil))); clear hsn hkeep hu hrf HX hil
          go_wp2_with (at_builtin; go_must (refine wpList_app (α := Int) (n := m) (m := 1) (B := w1.heap.size + 1 + 1) (r := [(j : Int)]) rfl (.tmp 25) (.tmp 28) _ rfl w.heap.size 3 i0 _ 8 Try.underlying47 hi hz0 hz1 hz2 rfl (by decide) int_oneH (by rfl) HS.out.2.2.2 ((HS.out.2.1.alloc _).alloc _) (by rfl) ?_ rfl (by omega) (by simp only [maxLen]; omega) (by simp; omega) ?_))
          · have := At.built (w1.alloc (.cells #[.int .i64 5, .int .i64 (j : Int)] 23)) #[.int .i64 (j : Int)] 3 [(j : Int)] rfl (by intro u hu; simp at hu; subst hu; show I64 _; unfold I64; omega)
            simpa using this
          intro A2 c2 w2 hown2 hgr2 hat2
          have hbl2 : Below w.heap.size w w2 := ((hbl1.alloc (by omega) _).alloc (by simp; omega) _).grown hgr2 (by simp; omega) (fun g hg => (HS.out.2.1.lt g hg).1)
          have hin : ints (Hau.refs (l.take k)) ++ [(j : Int)] = ints (Hau.refs (l.take (k + 1))) := by rw [HS.out.1, ints_append]; rfl
          rw [hin] at hown2
          have HF := Lib.hid hown2; clear hown2 hin hgr2 hat2 g0
          go_wp2_with fail
          go_roundg (n - (k + 1))
          case measure => omega
          case rel => exact ⟨k + 1, m + 1, A2, c2, by omega, rfl, by go_num, rfl, by omega, ⟨HF.out, by rw [HS.out.1, List.length_append, HS.out.2.2.1]; rfl⟩, hbl2⟩
        · have hd : (kk == 5) = false := by simpa using hk5
          have hrf : Hau.refOf x = none := by unfold Hau.refOf; rw [hu]; exact if_neg hk5
          have hsn := HX.out.2.1
          rw [hrf] at hsn
          have HS := Lib.hid (And.intro hsn hkeep.out); clear hsn hkeep hu hrf HX hk5
          go_wp2_with fail
          go_roundg (n - (k + 1))
          case measure => omega
          case rel => exact ⟨k + 1, m, OA, oc, by omega, rfl, by go_num, rfl, by omega, ⟨by rw [HS.out.1]; simpa using HS.out.2.1.fresh (hb1.alloc hs1 _), by rw [HS.out.1]; simpa using HS.out.2.2⟩, hbl1.alloc (by omega) _⟩
      · have hrf : Hau.refOf x = none := by unfold Hau.refOf; rw [hu]
        have hsn := HX.out.2.1
        rw [hrf] at hsn
        have HS := Lib.hid (And.intro hsn hkeep.out); clear hsn hkeep hu hrf HX
        go_wp2_with fail
        go_roundg (n - (k + 1))
        case measure => omega
        case rel => exact ⟨k + 1, m, OA, oc, by omega, rfl, by go_num, rfl, by omega, ⟨by rw [HS.out.1]; simpa using HS.out.2.1.fresh (hb1.alloc hs1 _), by rw [HS.out.1]; simpa using HS.out.2.2⟩, hbl1.alloc (by omega) _⟩
    · obtain rfl : k = n := by omega
      have hO := hkeep.out
      rw [List.take_of_length_le (by rw [H.out.2]; exact Nat.le_refl _)] at hO
      have HO := Lib.hid hO; clear hO hkeep
      go_wp2_with fail
      go_returns
      exact ⟨OA, oc, by rw [HO.out.2]; rfl, HO.out.1, hbl⟩

end Go.Proofs.Ytpkccpegdpodoaa
