/- moves.Run; the law MovesRun, walked. -/
import Derived.Test.YtljdnadejmkaeaaMov7
import Derived.StillTailTactics
namespace Go.Proofs.Ytljdnadejmkaeaa
open Go.RowKit

attribute [local go_sem ↓] Go.wp_at_zero Go.wp_at_succ

def mvIn (n : Nat) (m : Int × Int) : Bool := decide (0 ≤ m.1) && decide (m.1 < (n : Int)) && decide (0 ≤ m.2) && decide (m.2 < (n : Int))
/-- a move's deed on registers -/
def mvDo (r : List Int) (m : Int × Int) : List Int := if mvIn r.length m = true then r.set m.1.toNat (r.getD m.2.toNat 0) else r
def mvRun (l : List (Int × Int)) (r : List Int) : List Int := l.foldl mvDo r
theorem mvDo_length (r : List Int) (m : Int × Int) : (mvDo r m).length = r.length := by unfold mvDo; split <;> simp
theorem mvRun_length (l : List (Int × Int)) (r : List Int) : (mvRun l r).length = r.length := by
  unfold mvRun
  induction l generalizing r with
  | nil => rfl
  | cons m l ih => rw [List.foldl_cons, ih, mvDo_length]
theorem mvRun_snoc (l : List (Int × Int)) (k : Nat) (x : Int × Int) (r : List Int) (h : l[k]? = some x) : mvRun (l.take (k + 1)) r = mvDo (mvRun (l.take k) r) x := by
  rw [take_snoc _ _ _ h]; simp [mvRun]
theorem mvRun_ok (l : List (Int × Int)) (r : List Int) (h : ∀ x ∈ r, Flat.ok x) : ∀ x ∈ mvRun l r, Flat.ok x := by
  unfold mvRun
  induction l generalizing r with
  | nil => exact h
  | cons m l ih =>
    rw [List.foldl_cons]
    refine ih _ fun x hx => ?_
    unfold mvDo at hx
    split at hx
    · rcases List.mem_or_eq_of_mem_set hx with h1 | h1
      · exact h x h1
      · subst h1
        rw [List.getD_eq_getElem?_getD]
        cases hg : r[m.2.toNat]? with
        | none => exact (by unfold I64; omega : I64 0)
        | some y => exact h y (List.mem_of_getElem? hg)
    · exact h x hx

def RunPost (l : List (Int × Int)) (r : List Int) (w : World) (e : Ending) (w' : World) : Prop :=
  ∃ A c, e = .returned (.slice A r.length c) ∧ Own w' w.heap.size 3 A c (mvRun l r) ∧ Below w.heap.size w w'

set_option maxHeartbeats 1600000 in
set_option maxRecDepth 100000 in
theorem run_any (A R : Option Addr) (c d B n : Nat) (l : List (Int × Int)) (r : List Int) (w : World) (hn : l.length = n) (h : At w B A l) (hr : At w B R r) (hB : B ≤ w.heap.size) (hl : n ≤ 9223372036854775807) (hrl : r.length * 8 ≤ 140737488355328) :
    Calls Try.prog 27 #[.slice A n c, .slice R r.length d] w (RunPost l r w) := by
  have H := Lib.hid h; clear h
  have HR := Lib.hid hr; clear hr
  have HN := Lib.hid hn; clear hn
  go_enter Try.func27, Try.ntmps27
  go_wp2_with fail
  refine (cloneInt_any R d B r w HR.out hB hrl).mono ?_
  rintro e w1 ⟨A1, c1, rfl, hown1, hb1⟩
  have hs1 := hb1.size
  have HO1 := Lib.hid hown1; clear hown1
  go_wp2_with fail
  go_loopw [12] (fun i wr => ∃ k : Nat, k ≤ n ∧ i = .int .i64 k ∧ Hid (Own wr w.heap.size 3 A1 c1 (mvRun (l.take k) r)) ∧ Below w.heap.size w wr) (fun i _ => n - (intOf i).toNat)
  case atStart => exact ⟨0, Nat.zero_le _, rfl, HO1.out, hb1⟩
  case round =>
    obtain ⟨k, hk, rfl, hkeep, hbl⟩ := hrel
    have hsz := hbl.size
    by_cases hlt : k < n
    · obtain ⟨b, o, x, y, rfl, hb, hx, -, -, g0, g1⟩ := (H.out.below (hbl.mono hB)).pair (by have := HN.out; omega : k < l.length)
      have hsn := mvRun_snoc l k _ r hx
      have hml := mvRun_length (l.take k) r
      cases hq : mvIn r.length (x, y) with
      | true =>
        have hd : mvDo (mvRun (l.take k) r) (x, y) = (mvRun (l.take k) r).set x.toNat ((mvRun (l.take k) r).getD y.toNat 0) := by unfold mvDo; rw [hml, if_pos hq]
        simp only [mvIn, Bool.and_eq_true, decide_eq_true_eq] at hq
        obtain ⟨⟨⟨q1, q2⟩, q3⟩, q4⟩ := hq
        obtain ⟨x, rfl⟩ := Int.eq_ofNat_of_zero_le q1
        obtain ⟨y, rfl⟩ := Int.eq_ofNat_of_zero_le q3
        rw [Int.toNat_natCast, Int.toNat_natCast] at hd
        obtain ⟨g, rfl, hg1, hg2⟩ := hkeep.out.some_ (by rw [hml]; omega)
        obtain ⟨v, hv⟩ : ∃ v, (mvRun (l.take k) r)[y]? = some v := ⟨_, List.getElem?_eq_getElem (by rw [hml]; omega)⟩
        obtain ⟨u, hu⟩ : ∃ v, (mvRun (l.take k) r)[x]? = some v := ⟨_, List.getElem?_eq_getElem (by rw [hml]; omega)⟩
        have cv := hkeep.out.cell_int hv
        have cu := hkeep.out.cell_int hu
        have z0 := hkeep.out.frozen (g := g) rfl x
        have hgd : (mvRun (l.take k) r).getD y 0 = v := by rw [List.getD_eq_getElem?_getD, hv]; rfl
        rw [hgd] at hd
        rw [hd] at hsn
        have hxl : x < (mvRun (l.take k) r).length := by rw [hml]; omega
        have HS := Lib.hid (And.intro hsn (And.intro hkeep.out (And.intro hv (And.intro hu hxl)))); clear hsn hd hx hml hv hu hkeep hgd hxl cv cu z0
        go_wp2_with fail
        refine wp_world (fun W => Blk W wr.heap.size 62 #[.int .i64 x, .int .i64 y] ∧ Own W w.heap.size 3 (some ⟨g, 0, none⟩) c1 (mvRun (l.take k) r) ∧ Below w.heap.size w W) ⟨Blk.new _ _ _, HS.out.2.1.alloc _, hbl.alloc hsz _⟩ ?_
        rintro W ⟨hW1, hW2, hW3⟩
        have cv := hW2.cell_int HS.out.2.2.1
        have cu := hW2.cell_int HS.out.2.2.2.1
        have z0 := hW2.frozen (g := g) rfl x
        have b0 := hW1.cell 0 (v := .int .i64 x) rfl
        have b1 := hW1.cell 1 (v := .int .i64 y) rfl
        have hset := hW2.set_int v HS.out.2.2.2.2
        have HW := Lib.hid hset; clear hW1 hW2 hset
        have hx0 : (0 : Int) ≤ (x : Int) := q1
        have hy0 : (0 : Int) ≤ (y : Int) := q3
        go_still_tail 9, (by kernel_rfl)
        change wpList _ _ _ _ _ (World.drew _)
        go_wp2
        go_roundw
        case rel => exact ⟨k + 1, by omega, by go_num, by unfold Hid; rw [HS.out.1]; exact HW.out, (hW3.setCell hg1 _).drew⟩
        case measure => simp [intOf]; omega
      | false =>
        have hd : mvDo (mvRun (l.take k) r) (x, y) = mvRun (l.take k) r := by unfold mvDo; rw [hml, if_neg (by simp [hq])]
        rw [hd] at hsn
        have HS := Lib.hid (And.intro hsn hq); clear hsn hd hx hml hq
        go_wp2_with fail
        all_goals first
          | (exfalso; have := HS.out.2; simp [mvIn] at this; omega)
          | (go_roundw
             case rel => exact ⟨k + 1, by omega, by go_num, by unfold Hid; rw [HS.out.1]; exact hkeep.out.alloc _, hbl.alloc hsz _⟩
             case measure => simp [intOf]; omega)
    · have hk2 := hkeep.out
      rw [List.take_of_length_le (by have := HN.out; omega)] at hk2
      have HK := Lib.hid hk2; clear hk2 hkeep
      go_wp2_with fail
      go_ret
      exact ⟨A1, c1, rfl, HK.out, hbl⟩

theorem eqInt_n (A A' : Option Addr) (c c' B n n' : Nat) (l r : List Int) (w : World) (hn : l.length = n) (hn' : r.length = n') (h : At w B A l) (h' : At w B A' r) (hl : n ≤ 9223372036854775807) :
    Calls Try.prog 26 #[.slice A n c, .slice A' n' c'] w fun e w' => e = .returned (.bool (decide (l = r))) ∧ w = w' := by
  have H := Lib.hid h; clear h
  have H' := Lib.hid h'; clear h'
  have HN := Lib.hid (And.intro hn hn'); clear hn hn'
  by_cases he : n = n'
  · subst he
    go_enter Try.func26, Try.ntmps26
    go_wp2
    go_loop [14] (fun i => ∃ k : Nat, k ≤ n ∧ i = .int .i64 k ∧ Hid (l.take k = r.take k)) (fun i => n - (intOf i).toNat)
    case atStart => exact ⟨0, Nat.zero_le _, rfl, by simp [Hid]⟩
    case round =>
      obtain ⟨k, hk, rfl, heq⟩ := hrel
      by_cases hlt : k < n
      · obtain ⟨b, o, x, rfl, hb, hx, -, h0⟩ := H.out.int_ (by have := HN.out.1; omega : k < l.length)
        obtain ⟨b', o', x', rfl, hb', hx', -, h0'⟩ := H'.out.int_ (by have := HN.out.2; omega : k < r.length)
        have HX := Lib.hid (And.intro hx hx'); clear hx hx'
        have hk0 : (0 : Int) ≤ (k : Int) := by omega
        have hk1 : (k : Int) < (n : Int) := by omega
        by_cases hxy : x = x'
        · subst hxy
          go_wp2
          go_round
          case rel => exact ⟨k + 1, by omega, by go_num, by unfold Hid; rw [take_snoc _ _ _ HX.out.1, take_snoc _ _ _ HX.out.2, heq.out]⟩
          case measure => simp [intOf]; omega
        · have hne : (x != x') = true := by simp [hxy]
          have HXY := Lib.hid hxy; clear hxy
          go_wp2
          go_ret
          exact ⟨ret_bool (by simp [ne_of_at HX.out.1 HX.out.2 HXY.out]), rfl⟩
      · go_wp2
        go_ret
        exact ⟨ret_bool (by have h1 := heq.out; have h2 := HN.out; rw [List.take_of_length_le (by omega), List.take_of_length_le (by omega)] at h1; simp [h1]), rfl⟩
  · have hne : ((n : Int) != (n' : Int)) = true := by simp; omega
    have HE := Lib.hid he; clear he
    go_enter Try.func26, Try.ntmps26
    go_wp2
    go_ret
    exact ⟨ret_bool (by have := HE.out; have h2 := HN.out; simp; rintro rfl; omega), rfl⟩

theorem copyInt_n (A : Option Addr) (c B n : Nat) (l : List Int) (w : World) (hn : l.length = n) (h : At w B A l) (hl : n * 8 ≤ 140737488355328) :
    Calls Try.prog 25 #[.slice A n c] w fun e w' => ∃ A' c', e = .returned (.slice A' n c') ∧ Own w' w.heap.size 3 A' c' l ∧ Below w.heap.size w w' := by
  subst hn; exact copyInt_any A c B l w h hl

set_option maxHeartbeats 1600000 in
set_option maxRecDepth 100000 in
theorem movesRun_any (A R : Option Addr) (c d B : Nat) (l : List (Int × Int)) (r : List Int) (w : World) (h : At w B A l) (hr : At w B R r) (hB : B ≤ w.heap.size) (hl : l.length ≤ 9223372036854775807) (hc : l.length ≤ c) (hrl : r.length * 8 ≤ 140737488355328) :
    Calls Try.prog 6 #[.slice A l.length c, .slice R r.length d] w fun e w' => e = .returned (.bool true) ∧ Below w.heap.size w w' := by
  obtain ⟨n, hn⟩ : ∃ n, n = min l.length 100 := ⟨_, rfl⟩
  have hmin : min (l.length : Int) 100 = (n : Int) := by omega
  have htl : (l.take 100).length = n := by rw [List.length_take]; omega
  have H := Lib.hid (And.intro (h.take_ 100) htl); clear h htl
  have HR := Lib.hid hr; clear hr
  have hn1 : n ≤ l.length := by omega
  have hn2 : n ≤ c := by omega
  have hn3 : n ≤ 100 := by omega
  clear hn
  generalize l.take 100 = l' at H
  go_enter Try.func6, Try.ntmps6
  go_wp2_with fail
  refine (rung_any w).mono ?_
  rintro e w1 ⟨rfl, hb1⟩
  have hs1 := hb1.size
  go_wp2_with fail
  refine (copyInt_n R d B r.length r w1 rfl (HR.out.below (hb1.mono hB)) hrl).mono ?_
  rintro e w2 ⟨A2, c2, rfl, hown2, hb2⟩
  have hs2 := hb2.size
  have hbl2 := hb1.trans (hb2.mono hs1)
  have HO2 := Lib.hid hown2; clear hown2
  go_wp2_with fail
  go_loopw [19] (fun i wr => ∃ k : Nat, k ≤ n ∧ i = .int .i64 k ∧ Hid (Own wr w.heap.size 3 A2 c2 (mvRun (l'.take k) r)) ∧ Below w.heap.size w wr) (fun i _ => n - (intOf i).toNat)
  case atStart => exact ⟨0, Nat.zero_le _, rfl, HO2.out.base_le hs1, hbl2⟩
  case round =>
    obtain ⟨k, hk, rfl, hkeep, hbl⟩ := hrel
    have hsz := hbl.size
    by_cases hlt : k < n
    · obtain ⟨b, o, x, y, rfl, hb, hx, -, -, g0, g1⟩ := (H.out.1.below (hbl.mono hB)).pair (by have := H.out.2; omega : k < l'.length)
      have hsn := mvRun_snoc l' k _ r hx
      have hml := mvRun_length (l'.take k) r
      cases hq : mvIn r.length (x, y) with
      | true =>
        have hd : mvDo (mvRun (l'.take k) r) (x, y) = (mvRun (l'.take k) r).set x.toNat ((mvRun (l'.take k) r).getD y.toNat 0) := by unfold mvDo; rw [hml, if_pos hq]
        simp only [mvIn, Bool.and_eq_true, decide_eq_true_eq] at hq
        obtain ⟨⟨⟨q1, q2⟩, q3⟩, q4⟩ := hq
        obtain ⟨x, rfl⟩ := Int.eq_ofNat_of_zero_le q1
        obtain ⟨y, rfl⟩ := Int.eq_ofNat_of_zero_le q3
        rw [Int.toNat_natCast, Int.toNat_natCast] at hd
        obtain ⟨g, rfl, hg1, hg2⟩ := hkeep.out.some_ (by rw [hml]; omega)
        obtain ⟨v, hv⟩ : ∃ v, (mvRun (l'.take k) r)[y]? = some v := ⟨_, List.getElem?_eq_getElem (by rw [hml]; omega)⟩
        obtain ⟨u, hu⟩ : ∃ v, (mvRun (l'.take k) r)[x]? = some v := ⟨_, List.getElem?_eq_getElem (by rw [hml]; omega)⟩
        have hgd : (mvRun (l'.take k) r).getD y 0 = v := by rw [List.getD_eq_getElem?_getD, hv]; rfl
        rw [hgd] at hd
        rw [hd] at hsn
        have hxl : x < (mvRun (l'.take k) r).length := by rw [hml]; omega
        have HS := Lib.hid (And.intro hsn (And.intro hkeep.out (And.intro hv (And.intro hu hxl)))); clear hsn hd hx hml hv hu hkeep hgd hxl
        go_wp2_with fail
        refine wp_world (fun W => Blk W wr.heap.size 62 #[.int .i64 x, .int .i64 y] ∧ Own W w.heap.size 3 (some ⟨g, 0, none⟩) c2 (mvRun (l'.take k) r) ∧ Below w.heap.size w W) ⟨Blk.new _ _ _, HS.out.2.1.alloc _, hbl.alloc hsz _⟩ ?_
        rintro W ⟨hW1, hW2, hW3⟩
        have cv := hW2.cell_int HS.out.2.2.1
        have cu := hW2.cell_int HS.out.2.2.2.1
        have z0 := hW2.frozen (g := g) rfl x
        have b0 := hW1.cell 0 (v := .int .i64 x) rfl
        have b1 := hW1.cell 1 (v := .int .i64 y) rfl
        have hset := hW2.set_int v HS.out.2.2.2.2
        have HW := Lib.hid hset; clear hW1 hW2 hset
        have hx0 : (0 : Int) ≤ (x : Int) := q1
        have hy0 : (0 : Int) ≤ (y : Int) := q3
        go_still_tail 9, (by kernel_rfl)
        change wpList _ _ _ _ _ (World.drew _)
        go_wp2
        go_roundw
        case rel => exact ⟨k + 1, by omega, by go_num, by unfold Hid; rw [HS.out.1]; exact HW.out, (hW3.setCell hg1 _).drew⟩
        case measure => simp [intOf]; omega
      | false =>
        have hd : mvDo (mvRun (l'.take k) r) (x, y) = mvRun (l'.take k) r := by unfold mvDo; rw [hml, if_neg (by simp [hq])]
        rw [hd] at hsn
        have hcases : x < 0 ∨ (0 ≤ x ∧ (r.length : Int) ≤ x) ∨ (0 ≤ x ∧ x < (r.length : Int) ∧ y < 0) ∨ (0 ≤ x ∧ x < (r.length : Int) ∧ 0 ≤ y ∧ (r.length : Int) ≤ y) := by simp [mvIn] at hq; omega
        have HS := Lib.hid hsn; clear hsn hd hx hml hq
        rcases hcases with h1 | ⟨h1, h2⟩ | ⟨h1, h2, h3⟩ | ⟨h1, h2, h3, h4⟩ <;>
        · go_wp2_with fail
          go_roundw
          case rel => exact ⟨k + 1, by omega, by go_num, by unfold Hid; rw [HS.out]; exact hkeep.out.alloc _, hbl.alloc hsz _⟩
          case measure => simp [intOf]; omega
    · have hk2 := hkeep.out
      rw [List.take_of_length_le (by have := H.out.2; omega)] at hk2
      have HK := Lib.hid hk2; clear hk2 hkeep
      go_wp2_with fail
      refine (run_any A R c d B n l' r wr H.out.2 (H.out.1.below (hbl.mono hB)) (HR.out.below (hbl.mono hB)) (by omega) (by omega) hrl).mono ?_
      rintro e w5 ⟨A5, c5, rfl, hown5, hb5⟩
      have hok := mvRun_ok l' r HR.out.ok_
      have ha2 := (HK.out.fresh hb5).at_ hok
      have ha5 := hown5.at_ hok
      have HA := Lib.hid (And.intro ha2 ha5); clear ha2 ha5 hok hown5
      go_wp2_with fail
      refine (eqInt_n A5 A2 c5 c2 w5.heap.size _ _ _ _ w5 (mvRun_length _ _) (mvRun_length _ _) HA.out.2 HA.out.1 (by omega)).mono ?_
      rintro e w6 ⟨rfl, rfl⟩
      go_wp2_with fail
      go_ret
      exact ⟨ret_bool (by simp), hbl.trans (hb5.mono (by omega))⟩

end Go.Proofs.Ytljdnadejmkaeaa
