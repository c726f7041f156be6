/- RF: Mov2. -/
import Derived.Test.YtljdnadejmkaeaaRF1
import Derived.Test.YtljdnadejmkaeaaRF17
import Derived.Deep.DrawnRows
/- slices.DeleteFunc and slices.Delete at moves, over a row of the caller's own. -/
namespace Go.Proofs.Ytljdnadejmkaeaa
open Go.RowKit

attribute [local go_sem ↓] Go.wp_at_zero Go.wp_at_succ

theorem ret_slice {A : Option Addr} {n m c : Nat} (h : n = m) : Ending.returned (.slice A n c) = .returned (.slice A m c) := by rw [h]
def pv (x : Int × Int) : Value := .agg #[.int .i64 x.1, .int .i64 x.2]

theorem findIdx_take_filter {α : Type} (p : α → Bool) (l : List α) (h : l.any p = true) : (l.take (l.findIdx p + 1)).filter (fun x => !p x) = l.take (l.findIdx p) := by
  have hi : l.findIdx p < l.length := by rw [List.findIdx_lt_length]; exact List.any_eq_true.1 h
  rw [List.take_add_one, List.getElem?_eq_getElem hi, Option.toList_some, List.filter_append]
  have h1 : (l.take (l.findIdx p)).filter (fun x => !p x) = l.take (l.findIdx p) := by
    rw [List.filter_eq_self]
    intro a ha
    obtain ⟨j, hj, rfl⟩ := List.mem_take_iff_getElem.1 ha
    have := List.not_of_lt_findIdx (p := p) (xs := l) (i := j) (by omega)
    simpa using this
  have h2 : p l[l.findIdx p] = true := List.findIdx_getElem
  rw [h1]
  simp [h2]

/-- what a round of DeleteFunc keeps: the list as it stands, so many kept, so many seen -/
def DelSt {α : Type} (p : α → Bool) (l cur : List α) (i j : Nat) : Prop :=
  cur.length = l.length ∧ cur.take i = (l.take j).filter (fun x => !p x) ∧ cur.drop j = l.drop j ∧ i < j ∧ j ≤ l.length
theorem DelSt.keep {α : Type} {p : α → Bool} {l cur : List α} {i j : Nat} (h : DelSt p l cur i j) {x : α} (hx : l[j]? = some x) (hp : p x = false) : DelSt p l (cur.set i x) (i + 1) (j + 1) := by
  obtain ⟨h1, h2, h3, h4, h5⟩ := h
  have hj : j < l.length := (List.getElem?_eq_some_iff.1 hx).1
  refine ⟨by simp [h1], ?_, ?_, by omega, by omega⟩
  · rw [List.take_add_one, List.take_set_of_le (Nat.le_refl _), h2, List.getElem?_set_self (by omega), List.take_add_one, hx, List.filter_append]
    simp [hp]
  · rw [List.drop_set_of_lt (by omega), show j + 1 = j + 1 from rfl, ← List.drop_drop, ← List.drop_drop, h3]
theorem DelSt.skip {α : Type} {p : α → Bool} {l cur : List α} {i j : Nat} (h : DelSt p l cur i j) {x : α} (hx : l[j]? = some x) (hp : p x = true) : DelSt p l cur i (j + 1) := by
  obtain ⟨h1, h2, h3, h4, h5⟩ := h
  have hj : j < l.length := (List.getElem?_eq_some_iff.1 hx).1
  refine ⟨h1, ?_, ?_, by omega, by omega⟩
  · rw [h2, List.take_add_one, hx, List.filter_append]
    simp [hp]
  · rw [← List.drop_drop, ← List.drop_drop, h3]
theorem DelSt.get {α : Type} {p : α → Bool} {l cur : List α} {i j : Nat} (h : DelSt p l cur i j) {x : α} (hx : l[j]? = some x) : cur[j]? = some x := by
  have h3 : (cur.drop j)[0]? = (l.drop j)[0]? := by rw [h.2.2.1]
  simpa [hx] using h3

theorem predP_of_QRMove {g : Nat} {lb : Array Value} {p : Int×Int → Bool} {l : List (Int×Int)} {row : Option Nat} {w : World} (h : PredQ Try.prog g lb pv p l row w) : PredP Try.prog g lb p l w := fun W x hx ho hb => h W x hx ho (grownBy_below row hb)

theorem zeroRMove : ∀ w, (zeroValue 62).run Try.prog w = .ok (.agg #[.int .i64 0, .int .i64 0]) w := fun _ => by kernel_rfl

set_option maxHeartbeats 1600000 in
set_option maxRecDepth 100000 in
theorem deleteFuncRMove_any (A : Option Addr) (c base g n : Nat) (lb : Array Value) (p : Int×Int → Bool) (l : List (Int×Int)) (w : World) (hn : l.length = n) (h : Own w base 62 A c l) (hok : ∀ x ∈ l, Flat.ok x)
    (eg : ∀ args w, (callFunc g args).run Try.prog w = .ok (.enter g args) w) (hp : PredQ Try.prog g lb pv p l (rowOf A) w) :
    Calls Try.prog 52 #[.slice A n c, .func (.func g) #[] lb] w fun e w' => e = .returned (.slice A (l.filter fun x => !p x).length c) ∧ Own w' base 62 A c (l.filter fun x => !p x) ∧ w.grownBy w' (rowOf A) := by
  have hcap := h.le_cap
  have hmax : n ≤ 9223372036854775807 := by have := hcap; unfold maxLen at this; omega
  have hct := indexRMove_n A c w.heap.size g n lb p l w hn (h.at_ hok) (Nat.le_refl _) hmax eg (predP_of_QRMove hp)
  have HP := Lib.hid hp; clear hp
  have HOK := Lib.hid hok; clear hok
  cases hq : l.any p with
  | false =>
    have hi : idxI p l = -1 := by unfold idxI; rw [hq]; rfl
    have hf : l.filter (fun x => !p x) = l := by
      rw [List.filter_eq_self]
      intro a ha
      have := List.any_eq_false.1 hq a ha
      simpa using this
    rw [hi] at hct
    rw [hf, hn]
    have HC := Lib.hid hct
    have HO := Lib.hid h
    clear hct h hf hi hq eg hn
    go_enter Try.func52, Try.ntmps52
    go_wp2_with fail
    refine HC.out.mono ?_
    rintro e w1 ⟨rfl, hb1⟩
    go_wp2_with fail
    go_ret
    exact ⟨rfl, HO.out.fresh hb1, grownBy_below _ hb1⟩
  | true =>
    have hi : idxI p l = (l.findIdx p : Int) := by unfold idxI; rw [if_pos hq]
    have hlt : l.findIdx p < l.length := by rw [List.findIdx_lt_length]; exact List.any_eq_true.1 hq
    have hst : DelSt p l l (l.findIdx p) (l.findIdx p + 1) := ⟨rfl, (findIdx_take_filter p l hq).symm, rfl, by omega, by omega⟩
    obtain ⟨i0, hi0⟩ : ∃ i, l.findIdx p = i := ⟨_, rfl⟩
    rw [hi0] at hi hlt hst
    rw [hi] at hct
    obtain ⟨b, rfl, hb1, hb2⟩ := h.some_ (by omega)
    have HC := Lib.hid hct
    have HO := Lib.hid h
    have HS := Lib.hid hst
    have hi1 : i0 < n := by omega
    have HN := Lib.hid hn
    have HE := Lib.hid eg
    have hnc : n ≤ c := by omega
    clear hct h hi hq hst hi0 hlt hn hcap
    go_enter Try.func52, Try.ntmps52
    go_wp2_with fail
    refine HC.out.mono ?_
    rintro e w1 ⟨rfl, hbw1⟩
    have hs1 := hbw1.size
    go_wp2_with fail
    go_loopg [5, 6] (n - (i0 + 1)) (fun gk iv jv wr => ∃ (i j : Nat) (cur : List (Int×Int)), i < j ∧ j ≤ n ∧ gk = n - j ∧ iv = .int .i64 i ∧ jv = .int .i64 j ∧ Hid (DelSt p l cur i j ∧ Own wr base 62 (some ⟨b, 0, none⟩) c cur) ∧ w.grownBy wr (some b))
    case atStart => exact ⟨i0, i0 + 1, l, by omega, by omega, rfl, rfl, by go_num, ⟨HS.out, HO.out.fresh hbw1⟩, grownBy_below _ hbw1⟩
    case round =>
      obtain ⟨i, j, cur, hij, hj, rfl, rfl, rfl, hkeep, hgr⟩ := hrel
      have hsz := hgr.size
      by_cases hlt : j < n
      · obtain ⟨⟨x, y⟩, hx⟩ : ∃ x, l[j]? = some x := ⟨_, List.getElem?_eq_getElem (by have := HN.out; omega)⟩
        have hcur := hkeep.out.1.get hx
        have c0 := hkeep.out.2.cells_ (g := b) (o := 0) rfl (j * 2) (.int .i64 x) (by have := flat_get _ j 0 _ hcur (by decide); simpa [Flat.sz, Flat.cells] using this)
        have c1 := hkeep.out.2.cells_ (g := b) (o := 0) rfl (j * 2 + 1) (.int .i64 y) (by have := flat_get _ j 1 _ hcur (by decide); simpa [Flat.sz, Flat.cells] using this)
        rw [Nat.zero_add] at c0 c1
        have hxm := List.mem_of_getElem? hx
        have hcall := fun W hg => HP.out W (x, y) hxm (HOK.out _ hxm) hg
        have HX := Lib.hid hx
        clear hx hcur hxm
        have hbw : b < wr.heap.size := by omega
        have hj0 : (0 : Int) ≤ (j : Int) := by omega
        have hj1 : (j : Int) < (n : Int) := by omega
        have HCALL := Lib.hid hcall; clear hcall
        have hgr2 := hgr.trans (World.grownBy_alloc wr (.cells #[.int .i64 x, .int .i64 y] 62) (some b))
        have HB := Lib.hid (And.intro (Blk.new wr 62 #[.int .i64 x, .int .i64 y]) (hkeep.out.2.alloc (.cells #[.int .i64 x, .int .i64 y] 62)))
        cases hq : p (x, y) with
        | true =>
          rw [hq] at HCALL
          have HQ := Lib.hid hq; clear hq
          go_wp2_with (go_at_fn g; refine Calls.mono (HCALL.out _ hgr2) ?_; rintro e w2 ⟨rfl, hb2⟩)
          go_roundg (n - (j + 1))
          case measure => omega
          case rel => exact ⟨i, j + 1, cur, by omega, by omega, rfl, rfl, by go_num, ⟨hkeep.out.1.skip HX.out HQ.out, HB.out.2.fresh hb2⟩, hgr2.trans (grownBy_below _ hb2)⟩
        | false =>
          rw [hq] at HCALL
          have HQ := Lib.hid hq; clear hq
          have hi0 : (0 : Int) ≤ (i : Int) := by omega
          have hi1 : (i : Int) < (n : Int) := by omega
          obtain ⟨old, hold⟩ : ∃ u, cur[i]? = some u := ⟨_, List.getElem?_eq_getElem (by have := hkeep.out.1.1; have := HN.out; omega)⟩
          have HOLD := Lib.hid hold; clear hold
          go_wp2_with (go_at_fn g; refine Calls.mono (HCALL.out _ hgr2) ?_; rintro e w2 ⟨rfl, hb2⟩; have hs2 := hb2.size; simp only [World.size_alloc] at hs2; have HB2 := Lib.hid (And.intro (HB.out.1.fresh hb2) (HB.out.2.fresh hb2)); have d0 := HB2.out.1.cell 0 (v := .int .i64 x) rfl; have d1 := HB2.out.1.cell 1 (v := .int .i64 y) rfl; have z0 := HB2.out.2.frozen (g := b) rfl (i * 2); have z1 := HB2.out.2.frozen (g := b) rfl (i * 2 + 1); have e0 := HB2.out.2.cells_ (g := b) (o := 0) rfl (i * 2) (.int .i64 old.1) (by have := flat_get _ i 0 _ HOLD.out (by decide); simpa [Flat.sz, Flat.cells] using this); have e1 := HB2.out.2.cells_ (g := b) (o := 0) rfl (i * 2 + 1) (.int .i64 old.2) (by have := flat_get _ i 1 _ HOLD.out (by decide); simpa [Flat.sz, Flat.cells] using this); rw [Nat.zero_add] at e0 e1)
          go_roundg (n - (j + 1))
          case measure => omega
          case rel => exact ⟨i + 1, j + 1, cur.set i (x, y), by omega, by omega, rfl, by go_num, by go_num, ⟨hkeep.out.1.keep HX.out HQ.out, Own.set_two rfl (fun _ => rfl) HB2.out.2 HOLD.out⟩, ((hgr2.trans (grownBy_below _ hb2)).trans (grownBy_setCell _ _ _ _)).trans (grownBy_setCell _ _ _ _)⟩
      · obtain rfl : j = n := by omega
        obtain ⟨k1, k2⟩ := hkeep.out
        have hfin : cur.take i = l.filter (fun x => !p x) := by rw [k1.2.1, List.take_of_length_le (by have := HN.out; omega)]
        have hlen : (l.filter (fun x => !p x)).length = i := by rw [← hfin, List.length_take]; have := k1.1; have := HN.out; omega
        have hcl : cur.length = j := by have := k1.1; have := HN.out; omega
        have HF := Lib.hid (And.intro hfin (And.intro hcl hlen))
        have HK := Lib.hid k2
        have hci : ¬ c = i := by omega
        have hcj : i ≤ c := by omega
        have hij2 : i ≤ j := by omega
        clear k1 k2 hfin hlen hcl hkeep
        obtain ⟨w3, hrun, hown3, hgr3⟩ := run_clear_own (P := Try.prog) HK.out i (by have := HF.out.2.1; omega) 56 0 Try.underlying56 _ zeroRMove rfl rfl (some ⟨b, i * 2, none⟩) (j - i) (c - i) (by omega) (fun _ => rfl)
        have HO3 := Lib.hid hown3; clear hown3
        go_wp2_with fail
        go_ret
        exact ⟨ret_slice HF.out.2.2.symm, by rw [← HF.out.1]; exact HO3.out, hgr.trans hgr3⟩


set_option maxHeartbeats 800000 in
set_option maxRecDepth 100000 in
theorem deleteRMove_any (c base b i : Nat) (l : List (Int×Int)) (w : World) (h : Own w base 62 (some ⟨b, 0, none⟩) c l) (hi : i < l.length) :
    Calls Try.prog 56 #[.slice (some ⟨b, 0, none⟩) l.length c, .int .i64 i, .int .i64 (i + 1)] w fun e w' => e = .returned (.slice (some ⟨b, 0, none⟩) (l.length - 1) c) ∧ Own w' base 62 (some ⟨b, 0, none⟩) c (l.eraseIdx i) ∧ w.grownBy w' (some b) := by
  obtain ⟨i0, hi0, hz0, hz1, hz2⟩ := info_parts infoRMove
  have hcap := h.le_cap
  have hmax : c ≤ 9223372036854775807 := by have := hcap.2; unfold maxLen at this; omega
  obtain ⟨n, hn⟩ : ∃ n, l.length = n := ⟨_, rfl⟩
  rw [hn] at hi hcap ⊢
  have hnc := hcap.1
  clear hcap
  obtain ⟨ad, hA, hsrc⟩ : ∃ ad : Addr, (if c = i + 1 then some (⟨b, 0, none⟩ : Addr) else some ⟨b, (i + 1) * 2, none⟩) = some ad ∧ Hid (∀ j u, (flat (l.drop (i + 1)))[j]? = some u → w.drew.cell? (ad.add j) = some u) := by
    have hfl : ∀ j u, (flat (l.drop (i + 1)))[j]? = some u → w.cell? ⟨b, (i + 1) * 2 + j, none⟩ = some u := by
      intro j u hu
      have hj := (List.getElem?_eq_some_iff.1 hu).1
      have := h.cells_ (g := b) (o := 0) rfl ((i + 1) * 2 + j) u (by
        have e := flat_append (l.take (i + 1)) (l.drop (i + 1))
        rw [List.take_append_drop] at e
        have hl : (flat (l.take (i + 1))).length = (i + 1) * 2 := by rw [flat_length, List.length_take, Nat.min_eq_left (by omega)]; rfl
        rw [e, List.getElem?_append_right (by omega), hl, show (i + 1) * 2 + j - (i + 1) * 2 = j by omega]
        exact hu)
      rw [Nat.zero_add] at this
      exact this
    by_cases hc : c = i + 1
    · refine ⟨_, if_pos hc, fun j u hu => ?_⟩
      have : l.drop (i + 1) = [] := List.drop_eq_nil_of_le (by omega)
      rw [this] at hu
      simp [flat] at hu
    · refine ⟨_, if_neg hc, fun j u hu => ?_⟩
      rw [add_mk]
      exact hfl j u hu
  have HI := Lib.hid (And.intro hi0 (And.intro hz1 hz2))
  have HT := Lib.hid ((h.take_ i (by omega)).drew)
  have HN := Lib.hid hn
  have hdl : (l.drop (i + 1)).length = n - (i + 1) := by rw [List.length_drop, hn]
  have HD := Lib.hid hdl
  have hne : ((i : Int) == (i : Int) + 1) = false := by rw [beq_eq_false_iff_ne]; omega
  have hi1 : i + 1 ≤ n := by omega
  have hic : i ≤ c := by omega
  have hic2 : i + 1 ≤ c := by omega
  have q1 : (0 : Int) ≤ (i : Int) + 1 := by omega
  have q2 : (i : Int) + 1 ≤ (n : Int) := by omega
  clear h hdl hn hi0 hz0 hz1 hz2
  go_enter Try.func56, Try.ntmps56
  go_wp2_with fail
  go_region_law ((refine step_app_fits (α := Int×Int) (by rfl) (.tmp 22) (.tmp 25) _ (by rfl) i0 Try.underlying56 HI.out.1 HI.out.2.1 pair_one (n := i) (c := c) (by rfl) (by rw [List.length_take]; have := HN.out; omega) HT.out (ad := ad) (m := n - (i + 1)) (d := c - (i + 1)) (r := l.drop (i + 1)) (by simp [Act.eval, Act.put, hA]) HD.out hsrc.out (nm := n - 1) (by omega) (by omega) ?_; intro w1 hown1 hgr1))
  have hel : l.take i ++ l.drop (i + 1) = l.eraseIdx i := (List.eraseIdx_eq_take_drop_succ l i).symm
  rw [hel] at hown1
  have hell : (l.eraseIdx i).length = n - 1 := by rw [List.length_eraseIdx_of_lt (by have := HN.out; omega), HN.out]
  obtain ⟨w3, hrun, hown3, hgr3⟩ := run_clear_own (P := Try.prog) hown1 (n - 1) (by omega) 56 0 Try.underlying56 _ zeroRMove rfl rfl (some ⟨b, (n - 1) * 2, none⟩) (n - (n - 1)) (c - (n - 1)) (by omega) (fun _ => rfl)
  have hcn : ¬ c = n - 1 := by omega
  have hcn2 : n - 1 ≤ c := by omega
  have hcn3 : n - 1 ≤ n := by omega
  have hgr := (grownBy_undrew hgr1).trans hgr3
  have HO3 := Lib.hid hown3; clear hown3 hown1 hgr1 hgr3
  have HE := Lib.hid (And.intro hel hell); clear hel hell
  go_wp2
  go_ret
  exact ⟨rfl, by have := HO3.out; rw [List.take_of_length_le (by have := HE.out.2; omega)] at this; exact this, hgr⟩

end Go.Proofs.Ytljdnadejmkaeaa
