/- slices.Clone, IndexFunc, DeleteFunc, Repeat at ints, over rows of the caller's own. -/
import Derived.Test.YtpkccpegdpodoaaWeak6
import Derived.Test.YtpkccpegdpodoaaDel
import Derived.Test.YtpkccpegdpodoaaItems
import Derived.Shelf.GgClosure.Gives
import Derived.Deep.DrawnRows
import Derived.Deep.DeepMust
namespace Go.Proofs.Ytpkccpegdpodoaa
open Go.RowKit

attribute [local go_sem ↓] Go.wp_at_zero Go.wp_at_succ

/-- what a copying call leaves, with its length a letter -/
theorem cloneInt_any (A : Option Addr) (c B n : Nat) (l : List Int) (w : World) (hn : l.length = n) (h : At w B A l) (hB : B ≤ w.heap.size) (hl : n * 8 ≤ 140737488355328) :
    Calls Try.prog 136 #[.slice A n c] w fun e w' => ∃ A' c', e = .returned (.slice A' n c') ∧ Own w' w.heap.size 3 A' c' l ∧ Below w.heap.size w w' := by
  obtain ⟨i0, hi, hz0, hz1, hz2⟩ := info_parts infoInt
  subst hn
  cases A with
  | none =>
    have hnil : l = [] := h.nil_len
    subst hnil
    have heq := fun w => run_eql_nil_slice w 47 3 none 0 c 0 0 Try.underlying47
    have heq2 := fun w => Lib.run_eql_slice_nil w 47 3 none 0 c 0 0 Try.underlying47
    go_enter Try.func136, Try.ntmps136
    go_wp2
    go_ret
    exact ⟨none, 0, rfl, Own.nil_, Below.refl _ _⟩
  | some a =>
    have heq2 := fun w => Lib.run_eql_slice_nil w 47 3 (some a) l.length c 0 0 Try.underlying47
    have H := Lib.hid h; clear h
    go_enter Try.func136, Try.ntmps136
    go_wp2_with (at_builtin; go_must (refine wpList_app (α := Int) (n := 0) rfl (.tmp 5) (.tmp 6) _ rfl w.heap.size 3 i0 _ 8 Try.underlying47 hi hz0 hz1 hz2 rfl (by decide) int_one (by rfl) rfl (own_new0 w _ _ _ rfl (Nat.le_refl _)) (by rfl) ((H.out).keep (fun p hp => World.cell?_alloc_lt w _ p (by omega))) rfl (by omega) (by simp only [maxLen]; omega) (by simp) ?_); intro A1 c1 w1 hown hgr hat)
    go_ret
    exact ⟨A1, c1, by simp, by simpa using hown, ((Below.refl _ _).alloc (Nat.le_refl _) _).grown hgr (by simp) (by simp [rowOf])⟩

/-- the first place at which p holds, or -1 -/
def idxI {α : Type} (p : α → Bool) (l : List α) : Int := if l.any p then (l.findIdx p : Int) else -1
theorem idxI_hit {α : Type} (p : α → Bool) (l : List α) (k : Nat) (x : α) (h : l[k]? = some x) (hp : p x = true) (hno : (l.take k).any p = false) : idxI p l = (k : Int) := by
  have hk : k < l.length := (List.getElem?_eq_some_iff.1 h).1
  have hany : l.any p = true := List.any_eq_true.2 ⟨x, List.mem_of_getElem? h, hp⟩
  have hf : l.findIdx p = k := by
    rw [List.findIdx_eq hk]
    refine ⟨by rw [List.getElem?_eq_getElem hk] at h; rw [Option.some.inj h]; exact hp, fun j hj => ?_⟩
    have := List.any_eq_false.1 hno (l[j]'(by omega)) (by
      rw [List.mem_take_iff_getElem]; exact ⟨j, by omega, rfl⟩)
    simpa using this
  unfold idxI
  rw [if_pos hany, hf]
theorem any_snocI {α : Type} (p : α → Bool) (l : List α) (k : Nat) (x : α) (h : l[k]? = some x) : (l.take (k + 1)).any p = ((l.take k).any p || p x) := by
  rw [List.take_add_one, h]; simp [List.any_append]
theorem ret_sl {A : Option Addr} {n m c : Nat} (h : n = m) : Ending.returned (.slice A n c) = .returned (.slice A m c) := by rw [h]
def iv (x : Int) : Value := .int .i64 x

set_option maxHeartbeats 800000 in
set_option maxRecDepth 100000 in
theorem indexFuncInt_any (A : Option Addr) (c B g n : Nat) (lb : Array Value) (p : Int → Bool) (l : List Int) (w : World) (hn : l.length = n) (h : At w B A l) (hB : B ≤ w.heap.size) (hl : n ≤ 9223372036854775807)
    (eg : ∀ args w, (callFunc g args).run Try.prog w = .ok (.enter g args) w) (hp : PredQ Try.prog g lb iv p l none w) :
    Calls Try.prog 181 #[.slice A n c, .func (.func g) #[] lb] w fun e w' => e = .returned (.int .i64 (idxI p l)) ∧ Below w.heap.size w w' := by
  have H := Lib.hid (And.intro h hn); clear h hn
  have HP := Lib.hid hp; clear hp
  have HE := Lib.hid eg
  go_enter Try.func181, Try.ntmps181
  go_wp2
  go_loopg [8] n (fun gk i wr => ∃ k : Nat, k ≤ n ∧ gk = n - k ∧ i = .int .i64 k ∧ Hid ((l.take k).any p = false) ∧ Below w.heap.size w wr)
  case atStart => exact ⟨0, Nat.zero_le _, rfl, rfl, by simp [Hid], Below.refl _ _⟩
  case round =>
    obtain ⟨k, hk, rfl, rfl, hno, hbl⟩ := hrel
    have hsz := hbl.size
    by_cases hlt : k < n
    · obtain ⟨b, o, x, rfl, hb, hx, hox, h0⟩ := (H.out.1.below (hbl.mono hB)).int_ (k := k) (by have := H.out.2; omega)
      have hk0 : (0 : Int) ≤ (k : Int) := by omega
      have hk1 : (k : Int) < (n : Int) := by omega
      have hcall := HP.out wr x (List.mem_of_getElem? hx) hox (grownBy_below none hbl)
      have HX := Lib.hid hx; clear hx
      cases hq : p x with
      | true =>
        rw [hq] at hcall
        have HC := Lib.hid hcall; clear hcall
        have HQ := Lib.hid hq; clear hq
        go_wp2_with (go_at_fn g; refine Calls.mono HC.out ?_; rintro e w' ⟨rfl, hb'⟩)
        go_ret
        exact ⟨by rw [idxI_hit p l k x HX.out HQ.out hno.out]; rfl, hbl.trans (hb'.mono hsz)⟩
      | false =>
        rw [hq] at hcall
        have HC := Lib.hid hcall; clear hcall
        have HQ := Lib.hid hq; clear hq
        go_wp2_with (go_at_fn g; refine Calls.mono HC.out ?_; rintro e w' ⟨rfl, hb'⟩)
        go_roundg (n - (k + 1))
        case measure => omega
        case rel => exact ⟨k + 1, by omega, rfl, by go_num, by unfold Hid; rw [any_snocI _ _ _ _ HX.out, hno.out, HQ.out]; rfl, hbl.trans (hb'.mono hsz)⟩
    · go_wp2
      go_ret
      exact ⟨by have h1 := hno.out; rw [List.take_of_length_le (by have := H.out.2; omega)] at h1; unfold idxI; rw [h1]; rfl, hbl⟩

theorem findIdx_take_filter {α : Type} (p : α → Bool) (l : List α) (h : l.any p = true) : (l.take (l.findIdx p + 1)).filter (fun x => !p x) = l.take (l.findIdx p) := by
  have hi : l.findIdx p < l.length := by rw [List.findIdx_lt_length]; exact List.any_eq_true.1 h
  rw [List.take_add_one, List.getElem?_eq_getElem hi, Option.toList_some, List.filter_append]
  have h1 : (l.take (l.findIdx p)).filter (fun x => !p x) = l.take (l.findIdx p) := by
    rw [List.filter_eq_self]
    intro a ha
    obtain ⟨j, hj, rfl⟩ := List.mem_take_iff_getElem.1 ha
    have := List.not_of_lt_findIdx (p := p) (xs := l) (i := j) (by omega)
    simpa using this
  have h2 : p l[l.findIdx p] = true := List.findIdx_getElem
  rw [h1]
  simp [h2]
/-- what a round of DeleteFunc keeps: the list as it stands, so many kept, so many seen -/
def DelSt {α : Type} (p : α → Bool) (l cur : List α) (i j : Nat) : Prop :=
  cur.length = l.length ∧ cur.take i = (l.take j).filter (fun x => !p x) ∧ cur.drop j = l.drop j ∧ i < j ∧ j ≤ l.length
theorem DelSt.keep {α : Type} {p : α → Bool} {l cur : List α} {i j : Nat} (h : DelSt p l cur i j) {x : α} (hx : l[j]? = some x) (hp : p x = false) : DelSt p l (cur.set i x) (i + 1) (j + 1) := by
  obtain ⟨h1, h2, h3, h4, h5⟩ := h
  have hj : j < l.length := (List.getElem?_eq_some_iff.1 hx).1
  refine ⟨by simp [h1], ?_, ?_, by omega, by omega⟩
  · rw [List.take_add_one, List.take_set_of_le (Nat.le_refl _), h2, List.getElem?_set_self (by omega), List.take_add_one, hx, List.filter_append]
    simp [hp]
  · rw [List.drop_set_of_lt (by omega), show j + 1 = j + 1 from rfl, ← List.drop_drop, ← List.drop_drop, h3]
theorem DelSt.skip {α : Type} {p : α → Bool} {l cur : List α} {i j : Nat} (h : DelSt p l cur i j) {x : α} (hx : l[j]? = some x) (hp : p x = true) : DelSt p l cur i (j + 1) := by
  obtain ⟨h1, h2, h3, h4, h5⟩ := h
  have hj : j < l.length := (List.getElem?_eq_some_iff.1 hx).1
  refine ⟨h1, ?_, ?_, by omega, by omega⟩
  · rw [h2, List.take_add_one, hx, List.filter_append]
    simp [hp]
  · rw [← List.drop_drop, ← List.drop_drop, h3]
theorem DelSt.get {α : Type} {p : α → Bool} {l cur : List α} {i j : Nat} (h : DelSt p l cur i j) {x : α} (hx : l[j]? = some x) : cur[j]? = some x := by
  have h3 : (cur.drop j)[0]? = (l.drop j)[0]? := by rw [h.2.2.1]
  simpa [hx] using h3
theorem zeroInt : ∀ w, (zeroValue 3).run Try.prog w = .ok (.int .i64 0) w := fun _ => by kernel_rfl

set_option maxHeartbeats 1600000 in
set_option maxRecDepth 100000 in
theorem deleteFuncInt_any (A : Option Addr) (c base g n : Nat) (lb : Array Value) (p : Int → Bool) (l : List Int) (w : World) (hn : l.length = n) (h : Own w base 3 A c l) (hok : ∀ x ∈ l, Flat.ok x)
    (eg : ∀ args w, (callFunc g args).run Try.prog w = .ok (.enter g args) w) (hp : PredQ Try.prog g lb iv p l (rowOf A) w) :
    Calls Try.prog 135 #[.slice A n c, .func (.func g) #[] lb] w fun e w' => e = .returned (.slice A (l.filter fun x => !p x).length c) ∧ Own w' base 3 A c (l.filter fun x => !p x) ∧ w.grownBy w' (rowOf A) := by
  have hcap := h.le_cap
  have hmax : n ≤ 9223372036854775807 := by have := hcap; unfold maxLen at this; omega
  have hct := indexFuncInt_any A c w.heap.size g n lb p l w hn (h.at_ hok) (Nat.le_refl _) hmax eg (fun W x hx ho hb => hp W x hx ho ⟨hb.os, hb.tape, hb.output, hb.size, fun k hk _ => hb.block k hk (by simp)⟩)
  have HP := Lib.hid hp; clear hp
  have HOK := Lib.hid hok; clear hok
  cases hq : l.any p with
  | false =>
    have hi : idxI p l = -1 := by unfold idxI; rw [hq]; rfl
    have hf : l.filter (fun x => !p x) = l := by
      rw [List.filter_eq_self]
      intro a ha
      have := List.any_eq_false.1 hq a ha
      simpa using this
    rw [hi] at hct
    rw [hf, hn]
    have HC := Lib.hid hct
    have HO := Lib.hid h
    clear hct h hf hi hq eg hn
    go_enter Try.func135, Try.ntmps135
    go_wp2_with fail
    refine HC.out.mono ?_
    rintro e w1 ⟨rfl, hb1⟩
    go_wp2_with fail
    go_ret
    exact ⟨rfl, HO.out.fresh hb1, grownBy_below _ hb1⟩
  | true =>
    have hi : idxI p l = (l.findIdx p : Int) := by unfold idxI; rw [if_pos hq]
    have hlt : l.findIdx p < l.length := by rw [List.findIdx_lt_length]; exact List.any_eq_true.1 hq
    have hst : DelSt p l l (l.findIdx p) (l.findIdx p + 1) := ⟨rfl, (findIdx_take_filter p l hq).symm, rfl, by omega, by omega⟩
    obtain ⟨i0, hi0⟩ : ∃ i, l.findIdx p = i := ⟨_, rfl⟩
    rw [hi0] at hi hlt hst
    rw [hi] at hct
    obtain ⟨b, rfl, hb1, hb2⟩ := h.some_ (by omega)
    have HC := Lib.hid hct
    have HO := Lib.hid h
    have HS := Lib.hid hst
    have hi1 : i0 < n := by omega
    have HN := Lib.hid hn
    have HE := Lib.hid eg
    have hnc : n ≤ c := by omega
    clear hct h hi hq hst hi0 hlt hn hcap
    go_enter Try.func135, Try.ntmps135
    go_wp2_with fail
    refine HC.out.mono ?_
    rintro e w1 ⟨rfl, hbw1⟩
    have hs1 := hbw1.size
    go_wp2_with fail
    go_loopg [5, 6] (n - (i0 + 1)) (fun gk iv jv wr => ∃ (i j : Nat) (cur : List Int), i < j ∧ j ≤ n ∧ gk = n - j ∧ iv = .int .i64 i ∧ jv = .int .i64 j ∧ Hid (DelSt p l cur i j ∧ Own wr base 3 (some ⟨b, 0, none⟩) c cur) ∧ w.grownBy wr (some b))
    case atStart => exact ⟨i0, i0 + 1, l, by omega, by omega, rfl, rfl, by go_num, ⟨HS.out, HO.out.fresh hbw1⟩, grownBy_below _ hbw1⟩
    case round =>
      obtain ⟨i, j, cur, hij, hj, rfl, rfl, rfl, hkeep, hgr⟩ := hrel
      have hsz := hgr.size
      by_cases hlt : j < n
      · obtain ⟨x, hx⟩ : ∃ x, l[j]? = some x := ⟨_, List.getElem?_eq_getElem (by have := HN.out; omega)⟩
        have hcur := hkeep.out.1.get hx
        have c0 := hkeep.out.2.cell_int hcur
        have hxm := List.mem_of_getElem? hx
        have hcall := fun W hg => HP.out W x hxm (HOK.out _ hxm) hg
        have HX := Lib.hid hx
        clear hx hcur hxm
        have hbw : b < wr.heap.size := by omega
        have hj0 : (0 : Int) ≤ (j : Int) := by omega
        have hj1 : (j : Int) < (n : Int) := by omega
        have HCALL := Lib.hid hcall; clear hcall
        cases hq : p x with
        | true =>
          rw [hq] at HCALL
          have HQ := Lib.hid hq; clear hq
          go_wp2_with (go_at_fn g; refine Calls.mono (HCALL.out _ hgr) ?_; rintro e w2 ⟨rfl, hb2⟩)
          go_roundg (n - (j + 1))
          case measure => omega
          case rel => exact ⟨i, j + 1, cur, by omega, by omega, rfl, rfl, by go_num, ⟨hkeep.out.1.skip HX.out HQ.out, hkeep.out.2.fresh hb2⟩, hgr.trans (grownBy_below _ hb2)⟩
        | false =>
          rw [hq] at HCALL
          have HQ := Lib.hid hq; clear hq
          have hi0 : (0 : Int) ≤ (i : Int) := by omega
          have hi1 : (i : Int) < (n : Int) := by omega
          obtain ⟨old, hold⟩ : ∃ u, cur[i]? = some u := ⟨_, List.getElem?_eq_getElem (by have := hkeep.out.1.1; have := HN.out; omega)⟩
          have HOLD := Lib.hid hold; clear hold
          go_wp2_with (go_at_fn g; refine Calls.mono (HCALL.out _ hgr) ?_; rintro e w2 ⟨rfl, hb2⟩; have hs2 := hb2.size; have HB2 := Lib.hid (hkeep.out.2.fresh hb2); have z0 := HB2.out.frozen (g := b) rfl i; have e0 := HB2.out.cell_int HOLD.out)
          go_roundg (n - (j + 1))
          case measure => omega
          case rel => exact ⟨i + 1, j + 1, cur.set i x, by omega, by omega, rfl, by go_num, by go_num, ⟨hkeep.out.1.keep HX.out HQ.out, HB2.out.set_int x (by have := hkeep.out.1.1; have := HN.out; omega)⟩, (hgr.trans (grownBy_below _ hb2)).trans (grownBy_setCell _ _ _ _)⟩
      · obtain rfl : j = n := by omega
        obtain ⟨k1, k2⟩ := hkeep.out
        have hfin : cur.take i = l.filter (fun x => !p x) := by rw [k1.2.1, List.take_of_length_le (by have := HN.out; omega)]
        have hlen : (l.filter (fun x => !p x)).length = i := by rw [← hfin, List.length_take]; have := k1.1; have := HN.out; omega
        have hcl : cur.length = j := by have := k1.1; have := HN.out; omega
        have HF := Lib.hid (And.intro hfin (And.intro hcl hlen))
        have HK := Lib.hid k2
        have hci : ¬ c = i := by omega
        have hcj : i ≤ c := by omega
        have hij2 : i ≤ j := by omega
        clear k1 k2 hfin hlen hcl hkeep
        obtain ⟨w3, hrun, hown3, hgr3⟩ := run_clear_own (P := Try.prog) HK.out i (by have := HF.out.2.1; omega) 47 0 Try.underlying47 _ zeroInt rfl rfl (some ⟨b, i, none⟩) (j - i) (c - i) (by omega) (fun _ => by simp [Flat.sz])
        have HO3 := Lib.hid hown3; clear hown3
        go_wp2_with fail
        go_ret
        exact ⟨ret_sl HF.out.2.2.symm, by rw [← HF.out.1]; exact HO3.out, hgr.trans hgr3⟩

end Go.Proofs.Ytpkccpegdpodoaa
