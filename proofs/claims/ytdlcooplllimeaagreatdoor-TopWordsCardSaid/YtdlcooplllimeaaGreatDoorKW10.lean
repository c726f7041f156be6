/- KW: Wor3, Wor4, Wor5, Wor6. -/
import Derived.Test.YtdlcooplllimeaaGreatDoorKW9
import Derived.Test.YtdlcooplllimeaaGreatDoorKT6
import Derived.Deep.RegionHeld3
import Derived.Deep.DeepCutAuto
import Derived.Test.YtdlcooplllimeaaGreatDoorKT1
import Derived.Shelf.GgClosure.Gives
/- The reference's words of a cell: values' words, all values, what is wrong. -/
namespace Go.Proofs.YtdlcooplllimeaaGreatDoor
open Go.RowKit

theorem pair_one : ∀ x : Int × Int, ∀ u ∈ Flat.cells x, u.oneCell' = true := by
  intro x u hu; simp [Flat.cells] at hu; rcases hu with rfl | rfl <;> rfl
theorem infoVal : (Tryz.prog.info? 48).map (fun i => (i.zero, i.size, i.bytes)) = some (some (.agg #[.int .i64 0, .int .i64 0]), 2, 16) := by kernel_rfl

theorem copyVal_n (A : Option Addr) (c B n : Nat) (l : List (Int × Int)) (w : World) (hn : l.length = n) (h : At w B A l) (hl : n * 16 ≤ 140737488355328) :
    Calls Tryz.prog 58 #[.slice A n c] w fun e w' => ∃ A' c', e = .returned (.slice A' n c') ∧ Own w' w.heap.size 48 A' c' l ∧ Below w.heap.size w w' := by
  obtain ⟨i0, hi, hz0, hz1, hz2⟩ := info_parts infoVal
  have H := Lib.hid (And.intro h hn); clear h hn
  go_enter Tryz.func58, Tryz.ntmps58
  go_wp2_with (at_builtin; go_must (refine wpList_app (α := Int × Int) (n := 0) rfl (.const (.slice none 0 0)) (.tmp 3) _ rfl w.heap.size 48 i0 _ 16 Tryz.underlying23 hi hz0 hz1 hz2 rfl (by decide) pair_one (by rfl) rfl Own.nil_ (by rfl) H.out.1 H.out.2 (by omega) (by simp only [maxLen]; omega) (Nat.le_refl _) ?_); intro A1 c1 w1 hown hgr hat)
  go_ret
  exact ⟨A1, c1, by simp, by simpa using hown, (Below.refl _ _).grown hgr (Nat.le_refl _) (by simp [rowOf])⟩

theorem own_lit {α : Type} [Flat α] (w : World) (base g n : Nat) (e : TypeId) (cs : Array Value) (l : List α) (hg : g = w.heap.size) (hn : l.length = n) (hb : base ≤ w.heap.size) (hcs : cs.toList = flat l) (hm : n ≤ maxLen) : Own (w.alloc (.cells cs e)) base e (some ⟨g, 0, none⟩) n l := by
  subst hg hn
  have hs : cs.size = l.length * Flat.sz α := by rw [← Array.length_toList, hcs, flat_length]
  exact ⟨flat_length _, .inr ⟨w.heap.size, l.length, cs, rfl, hb, heap_alloc_new w _, Nat.le_refl _, hm, hs, by rw [hcs, List.take_of_length_le (by rw [flat_length]; exact Nat.le_refl _)]⟩⟩

theorem cellVals_len {c : Ce} (h : cellLarge c = false) : (cellVals c).length ≤ 2430 := by
  obtain ⟨h1, h2, h3, -⟩ := cellLarge_no h
  have := flat_le frVals c.frames 61 (fun f hf => by
    have := h1 f hf
    simp only [frLarge, Bool.or_eq_false_iff, decide_eq_false_iff_not] at this
    simp [frVals]; omega)
  unfold cellVals
  rw [List.length_append]
  have : c.frames.length * 61 ≤ 30 * 61 := Nat.mul_le_mul_right _ h3
  omega
theorem cellVals_ok {w : World} {B : Nat} {VA FA : Option Addr} {c : Ce} (hv : At w B VA c.vals) (hf : At w B FA c.frames) : ∀ x ∈ cellVals c, Flat.ok x := by
  intro x hx
  unfold cellVals at hx
  rcases List.mem_append.1 hx with h | h
  · exact hv.ok_ x h
  · obtain ⟨f, hf', hxf⟩ := List.mem_flatMap.1 h
    obtain ⟨k, hk⟩ := List.mem_iff_getElem?.1 hf'
    have hkl : k < c.frames.length := (List.getElem?_eq_some_iff.1 hk).1
    obtain ⟨b, o, f', A1, c1, A2, c2, -, -, hx', -, -, -, -, -, -, -, -, at1, -, -, -, -, -, -, -, i4, i5⟩ := hf.fr_ hkl
    rw [hk] at hx'; injection hx' with hx'; subst hx'
    unfold frVals at hxf
    rcases List.mem_cons.1 hxf with e | e
    · subst e; exact ⟨i4, i5⟩
    · exact at1.ok_ x e

end Go.Proofs.YtdlcooplllimeaaGreatDoor

/- The reference's words of a cell. -/
namespace Go.Proofs.YtdlcooplllimeaaGreatDoor
open Go.RowKit

theorem boxW_ok (v : Int × Int) : Flat.ok (boxW bx v) := boxL_range v.1 v.2
theorem valsW_ok (l : List (Int × Int)) : ∀ x ∈ valsW bx l, Flat.ok x := by
  intro x hx
  unfold valsW at hx
  rcases List.mem_cons.1 hx with e | e
  · subst e; exact wd_ok _
  · obtain ⟨v, -, rfl⟩ := List.mem_map.1 e; exact boxW_ok v

theorem sz_d {w w' : World} (h : Below w.drew.heap.size w.drew w') : w.heap.size ≤ w'.heap.size := h.size
theorem sz_a {w w' : World} {o : Obj} (h : Below (w.drew.alloc o).heap.size (w.drew.alloc o) w') : w.heap.size + 1 ≤ w'.heap.size := by simpa using h.size
theorem gr_s {w w' : World} {r : Option Nat} (h : w.grownBy w' r) : w.heap.size ≤ w'.heap.size := h.size
theorem gr_a {w w' : World} {o : Obj} {r : Option Nat} (h : (w.alloc o).grownBy w' r) : w.heap.size + 1 ≤ w'.heap.size := by simpa using h.size

end Go.Proofs.YtdlcooplllimeaaGreatDoor

/- The law of a cell's words. -/
namespace Go.Proofs.YtdlcooplllimeaaGreatDoor
open Go.RowKit

theorem take_snoc {α : Type} (l : List α) (k : Nat) (x : α) (h : l[k]? = some x) : l.take (k + 1) = l.take k ++ [x] := by
  rw [List.take_add_one, h]; rfl
theorem ne_of_at {α : Type} {l r : List α} {k : Nat} {x y : α} (h : l[k]? = some x) (h' : r[k]? = some y) (hne : x ≠ y) : l ≠ r := by
  rintro rfl; rw [h] at h'; exact hne (Option.some.inj h')
theorem At.u64_ {w : World} {B : Nat} {A : Option Addr} {l : List U64} {k : Nat} (h : At w B A l) (hk : k < l.length) :
    ∃ b o x, A = some ⟨b, o, none⟩ ∧ b < B ∧ l[k]? = some ⟨x⟩ ∧ w.cell? ⟨b, o + k, none⟩ = some (.int .u64 x) := by
  obtain ⟨x, hx⟩ : ∃ x, l[k]? = some x := ⟨l[k], List.getElem?_eq_getElem hk⟩
  obtain ⟨b, o, cs, rfl, hb, hc, rfl, hok⟩ := h k x hx
  have h0 := hc 0 _ rfl
  simp only [Flat.sz, Enc.sz, Nat.mul_one, Nat.add_zero] at h0
  exact ⟨b, o, x.val, rfl, hb, hx, h0⟩
instance : DecidableEq U64 := fun a b => decidable_of_iff (a.val = b.val) ⟨fun h => by cases a; cases b; cases h; rfl, fun h => by rw [h]⟩

theorem frameW_ok (f : Fr) : ∀ z ∈ frameW bx f, Flat.ok z := by
  intro z hz
  simp only [frameW, List.mem_append, List.mem_cons, List.not_mem_nil, or_false] at hz
  rcases hz with (((h | h) | h) | h) | h
  · rcases h with rfl | rfl | rfl | rfl <;> exact wd_ok _
  · subst h; exact boxW_ok _
  · exact valsW_ok _ z h
  · subst h; exact wd_ok _
  · obtain ⟨t, -, ht⟩ := List.mem_flatMap.1 h
    simp at ht
    rcases ht with rfl | rfl <;> exact wd_ok _
theorem cellW_ok (c : Ce) : ∀ z ∈ cellW bx c, Flat.ok z := by
  intro z hz
  simp only [cellW, List.mem_append, List.mem_cons, List.not_mem_nil, or_false] at hz
  rcases hz with ((h | h) | h) | h
  · rcases h with rfl | rfl <;> exact wd_ok _
  · exact valsW_ok _ z h
  · subst h; exact wd_ok _
  · obtain ⟨f, -, hf⟩ := List.mem_flatMap.1 h
    exact frameW_ok f z hf
theorem cellW_le {c : Ce} (h : cellLarge c = false) : (cellW bx c).length ≤ 10000 := by
  obtain ⟨h1, h2, h3, -⟩ := cellLarge_no h
  have := flat_le (frameW bx) c.frames 110 (fun f hf => frameW_length bx f (h1 f hf))
  have : c.frames.length * 110 ≤ 30 * 110 := Nat.mul_le_mul_right _ h3
  unfold cellW
  simp only [List.length_append, valsW_length, List.length_cons, List.length_nil]
  omega

def ceW : Ce := ⟨3, 0, [(0, 0)], []⟩
theorem ceW_err : cellErr bx ceW = 0 := by decide
theorem ceW_w : cellW bx ceW = [⟨3⟩, ⟨0⟩, ⟨1⟩, ⟨18444773748872577024⟩, ⟨0⟩] := by decide

end Go.Proofs.YtdlcooplllimeaaGreatDoor

/- The words of a list of cells. -/
namespace Go.Proofs.YtdlcooplllimeaaGreatDoor
open Go.RowKit

theorem At.take_ {α : Type} [Enc α] {w : World} {B : Nat} {A : Option Addr} {l : List α} (h : At w B A l) (k : Nat) : At w B A (l.take k) := fun i x hx => h i x (by
  rw [List.getElem?_take] at hx
  split at hx
  · exact hx
  · cases hx)
def errC (e : Int) (l : List Ce) : Int := l.foldl (fun e c => if e = 0 then cellErr bx c else e) e
theorem errC_snoc (e : Int) (l : List Ce) (k : Nat) (x : Ce) (h : l[k]? = some x) : errC e (l.take (k + 1)) = if errC e (l.take k) = 0 then cellErr bx x else errC e (l.take k) := by
  rw [List.take_add_one, h]; unfold errC; rw [List.foldl_append]; rfl
theorem errC_stays (e : Int) (l : List Ce) (h : e ≠ 0) : errC e l = e := by
  unfold errC
  induction l with
  | nil => rfl
  | cons v l ih => rw [List.foldl_cons, if_neg h, ih]
theorem errC_hit (l : List Ce) (k : Nat) (x : Ce) (h : l[k]? = some x) (h0 : errC 0 (l.take k) = 0) (hx : cellErr bx x ≠ 0) : errC 0 l = cellErr bx x := by
  have hs := errC_snoc 0 l k x h
  rw [if_pos h0] at hs
  have e : l = l.take (k + 1) ++ l.drop (k + 1) := (List.take_append_drop _ _).symm
  have ha : errC 0 (l.take (k + 1) ++ l.drop (k + 1)) = errC (errC 0 (l.take (k + 1))) (l.drop (k + 1)) := List.foldl_append
  rw [e, ha, hs, errC_stays _ _ hx]
def allErr (l : List Ce) : Int := errC (if 300 < l.length then 2 else 0) l
def allW (l : List Ce) : List U64 := wd l.length :: l.flatMap (cellW bx)
theorem large_of {c : Ce} (h : cellErr bx c = 0) : cellLarge c = false := by
  cases hl : cellLarge c with
  | false => rfl
  | true => unfold cellErr at h; rw [if_pos hl] at h; cases h

def AllPost (l : List Ce) (w : World) (e : Ending) (w' : World) : Prop :=
  Below w.heap.size w w' ∧ ((allErr l = 0 ∧ ∃ A d, e = .returned (.tuple #[.slice A (allW l).length d, .int .i64 0]) ∧ Own w' w.heap.size 73 A d (allW l)) ∨
    (allErr l ≠ 0 ∧ e = .returned (.tuple #[.slice none 0 0, .int .i64 (allErr l)])))

set_option maxHeartbeats 1600000 in
set_option maxRecDepth 100000 in
theorem all_any (B lc n : Nat) (LA : Option Addr) (l : List Ce) (w : World) (hn : l.length = n) (h : At w B LA l) (hB : B ≤ w.heap.size) (hm : n ≤ 310) :
    Calls Tryz.prog 15 #[.slice LA n lc] w (AllPost l w) := by
  obtain ⟨i0, hi, hz0, hz1, hz2⟩ := info_parts infoU64
  have H := Lib.hid (And.intro h hn); clear h hn
  by_cases h300 : 300 < n
  · have hE : allErr l = 2 := by unfold allErr; rw [if_pos (by have := H.out.2; omega), errC_stays _ _ (by decide)]
    have HE := Lib.hid hE; clear hE
    go_enter Tryz.func15, Tryz.ntmps15
    go_wp2_with fail
    go_ret2
    exact ⟨Below.refl _ _, .inr (by rw [HE.out]; exact ⟨by decide, rfl⟩)⟩
  · have hE : allErr l = errC 0 l := by unfold allErr; rw [if_neg (by have := H.out.2; omega)]
    have HE := Lib.hid hE; clear hE
    have hcn : IntKind.u64.wrap (n : Int) = (n : Int) % 18446744073709551616 := IntKind.wrap_u64 _
    go_enter Tryz.func15, Tryz.ntmps15
    go_wp2_with fail
    clear hcn
    go_loopg [4, 18] (n) (fun gk ov iv wr => ∃ (k : Nat) (A2 : Option Addr) (c2 : Nat) (o1 : List U64), k ≤ n ∧ gk = n - k ∧ iv = .int .i64 k ∧ ov = .slice A2 o1.length c2 ∧ o1.length ≤ 1 + k * 10000 ∧ Hid (o1 = [wd n] ++ (l.take k).flatMap (cellW bx) ∧ errC 0 (l.take k) = 0 ∧ Own wr w.heap.size 73 A2 c2 o1) ∧ Below w.heap.size w wr)
    case atStart => exact ⟨0, some ⟨w.heap.size, 0, none⟩, 1, [wd n], Nat.zero_le _, rfl, rfl, rfl, by simp, ⟨by simp, rfl, own_lit w w.heap.size w.heap.size 1 73 _ [wd n] rfl rfl (Nat.le_refl _) rfl (by simp [maxLen])⟩, (Below.refl _ _).alloc (Nat.le_refl _) _⟩
    case round =>
      obtain ⟨k, A2, c2, o1, hk, rfl, rfl, rfl, ho1, hkeep, hbl⟩ := hrel
      have hsz := hbl.size
      by_cases hlt : k < n
      · obtain ⟨b, o, x, VA, vc, FA, fc, rfl, hb, hx, e0, e1, e2, e3, av, hvc, af, hfc, j0, j1⟩ := (H.out.1.below (hbl.mono hB)).ce_ (by have := H.out.2; omega : k < l.length)
        have hsn := errC_snoc 0 l k x hx
        rw [if_pos hkeep.out.2.1] at hsn
        have hhit := errC_hit l k x hx hkeep.out.2.1
        have hfs := flatMap_snoc (cellW bx) l k x hx
        have hk0 : (0 : Int) ≤ (k : Int) := by omega
        have hk1 : (k : Int) < (n : Int) := by omega
        obtain ⟨hvc1, hvc2⟩ := hvc
        obtain ⟨hfc1, hfc2⟩ := hfc
        unfold maxLen at hvc2 hfc2
        have HX := Lib.hid (And.intro hsn (And.intro hhit (And.intro hfs (And.intro av (And.intro af (And.intro hkeep.out (And.intro j0 j1))))))); clear hsn hhit hfs av af hx j0 j1 hkeep
        go_wp2_with fail
        refine (of_any B vc fc VA FA x _ (HX.out.2.2.2.1.alloc (by omega) _) (HX.out.2.2.2.2.1.alloc (by omega) _) (by simp; omega) (by omega) (by omega) HX.out.2.2.2.2.2.2).mono ?_
        rintro e w2 ⟨hb2, hp⟩
        have hs2 : wr.heap.size + 1 ≤ w2.heap.size := by have := hb2.size; simp at this; omega
        have hbl2 : Below w.heap.size w w2 := (hbl.alloc hsz _).trans (hb2.mono (by simp; omega))
        have hO2 := (HX.out.2.2.2.2.2.1.2.2.alloc (.cells #[.int .i64 x.kind, .int .i64 x.num, .slice VA x.vals.length vc, .slice FA x.frames.length fc] 46)).fresh hb2
        clear e0 e1 e2 e3
        rcases hp with ⟨h0, A, d, rfl, hown⟩ | ⟨h0, rfl⟩
        · have hlg := large_of h0
          obtain ⟨cw, hcw⟩ : ∃ cw, cellW bx x = cw := ⟨_, rfl⟩
          have hcwl : cw.length ≤ 10000 := by rw [← hcw]; exact cellW_le hlg
          have hcok : ∀ z ∈ cw, Flat.ok z := by rw [← hcw]; exact cellW_ok x
          rw [hcw] at hown ⊢
          have HO := Lib.hid (And.intro hO2 (And.intro (hown.at_ hcok) (And.intro hcw h0))); clear hO2 hown hcok hcw h0 hlg
          go_wp2_with (at_builtin; go_must (refine wpList_app (α := U64) (n := o1.length) (m := cw.length) (B := w2.heap.size) (r := cw) rfl (.tmp 30) (.tmp 31) _ rfl w.heap.size 73 i0 _ 8 Tryz.underlying54 hi hz0 hz1 hz2 rfl (by decide) u64_one (by rfl) rfl HO.out.1 (by rfl) HO.out.2.1 rfl (by omega) (by simp only [maxLen]; omega) (by omega) ?_))
          intro A3 c3 w3 hown3 hgr3 hat3
          have hbl3 : Below w.heap.size w w3 := hbl2.grown hgr3 (by omega) (fun g hg => (HO.out.1.lt g hg).1)
          have heq : o1 ++ cw = [wd n] ++ (l.take (k + 1)).flatMap (cellW bx) := by rw [HX.out.2.2.1, HX.out.2.2.2.2.2.1.1, HO.out.2.2.1]; simp
          have hl3 : (o1 ++ cw).length = o1.length + cw.length := List.length_append
          have H3 := Lib.hid (And.intro heq (And.intro hown3 (And.intro hl3 (HX.out.1.trans HO.out.2.2.2)))); clear heq hown3 hl3 hgr3 hat3
          go_wp2_with fail
          go_roundg (n - (k + 1))
          case measure => omega
          case rel => exact ⟨k + 1, A3, c3, _, by omega, rfl, by go_num, by rw [H3.out.2.2.1], by rw [H3.out.2.2.1]; omega, ⟨H3.out.1, H3.out.2.2.2, H3.out.2.1⟩, hbl3⟩
        · have hfin := HE.out.trans (HX.out.2.1 h0)
          obtain ⟨er, her⟩ : ∃ er, cellErr bx x = er := ⟨_, rfl⟩
          rw [her] at h0 hfin ⊢
          have hne : (er != 0) = true := by simp [h0]
          have HF := Lib.hid (And.intro hfin h0); clear hfin h0 her hO2
          go_wp2_with fail
          go_ret2
          exact ⟨hbl2, .inr (by rw [HF.out.1]; exact ⟨HF.out.2, rfl⟩)⟩
      · obtain ⟨k1, k2, k3⟩ := hkeep.out
        rw [List.take_of_length_le (by have := H.out.2; omega)] at k1 k2
        have hk1 : allW l = o1 := by rw [k1]; unfold allW; rw [H.out.2]; rfl
        have HF := Lib.hid (And.intro hk1 (And.intro (HE.out.trans k2) k3)); clear k1 hk1 k2 k3 hkeep
        go_wp2_with fail
        go_ret2
        exact ⟨hbl, .inl (by rw [HF.out.1]; exact ⟨HF.out.2.1, A2, c2, rfl, HF.out.2.2⟩)⟩

end Go.Proofs.YtdlcooplllimeaaGreatDoor
