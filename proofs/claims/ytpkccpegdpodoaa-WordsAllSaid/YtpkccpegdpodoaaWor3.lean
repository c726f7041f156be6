/- The reference's words of a cell: values' words, all values, what is wrong. -/
import Derived.Test.YtpkccpegdpodoaaWor2
import Derived.Test.YtpkccpegdpodoaaSteps
import Derived.Deep.RegionHeld3
namespace Go.Proofs.Ytpkccpegdpodoaa
open Go.RowKit

theorem pair_one : ∀ x : Int × Int, ∀ u ∈ Flat.cells x, u.oneCell' = true := by
  intro x u hu; simp [Flat.cells] at hu; rcases hu with rfl | rfl <;> rfl
theorem infoVal : (Try.prog.info? 23).map (fun i => (i.zero, i.size, i.bytes)) = some (some (.agg #[.int .i64 0, .int .i64 0]), 2, 16) := by kernel_rfl

theorem copyVal_n (A : Option Addr) (c B n : Nat) (l : List (Int × Int)) (w : World) (hn : l.length = n) (h : At w B A l) (hl : n * 16 ≤ 140737488355328) :
    Calls Try.prog 167 #[.slice A n c] w fun e w' => ∃ A' c', e = .returned (.slice A' n c') ∧ Own w' w.heap.size 23 A' c' l ∧ Below w.heap.size w w' := by
  obtain ⟨i0, hi, hz0, hz1, hz2⟩ := info_parts infoVal
  have H := Lib.hid (And.intro h hn); clear h hn
  go_enter Try.func167, Try.ntmps167
  go_wp2_with (at_builtin; go_must (refine wpList_app (α := Int × Int) (n := 0) rfl (.const (.slice none 0 0)) (.tmp 3) _ rfl w.heap.size 23 i0 _ 16 Try.underlying35 hi hz0 hz1 hz2 rfl (by decide) pair_one (by rfl) rfl Own.nil_ (by rfl) H.out.1 H.out.2 (by omega) (by simp only [maxLen]; omega) (Nat.le_refl _) ?_); intro A1 c1 w1 hown hgr hat)
  go_ret
  exact ⟨A1, c1, by simp, by simpa using hown, (Below.refl _ _).grown hgr (Nat.le_refl _) (by simp [rowOf])⟩

/-- a literal's block is a row of the call's own -/
theorem own_lit {α : Type} [Flat α] (w : World) (base g n : Nat) (e : TypeId) (cs : Array Value) (l : List α) (hg : g = w.heap.size) (hn : l.length = n) (hb : base ≤ w.heap.size) (hcs : cs.toList = flat l) (hm : n ≤ maxLen) : Own (w.alloc (.cells cs e)) base e (some ⟨g, 0, none⟩) n l := by
  subst hg hn
  have hs : cs.size = l.length * Flat.sz α := by rw [← Array.length_toList, hcs, flat_length]
  exact ⟨flat_length _, .inr ⟨w.heap.size, l.length, cs, rfl, hb, heap_alloc_new w _, Nat.le_refl _, hm, hs, by rw [hcs, List.take_of_length_le (by rw [flat_length]; exact Nat.le_refl _)]⟩⟩

set_option maxHeartbeats 1600000 in
set_option maxRecDepth 100000 in
theorem valWords_any (B vc n : Nat) (V : Option Addr) (l : List (Int × Int)) (w : World) (hn : l.length = n) (hv : At w B V l) (hB : B ≤ w.heap.size) (hl : n ≤ 100000) :
    Calls Try.prog 102 #[.slice V n vc] w fun e w' => ∃ A d, e = .returned (.slice A (n + 1) d) ∧ Own w' w.heap.size 24 A d (valsW bx l) ∧ Below w.heap.size w w' := by
  obtain ⟨i0, hi, hz0, hz1, hz2⟩ := info_parts infoU64
  have HV := Lib.hid (And.intro hv hn); clear hv hn
  have hcv : IntKind.u64.wrap (n : Int) = (n : Int) % 18446744073709551616 := IntKind.wrap_u64 _
  go_enter Try.func102, Try.ntmps102
  go_wp2_with fail
  go_loopg [3, 14] (n) (fun gk ov iv wr => ∃ (k : Nat) (A1 : Option Addr) (c1 : Nat) (o1 : List U64), k ≤ n ∧ gk = n - k ∧ iv = .int .i64 k ∧ ov = .slice A1 o1.length c1 ∧ o1.length ≤ 1 + k ∧ Hid (o1 = wd n :: (l.take k).map (boxW bx) ∧ Own wr w.heap.size 24 A1 c1 o1) ∧ Below w.heap.size w wr)
  case atStart => exact ⟨0, some ⟨w.heap.size, 0, none⟩, 1, [wd n], Nat.zero_le _, rfl, rfl, rfl, by simp, ⟨by simp, own_lit w _ _ 1 _ _ [wd n] rfl rfl (Nat.le_refl _) rfl (by simp [maxLen])⟩, (Below.refl _ _).alloc (Nat.le_refl _) _⟩
  case round =>
    obtain ⟨k, A1, c1, o1, hk, rfl, rfl, rfl, ho1, hkeep, hbl⟩ := hrel
    have hsz := hbl.size
    clear hcv
    by_cases hlt : k < n
    · obtain ⟨b, o, x, y, rfl, hb, hx, hox, hoy, c0, c1'⟩ := (HV.out.1.below (hbl.mono hB)).pair (by have := HV.out.2; omega : k < l.length)
      have hms := map_snoc (boxW bx) l k _ hx
      have hrg := boxL_range x y
      have hxw : boxW bx (x, y) = ⟨(boxL x y).1⟩ := rfl
      rw [hxw] at hms
      obtain ⟨p, q, hpq⟩ : ∃ p q, boxL x y = (p, q) := ⟨_, _, rfl⟩
      rw [hpq] at hms hrg
      have HX := Lib.hid (And.intro hms (And.intro hpq (And.intro hrg (And.intro hkeep.out.1 (hkeep.out.2.alloc (.cells #[.int .i64 x, .int .i64 y] 23)))))); clear hms hpq hrg hx hkeep hxw
      go_wp2_with fail
      have hb1 : Below w.heap.size w (wr.alloc (.cells #[.int .i64 x, .int .i64 y] 23)) := hbl.alloc hsz _
      refine (rbox_any x y _ hox hoy).mono ?_
      rintro e w2 ⟨rfl, hb2⟩
      rw [HX.out.2.1]
      have hs2 := hb2.size
      simp only [World.size_alloc] at hs2
      have hbl2 : Below w.heap.size w w2 := hb1.trans (hb2.mono (by simp; omega))
      have HO := Lib.hid (HX.out.2.2.2.2.fresh hb2)
      go_wp2_with (at_builtin; go_must (refine wpList_app (α := U64) (m := 1) (B := w2.heap.size + 1) (r := [⟨p⟩]) rfl (.tmp 23) (.tmp 25) _ rfl w.heap.size 24 i0 _ 8 Try.underlying39 hi hz0 hz1 hz2 rfl (by decide) u64_one (by rfl) rfl (HO.out.alloc _) (by rfl) ?_ rfl (by omega) (by simp only [maxLen]; omega) (by simp; omega) ?_))
      · exact At.built w2 _ _ [(⟨p⟩ : U64)] rfl (by intro z hz; simp at hz; subst hz; exact HX.out.2.2.1)
      intro A2 c2 w3 hown3 hgr3 hat3
      have hbl3 : Below w.heap.size w w3 := (hbl2.alloc (by omega) _).grown hgr3 (by simp; omega) (fun g hg => (HO.out.lt g hg).1)
      have hl3 : (o1 ++ [(⟨p⟩ : U64)]).length ≤ 1 + (k + 1) := by rw [List.length_append, List.length_singleton]; omega
      have heq : o1 ++ [(⟨p⟩ : U64)] = wd n :: (l.take (k + 1)).map (boxW bx) := by rw [HX.out.1, HX.out.2.2.2.1]; simp
      have hls : o1.length + 1 = (o1 ++ [(⟨p⟩ : U64)]).length := by rw [List.length_append]; rfl
      have HF := Lib.hid (And.intro heq (And.intro hown3 (And.intro hl3 hls))); clear heq hown3 hl3 hls
      go_wp2_with fail
      go_roundg (n - (k + 1))
      case measure => omega
      case rel => exact ⟨k + 1, A2, c2, _, by omega, rfl, by go_num, by rw [HF.out.2.2.2], HF.out.2.2.1, ⟨HF.out.1, HF.out.2.1⟩, hbl3⟩
    · obtain ⟨k1, k2⟩ := hkeep.out
      rw [List.take_of_length_le (by have := HV.out.2; omega)] at k1
      have hlen : o1.length = n + 1 := by rw [k1]; simp; exact HV.out.2
      have heq : o1 = valsW bx l := by rw [k1]; unfold valsW; rw [HV.out.2]
      have HF := Lib.hid (And.intro hlen (And.intro heq k2)); clear k1 k2 hlen heq hkeep
      go_wp2_with fail
      go_ret
      exact ⟨A1, c1, by rw [← HF.out.1]; rfl, by rw [← HF.out.2.1]; exact HF.out.2.2, hbl⟩

set_option maxHeartbeats 1600000 in
set_option maxRecDepth 100000 in
theorem cellVals_any (B vc fc : Nat) (VA FA : Option Addr) (c : Ce) (w : World) (hvA : At w B VA c.vals) (hf : At w B FA c.frames) (hB : B ≤ w.heap.size) (hlg : cellLarge c = false) :
    Calls Try.prog 101 #[.agg #[.int .i64 c.kind, .int .i64 c.num, .slice VA c.vals.length vc, .slice FA c.frames.length fc]] w fun e w' => ∃ A d, e = .returned (.slice A (cellVals c).length d) ∧ Own w' w.heap.size 23 A d (cellVals c) ∧ Below w.heap.size w w' := by
  obtain ⟨i0, hi, hz0, hz1, hz2⟩ := info_parts infoVal
  obtain ⟨l1, l2, l3, -⟩ := cellLarge_no hlg
  obtain ⟨kind, num, vals, frames⟩ := c
  have l1 : ∀ f ∈ frames, frLarge f = false := l1
  have l2 : vals.length ≤ 600 := l2
  have l3 : frames.length ≤ 30 := l3
  have hvA : At w B VA vals := hvA
  have hf : At w B FA frames := hf
  show Calls Try.prog 101 #[.agg #[.int .i64 kind, .int .i64 num, .slice VA vals.length vc, .slice FA frames.length fc]] w _
  have HH := Lib.hid (And.intro hvA (And.intro hf l1)); clear hvA hf l1 hlg
  go_enter Try.func101, Try.ntmps101
  go_wp2_with fail
  refine calls_world (fun W => Blk W w.heap.size 38 #[.int .i64 kind, .int .i64 num, .slice VA vals.length vc, .slice FA frames.length fc] ∧ Below w.heap.size w W ∧ w.heap.size + 1 ≤ W.heap.size) ⟨Blk.new _ _ _, (Below.refl _ _).alloc (Nat.le_refl _) _, by simp⟩ ?_
  rintro W ⟨hG, hb0, hs0⟩
  refine (copyVal_n VA vc B vals.length vals W rfl (HH.out.1.below (hb0.mono hB)) (by omega)).mono ?_
  rintro e w1 ⟨A1, c1, rfl, hown1, hb1⟩
  have hbl1 := hb0.trans (hb1.mono (by omega))
  have g3 := (hG.fresh hb1).cell 3 (v := .slice FA frames.length fc) rfl
  have H1 := Lib.hid hown1; clear hown1 hG
  go_wp2_with fail
  clear g3
  go_loopg [3, 12] (frames.length) (fun gk ov iv wr => ∃ (k : Nat) (A2 : Option Addr) (c2 : Nat) (o1 : List (Int × Int)), k ≤ frames.length ∧ gk = frames.length - k ∧ iv = .int .i64 k ∧ ov = .slice A2 o1.length c2 ∧ o1.length ≤ 600 + 61 * k ∧ Hid (o1 = vals ++ (frames.take k).flatMap frVals ∧ Own wr (w.heap.size + 1) 23 A2 c2 o1) ∧ Below w.heap.size w wr ∧ w.heap.size + 1 ≤ wr.heap.size)
  case atStart => exact ⟨0, A1, c1, vals, Nat.zero_le _, rfl, rfl, rfl, by omega, ⟨by simp, H1.out.base_le hs0⟩, hbl1, by have := hb1.size; omega⟩
  case round =>
    obtain ⟨k, A2, c2, o1, hk, rfl, rfl, rfl, ho1, hkeep, hbl, hsz⟩ := hrel
    by_cases hlt : k < frames.length
    · obtain ⟨b, o, f, A3, c3, A4, c4, rfl, hb, hx, q0, q1, q2, q3, q4, q5, q6, q7, at1, hm1, at2, hm2, i0', i1, i2, i3, i4, i5⟩ := (HH.out.2.1.below (hbl.mono hB)).fr_ hlt
      have hfl := HH.out.2.2 f (List.mem_of_getElem? hx)
      obtain ⟨fn, fat, fto, gen, ⟨s0, s1⟩, regs, tries⟩ := f
      simp only at q0 q1 q2 q3 q4 q5 q6 q7 hm1 hm2 at1 at2 i4 i5
      simp only [frLarge, Bool.or_eq_false_iff, decide_eq_false_iff_not] at hfl
      have hr60 : regs.length ≤ 60 := by omega
      have hvs := flatMap_snoc frVals frames k _ hx
      have HX := Lib.hid (And.intro hvs (And.intro at1 (And.intro i4 (And.intro i5 hkeep.out)))); clear hvs at1 at2 hx hkeep hm1 hm2 i0' i1 i2 i3 i4 i5 hfl
      go_wp2_with fail
      refine wp_world (fun V => Blk V wr.heap.size 148 #[.int .i64 fn, .int .i64 fat, .int .i64 fto, .int .i64 gen, .int .i64 s0, .int .i64 s1, .slice A3 regs.length c3, .slice A4 tries.length c4] ∧ Own V (w.heap.size + 1) 23 A2 c2 o1 ∧ Below w.heap.size w V ∧ Below wr.heap.size wr V ∧ wr.heap.size + 1 ≤ V.heap.size) ⟨Blk.new _ _ _, HX.out.2.2.2.2.2.alloc _, hbl.alloc (by omega) _, (Below.refl _ _).alloc (Nat.le_refl _) _, by simp⟩ ?_
      rintro V ⟨hF, hO, hbV, hbr, hsV⟩
      have p4 := hF.cell 4 (v := .int .i64 s0) rfl
      have p5 := hF.cell 5 (v := .int .i64 s1) rfl
      have p6 := hF.cell 6 (v := .slice A3 regs.length c3) rfl
      have HO := Lib.hid (And.intro hO (And.intro hF (HX.out.2.1.below (hbr.mono (by omega))))); clear hO hF
      go_region_held3 (fun w' => w'.cell? ⟨wr.heap.size, 4, none⟩ = some (.int .i64 s0) ∧ w'.cell? ⟨wr.heap.size, 5, none⟩ = some (.int .i64 s1) ∧ w'.cell? ⟨wr.heap.size, 6, none⟩ = some (.slice A3 regs.length c3))
        (first
          | go_keep
          | (have F5 := (HO.out.2.1.drew.alloc (.cells #[.int .i64 s0, .int .i64 s1] 23)).grown hgr5 (fun e => own_ne_ty HO.out.1 HO.out.2.1 (by decide) e); exact ⟨F5.cell 4 rfl, F5.cell 5 rfl, F5.cell 6 rfl⟩)
          | (have F5 := (HO.out.2.1.drew.alloc (.cells #[.int .i64 s0, .int .i64 s1] 23)).grown hgr5 (fun e => own_ne_ty HO.out.1 HO.out.2.1 (by decide) e); have F6 := F5.grown hgr6 (fun e => own_ne_ty hown5 F5 (by decide) e); exact ⟨F6.cell 4 rfl, F6.cell 5 rfl, F6.cell 6 rfl⟩))
        (first
          | (refine step_app (α := Int × Int) (m := 1) (B := V.heap.size + 1) (r := [(s0, s1)]) (by rfl) (.tmp 16) (.tmp 19) _ (by rfl) (w.heap.size + 1) 23 i0 _ 16 Try.underlying35 hi hz0 hz1 hz2 rfl (by decide) pair_one (by rfl) rfl (HO.out.1.drew.alloc _) (by rfl) (by exact At.built V.drew _ _ [(s0, s1)] rfl (by intro z hz; simp at hz; subst hz; exact ⟨HX.out.2.2.1, HX.out.2.2.2.1⟩)) rfl rfl (by omega) (by simp only [maxLen]; omega) (by simp; omega) ?_; intro A5 c5 w5 hown5 hgr5 hat5)
          | (refine step_app (α := Int × Int) (m := regs.length) (B := B) (r := regs) (by rfl) (.tmp 20) (.tmp 22) _ (by rfl) (w.heap.size + 1) 23 i0 _ 16 Try.underlying35 hi hz0 hz1 hz2 rfl (by decide) pair_one (by rfl) (by rw [List.length_append]; rfl) hown5 (by rfl) (HO.out.2.2.below ((((Below.refl (w.heap.size + 1) V).drew.alloc (by show _ ≤ V.heap.size; omega) _).grown hgr5 (by simp; omega) (fun g hg => (HO.out.1.lt g hg).1)).mono (by omega))) rfl rfl (by omega) (by simp only [maxLen]; omega) (by have := hgr5.size; simp at this; omega) ?_; intro A6 c6 w6 hown6 hgr6 hat6))
      have hb5 : Below (w.heap.size + 1) V w5 := (((Below.refl (w.heap.size + 1) V).drew.alloc (by show _ ≤ V.heap.size; omega) _).grown hgr5 (by simp; omega) (fun g hg => (HO.out.1.lt g hg).1))
      have hs5' : V.heap.size + 1 ≤ w5.heap.size := by have := hgr5.size; simp at this; omega
      have hs6 := hgr6.size
      have hb6 : Below w.heap.size w w6 := (hbV.trans (hb5.mono (by omega))).grown hgr6 (by omega) (fun g hg => by have := (hown5.lt g hg).1; omega)
      have heq : o1 ++ [(s0, s1)] ++ regs = vals ++ (frames.take (k + 1)).flatMap frVals := by rw [HX.out.2.2.2.2.1, HX.out.1]; simp [frVals]
      have hls : o1.length + 1 + regs.length = (o1 ++ [(s0, s1)] ++ regs).length := by rw [List.length_append, List.length_append]; rfl
      have hl6 : (o1 ++ [(s0, s1)] ++ regs).length ≤ 600 + 61 * (k + 1) := by rw [← hls]; omega
      have HF := Lib.hid (And.intro heq (And.intro hown6 (And.intro hl6 hls))); clear heq hown6 hl6 hls hown5 hgr5 hgr6 hat5 hat6
      go_wp2_with fail
      go_roundg (frames.length - (k + 1))
      case measure => omega
      case rel => exact ⟨k + 1, A6, c6, _, by omega, rfl, by go_num, by rw [← HF.out.2.2.2], HF.out.2.2.1, ⟨HF.out.1, HF.out.2.1⟩, hb6, by omega⟩
    · obtain ⟨k1, k2⟩ := hkeep.out
      rw [List.take_of_length_le (by omega)] at k1
      have hk1 : o1 = cellVals ⟨kind, num, vals, frames⟩ := k1
      have HF := Lib.hid (And.intro hk1 k2); clear k1 hk1 k2 hkeep
      go_wp2_with fail
      go_ret
      exact ⟨A2, c2, by rw [← HF.out.1]; rfl, by rw [← HF.out.1]; exact HF.out.2.base_le (by omega), hbl⟩

theorem cellVals_len {c : Ce} (h : cellLarge c = false) : (cellVals c).length ≤ 2430 := by
  obtain ⟨h1, h2, h3, -⟩ := cellLarge_no h
  have := flat_le frVals c.frames 61 (fun f hf => by
    have := h1 f hf
    simp only [frLarge, Bool.or_eq_false_iff, decide_eq_false_iff_not] at this
    simp [frVals]; omega)
  unfold cellVals
  rw [List.length_append]
  have : c.frames.length * 61 ≤ 30 * 61 := Nat.mul_le_mul_right _ h3
  omega
theorem cellVals_ok {w : World} {B : Nat} {VA FA : Option Addr} {c : Ce} (hv : At w B VA c.vals) (hf : At w B FA c.frames) : ∀ x ∈ cellVals c, Flat.ok x := by
  intro x hx
  unfold cellVals at hx
  rcases List.mem_append.1 hx with h | h
  · exact hv.ok_ x h
  · obtain ⟨f, hf', hxf⟩ := List.mem_flatMap.1 h
    obtain ⟨k, hk⟩ := List.mem_iff_getElem?.1 hf'
    have hkl : k < c.frames.length := (List.getElem?_eq_some_iff.1 hk).1
    obtain ⟨b, o, f', A1, c1, A2, c2, -, -, hx', -, -, -, -, -, -, -, -, at1, -, -, -, -, -, -, -, i4, i5⟩ := hf.fr_ hkl
    rw [hk] at hx'; injection hx' with hx'; subst hx'
    unfold frVals at hxf
    rcases List.mem_cons.1 hxf with e | e
    · subst e; exact ⟨i4, i5⟩
    · exact at1.ok_ x e

set_option maxHeartbeats 3200000 in
set_option maxRecDepth 100000 in
theorem cfault_any (B vc fc : Nat) (VA FA : Option Addr) (c : Ce) (w : World) (hvA : At w B VA c.vals) (hf : At w B FA c.frames) (hB : B ≤ w.heap.size) (hv : c.vals.length ≤ 9223372036854775807) (hfl : c.frames.length ≤ 9223372036854775807) :
    Calls Try.prog 21 #[.agg #[.int .i64 c.kind, .int .i64 c.num, .slice VA c.vals.length vc, .slice FA c.frames.length fc]] w fun e w' => e = .returned (.int .i64 (cellErr bx c)) ∧ Below w.heap.size w w' := by
  have hlarge : ∀ (P : Prop), cellLarge c = true → cellErr bx c = 2 := fun _ h => by unfold cellErr; rw [if_pos h]
  have hbox : Below w.heap.size w (w.alloc (.cells #[.int .i64 c.kind, .int .i64 c.num, .slice VA c.vals.length vc, .slice FA c.frames.length fc] 38)) := (Below.refl _ _).alloc (Nat.le_refl _) _
  by_cases hvl : mostV c.kind < (c.vals.length : Int)
  · have he : cellErr bx c = 2 := hlarge True (by unfold cellLarge; rw [decide_eq_true hvl]; simp)
    have hcase : (100 < c.vals.length ∧ c.kind ≠ 7) ∨ (c.kind = 7 ∧ 600 < c.vals.length) := by unfold mostV at hvl; split at hvl <;> omega
    have HE := Lib.hid (And.intro he hbox); clear he hvl hlarge hvA hf hbox
    rcases hcase with ⟨h1, h2⟩ | ⟨h1, h2⟩
    · have h2' : (c.kind != 7) = true := by simp [h2]
      have h1' : (100 : Int) < (c.vals.length : Int) := by omega
      clear h2
      go_enter Try.func21, Try.ntmps21
      go_wp2_with fail
      go_ret
      exact ⟨ret_i64 HE.out.1.symm, HE.out.2⟩
    · have h1' : (c.kind != 7) = false := by simp [h1]
      have h2' : (600 : Int) < (c.vals.length : Int) := by omega
      have h2'' : (100 : Int) < (c.vals.length : Int) := by omega
      have H1 := Lib.hid h1; clear h1
      go_enter Try.func21, Try.ntmps21
      go_wp2_with fail
      go_ret
      exact ⟨ret_i64 HE.out.1.symm, HE.out.2⟩
  by_cases hfr : 30 < c.frames.length
  · have he : cellErr bx c = 2 := hlarge True (by unfold cellLarge; rw [decide_eq_true hfr]; simp)
    have hcase : c.vals.length ≤ 100 ∨ (100 < c.vals.length ∧ c.kind = 7 ∧ c.vals.length ≤ 600) := by unfold mostV at hvl; split at hvl <;> omega
    have HE := Lib.hid (And.intro he hbox); clear he hvl hlarge hvA hf hbox
    have hfr' : (30 : Int) < (c.frames.length : Int) := by omega
    rcases hcase with h1 | ⟨h1, h2, h3⟩
    · have h1' : (c.vals.length : Int) ≤ 100 := by omega
      go_enter Try.func21, Try.ntmps21
      go_wp2_with fail
      go_ret
      exact ⟨ret_i64 HE.out.1.symm, HE.out.2⟩
    · have h2' : (c.kind != 7) = false := by simp [h2]
      have h1' : (100 : Int) < (c.vals.length : Int) := by omega
      have h3' : (c.vals.length : Int) ≤ 600 := by omega
      have H1 := Lib.hid h2; clear h2
      go_enter Try.func21, Try.ntmps21
      go_wp2_with fail
      go_ret
      exact ⟨ret_i64 HE.out.1.symm, HE.out.2⟩
  have HH := Lib.hid (And.intro hvA (And.intro hf (And.intro hlarge hvl))); clear hvA hf hlarge
  have hvl6 : c.vals.length ≤ 600 := by unfold mostV at hvl; split at hvl <;> omega
  have hfr3 : c.frames.length ≤ 30 := by omega
  have hcase : c.vals.length ≤ 100 ∨ (100 < c.vals.length ∧ c.kind = 7) := by unfold mostV at hvl; split at hvl <;> omega
  have hfr' : (c.frames.length : Int) ≤ 30 := by omega
  have hvl' : (c.vals.length : Int) ≤ 600 := by omega
  have HB := Lib.hid hbox; clear hbox hvl hfr
  obtain ⟨kk, hkk⟩ : ∃ kk, c.kind = kk := ⟨_, rfl⟩
  have hcb : ((100 : Int) < (c.vals.length : Int) ∧ (c.kind != 7) = false) ∨ (c.vals.length : Int) ≤ 100 := by
    rcases hcase with h | ⟨h1, h2⟩
    · right; omega
    · left; exact ⟨by omega, by simp [h2]⟩
  clear hcase hkk kk
  rcases hcb with ⟨hc1, hc2⟩ | hc1 <;>
  · go_enter Try.func21, Try.ntmps21
    go_wp2_with fail
    refine wp_world (fun W => Blk W w.heap.size 38 #[.int .i64 c.kind, .int .i64 c.num, .slice VA c.vals.length vc, .slice FA c.frames.length fc] ∧ Below w.heap.size w W ∧ w.heap.size + 1 ≤ W.heap.size) ⟨Blk.new _ _ _, HB.out, by simp⟩ ?_
    rintro W ⟨hC, hb0, hs0⟩
    go_loopw [33] (fun i wr => ∃ k : Nat, k ≤ c.frames.length ∧ i = .int .i64 k ∧ Hid ((c.frames.take k).any frLarge = false ∧ Blk wr w.heap.size 38 #[.int .i64 c.kind, .int .i64 c.num, .slice VA c.vals.length vc, .slice FA c.frames.length fc]) ∧ Below w.heap.size w wr ∧ w.heap.size + 1 ≤ wr.heap.size) (fun i _ => c.frames.length - (intOf i).toNat)
    case atStart => exact ⟨0, Nat.zero_le _, rfl, ⟨rfl, hC⟩, hb0, hs0⟩
    case round =>
      obtain ⟨k, hk, rfl, hkeep, hbl, hsz⟩ := hrel
      clear hC hb0 hs0
      by_cases hlt : k < c.frames.length
      · obtain ⟨b, o, f, A1, c1, A2, c2, rfl, hb, hx, q0, q1, q2, q3, q4, q5, q6, q7, -, hm1, -, hm2, -⟩ := (HH.out.2.1.below (hbl.mono hB)).fr_ hlt
        obtain ⟨fn, fat, fto, gen, self, regs, tries⟩ := f
        simp only at q0 q1 q2 q3 q4 q5 q6 q7 hm1 hm2
        have hm1' : regs.length ≤ 9223372036854775807 := by unfold maxLen at hm1; omega
        have hm2' : tries.length ≤ 9223372036854775807 := by unfold maxLen at hm2; omega
        have HX := Lib.hid (And.intro hx (And.intro hkeep.out.1 (hkeep.out.2.alloc (.cells #[.int .i64 fn, .int .i64 fat, .int .i64 fto, .int .i64 gen, .int .i64 self.1, .int .i64 self.2, .slice A1 regs.length c1, .slice A2 tries.length c2] 148)))); clear hx hkeep hm1 hm2
        by_cases h60 : 60 < regs.length
        · have he : cellErr bx c = 2 := HH.out.2.2.1 True (by unfold cellLarge; rw [any_stop frLarge c.frames k _ HX.out.1 (by simp [frLarge, h60])]; simp)
          have HE := Lib.hid he; clear he
          go_wp2_with fail
          go_ret
          exact ⟨ret_i64 HE.out.symm, hbl.alloc (by omega) _⟩
        · by_cases h20 : 20 < tries.length
          · have he : cellErr bx c = 2 := HH.out.2.2.1 True (by unfold cellLarge; rw [any_stop frLarge c.frames k _ HX.out.1 (by simp [frLarge, h20])]; simp)
            have HE := Lib.hid he; clear he
            have h60' : (regs.length : Int) ≤ 60 := by omega
            go_wp2_with fail
            go_ret
            exact ⟨ret_i64 HE.out.symm, hbl.alloc (by omega) _⟩
          · have he : frLarge ⟨fn, fat, fto, gen, self, regs, tries⟩ = false := by simp [frLarge]; omega
            have HE := Lib.hid he; clear he
            have h60' : (regs.length : Int) ≤ 60 := by omega
            have h20' : (tries.length : Int) ≤ 20 := by omega
            go_wp2_with fail
            go_roundw
            case rel => exact ⟨k + 1, by omega, by go_num, ⟨by rw [any_snoc _ _ _ _ HX.out.1, HX.out.2.1, HE.out]; rfl, HX.out.2.2⟩, hbl.alloc (by omega) _, by simp; omega⟩
            case measure => simp [intOf]; omega
      · have hk2 := hkeep.out.1
        rw [List.take_of_length_le (by omega)] at hk2
        have hlg : cellLarge c = false := by unfold cellLarge; rw [hk2, decide_eq_false (by have := HH.out.2.2.2; omega : ¬ mostV c.kind < (c.vals.length : Int)), decide_eq_false (by omega : ¬ 30 < c.frames.length)]; rfl
        have he : cellErr bx c = errFrom bx 0 (cellVals c) := by unfold cellErr; rw [hlg]; rfl
        have g0 := hkeep.out.2.cell 0 (v := .int .i64 c.kind) rfl
        have g1 := hkeep.out.2.cell 1 (v := .int .i64 c.num) rfl
        have g2 := hkeep.out.2.cell 2 (v := .slice VA c.vals.length vc) rfl
        have g3 := hkeep.out.2.cell 3 (v := .slice FA c.frames.length fc) rfl
        have HE := Lib.hid (And.intro he hlg); clear he hlg hk2 hkeep
        go_wp2_with fail
        refine (cellVals_any B vc fc VA FA c wr (HH.out.1.below (hbl.mono hB)) (HH.out.2.1.below (hbl.mono hB)) (by omega) HE.out.2).mono ?_
        rintro e w5 ⟨A5, c5, rfl, hown5, hb5⟩
        clear g0 g1 g2 g3
        have hbl5 := hbl.trans (hb5.mono (by omega))
        have hvlen := cellVals_len HE.out.2
        have hvok := cellVals_ok HH.out.1 HH.out.2.1
        have HO5 := Lib.hid (And.intro hown5 hvok); clear hown5 hvok
        obtain ⟨vl, hvl2⟩ : ∃ vl, cellVals c = vl := ⟨_, rfl⟩
        rw [hvl2] at HO5 HE hvlen ⊢
        clear hvl2
        go_wp2_with fail
        go_loopw [51] (fun i wi => ∃ j : Nat, j ≤ vl.length ∧ i = .int .i64 j ∧ Hid (errFrom bx 0 (vl.take j) = 0) ∧ Below w5.heap.size w5 wi) (fun i _ => vl.length - (intOf i).toNat)
        case atStart => exact ⟨0, Nat.zero_le _, rfl, rfl, Below.refl _ _⟩
        case round =>
          obtain ⟨j, hj, rfl, h0, hbl6⟩ := hrel
          have hsz6 := hbl6.size
          by_cases hjt : j < vl.length
          · obtain ⟨b, o, x, y, hA, hb, hx, hox, hoy, d0, d1⟩ := ((HO5.out.1.fresh hbl6).at_ HO5.out.2).pair hjt
            subst hA
            have hxe : bx (x, y) = boxL x y := rfl
            obtain ⟨p, q, hpq⟩ : ∃ p q, boxL x y = (p, q) := ⟨_, _, rfl⟩
            rw [hpq] at hxe
            have hes := errFrom_snoc bx 0 vl j _ hx
            rw [if_pos h0.out, hxe] at hes
            have HX := Lib.hid (And.intro hx (And.intro hpq (And.intro hxe hes))); clear hx hpq hxe hes
            go_wp2_with fail
            refine (rbox_any x y _ hox hoy).mono ?_
            rintro e w7 ⟨rfl, hb7⟩
            rw [HX.out.2.1]
            have hs7 := hb7.size
            simp only [World.size_alloc] at hs7
            have hbl7 : Below w5.heap.size w5 w7 := (hbl6.alloc hsz6 _).trans (hb7.mono (by simp; omega))
            by_cases hq0 : q = 0
            · subst hq0
              go_wp2_with fail
              go_roundw
              case rel => exact ⟨j + 1, by omega, by go_num, by unfold Hid; rw [HX.out.2.2.2], hbl7⟩
              case measure => simp [intOf]; omega
            · have hne : (q != 0) = true := by simp [hq0]
              have he : cellErr bx c = q := by
                rw [HE.out.1, errFrom_hit bx vl j _ HX.out.1 h0.out (by rw [HX.out.2.2.1]; exact hq0), HX.out.2.2.1]
              have HQ := Lib.hid he; clear he hq0
              go_wp2_with fail
              go_ret
              exact ⟨ret_i64 HQ.out.symm, hbl5.trans (hbl7.mono (by have := hb5.size; omega))⟩
          · have h1 := h0.out
            rw [List.take_of_length_le (by omega)] at h1
            have HQ := Lib.hid (HE.out.1.trans h1); clear h1 h0
            go_wp2_with fail
            go_ret
            exact ⟨ret_i64 HQ.out.symm, hbl5.trans (hbl6.mono (by have := hb5.size; omega))⟩

end Go.Proofs.Ytpkccpegdpodoaa
