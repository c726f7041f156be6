/- KW: KwB. -/
import Derived.Test.YtdlcooplllimeaaGreatDoorKW2
import Derived.Test.YtdlcooplllimeaaGreatDoorKT13
/- words: a reader of words: values. -/
namespace Go.Proofs.YtdlcooplllimeaaGreatDoor
open Go.RowKit

attribute [local go_sem ↓] Go.wp_at_zero Go.wp_at_succ

namespace Top
theorem Sg.get {ws : List U64} {a i : Nat} {seg : List U64} {x : U64} (h : Sg ws a seg) (hi : seg[i]? = some x) : ws[a + i]? = some x := by
  obtain ⟨t, ht⟩ := h
  have h1 : (ws.drop a)[i]? = some x := by rw [← ht, List.getElem?_append_left (List.getElem?_eq_some_iff.1 hi).1]; exact hi
  rwa [List.getElem?_drop] at h1
def VlPost (l : List (Int × Int)) (R B : Nat) (A : Option Addr) (n c at_ : Nat) (ws : List U64) (w : World) (e : Ending) (w' : World) : Prop :=
  ∃ VA vc, e = .returned (.slice VA l.length vc) ∧ RdS w' R B A n c at_ ws ∧ Tr R w w' ∧ Own w' w.heap.size 48 VA vc l
set_option maxHeartbeats 1600000 in
set_option maxRecDepth 100000 in
theorem values_any (R B n c k : Nat) (A : Option Addr) (ws : List U64) (l : List (Int × Int)) (most : Int) (w : World) (h : RdS w R B A n c k ws) (hx : Sg ws k (valsW bxT l)) (hv : ∀ v ∈ l, rightV v ∧ Flat.ok v) (hm : (l.length : Int) ≤ most) (hl : l.length ≤ 1000) (hn : n ≤ 1073741824) :
    Calls Tryz.prog 96 #[.pointer (some ⟨R, 0, none⟩), .int .i64 most] w (VlPost l R B A n c (k + (valsW bxT l).length) ws w) := by
  obtain ⟨P, hP⟩ : ∃ P, VlPost l R B A n c (k + (valsW bxT l).length) ws w = P := ⟨_, rfl⟩
  have HP := Lib.hid hP; rw [hP]; clear hP
  obtain ⟨i0, hi, hz0, hz1, hz2⟩ := info_parts infoVal
  have hmn := many_any R B n c k A ws l.length most w h (show ws[k]? = some (wd (l.length : Int)) from hx.head) hm (by omega) hn
  have hsg : ∀ i v, l[i]? = some v → ws[k + 1 + i]? = some (boxW bxT v) := fun i v hv => (Sg.tail hx).get (by rw [List.getElem?_map, hv]; rfl)
  have hRl := h.r.lt
  obtain ⟨ln, hln⟩ : ∃ ln, l.length = ln := ⟨_, rfl⟩
  rw [hln] at hmn hl
  have H := Lib.hid (And.intro (hmn) (And.intro (hsg) (And.intro (hv) (hln))))
  clear hmn hsg hv hx h hm hln
  go_enter Tryz.func96, Tryz.ntmps96
  go_wp2_with fail
  refine H.out.1.mono ?_
  rintro e w1 ⟨rfl, r1, t1⟩
  have hs1 := t1.size
  have H1 := Lib.hid (And.intro (r1) (t1))
  clear r1 t1
  go_wp2_with fail
  go_loopg [5, 6] (ln) (fun gk ov nv wr => ∃ (i j : Nat) (VA : Option Addr) (vc : Nat), i ≤ ln ∧ gk = ln - i ∧ j ≤ ln ∧ nv = .int .i64 j ∧ ov = .slice VA i vc ∧ Hid (i + j = ln ∧ RdS wr R B A n c (k + 1 + i) ws ∧ Own wr w.heap.size 48 VA vc (l.take i) ∧ Tr R w wr) ∧ w1.heap.size ≤ wr.heap.size)
  case atStart => exact ⟨0, ln, none, 0, Nat.zero_le _, by omega, Nat.le_refl _, rfl, rfl, ⟨by omega, H1.out.1, by simpa using Own.nil_, H1.out.2⟩, Nat.le_refl _⟩
  case round =>
    obtain ⟨i, j, VA, vc, hil, rfl, hjl, rfl, rfl, hkeep, hsz⟩ := hrel
    have q2 := hkeep.out.2.1.r.cell 2 (v := .bool false) rfl
    by_cases hj : 0 < j
    · obtain ⟨j', rfl⟩ : ∃ j', j = j' + 1 := ⟨j - 1, by omega⟩
      have hij := hkeep.out.1
      have hit : i < l.length := by have := H.out.2.2.2; omega
      obtain ⟨v, hv⟩ : ∃ v, l[i]? = some v := ⟨_, List.getElem?_eq_getElem hit⟩
      obtain ⟨hrv, hok⟩ := H.out.2.2.1 v (List.mem_of_getElem? hv)
      have hvl := value_any R B n c (k + 1 + i) A ws v wr hkeep.out.2.1 (H.out.2.1 i v hv) hrv hn
      have hlt : (l.take i).length = i := by rw [List.length_take]; omega
      have htk : l.take (i + 1) = l.take i ++ [v] := by rw [List.take_add_one, hv]; rfl
      have d0 : decide ((0 : Int) < (j' : Int) + 1) = true := decide_eq_true (by omega)
      have d1 : (0 : Int) < (j' : Int) + 1 := by omega
      have hi2 : i ≤ 1000 := by omega
      have HX := Lib.hid (And.intro (hvl) (And.intro (hkeep.out.2) (And.intro (hok) (And.intro (hlt) (And.intro (htk) (hij))))))
      clear hvl hok hlt htk hkeep hv hrv hit hij
      go_wp2_with fail
      refine HX.out.1.mono ?_
      rintro e w2 ⟨rfl, r2, t2⟩
      have hs2 := t2.size
      have hO2 := (t2.own HX.out.2.1.1.r HX.out.2.1.2.1 (by decide)).alloc (.cells #[.int .i64 v.1, .int .i64 v.2] 48)
      have hat := At.built w2 #[.int .i64 v.1, .int .i64 v.2] 48 [v] rfl (by intro z hz; simp at hz; subst hz; exact HX.out.2.2.1)
      have hRa := r2.fresh ((Below.refl _ _).alloc (Nat.le_refl _) (.cells #[.int .i64 v.1, .int .i64 v.2] 48))
      have hTa : Tr R w (w2.alloc (.cells #[.int .i64 v.1, .int .i64 v.2] 48)) := (HX.out.2.1.2.2.trans t2).alloc _
      have H2 := Lib.hid (And.intro (hO2) (And.intro (hat) (And.intro (hRa) (hTa))))
      clear hO2 hat hRa hTa r2 t2 q2
      go_wp2_with (at_builtin; go_must (refine wpList_app (α := Int × Int) (n := i) (m := 1) (B := w2.heap.size + 1) (r := [v]) rfl (.tmp 21) (.tmp 24) _ rfl w.heap.size 48 i0 _ 16 Tryz.underlying23 hi hz0 hz1 hz2 rfl (by decide) pair_oneT (by rfl) HX.out.2.2.2.1 H2.out.1 (by rfl) H2.out.2.1 rfl (by omega) (by simp only [maxLen]; omega) (by simp; omega) ?_))
      intro A3 c3 w3 hown3 hgr3 hat3
      have hs3 := hgr3.size
      rw [World.size_alloc] at hs3
      have hne := own_ne_ty H2.out.1 H2.out.2.2.1.r (by decide)
      have r3 : RdS w3 R B A n c (k + 1 + i + 1) ws := ⟨H2.out.2.2.1.r.grown hgr3 hne, H2.out.2.2.1.a.below ((Below.refl B _).grown hgr3 (by have := H2.out.2.2.1.hB; simp; omega) (fun g hg => by have h1 := (H2.out.1.lt g hg).1; have h2 := H2.out.2.2.1.hB; omega)), H2.out.2.2.1.n, H2.out.2.2.1.hB⟩
      have t3 : Tr R w w3 := ⟨hgr3.os.trans H2.out.2.2.2.os, hgr3.tape.trans H2.out.2.2.2.tape, hgr3.output.trans H2.out.2.2.2.output, by omega, fun g hg hF => (hgr3.block g (by simp; omega) (fun e => by have h1 := (H2.out.1.lt g e.symm).1; omega)).trans (H2.out.2.2.2.block g hg hF)⟩
      have H3 := Lib.hid (And.intro (r3) (And.intro (t3) (hown3)))
      clear r3 t3 hown3 hgr3 hat3 hne
      go_wp2_with fail
      go_roundg (ln - (i + 1))
      case measure => have := HX.out.2.2.2.2.2; omega
      case rel => exact ⟨i + 1, j', A3, c3, by have := HX.out.2.2.2.2.2; omega, rfl, by omega, by go_num, rfl, ⟨by have := HX.out.2.2.2.2.2; omega, H3.out.1, by rw [HX.out.2.2.2.2.1]; exact H3.out.2.2, H3.out.2.1⟩, by omega⟩
    · obtain rfl : j = 0 := by omega
      have hin : i = ln := by have := hkeep.out.1; omega
      subst hin
      obtain ⟨-, r2, o2, t2⟩ := hkeep.out
      rw [List.take_of_length_le (by have := H.out.2.2.2; omega)] at o2
      have HK := Lib.hid (And.intro (r2) (And.intro (o2) (t2)))
      clear r2 o2 t2 hkeep
      go_wp2_with fail
      rw [← HP.out]
      refine ⟨VA, vc, by rw [H.out.2.2.2]; rfl, ?_, HK.out.2.2, HK.out.2.1⟩
      have e : k + (valsW bxT l).length = k + 1 + i := by rw [valsW_length, H.out.2.2.2]; omega
      rw [e]
      exact HK.out.1
end Top
end Go.Proofs.YtdlcooplllimeaaGreatDoor
