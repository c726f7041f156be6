/- The words of a list of cells. -/
import Derived.Test.YtpkccpegdpodoaaWor5
namespace Go.Proofs.Ytpkccpegdpodoaa
open Go.RowKit

theorem At.take_ {α : Type} [Enc α] {w : World} {B : Nat} {A : Option Addr} {l : List α} (h : At w B A l) (k : Nat) : At w B A (l.take k) := fun i x hx => h i x (by
  rw [List.getElem?_take] at hx
  split at hx
  · exact hx
  · cases hx)
def errC (e : Int) (l : List Ce) : Int := l.foldl (fun e c => if e = 0 then cellErr bx c else e) e
theorem errC_snoc (e : Int) (l : List Ce) (k : Nat) (x : Ce) (h : l[k]? = some x) : errC e (l.take (k + 1)) = if errC e (l.take k) = 0 then cellErr bx x else errC e (l.take k) := by
  rw [List.take_add_one, h]; unfold errC; rw [List.foldl_append]; rfl
theorem errC_stays (e : Int) (l : List Ce) (h : e ≠ 0) : errC e l = e := by
  unfold errC
  induction l with
  | nil => rfl
  | cons v l ih => rw [List.foldl_cons, if_neg h, ih]
theorem errC_hit (l : List Ce) (k : Nat) (x : Ce) (h : l[k]? = some x) (h0 : errC 0 (l.take k) = 0) (hx : cellErr bx x ≠ 0) : errC 0 l = cellErr bx x := by
  have hs := errC_snoc 0 l k x h
  rw [if_pos h0] at hs
  have e : l = l.take (k + 1) ++ l.drop (k + 1) := (List.take_append_drop _ _).symm
  have ha : errC 0 (l.take (k + 1) ++ l.drop (k + 1)) = errC (errC 0 (l.take (k + 1))) (l.drop (k + 1)) := List.foldl_append
  rw [e, ha, hs, errC_stays _ _ hx]
def allErr (l : List Ce) : Int := errC (if 300 < l.length then 2 else 0) l
def allW (l : List Ce) : List U64 := wd l.length :: l.flatMap (cellW bx)
theorem large_of {c : Ce} (h : cellErr bx c = 0) : cellLarge c = false := by
  cases hl : cellLarge c with
  | false => rfl
  | true => unfold cellErr at h; rw [if_pos hl] at h; cases h

def AllPost (l : List Ce) (w : World) (e : Ending) (w' : World) : Prop :=
  Below w.heap.size w w' ∧ ((allErr l = 0 ∧ ∃ A d, e = .returned (.tuple #[.slice A (allW l).length d, .int .i64 0]) ∧ Own w' w.heap.size 24 A d (allW l)) ∨
    (allErr l ≠ 0 ∧ e = .returned (.tuple #[.slice none 0 0, .int .i64 (allErr l)])))

set_option maxHeartbeats 1600000 in
set_option maxRecDepth 100000 in
theorem all_any (B lc n : Nat) (LA : Option Addr) (l : List Ce) (w : World) (hn : l.length = n) (h : At w B LA l) (hB : B ≤ w.heap.size) (hm : n ≤ 310) :
    Calls Try.prog 35 #[.slice LA n lc] w (AllPost l w) := by
  obtain ⟨i0, hi, hz0, hz1, hz2⟩ := info_parts infoU64
  have H := Lib.hid (And.intro h hn); clear h hn
  by_cases h300 : 300 < n
  · have hE : allErr l = 2 := by unfold allErr; rw [if_pos (by have := H.out.2; omega), errC_stays _ _ (by decide)]
    have HE := Lib.hid hE; clear hE
    go_enter Try.func35, Try.ntmps35
    go_wp2_with fail
    go_ret2
    exact ⟨Below.refl _ _, .inr (by rw [HE.out]; exact ⟨by decide, rfl⟩)⟩
  · have hE : allErr l = errC 0 l := by unfold allErr; rw [if_neg (by have := H.out.2; omega)]
    have HE := Lib.hid hE; clear hE
    have hcn : IntKind.u64.wrap (n : Int) = (n : Int) % 18446744073709551616 := IntKind.wrap_u64 _
    go_enter Try.func35, Try.ntmps35
    go_wp2_with fail
    clear hcn
    go_loopg [4, 18] (n) (fun gk ov iv wr => ∃ (k : Nat) (A2 : Option Addr) (c2 : Nat) (o1 : List U64), k ≤ n ∧ gk = n - k ∧ iv = .int .i64 k ∧ ov = .slice A2 o1.length c2 ∧ o1.length ≤ 1 + k * 10000 ∧ Hid (o1 = [wd n] ++ (l.take k).flatMap (cellW bx) ∧ errC 0 (l.take k) = 0 ∧ Own wr w.heap.size 24 A2 c2 o1) ∧ Below w.heap.size w wr)
    case atStart => exact ⟨0, some ⟨w.heap.size, 0, none⟩, 1, [wd n], Nat.zero_le _, rfl, rfl, rfl, by simp, ⟨by simp, rfl, own_lit w w.heap.size w.heap.size 1 24 _ [wd n] rfl rfl (Nat.le_refl _) rfl (by simp [maxLen])⟩, (Below.refl _ _).alloc (Nat.le_refl _) _⟩
    case round =>
      obtain ⟨k, A2, c2, o1, hk, rfl, rfl, rfl, ho1, hkeep, hbl⟩ := hrel
      have hsz := hbl.size
      by_cases hlt : k < n
      · obtain ⟨b, o, x, VA, vc, FA, fc, rfl, hb, hx, e0, e1, e2, e3, av, hvc, af, hfc, j0, j1⟩ := (H.out.1.below (hbl.mono hB)).ce_ (by have := H.out.2; omega : k < l.length)
        have hsn := errC_snoc 0 l k x hx
        rw [if_pos hkeep.out.2.1] at hsn
        have hhit := errC_hit l k x hx hkeep.out.2.1
        have hfs := flatMap_snoc (cellW bx) l k x hx
        have hk0 : (0 : Int) ≤ (k : Int) := by omega
        have hk1 : (k : Int) < (n : Int) := by omega
        obtain ⟨hvc1, hvc2⟩ := hvc
        obtain ⟨hfc1, hfc2⟩ := hfc
        unfold maxLen at hvc2 hfc2
        have HX := Lib.hid (And.intro hsn (And.intro hhit (And.intro hfs (And.intro av (And.intro af (And.intro hkeep.out (And.intro j0 j1))))))); clear hsn hhit hfs av af hx j0 j1 hkeep
        go_wp2_with fail
        refine (of_any B vc fc VA FA x _ (HX.out.2.2.2.1.alloc (by omega) _) (HX.out.2.2.2.2.1.alloc (by omega) _) (by simp; omega) (by omega) (by omega) HX.out.2.2.2.2.2.2).mono ?_
        rintro e w2 ⟨hb2, hp⟩
        have hs2 : wr.heap.size + 1 ≤ w2.heap.size := by have := hb2.size; simp at this; omega
        have hbl2 : Below w.heap.size w w2 := (hbl.alloc hsz _).trans (hb2.mono (by simp; omega))
        have hO2 := (HX.out.2.2.2.2.2.1.2.2.alloc (.cells #[.int .i64 x.kind, .int .i64 x.num, .slice VA x.vals.length vc, .slice FA x.frames.length fc] 38)).fresh hb2
        clear e0 e1 e2 e3
        rcases hp with ⟨h0, A, d, rfl, hown⟩ | ⟨h0, rfl⟩
        · have hlg := large_of h0
          obtain ⟨cw, hcw⟩ : ∃ cw, cellW bx x = cw := ⟨_, rfl⟩
          have hcwl : cw.length ≤ 10000 := by rw [← hcw]; exact cellW_le hlg
          have hcok : ∀ z ∈ cw, Flat.ok z := by rw [← hcw]; exact cellW_ok x
          rw [hcw] at hown ⊢
          have HO := Lib.hid (And.intro hO2 (And.intro (hown.at_ hcok) (And.intro hcw h0))); clear hO2 hown hcok hcw h0 hlg
          go_wp2_with (at_builtin; go_must (refine wpList_app (α := U64) (n := o1.length) (m := cw.length) (B := w2.heap.size) (r := cw) rfl (.tmp 30) (.tmp 31) _ rfl w.heap.size 24 i0 _ 8 Try.underlying39 hi hz0 hz1 hz2 rfl (by decide) u64_one (by rfl) rfl HO.out.1 (by rfl) HO.out.2.1 rfl (by omega) (by simp only [maxLen]; omega) (by omega) ?_))
          intro A3 c3 w3 hown3 hgr3 hat3
          have hbl3 : Below w.heap.size w w3 := hbl2.grown hgr3 (by omega) (fun g hg => (HO.out.1.lt g hg).1)
          have heq : o1 ++ cw = [wd n] ++ (l.take (k + 1)).flatMap (cellW bx) := by rw [HX.out.2.2.1, HX.out.2.2.2.2.2.1.1, HO.out.2.2.1]; simp
          have hl3 : (o1 ++ cw).length = o1.length + cw.length := List.length_append
          have H3 := Lib.hid (And.intro heq (And.intro hown3 (And.intro hl3 (HX.out.1.trans HO.out.2.2.2)))); clear heq hown3 hl3 hgr3 hat3
          go_wp2_with fail
          go_roundg (n - (k + 1))
          case measure => omega
          case rel => exact ⟨k + 1, A3, c3, _, by omega, rfl, by go_num, by rw [H3.out.2.2.1], by rw [H3.out.2.2.1]; omega, ⟨H3.out.1, H3.out.2.2.2, H3.out.2.1⟩, hbl3⟩
        · have hfin := HE.out.trans (HX.out.2.1 h0)
          obtain ⟨er, her⟩ : ∃ er, cellErr bx x = er := ⟨_, rfl⟩
          rw [her] at h0 hfin ⊢
          have hne : (er != 0) = true := by simp [h0]
          have HF := Lib.hid (And.intro hfin h0); clear hfin h0 her hO2
          go_wp2_with fail
          go_ret2
          exact ⟨hbl2, .inr (by rw [HF.out.1]; exact ⟨HF.out.2, rfl⟩)⟩
      · obtain ⟨k1, k2, k3⟩ := hkeep.out
        rw [List.take_of_length_le (by have := H.out.2; omega)] at k1 k2
        have hk1 : allW l = o1 := by rw [k1]; unfold allW; rw [H.out.2]; rfl
        have HF := Lib.hid (And.intro hk1 (And.intro (HE.out.trans k2) k3)); clear k1 hk1 k2 k3 hkeep
        go_wp2_with fail
        go_ret2
        exact ⟨hbl, .inl (by rw [HF.out.1]; exact ⟨HF.out.2.1, A2, c2, rfl, HF.out.2.2⟩)⟩

end Go.Proofs.Ytpkccpegdpodoaa
