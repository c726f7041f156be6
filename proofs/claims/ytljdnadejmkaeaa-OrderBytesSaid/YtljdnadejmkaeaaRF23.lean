/- RF: Live10. -/
import Derived.Test.YtljdnadejmkaeaaRF10
import Derived.Test.YtljdnadejmkaeaaRF22
import Derived.Shelf.GgClosure.Gives
/- Is an exit too large: live's own test. -/
namespace Go.Proofs.Ytljdnadejmkaeaa
open Go.RowKit

def PredM (P : Program) (g : Nat) (lb : Array Value) (p : Mk → Bool) (l : List Mk) (w : World) : Prop :=
  ∀ (W : World) (x : Mk) (VA : Option Addr) (vc : Nat), x ∈ l → Below w.heap.size w W → Calls P g (#[.agg #[.int .i64 x.cell, .int .i64 x.kind, .int .i64 x.num, .slice VA x.vals.length vc]] ++ lb) W fun e W' => e = .returned (.bool (p x)) ∧ Below W.heap.size W W'

set_option maxHeartbeats 800000 in
set_option maxRecDepth 100000 in
theorem indexFuncMk_any (A : Option Addr) (c B g : Nat) (lb : Array Value) (p : Mk → Bool) (l : List Mk) (w : World) (h : At w B A l) (hB : B ≤ w.heap.size) (hl : l.length ≤ 9223372036854775807)
    (eg : ∀ args w, (callFunc g args).run Try.prog w = .ok (.enter g args) w) (hp : PredM Try.prog g lb p l w) :
    Calls Try.prog 142 #[.slice A l.length c, .func (.func g) #[] lb] w fun e w' => e = .returned (.int .i64 (idxI p l)) ∧ Below w.heap.size w w' := by
  have H := Lib.hid h; clear h
  have HP := Lib.hid hp; clear hp
  go_enter Try.func142, Try.ntmps142
  go_wp2
  go_loopw [8] (fun i wr => ∃ k : Nat, k ≤ l.length ∧ i = .int .i64 k ∧ Hid ((l.take k).any p = false) ∧ Below w.heap.size w wr) (fun i _ => l.length - (intOf i).toNat)
  case atStart => exact ⟨0, Nat.zero_le _, rfl, by simp [Hid], Below.refl _ _⟩
  case round =>
    obtain ⟨k, hk, rfl, hno, hbl⟩ := hrel
    have hsz := hbl.size
    by_cases hlt : k < l.length
    · obtain ⟨b, o, x, VA, vc, rfl, hb, hx, h0, h1, h2, h3, -, -, -⟩ := (H.out.below (hbl.mono hB)).mk_ hlt
      have hk0 : (0 : Int) ≤ (k : Int) := by omega
      have hk1 : (k : Int) < (l.length : Int) := by omega
      have hcall := HP.out wr x VA vc (List.mem_of_getElem? hx) hbl
      have HX := Lib.hid hx; clear hx
      cases hq : p x with
      | true =>
        rw [hq] at hcall
        have HC := Lib.hid hcall; clear hcall
        have HQ := Lib.hid hq; clear hq
        go_wp2_with (go_at_fn g; refine HC.out.mono ?_; rintro e w' ⟨rfl, hb'⟩)
        go_ret
        exact ⟨by rw [idxI_hit p l k x HX.out HQ.out hno.out]; rfl, hbl.trans (hb'.mono hsz)⟩
      | false =>
        rw [hq] at hcall
        have HC := Lib.hid hcall; clear hcall
        have HQ := Lib.hid hq; clear hq
        go_wp2_with (go_at_fn g; refine HC.out.mono ?_; rintro e w' ⟨rfl, hb'⟩)
        go_roundw
        case rel => exact ⟨k + 1, by omega, by go_num, by unfold Hid; rw [any_snoc _ _ _ _ HX.out, hno.out, HQ.out]; rfl, hbl.trans (hb'.mono hsz)⟩
        case measure => simp [intOf]; omega
    · go_wp2
      go_ret
      exact ⟨by have h1 := hno.out; rw [List.take_of_length_le (by omega)] at h1; unfold idxI; rw [h1]; rfl, hbl⟩

theorem containsFuncMk_any (A : Option Addr) (c B g : Nat) (lb : Array Value) (p : Mk → Bool) (l : List Mk) (w : World) (h : At w B A l) (hB : B ≤ w.heap.size) (hl : l.length ≤ 9223372036854775807)
    (eg : ∀ args w, (callFunc g args).run Try.prog w = .ok (.enter g args) w) (hp : PredM Try.prog g lb p l w) :
    Calls Try.prog 116 #[.slice A l.length c, .func (.func g) #[] lb] w fun e w' => e = .returned (.bool (l.any p)) ∧ Below w.heap.size w w' := by
  have HC := Lib.hid (indexFuncMk_any A c B g lb p l w h hB hl eg hp)
  clear h hp eg
  cases hq : l.any p with
  | true =>
    have hi : idxI p l = (l.findIdx p : Int) := by unfold idxI; rw [if_pos hq]
    rw [hi] at HC
    go_enter Try.func116, Try.ntmps116
    go_wp2_with (go_at_call 142; refine HC.out.mono ?_; rintro e w' ⟨rfl, hb'⟩)
    go_ret
    exact ⟨ret_bool (by simp), hb'⟩
  | false =>
    have hi : idxI p l = -1 := by unfold idxI; rw [hq]; rfl
    rw [hi] at HC
    go_enter Try.func116, Try.ntmps116
    go_wp2_with (go_at_call 142; refine HC.out.mono ?_; rintro e w' ⟨rfl, hb'⟩)
    go_ret
    exact ⟨ret_bool (by simp), hb'⟩


theorem egLarge : ∀ args w, (callFunc 117 args).run Try.prog w = .ok (.enter 117 args) w := fun _ _ => by kernel_rfl
theorem predLarge (l : List Mk) (w : World) : PredM Try.prog 117 #[] Liv.wide l w := by
  rintro W x VA vc _ _
  change Calls Try.prog 117 #[.agg #[.int .i64 x.cell, .int .i64 x.kind, .int .i64 x.num, .slice VA x.vals.length vc]] W _
  go_enter Try.func117, Try.ntmps117
  go_wp2
  go_ret
  exact ⟨ret_bool (by rw [Bool.eq_iff_iff]; simp [Liv.wide]; try omega), (Below.refl _ _).alloc (Nat.le_refl _) _⟩

end Go.Proofs.Ytljdnadejmkaeaa
