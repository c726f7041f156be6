/- RF: FuncsA. -/
import Derived.Test.YtljdnadejmkaeaaRF4
import Derived.Shelf.GgClosure.Gives
/-
  slices.IndexFunc, slices.ContainsFunc at structs of two ints, whatever predicate is handed in that lays only blocks of its own.
-/
namespace Go.Proofs.Ytljdnadejmkaeaa
open Go.RowKit

/-- the first place at which p holds, or -1 -/
def idxI {α : Type} (p : α → Bool) (l : List α) : Int := if l.any p then (l.findIdx p : Int) else -1

theorem idxI_hit {α : Type} (p : α → Bool) (l : List α) (k : Nat) (x : α) (h : l[k]? = some x) (hp : p x = true) (hno : (l.take k).any p = false) : idxI p l = (k : Int) := by
  have hk : k < l.length := (List.getElem?_eq_some_iff.1 h).1
  have hany : l.any p = true := List.any_eq_true.2 ⟨x, List.mem_of_getElem? h, hp⟩
  have hf : l.findIdx p = k := by
    rw [List.findIdx_eq hk]
    refine ⟨by rw [List.getElem?_eq_getElem hk] at h; rw [Option.some.inj h]; exact hp, fun j hj => ?_⟩
    have := List.any_eq_false.1 hno (l[j]'(by omega)) (by
      rw [List.mem_take_iff_getElem]; exact ⟨j, by omega, rfl⟩)
    simpa using this
  unfold idxI
  rw [if_pos hany, hf]
theorem any_snoc {α : Type} (p : α → Bool) (l : List α) (k : Nat) (x : α) (h : l[k]? = some x) : (l.take (k + 1)).any p = ((l.take k).any p || p x) := by
  rw [List.take_add_one, h]; simp [List.any_append]

def PredP (P : Program) (g : Nat) (lb : Array Value) (p : Int × Int → Bool) (l : List (Int × Int)) (w : World) : Prop :=
  ∀ (W : World) (x : Int × Int), x ∈ l → Flat.ok x → Below w.heap.size w W → Calls P g (#[.agg #[.int .i64 x.1, .int .i64 x.2]] ++ lb) W fun e W' => e = .returned (.bool (p x)) ∧ Below W.heap.size W W'

set_option maxHeartbeats 800000 in
set_option maxRecDepth 100000 in
theorem indexFuncRMove_any (A : Option Addr) (c B g : Nat) (lb : Array Value) (p : Int × Int → Bool) (l : List (Int × Int)) (w : World) (h : At w B A l) (hB : B ≤ w.heap.size) (hl : l.length ≤ 9223372036854775807)
    (eg : ∀ args w, (callFunc g args).run Try.prog w = .ok (.enter g args) w) (hp : PredP Try.prog g lb p l w) :
    Calls Try.prog 105 #[.slice A l.length c, .func (.func g) #[] lb] w fun e w' => e = .returned (.int .i64 (idxI p l)) ∧ Below w.heap.size w w' := by
  have H := Lib.hid h; clear h
  have HP := Lib.hid hp; clear hp
  go_enter Try.func105, Try.ntmps105
  go_wp2
  go_loopw [8] (fun i wr => ∃ k : Nat, k ≤ l.length ∧ i = .int .i64 k ∧ Hid ((l.take k).any p = false) ∧ Below w.heap.size w wr) (fun i _ => l.length - (intOf i).toNat)
  case atStart => exact ⟨0, Nat.zero_le _, rfl, by simp [Hid], Below.refl _ _⟩
  case round =>
    obtain ⟨k, hk, rfl, hno, hbl⟩ := hrel
    have hsz := hbl.size
    by_cases hlt : k < l.length
    · obtain ⟨b, o, x, y, rfl, hb, hx, hox, hoy, h0, h1⟩ := (H.out.below (hbl.mono hB)).pair hlt
      have hk0 : (0 : Int) ≤ (k : Int) := by omega
      have hk1 : (k : Int) < (l.length : Int) := by omega
      have hcall := HP.out wr (x, y) (List.mem_of_getElem? hx) ⟨hox, hoy⟩ hbl
      have HX := Lib.hid hx; clear hx
      cases hq : p (x, y) with
      | true =>
        rw [hq] at hcall
        have HC := Lib.hid hcall; clear hcall
        have HQ := Lib.hid hq; clear hq
        go_wp2_with (go_at_fn g; refine HC.out.mono ?_; rintro e w' ⟨rfl, hb'⟩)
        go_ret
        exact ⟨by rw [idxI_hit p l k (x, y) HX.out HQ.out hno.out]; rfl, hbl.trans (hb'.mono hsz)⟩
      | false =>
        rw [hq] at hcall
        have HC := Lib.hid hcall; clear hcall
        have HQ := Lib.hid hq; clear hq
        go_wp2_with (go_at_fn g; refine HC.out.mono ?_; rintro e w' ⟨rfl, hb'⟩)
        go_roundw
        case rel => exact ⟨k + 1, by omega, by go_num, by unfold Hid; rw [any_snoc _ _ _ _ HX.out, hno.out, HQ.out]; rfl, hbl.trans (hb'.mono hsz)⟩
        case measure => simp [intOf]; omega
    · go_wp2
      go_ret
      exact ⟨by have h1 := hno.out; rw [List.take_of_length_le (by omega)] at h1; unfold idxI; rw [h1]; rfl, hbl⟩

theorem containsFuncRMove_any (A : Option Addr) (c B g : Nat) (lb : Array Value) (p : Int × Int → Bool) (l : List (Int × Int)) (w : World) (h : At w B A l) (hB : B ≤ w.heap.size) (hl : l.length ≤ 9223372036854775807)
    (eg : ∀ args w, (callFunc g args).run Try.prog w = .ok (.enter g args) w) (hp : PredP Try.prog g lb p l w) :
    Calls Try.prog 102 #[.slice A l.length c, .func (.func g) #[] lb] w fun e w' => e = .returned (.bool (l.any p)) ∧ Below w.heap.size w w' := by
  have HC := Lib.hid (indexFuncRMove_any A c B g lb p l w h hB hl eg hp)
  clear h hp eg
  cases hq : l.any p with
  | true =>
    have hi : idxI p l = (l.findIdx p : Int) := by unfold idxI; rw [if_pos hq]
    rw [hi] at HC
    go_enter Try.func102, Try.ntmps102
    go_wp2_with (go_at_call 105; refine HC.out.mono ?_; rintro e w' ⟨rfl, hb'⟩)
    go_ret
    exact ⟨ret_bool (by simp), hb'⟩
  | false =>
    have hi : idxI p l = -1 := by unfold idxI; rw [hq]; rfl
    rw [hi] at HC
    go_enter Try.func102, Try.ntmps102
    go_wp2_with (go_at_call 105; refine HC.out.mono ?_; rintro e w' ⟨rfl, hb'⟩)
    go_ret
    exact ⟨ret_bool (by simp), hb'⟩

end Go.Proofs.Ytljdnadejmkaeaa
