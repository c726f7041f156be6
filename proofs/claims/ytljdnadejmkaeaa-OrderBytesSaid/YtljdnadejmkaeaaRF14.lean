/- RF: Live6. -/
import Derived.Test.YtljdnadejmkaeaaRF10
import Derived.Test.YtljdnadejmkaeaaRF13
import Derived.Shelf.GgClosure.Gives
/- Whether numbers are values of instructions ahead of a place: live.all. -/
namespace Go.Proofs.Ytljdnadejmkaeaa
open Go.RowKit

def PredI (P : Program) (g : Nat) (lb : Array Value) (p : Int → Bool) (l : List Int) (w : World) : Prop :=
  ∀ (W : World) (x : Int), x ∈ l → I64 x → Below w.heap.size w W → Calls P g (#[.int .i64 x] ++ lb) W fun e W' => e = .returned (.bool (p x)) ∧ Below W.heap.size W W'

set_option maxHeartbeats 800000 in
set_option maxRecDepth 100000 in
theorem indexFuncInt_any (A : Option Addr) (c B g : Nat) (lb : Array Value) (p : Int → Bool) (l : List Int) (w : World) (h : At w B A l) (hB : B ≤ w.heap.size) (hl : l.length ≤ 9223372036854775807)
    (eg : ∀ args w, (callFunc g args).run Try.prog w = .ok (.enter g args) w) (hp : PredI Try.prog g lb p l w) :
    Calls Try.prog 141 #[.slice A l.length c, .func (.func g) #[] lb] w fun e w' => e = .returned (.int .i64 (idxI p l)) ∧ Below w.heap.size w w' := by
  have H := Lib.hid h; clear h
  have HP := Lib.hid hp; clear hp
  go_enter Try.func141, Try.ntmps141
  go_wp2
  go_loopw [8] (fun i wr => ∃ k : Nat, k ≤ l.length ∧ i = .int .i64 k ∧ Hid ((l.take k).any p = false) ∧ Below w.heap.size w wr) (fun i _ => l.length - (intOf i).toNat)
  case atStart => exact ⟨0, Nat.zero_le _, rfl, by simp [Hid], Below.refl _ _⟩
  case round =>
    obtain ⟨k, hk, rfl, hno, hbl⟩ := hrel
    have hsz := hbl.size
    by_cases hlt : k < l.length
    · obtain ⟨b, o, x, rfl, hb, hx, hox, h0⟩ := (H.out.below (hbl.mono hB)).int_ hlt
      have hk0 : (0 : Int) ≤ (k : Int) := by omega
      have hk1 : (k : Int) < (l.length : Int) := by omega
      have hcall := HP.out wr x (List.mem_of_getElem? hx) hox hbl
      have HX := Lib.hid hx; clear hx
      cases hq : p x with
      | true =>
        rw [hq] at hcall
        have HC := Lib.hid hcall; clear hcall
        have HQ := Lib.hid hq; clear hq
        go_wp2_with (go_at_fn g; refine HC.out.mono ?_; rintro e w' ⟨rfl, hb'⟩)
        go_ret
        exact ⟨by rw [idxI_hit p l k x HX.out HQ.out hno.out]; rfl, hbl.trans (hb'.mono hsz)⟩
      | false =>
        rw [hq] at hcall
        have HC := Lib.hid hcall; clear hcall
        have HQ := Lib.hid hq; clear hq
        go_wp2_with (go_at_fn g; refine HC.out.mono ?_; rintro e w' ⟨rfl, hb'⟩)
        go_roundw
        case rel => exact ⟨k + 1, by omega, by go_num, by unfold Hid; rw [any_snoc _ _ _ _ HX.out, hno.out, HQ.out]; rfl, hbl.trans (hb'.mono hsz)⟩
        case measure => simp [intOf]; omega
    · go_wp2
      go_ret
      exact ⟨by have h1 := hno.out; rw [List.take_of_length_le (by omega)] at h1; unfold idxI; rw [h1]; rfl, hbl⟩

theorem containsFuncInt_any (A : Option Addr) (c B g : Nat) (lb : Array Value) (p : Int → Bool) (l : List Int) (w : World) (h : At w B A l) (hB : B ≤ w.heap.size) (hl : l.length ≤ 9223372036854775807)
    (eg : ∀ args w, (callFunc g args).run Try.prog w = .ok (.enter g args) w) (hp : PredI Try.prog g lb p l w) :
    Calls Try.prog 112 #[.slice A l.length c, .func (.func g) #[] lb] w fun e w' => e = .returned (.bool (l.any p)) ∧ Below w.heap.size w w' := by
  have HC := Lib.hid (indexFuncInt_any A c B g lb p l w h hB hl eg hp)
  clear h hp eg
  cases hq : l.any p with
  | true =>
    have hi : idxI p l = (l.findIdx p : Int) := by unfold idxI; rw [if_pos hq]
    rw [hi] at HC
    go_enter Try.func112, Try.ntmps112
    go_wp2_with (go_at_call 141; refine HC.out.mono ?_; rintro e w' ⟨rfl, hb'⟩)
    go_ret
    exact ⟨ret_bool (by simp), hb'⟩
  | false =>
    have hi : idxI p l = -1 := by unfold idxI; rw [hq]; rfl
    rw [hi] at HC
    go_enter Try.func112, Try.ntmps112
    go_wp2_with (go_at_call 141; refine HC.out.mono ?_; rintro e w' ⟨rfl, hb'⟩)
    go_ret
    exact ⟨ret_bool (by simp), hb'⟩


namespace Liv
def bad (ins : List TI) (at_ : Int) (v : Int) : Bool := decide (v < 0) || decide (at_ ≤ v) || (ins[v.toNat]?).elim true fun x => !(tells x.op)
end Liv
theorem egAll : ∀ args w, (callFunc 113 args).run Try.prog w = .ok (.enter 113 args) w := fun _ _ => by kernel_rfl

set_option maxRecDepth 100000 in
theorem predAll (GN GT B ic : Nat) (IA : Option Addr) (ins : List TI) (at_ : Int) (cs : Array Value) (l : List Int) (w : World) (hN : Blk w GN 3 #[.int .i64 at_]) (hT : Blk w GT 72 cs) (hcs : cs[3]? = some (.slice IA ins.length ic)) (hI : At w B IA ins) (hB : B ≤ w.heap.size) (hil : ins.length ≤ 9223372036854775807) :
    PredI Try.prog 113 #[.pointer (some ⟨GN, 0, none⟩), .pointer (some ⟨GT, 0, none⟩)] (Liv.bad ins at_) l w := by
  rintro W v _ hv hb
  change Calls Try.prog 113 #[.int .i64 v, .pointer (some ⟨GN, 0, none⟩), .pointer (some ⟨GT, 0, none⟩)] W _
  have c0 := (hN.fresh hb).cell 0 (v := .int .i64 at_) rfl
  have c3 := (hT.fresh hb).cell 3 hcs
  have ltN : GN < W.heap.size := by have := hN.lt; have := hb.size; omega
  have ltT : GT < W.heap.size := by have := hT.lt; have := hb.size; omega
  have HI := Lib.hid (hI.below (hb.mono hB)); clear hI hN hT hcs
  obtain ⟨q, hq⟩ : ∃ q, Liv.bad ins at_ v = q := ⟨_, rfl⟩
  rw [hq]
  by_cases h0 : v < 0
  · have : q = true := by rw [← hq]; simp [Liv.bad, h0]
    clear hq; subst this
    go_enter Try.func113, Try.ntmps113
    go_wp2_with fail
    go_ret
    exact ⟨rfl, Below.refl _ _⟩
  · by_cases h1 : at_ ≤ v
    · have : q = true := by rw [← hq]; simp [Liv.bad, h1]
      clear hq; subst this
      go_enter Try.func113, Try.ntmps113
      go_wp2_with fail
      go_ret
      exact ⟨rfl, Below.refl _ _⟩
    · by_cases h2 : (ins.length : Int) ≤ v
      · have : q = true := by rw [← hq]; unfold Liv.bad; rw [List.getElem?_eq_none (by omega)]; simp
        clear hq; subst this
        go_enter Try.func113, Try.ntmps113
        go_wp2_with fail
        go_ret
        exact ⟨rfl, Below.refl _ _⟩
      · obtain ⟨k, rfl⟩ : ∃ k : Nat, v = (k : Int) := ⟨v.toNat, by omega⟩
        obtain ⟨b, o, x, rfl, hbB, hx, d0, -⟩ := HI.out.tI_ (by omega : k < ins.length)
        have hql : q = !(Liv.tells x.op) := by rw [← hq]; unfold Liv.bad; rw [Int.toNat_natCast, hx]; simp [h1]; intro h; exact absurd h h0
        have HQ := Lib.hid hql; clear hql hq hx
        have hk0 : (0 : Int) ≤ (k : Int) := by omega
        have hk1 : (k : Int) < (ins.length : Int) := by omega
        clear h0
        go_enter Try.func113, Try.ntmps113
        go_wp2_with fail
        refine (irTells_any x.op W).mono ?_
        rintro e w1 ⟨rfl, hb1⟩
        cases ht : Liv.tells x.op with
        | true =>
          rw [ht] at HQ
          clear ht
          go_wp2_with fail
          go_ret
          exact ⟨by rw [HQ.out]; rfl, hb1⟩
        | false =>
          rw [ht] at HQ
          clear ht
          go_wp2_with fail
          go_ret
          exact ⟨by rw [HQ.out]; rfl, hb1⟩

set_option maxRecDepth 100000 in
theorem lall_any (B C ic lc n : Nat) (IA LA : Option Addr) (ins : List TI) (l : List Int) (at_ : Int) (v0 v1 v2 v4 v5 v6 v7 v8 v9 v10 v11 v12 : Value) (w : World) (hI : At w B IA ins) (hB : B ≤ w.heap.size) (hil : ins.length ≤ 9223372036854775807) (hn : l.length = n) (hL : At w C LA l) (hC : C ≤ w.heap.size) (hl : n ≤ 9223372036854775807) :
    Calls Try.prog 70 #[.agg #[v0, v1, v2, .slice IA ins.length ic, v4, v5, v6, v7, v8, v9, v10, v11, v12], .slice LA n lc, .int .i64 at_] w fun e w' => e = .returned (.bool (!(l.any (Liv.bad ins at_)))) ∧ Below w.heap.size w w' := by
  subst hn
  have H := Lib.hid (And.intro hI hL); clear hI hL
  obtain ⟨q, hq⟩ : ∃ q, l.any (Liv.bad ins at_) = q := ⟨_, rfl⟩
  rw [hq]
  have HQ := Lib.hid hq; clear hq
  go_enter Try.func70, Try.ntmps70
  go_wp2_with fail
  refine calls_world (fun W => Blk W (w.heap.size + 1) 3 #[.int .i64 at_] ∧ Blk W w.heap.size 72 #[v0, v1, v2, .slice IA ins.length ic, v4, v5, v6, v7, v8, v9, v10, v11, v12] ∧ Below w.heap.size w W ∧ w.heap.size + 2 ≤ W.heap.size) ⟨Blk.at_ _ _ _ (by simp), (Blk.new _ _ _).alloc _, ((Below.refl _ _).alloc (Nat.le_refl _) _).alloc (by simp) _, by simp⟩ ?_
  rintro W ⟨hN, hT, hb0, hs0⟩
  refine (containsFuncInt_any LA lc C 113 _ (Liv.bad ins at_) l W (H.out.2.below (hb0.mono hC)) (by omega) hl egAll (predAll (w.heap.size + 1) w.heap.size B ic IA ins at_ _ l W hN hT rfl (H.out.1.below (hb0.mono hB)) (by omega) hil)).mono ?_
  rintro e w1 ⟨rfl, hb1⟩
  rw [HQ.out]
  clear hN hT
  cases q with
  | true =>
    go_wp2_with fail
    go_ret
    exact ⟨rfl, hb0.trans (hb1.mono (by omega))⟩
  | false =>
    go_wp2_with fail
    go_ret
    exact ⟨rfl, hb0.trans (hb1.mono (by omega))⟩

end Go.Proofs.Ytljdnadejmkaeaa
