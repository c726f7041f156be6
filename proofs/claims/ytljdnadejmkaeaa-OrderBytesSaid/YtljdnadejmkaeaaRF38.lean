/- RF: Ord12. -/
import Derived.Test.YtljdnadejmkaeaaRF32
import Derived.Test.YtljdnadejmkaeaaRF37
/- order.Check's tests of exits; the list of all exits. -/
namespace Go.Proofs.Ytljdnadejmkaeaa
open Go.RowKit
attribute [local go_sem ↓] Go.wp_at_zero Go.wp_at_succ

def PredX (P : Program) (g : Nat) (lb : Array Value) (p : RE → Bool) (l : List RE) (B : Nat) (w : World) : Prop :=
  ∀ (W : World) (x : RE) (SA MA : Option Addr) (sc mc : Nat), x ∈ l → At W B SA x.sets → At W B MA x.makes → Below w.heap.size w W → Calls P g (#[.agg #[.int .i64 x.at_, .int .i64 x.steps, .slice SA x.sets.length sc, .slice MA x.makes.length mc]] ++ lb) W fun e W' => e = .returned (.bool (p x)) ∧ Below W.heap.size W W'

set_option maxHeartbeats 800000 in
set_option maxRecDepth 100000 in
theorem indexFuncRE_any (A : Option Addr) (c B g : Nat) (lb : Array Value) (p : RE → Bool) (l : List RE) (w : World) (h : At w B A l) (hB : B ≤ w.heap.size) (hl : l.length ≤ 9223372036854775807)
    (eg : ∀ args w, (callFunc g args).run Try.prog w = .ok (.enter g args) w) (hp : PredX Try.prog g lb p l B w) :
    Calls Try.prog 123 #[.slice A l.length c, .func (.func g) #[] lb] w fun e w' => e = .returned (.int .i64 (idxI p l)) ∧ Below w.heap.size w w' := by
  have H := Lib.hid h; clear h
  have HP := Lib.hid hp; clear hp
  go_enter Try.func123, Try.ntmps123
  go_wp2
  go_loopw [8] (fun i wr => ∃ k : Nat, k ≤ l.length ∧ i = .int .i64 k ∧ Hid ((l.take k).any p = false) ∧ Below w.heap.size w wr) (fun i _ => l.length - (intOf i).toNat)
  case atStart => exact ⟨0, Nat.zero_le _, rfl, by simp [Hid], Below.refl _ _⟩
  case round =>
    obtain ⟨k, hk, rfl, hno, hbl⟩ := hrel
    have hsz := hbl.size
    by_cases hlt : k < l.length
    · obtain ⟨b, o, x, SA, sc, MA, mc, rfl, hb, hx, h0, h1, h2, h3, as_, -, am_, -, -, -⟩ := (H.out.below (hbl.mono hB)).rE_ hlt
      have hk0 : (0 : Int) ≤ (k : Int) := by omega
      have hk1 : (k : Int) < (l.length : Int) := by omega
      have hcall := HP.out wr x SA MA sc mc (List.mem_of_getElem? hx) as_ am_ hbl
      have HX := Lib.hid hx; clear hx as_ am_
      cases hq : p x with
      | true =>
        rw [hq] at hcall
        have HC := Lib.hid hcall; clear hcall
        have HQ := Lib.hid hq; clear hq
        go_wp2_with (go_at_fn g; refine HC.out.mono ?_; rintro e w' ⟨rfl, hb'⟩)
        go_ret
        exact ⟨by rw [idxI_hit p l k x HX.out HQ.out hno.out]; rfl, hbl.trans (hb'.mono hsz)⟩
      | false =>
        rw [hq] at hcall
        have HC := Lib.hid hcall; clear hcall
        have HQ := Lib.hid hq; clear hq
        go_wp2_with (go_at_fn g; refine HC.out.mono ?_; rintro e w' ⟨rfl, hb'⟩)
        go_roundw
        case rel => exact ⟨k + 1, by omega, by go_num, by unfold Hid; rw [any_snoc _ _ _ _ HX.out, hno.out, HQ.out]; rfl, hbl.trans (hb'.mono hsz)⟩
        case measure => simp [intOf]; omega
    · go_wp2
      go_ret
      exact ⟨by have h1 := hno.out; rw [List.take_of_length_le (by omega)] at h1; unfold idxI; rw [h1]; rfl, hbl⟩

theorem containsFuncRE_any (A : Option Addr) (c B g : Nat) (lb : Array Value) (p : RE → Bool) (l : List RE) (w : World) (h : At w B A l) (hB : B ≤ w.heap.size) (hl : l.length ≤ 9223372036854775807)
    (eg : ∀ args w, (callFunc g args).run Try.prog w = .ok (.enter g args) w) (hp : PredX Try.prog g lb p l B w) :
    Calls Try.prog 91 #[.slice A l.length c, .func (.func g) #[] lb] w fun e w' => e = .returned (.bool (l.any p)) ∧ Below w.heap.size w w' := by
  have HC := Lib.hid (indexFuncRE_any A c B g lb p l w h hB hl eg hp)
  clear h hp eg
  cases hq : l.any p with
  | true =>
    have hi : idxI p l = (l.findIdx p : Int) := by unfold idxI; rw [if_pos hq]
    rw [hi] at HC
    go_enter Try.func91, Try.ntmps91
    go_wp2_with (go_at_call 123; refine HC.out.mono ?_; rintro e w' ⟨rfl, hb'⟩)
    go_ret
    exact ⟨ret_bool (by simp), hb'⟩
  | false =>
    have hi : idxI p l = -1 := by unfold idxI; rw [hq]; rfl
    rw [hi] at HC
    go_enter Try.func91, Try.ntmps91
    go_wp2_with (go_at_call 123; refine HC.out.mono ?_; rintro e w' ⟨rfl, hb'⟩)
    go_ret
    exact ⟨ret_bool (by simp), hb'⟩


theorem re_one {w : World} {B : Nat} : ∀ cs (x : RE), Enc.rd w B cs x → ∀ u ∈ cs, u.oneCell' = true := by
  rintro cs x ⟨c6, c7, rfl, -, -, ⟨A6, d6, e6, -⟩, ⟨A7, d7, e7, -⟩⟩ u hu
  injection e6 with e6; injection e7 with e7; subst e6 e7
  simp at hu
  rcases hu with rfl | rfl | rfl | rfl <;> rfl
/-- an exit whose cells are known -/
structure ExA where
  x : RE
  SA : Option Addr
  sc : Nat
  MA : Option Addr
  mc : Nat
def ExA.cs (e : ExA) : List Value := [.int .i64 e.x.at_, .int .i64 e.x.steps, .slice e.SA e.x.sets.length e.sc, .slice e.MA e.x.makes.length e.mc]
def ExA.rd (e : ExA) (w : World) (B : Nat) : Prop := Enc.rd w B e.cs e.x
theorem ExA.at_ {e : ExA} {w : World} {B : Nat} (h : e.rd w B) : At w B e.SA e.x.sets ∧ At w B e.MA e.x.makes ∧ I64 e.x.at_ ∧ I64 e.x.steps ∧ e.x.sets.length ≤ 9223372036854775807 ∧ e.x.makes.length ≤ 9223372036854775807 := by
  obtain ⟨c6, c7, h0, h1, h2, ⟨A6, d6, e6, l6, m6, -, t6⟩, ⟨A7, d7, e7, l7, m7, -, t7⟩⟩ := h
  injection e6 with e6; injection e7 with e7; subst e6 e7
  simp [ExA.cs] at h0
  obtain ⟨⟨rfl, rfl⟩, ⟨rfl, rfl⟩⟩ := h0
  unfold maxLen at m6 m7
  exact ⟨t6, t7, h1, h2, by omega, by omega⟩
theorem ExA.below {e : ExA} {w w' : World} {B : Nat} (h : e.rd w B) (hb : Below B w w') : e.rd w' B := Enc.below h hb
def ExA.raw (e : ExA) : Raw 4 := ⟨e.cs, rfl, by intro u hu; simp [ExA.cs] at hu; rcases hu with rfl | rfl | rfl | rfl <;> rfl⟩

theorem egLargeX : ∀ args w, (callFunc 92 args).run Try.prog w = .ok (.enter 92 args) w := fun _ _ => by kernel_rfl
theorem egCheckX : ∀ args w, (callFunc 96 args).run Try.prog w = .ok (.enter 96 args) w := fun _ _ => by kernel_rfl
theorem predXLarge (l : List RE) (B : Nat) (w : World) (hB : B ≤ w.heap.size) (hl : ∀ x ∈ l, x.makes.length ≤ 9223372036854775807) : PredX Try.prog 92 #[] Ord.large l B w := by
  rintro W x SA MA sc mc hx _ hm hb
  exact olarge_any B sc mc SA MA x W hm (by have := hb.size; omega) (hl x hx)
set_option maxRecDepth 100000 in
theorem predXFormed (G B : Nat) (slots : Int) (v0 v1 v2 v4 v5 v6 v7 v8 v9 v10 v11 v12 v13 : Value) (l : List RE) (w : World) (hG : Blk w G 104 #[v0, v1, v2, .int .i64 slots, v4, v5, v6, v7, v8, v9, v10, v11, v12, v13]) (hB : B ≤ w.heap.size)
    (hl : ∀ x ∈ l, (Ord.places x).length * 16 ≤ 140737488355328) : PredX Try.prog 96 #[.pointer (some ⟨G, 0, none⟩)] (fun x => !Ord.formed slots x) l B w := by
  rintro W x SA MA sc mc hx hs hm hb
  change Calls Try.prog 96 #[.agg #[.int .i64 x.at_, .int .i64 x.steps, .slice SA x.sets.length sc, .slice MA x.makes.length mc], .pointer (some ⟨G, 0, none⟩)] W _
  have hsz := hb.size
  have c3 := (hG.fresh hb).cell 3 (v := .int .i64 slots) rfl
  have ltG := (hG.fresh hb).lt
  have hNb := hl x hx
  have H := Lib.hid (And.intro hs (And.intro hm hNb)); clear hs hm hG hb hx hNb
  show Calls _ _ _ _ fun e W' => e = .returned (.bool (!Ord.formed slots x)) ∧ _
  obtain ⟨Q, hQ⟩ : ∃ Q, Ord.formed slots x = Q := ⟨_, rfl⟩
  rw [hQ]
  have HQ := Lib.hid hQ; clear hQ
  have hb0 : Below W.heap.size W (W.alloc (.cells #[.int .i64 x.at_, .int .i64 x.steps, .slice SA x.sets.length sc, .slice MA x.makes.length mc] 102)) := (Below.refl _ _).alloc (Nat.le_refl _) _
  go_enter Try.func96, Try.ntmps96
  go_wp2_with fail
  refine (formed_any B sc mc _ SA MA x slots _ (H.out.1.below (hb0.mono (by omega))) (H.out.2.1.below (hb0.mono (by omega))) (by simp; omega) rfl H.out.2.2).mono ?_
  rintro e w1 ⟨rfl, hb1⟩
  rw [HQ.out]
  go_wp2_with fail
  go_ret
  exact ⟨rfl, hb0.trans (hb1.mono (by simp))⟩

end Go.Proofs.Ytljdnadejmkaeaa
