/- RF: Live13. -/
import Derived.Test.YtljdnadejmkaeaaRF35
import Derived.Test.YtljdnadejmkaeaaRF36
/- live.Check's tests of exits. -/
namespace Go.Proofs.Ytljdnadejmkaeaa
open Go.RowKit

attribute [local go_sem ↓] Go.wp_at_zero Go.wp_at_succ

/-- raw rows that read as a type's data: the list -/
theorem at_unraw {α : Type} [Enc α] {n : Nat} (hn : Enc.sz α = n) {w : World} {B : Nat} {A : Option Addr} {rs : List (Raw n)} {xs : List α} (h : At w B A rs) (hl : rs.length = xs.length)
    (hr : ∀ (i : Nat) (r : Raw n) (x : α), rs[i]? = some r → xs[i]? = some x → Enc.rd w B r.cs x) : At w B A xs := by
  subst hn
  intro i x hx
  have hi : i < rs.length := by rw [hl]; exact (List.getElem?_eq_some_iff.1 hx).1
  obtain ⟨b, o, cs, hA, hb, hc, hrd, -⟩ := h i rs[i] (List.getElem?_eq_getElem hi)
  have hcs : cs = rs[i].cs := hrd
  subst hcs
  exact ⟨b, o, rs[i].cs, hA, hb, hc, hr i _ x (List.getElem?_eq_getElem hi) hx⟩
theorem ex_one {w : World} {B : Nat} : ∀ cs (x : Ex), Enc.rd w B cs x → ∀ u ∈ cs, u.oneCell' = true := by
  rintro cs x ⟨c6, c7, rfl, -, -, ⟨A6, d6, e6, -⟩, ⟨A7, d7, e7, -⟩⟩ u hu
  injection e6 with e6; injection e7 with e7; subst e6 e7
  simp at hu
  rcases hu with rfl | rfl | rfl | rfl <;> rfl
def exC (x : Ex) (SA : Option Addr) (sc : Nat) (MA : Option Addr) (mc : Nat) : List Value := [.int .i64 x.at_, .int .i64 x.steps, .slice SA x.sets.length sc, .slice MA x.makes.length mc]
theorem rd_ex {w : World} {B : Nat} {x : Ex} {SA MA : Option Addr} {sc mc : Nat} (h : Enc.rd w B (exC x SA sc MA mc) x) : At w B SA x.sets ∧ At w B MA x.makes ∧ I64 x.at_ ∧ I64 x.steps := by
  obtain ⟨c6, c7, e, h0, h1, ⟨A6, d6, e6, -, -, -, t6⟩, ⟨A7, d7, e7, -, -, -, t7⟩⟩ := h
  injection e6 with e6; injection e7 with e7; subst e6 e7
  simp [exC] at e
  obtain ⟨⟨rfl, rfl⟩, ⟨rfl, rfl⟩⟩ := e
  exact ⟨t6, t7, h0, h1⟩

def PredE (P : Program) (g : Nat) (lb : Array Value) (p : Ex → Bool) (l : List Ex) (B : Nat) (w : World) : Prop :=
  ∀ (W : World) (x : Ex) (SA MA : Option Addr) (sc mc : Nat), x ∈ l → At W B SA x.sets → At W B MA x.makes → Below w.heap.size w W → Calls P g (#[.agg #[.int .i64 x.at_, .int .i64 x.steps, .slice SA x.sets.length sc, .slice MA x.makes.length mc]] ++ lb) W fun e W' => e = .returned (.bool (p x)) ∧ Below W.heap.size W W'

set_option maxHeartbeats 800000 in
set_option maxRecDepth 100000 in
theorem indexFuncEx_any (A : Option Addr) (c B g : Nat) (lb : Array Value) (p : Ex → Bool) (l : List Ex) (w : World) (h : At w B A l) (hB : B ≤ w.heap.size) (hl : l.length ≤ 9223372036854775807)
    (eg : ∀ args w, (callFunc g args).run Try.prog w = .ok (.enter g args) w) (hp : PredE Try.prog g lb p l B w) :
    Calls Try.prog 115 #[.slice A l.length c, .func (.func g) #[] lb] w fun e w' => e = .returned (.int .i64 (idxI p l)) ∧ Below w.heap.size w w' := by
  have H := Lib.hid h; clear h
  have HP := Lib.hid hp; clear hp
  go_enter Try.func115, Try.ntmps115
  go_wp2
  go_loopw [8] (fun i wr => ∃ k : Nat, k ≤ l.length ∧ i = .int .i64 k ∧ Hid ((l.take k).any p = false) ∧ Below w.heap.size w wr) (fun i _ => l.length - (intOf i).toNat)
  case atStart => exact ⟨0, Nat.zero_le _, rfl, by simp [Hid], Below.refl _ _⟩
  case round =>
    obtain ⟨k, hk, rfl, hno, hbl⟩ := hrel
    have hsz := hbl.size
    by_cases hlt : k < l.length
    · obtain ⟨b, o, x, SA, sc, MA, mc, rfl, hb, hx, h0, h1, h2, h3, as_, -, am_, -, -, -⟩ := (H.out.below (hbl.mono hB)).ex_ hlt
      have hk0 : (0 : Int) ≤ (k : Int) := by omega
      have hk1 : (k : Int) < (l.length : Int) := by omega
      have hcall := HP.out wr x SA MA sc mc (List.mem_of_getElem? hx) as_ am_ hbl
      have HX := Lib.hid hx; clear hx as_ am_
      cases hq : p x with
      | true =>
        rw [hq] at hcall
        have HC := Lib.hid hcall; clear hcall
        have HQ := Lib.hid hq; clear hq
        go_wp2_with (go_at_fn g; refine HC.out.mono ?_; rintro e w' ⟨rfl, hb'⟩)
        go_ret
        exact ⟨by rw [idxI_hit p l k x HX.out HQ.out hno.out]; rfl, hbl.trans (hb'.mono hsz)⟩
      | false =>
        rw [hq] at hcall
        have HC := Lib.hid hcall; clear hcall
        have HQ := Lib.hid hq; clear hq
        go_wp2_with (go_at_fn g; refine HC.out.mono ?_; rintro e w' ⟨rfl, hb'⟩)
        go_roundw
        case rel => exact ⟨k + 1, by omega, by go_num, by unfold Hid; rw [any_snoc _ _ _ _ HX.out, hno.out, HQ.out]; rfl, hbl.trans (hb'.mono hsz)⟩
        case measure => simp [intOf]; omega
    · go_wp2
      go_ret
      exact ⟨by have h1 := hno.out; rw [List.take_of_length_le (by omega)] at h1; unfold idxI; rw [h1]; rfl, hbl⟩

theorem containsFuncEx_any (A : Option Addr) (c B g : Nat) (lb : Array Value) (p : Ex → Bool) (l : List Ex) (w : World) (h : At w B A l) (hB : B ≤ w.heap.size) (hl : l.length ≤ 9223372036854775807)
    (eg : ∀ args w, (callFunc g args).run Try.prog w = .ok (.enter g args) w) (hp : PredE Try.prog g lb p l B w) :
    Calls Try.prog 71 #[.slice A l.length c, .func (.func g) #[] lb] w fun e w' => e = .returned (.bool (l.any p)) ∧ Below w.heap.size w w' := by
  have HC := Lib.hid (indexFuncEx_any A c B g lb p l w h hB hl eg hp)
  clear h hp eg
  cases hq : l.any p with
  | true =>
    have hi : idxI p l = (l.findIdx p : Int) := by unfold idxI; rw [if_pos hq]
    rw [hi] at HC
    go_enter Try.func71, Try.ntmps71
    go_wp2_with (go_at_call 115; refine HC.out.mono ?_; rintro e w' ⟨rfl, hb'⟩)
    go_ret
    exact ⟨ret_bool (by simp), hb'⟩
  | false =>
    have hi : idxI p l = -1 := by unfold idxI; rw [hq]; rfl
    rw [hi] at HC
    go_enter Try.func71, Try.ntmps71
    go_wp2_with (go_at_call 115; refine HC.out.mono ?_; rintro e w' ⟨rfl, hb'⟩)
    go_ret
    exact ⟨ret_bool (by simp), hb'⟩

theorem egExLarge : ∀ args w, (callFunc 73 args).run Try.prog w = .ok (.enter 73 args) w := fun _ _ => by kernel_rfl
theorem egCheck : ∀ args w, (callFunc 72 args).run Try.prog w = .ok (.enter 72 args) w := fun _ _ => by kernel_rfl
theorem predExLarge (l : List Ex) (B : Nat) (w : World) (hB : B ≤ w.heap.size) (hl : ∀ x ∈ l, x.makes.length ≤ 9223372036854775807) : PredE Try.prog 73 #[] Liv.large l B w := by
  rintro W x SA MA sc mc hx _ hm hb
  exact llarge_any B sc mc SA MA x W hm (by have := hb.size; omega) (hl x hx)

set_option maxHeartbeats 800000 in
set_option maxRecDepth 100000 in
theorem predCheck (GN GT B ic : Nat) (IA : Option Addr) (ins : List TI) (n : Int) (v0 v1 v2 v4 v5 v6 v7 v8 v9 v10 v11 v12 : Value) (l : List Ex) (w : World) (hN : Blk w GN 3 #[.int .i64 n]) (hT : Blk w GT 72 #[v0, v1, v2, .slice IA ins.length ic, v4, v5, v6, v7, v8, v9, v10, v11, v12])
    (hI : At w B IA ins) (hB : B ≤ w.heap.size) (hil : ins.length ≤ 9223372036854775807) (hl : ∀ x ∈ l, (Liv.vals x).length * 8 ≤ 140737488355328) :
    PredE Try.prog 72 #[.pointer (some ⟨GT, 0, none⟩), .pointer (some ⟨GN, 0, none⟩)] (fun x => (Liv.vals x).any (Liv.bad ins n)) l B w := by
  rintro W x SA MA sc mc hx hs hm hb
  change Calls Try.prog 72 #[.agg #[.int .i64 x.at_, .int .i64 x.steps, .slice SA x.sets.length sc, .slice MA x.makes.length mc], .pointer (some ⟨GT, 0, none⟩), .pointer (some ⟨GN, 0, none⟩)] W _
  have hsz := hb.size
  have ltN : GN < W.heap.size := by have := hN.lt; omega
  have ltT : GT < W.heap.size := by have := hT.lt; omega
  obtain ⟨N, hN0⟩ : ∃ N, (Liv.vals x).length = N := ⟨_, rfl⟩
  have hNb := hl x hx
  rw [hN0] at hNb
  have HNN := Lib.hid hN0; clear hN0
  have hok := Liv.vals_ok hs hm
  have HA0 := Lib.hid (And.intro hs (And.intro hm (And.intro (hI.below (hb.mono hB)) hok))); clear hs hm hI hok
  have HB0 := Lib.hid (And.intro (hT.fresh hb) (hN.fresh hb)); clear hT hN
  show Calls _ _ _ _ fun e W' => e = .returned (.bool ((Liv.vals x).any (Liv.bad ins n))) ∧ Below W.heap.size W W'
  go_enter Try.func72, Try.ntmps72
  go_wp2_with fail
  refine wp_world (fun V => Blk V W.heap.size 31 #[.int .i64 x.at_, .int .i64 x.steps, .slice SA x.sets.length sc, .slice MA x.makes.length mc] ∧ Below W.heap.size W V ∧ W.heap.size + 1 ≤ V.heap.size) ⟨Blk.new _ _ _, (Below.refl _ _).alloc (Nat.le_refl _) _, by simp⟩ ?_
  rintro V ⟨hX, hbV, hsV⟩
  have HB := Lib.hid (And.intro (HB0.out.1.fresh hbV) (And.intro hX (HB0.out.2.fresh hbV)))
  have HA := Lib.hid (And.intro (HA0.out.1.below (hbV.mono (by omega))) (And.intro (HA0.out.2.1.below (hbV.mono (by omega))) (And.intro (HA0.out.2.2.1.below (hbV.mono (by omega))) HA0.out.2.2.2)))
  clear hX HA0 HB0
  have hN := HNN.out
  have HH := Lib.hid hN; clear hN
  cases hq : (Liv.vals x).any (Liv.bad ins n) with
  | true =>
    have HQ := Lib.hid hq; clear hq
    · have hNN : True := trivial
      refine wp_region_held_drew (S := (fun w' => w'.cell? ⟨GT, 0, none⟩ = some (v0) ∧ w'.cell? ⟨GT, 1, none⟩ = some (v1) ∧ w'.cell? ⟨GT, 2, none⟩ = some (v2) ∧ w'.cell? ⟨GT, 3, none⟩ = some (.slice IA ins.length ic) ∧ w'.cell? ⟨GT, 4, none⟩ = some (v4) ∧ w'.cell? ⟨GT, 5, none⟩ = some (v5) ∧ w'.cell? ⟨GT, 6, none⟩ = some (v6) ∧ w'.cell? ⟨GT, 7, none⟩ = some (v7) ∧ w'.cell? ⟨GT, 8, none⟩ = some (v8) ∧ w'.cell? ⟨GT, 9, none⟩ = some (v9) ∧ w'.cell? ⟨GT, 10, none⟩ = some (v10) ∧ w'.cell? ⟨GT, 11, none⟩ = some (v11) ∧ w'.cell? ⟨GT, 12, none⟩ = some (v12) ∧ w'.cell? ⟨W.heap.size, 0, none⟩ = some (.int .i64 x.at_) ∧ w'.cell? ⟨W.heap.size, 1, none⟩ = some (.int .i64 x.steps) ∧ w'.cell? ⟨W.heap.size, 2, none⟩ = some (.slice SA x.sets.length sc) ∧ w'.cell? ⟨W.heap.size, 3, none⟩ = some (.slice MA x.makes.length mc) ∧ w'.cell? ⟨GN, 0, none⟩ = some (.int .i64 n))) (by kernel_rfl) ?_ (fun hHeld0 => ?_)
      · first | trivial | ((try dsimp only); (obtain ⟨p0, p1, p2, p3, p4, p5, p6, p7, p8, p9, p10, p11, p12⟩ := (HB.out.1.drew).cells13; obtain ⟨q0, q1, q2, q3⟩ := (HB.out.2.1.drew).cells4; exact ⟨p0, p1, p2, p3, p4, p5, p6, p7, p8, p9, p10, p11, p12, q0, q1, q2, q3, (HB.out.2.2.drew).cell 0 rfl⟩))
      refine held_take (v := ?_) 0 rfl (by kernel_rfl) (by kernel_rfl) (by kernel_rfl) (fun _ _ _ h => h) (by rfl) ?_ (by assumption) ?_
      rotate_left
      · (intro w hSw; (try dsimp only at hSw); go_simp; try with_reducible rfl)
      try simp only [Act.put, List.setIfInBounds_toArray, List.set_cons_zero, List.set_cons_succ]
      refine held_take (v := ?_) 1 rfl (by kernel_rfl) (by kernel_rfl) (by kernel_rfl) (fun _ _ _ h => h) (by rfl) ?_ (by assumption) ?_
      rotate_left
      · (intro w hSw; (try dsimp only at hSw); go_simp; try with_reducible rfl)
      try simp only [Act.put, List.setIfInBounds_toArray, List.set_cons_zero, List.set_cons_succ]
      refine held_take (v := ?_) 3 rfl (by kernel_rfl) (by kernel_rfl) (by kernel_rfl) (fun _ _ _ h => h) (by rfl) ?_ (by assumption) ?_
      rotate_left
      · (intro w hSw; (try dsimp only at hSw); go_simp; try with_reducible rfl)
      try simp only [Act.put, List.setIfInBounds_toArray, List.set_cons_zero, List.set_cons_succ]
      refine held_call 2 (by kernel_rfl) rfl (fun K hK => ?_)
      go_simp
      go_at_call 68; refine (lvalues_any B sc mc N SA MA x _ (HA.out.1.drew) (HA.out.2.1.drew) (by show B ≤ V.heap.size; omega) HH.out hNb).mono ?_; rintro e w1 ⟨A1, d1, rfl, ho1, hb1d⟩; have hb1 : Below V.heap.size V w1 := undrew hb1d; clear hb1d
      try (go_wp2_with fail)
      refine hK.out _ _ ?_ (fun hHeld1 => ?_)
      · first | trivial | ((try dsimp only); (obtain ⟨p0, p1, p2, p3, p4, p5, p6, p7, p8, p9, p10, p11, p12⟩ := (HB.out.1.fresh hb1).cells13; obtain ⟨q0, q1, q2, q3⟩ := (HB.out.2.1.fresh hb1).cells4; exact ⟨p0, p1, p2, p3, p4, p5, p6, p7, p8, p9, p10, p11, p12, q0, q1, q2, q3, (HB.out.2.2.fresh hb1).cell 0 rfl⟩))
      clear hK K hHeld0
      try simp only [Act.put, List.setIfInBounds_toArray, List.set_cons_zero, List.set_cons_succ]
      refine held_call 4 (by kernel_rfl) rfl (fun K hK => ?_)
      go_simp
      go_at_call 70; refine (lall_any B w1.heap.size ic d1 N _ A1 ins (Liv.vals x) n _ _ _ _ _ _ _ _ _ _ _ _ w1 (HA.out.2.2.1.below (hb1.mono (by omega))) (by have := hb1.size; omega) hil HH.out (ho1.at_ HA.out.2.2.2) (Nat.le_refl _) (by omega)).mono ?_; rintro e w2 ⟨he, hb2⟩; obtain rfl : e = .returned (.bool false) := (by (rw [he, HQ.out]; rfl)); clear he
      try (go_wp2_with fail)
      refine hK.out _ _ ?_ (fun hHeld2 => ?_)
      · first | trivial | ((try dsimp only); (obtain ⟨p0, p1, p2, p3, p4, p5, p6, p7, p8, p9, p10, p11, p12⟩ := ((HB.out.1.fresh hb1).fresh hb2).cells13; obtain ⟨q0, q1, q2, q3⟩ := ((HB.out.2.1.fresh hb1).fresh hb2).cells4; exact ⟨p0, p1, p2, p3, p4, p5, p6, p7, p8, p9, p10, p11, p12, q0, q1, q2, q3, ((HB.out.2.2.fresh hb1).fresh hb2).cell 0 rfl⟩))
      clear hK K hHeld1
      try simp only [Act.put, List.setIfInBounds_toArray, List.set_cons_zero, List.set_cons_succ]
      refine held_take (v := ?_) 5 rfl (by kernel_rfl) (by kernel_rfl) (by kernel_rfl) (fun _ _ _ h => h) (by rfl) ?_ (by assumption) ?_
      rotate_left
      · (intro w hSw; (try dsimp only at hSw); go_simp; try with_reducible rfl)
      try simp only [Act.put, List.setIfInBounds_toArray, List.set_cons_zero, List.set_cons_succ]
      refine held_take (v := ?_) 6 rfl (by kernel_rfl) (by kernel_rfl) (by kernel_rfl) (fun _ _ _ h => h) (by rfl) ?_ (by assumption) ?_
      rotate_left
      · (intro w hSw; (try dsimp only at hSw); go_simp; try with_reducible rfl)
      try simp only [Act.put, List.setIfInBounds_toArray, List.set_cons_zero, List.set_cons_succ]
      refine wpAnyH_done (by kernel_rfl) ?_ _
      clear ho1
      go_wp2_with fail
      go_ret
      exact ⟨by rw [HQ.out]; rfl, (hbV.trans (hb1.mono (by omega))).trans (hb2.mono (by have := hb1.size; omega))⟩
  | false =>
    have HQ := Lib.hid hq; clear hq
    · have hNN : True := trivial
      refine wp_region_held_drew (S := (fun w' => w'.cell? ⟨GT, 0, none⟩ = some (v0) ∧ w'.cell? ⟨GT, 1, none⟩ = some (v1) ∧ w'.cell? ⟨GT, 2, none⟩ = some (v2) ∧ w'.cell? ⟨GT, 3, none⟩ = some (.slice IA ins.length ic) ∧ w'.cell? ⟨GT, 4, none⟩ = some (v4) ∧ w'.cell? ⟨GT, 5, none⟩ = some (v5) ∧ w'.cell? ⟨GT, 6, none⟩ = some (v6) ∧ w'.cell? ⟨GT, 7, none⟩ = some (v7) ∧ w'.cell? ⟨GT, 8, none⟩ = some (v8) ∧ w'.cell? ⟨GT, 9, none⟩ = some (v9) ∧ w'.cell? ⟨GT, 10, none⟩ = some (v10) ∧ w'.cell? ⟨GT, 11, none⟩ = some (v11) ∧ w'.cell? ⟨GT, 12, none⟩ = some (v12) ∧ w'.cell? ⟨W.heap.size, 0, none⟩ = some (.int .i64 x.at_) ∧ w'.cell? ⟨W.heap.size, 1, none⟩ = some (.int .i64 x.steps) ∧ w'.cell? ⟨W.heap.size, 2, none⟩ = some (.slice SA x.sets.length sc) ∧ w'.cell? ⟨W.heap.size, 3, none⟩ = some (.slice MA x.makes.length mc) ∧ w'.cell? ⟨GN, 0, none⟩ = some (.int .i64 n))) (by kernel_rfl) ?_ (fun hHeld0 => ?_)
      · first | trivial | ((try dsimp only); (obtain ⟨p0, p1, p2, p3, p4, p5, p6, p7, p8, p9, p10, p11, p12⟩ := (HB.out.1.drew).cells13; obtain ⟨q0, q1, q2, q3⟩ := (HB.out.2.1.drew).cells4; exact ⟨p0, p1, p2, p3, p4, p5, p6, p7, p8, p9, p10, p11, p12, q0, q1, q2, q3, (HB.out.2.2.drew).cell 0 rfl⟩))
      refine held_take (v := ?_) 0 rfl (by kernel_rfl) (by kernel_rfl) (by kernel_rfl) (fun _ _ _ h => h) (by rfl) ?_ (by assumption) ?_
      rotate_left
      · (intro w hSw; (try dsimp only at hSw); go_simp; try with_reducible rfl)
      try simp only [Act.put, List.setIfInBounds_toArray, List.set_cons_zero, List.set_cons_succ]
      refine held_take (v := ?_) 1 rfl (by kernel_rfl) (by kernel_rfl) (by kernel_rfl) (fun _ _ _ h => h) (by rfl) ?_ (by assumption) ?_
      rotate_left
      · (intro w hSw; (try dsimp only at hSw); go_simp; try with_reducible rfl)
      try simp only [Act.put, List.setIfInBounds_toArray, List.set_cons_zero, List.set_cons_succ]
      refine held_take (v := ?_) 3 rfl (by kernel_rfl) (by kernel_rfl) (by kernel_rfl) (fun _ _ _ h => h) (by rfl) ?_ (by assumption) ?_
      rotate_left
      · (intro w hSw; (try dsimp only at hSw); go_simp; try with_reducible rfl)
      try simp only [Act.put, List.setIfInBounds_toArray, List.set_cons_zero, List.set_cons_succ]
      refine held_call 2 (by kernel_rfl) rfl (fun K hK => ?_)
      go_simp
      go_at_call 68; refine (lvalues_any B sc mc N SA MA x _ (HA.out.1.drew) (HA.out.2.1.drew) (by show B ≤ V.heap.size; omega) HH.out hNb).mono ?_; rintro e w1 ⟨A1, d1, rfl, ho1, hb1d⟩; have hb1 : Below V.heap.size V w1 := undrew hb1d; clear hb1d
      try (go_wp2_with fail)
      refine hK.out _ _ ?_ (fun hHeld1 => ?_)
      · first | trivial | ((try dsimp only); (obtain ⟨p0, p1, p2, p3, p4, p5, p6, p7, p8, p9, p10, p11, p12⟩ := (HB.out.1.fresh hb1).cells13; obtain ⟨q0, q1, q2, q3⟩ := (HB.out.2.1.fresh hb1).cells4; exact ⟨p0, p1, p2, p3, p4, p5, p6, p7, p8, p9, p10, p11, p12, q0, q1, q2, q3, (HB.out.2.2.fresh hb1).cell 0 rfl⟩))
      clear hK K hHeld0
      try simp only [Act.put, List.setIfInBounds_toArray, List.set_cons_zero, List.set_cons_succ]
      refine held_call 4 (by kernel_rfl) rfl (fun K hK => ?_)
      go_simp
      go_at_call 70; refine (lall_any B w1.heap.size ic d1 N _ A1 ins (Liv.vals x) n _ _ _ _ _ _ _ _ _ _ _ _ w1 (HA.out.2.2.1.below (hb1.mono (by omega))) (by have := hb1.size; omega) hil HH.out (ho1.at_ HA.out.2.2.2) (Nat.le_refl _) (by omega)).mono ?_; rintro e w2 ⟨he, hb2⟩; obtain rfl : e = .returned (.bool true) := (by (rw [he, HQ.out]; rfl)); clear he
      try (go_wp2_with fail)
      refine hK.out _ _ ?_ (fun hHeld2 => ?_)
      · first | trivial | ((try dsimp only); (obtain ⟨p0, p1, p2, p3, p4, p5, p6, p7, p8, p9, p10, p11, p12⟩ := ((HB.out.1.fresh hb1).fresh hb2).cells13; obtain ⟨q0, q1, q2, q3⟩ := ((HB.out.2.1.fresh hb1).fresh hb2).cells4; exact ⟨p0, p1, p2, p3, p4, p5, p6, p7, p8, p9, p10, p11, p12, q0, q1, q2, q3, ((HB.out.2.2.fresh hb1).fresh hb2).cell 0 rfl⟩))
      clear hK K hHeld1
      try simp only [Act.put, List.setIfInBounds_toArray, List.set_cons_zero, List.set_cons_succ]
      refine held_take (v := ?_) 5 rfl (by kernel_rfl) (by kernel_rfl) (by kernel_rfl) (fun _ _ _ h => h) (by rfl) ?_ (by assumption) ?_
      rotate_left
      · (intro w hSw; (try dsimp only at hSw); go_simp; try with_reducible rfl)
      try simp only [Act.put, List.setIfInBounds_toArray, List.set_cons_zero, List.set_cons_succ]
      refine held_take (v := ?_) 6 rfl (by kernel_rfl) (by kernel_rfl) (by kernel_rfl) (fun _ _ _ h => h) (by rfl) ?_ (by assumption) ?_
      rotate_left
      · (intro w hSw; (try dsimp only at hSw); go_simp; try with_reducible rfl)
      try simp only [Act.put, List.setIfInBounds_toArray, List.set_cons_zero, List.set_cons_succ]
      refine wpAnyH_done (by kernel_rfl) ?_ _
      clear ho1
      go_wp2_with fail
      go_ret
      exact ⟨by rw [HQ.out]; rfl, (hbV.trans (hb1.mono (by omega))).trans (hb2.mono (by have := hb1.size; omega))⟩

end Go.Proofs.Ytljdnadejmkaeaa
