/- RF: Ord10. -/
import Derived.Test.YtljdnadejmkaeaaRF28
import Derived.Test.YtljdnadejmkaeaaRF30
import Derived.BigQuiet
import Derived.Deep.QuietTactic
/- order: what is written: has, all. -/
namespace Go.Proofs.Ytljdnadejmkaeaa
open Go.RowKit

/-- the cells of what is written: registers, the slots' slice -/
def wrC (regs : List Bool) (A : Option Addr) (n c : Nat) : Array Value := (regs.map Value.bool ++ [Value.slice A n c]).toArray
theorem wrC_reg {regs : List Bool} {A : Option Addr} {n c i : Nat} {b : Bool} (h : regs[i]? = some b) : (wrC regs A n c)[i]? = some (.bool b) := by
  have hi := (List.getElem?_eq_some_iff.1 h).1
  unfold wrC
  rw [List.getElem?_toArray, List.getElem?_append_left (by simpa using hi), List.getElem?_map, h]; rfl
theorem wrC_slots {regs : List Bool} {A : Option Addr} {n c : Nat} (h : regs.length = 8) : (wrC regs A n c)[8]? = some (.slice A n c) := by
  unfold wrC
  rw [List.getElem?_toArray, List.getElem?_append_right (by simp [h])]; simp [h]
theorem wrC_set {regs : List Bool} {A : Option Addr} {n c i : Nat} (h : regs.length = 8) (hi : i < 8) (b : Bool) : (wrC regs A n c).setIfInBounds i (.bool b) = wrC (regs.set i b) A n c := by
  unfold wrC
  rw [List.setIfInBounds_toArray, List.set_append_left _ _ (by simp [h]; exact hi), List.map_set]
def Ws (w : World) (base G : Nat) (st : Ord.St) : Prop :=
  ∃ (A : Option Addr) (c : Nat), Blk w G 159 (wrC st.regs A st.slots.length c) ∧ Own w base 4 A c st.slots ∧ st.regs.length = 8
section
variable {w w' : World} {base G : Nat} {st : Ord.St}
theorem Ws.lt (h : Ws w base G st) : G < w.heap.size := by obtain ⟨A, c, h1, -⟩ := h; exact h1.lt
theorem Ws.fresh (h : Ws w base G st) (hb : Below w.heap.size w w') : Ws w' base G st := by obtain ⟨A, c, h1, h2, h3⟩ := h; exact ⟨A, c, h1.fresh hb, h2.fresh hb, h3⟩
theorem Ws.alloc (h : Ws w base G st) (o : Obj) : Ws (w.alloc o) base G st := by obtain ⟨A, c, h1, h2, h3⟩ := h; exact ⟨A, c, h1.alloc o, h2.alloc o, h3⟩
theorem Ws.drew (h : Ws w base G st) : Ws w.drew base G st := h
end

set_option maxHeartbeats 1600000 in
set_option maxRecDepth 100000 in
theorem has_any (base G : Nat) (st : Ord.St) (p q : Int) (w : World) (h : Ws w base G st) : Calls Try.prog 129 #[.pointer (some ⟨G, 0, none⟩), .agg #[.int .i64 p, .int .i64 q]] w fun e w' => e = .returned (.bool (Ord.has st (p, q))) ∧ Below w.heap.size w w' := by
  obtain ⟨Q, hQ⟩ : ∃ Q, Ord.has st (p, q) = Q := ⟨_, rfl⟩
  rw [hQ]
  obtain ⟨bR, hbR⟩ : ∃ b, Ord.hasR (p, q) = b := ⟨_, rfl⟩
  obtain ⟨n, hn⟩ : ∃ n, st.slots.length = n := ⟨_, rfl⟩
  obtain ⟨bS, hbS⟩ : ∃ b, Ord.hasS n (p, q) = b := ⟨_, rfl⟩
  unfold Ord.has at hQ
  rw [hn, hbR, hbS] at hQ
  have hq1 : bR = true → q = -1 ∧ 0 ≤ p ∧ p < 8 := fun hh => by rw [hh] at hbR; simpa [Ord.hasR, and_assoc] using hbR
  have hq2 : bS = true → p = -1 ∧ 0 ≤ q ∧ q < n := fun hh => by rw [hh] at hbS; simpa [Ord.hasS, and_assoc] using hbS
  unfold Ord.hasR at hbR; unfold Ord.hasS at hbS
  simp only at hbR hbS hQ
  obtain ⟨A, c, hG, hO, h8⟩ := h
  rw [hn] at hG
  have HQ := Lib.hid (And.intro hQ (And.intro hbR hbS)); clear hQ hbR hbS
  have ltG := hG.lt
  have H := Lib.hid (And.intro (hG.alloc (.cells #[.int .i64 p, .int .i64 q] 90)) (And.intro (hO.alloc (.cells #[.int .i64 p, .int .i64 q] 90)) (And.intro h8 hn))); clear hG hO h8 hn
  have H1 := Lib.hid (And.intro hq1 hq2); clear hq1 hq2
  have hb0 : Below w.heap.size w (w.alloc (.cells #[.int .i64 p, .int .i64 q] 90)) := (Below.refl _ _).alloc (Nat.le_refl _) _
  have hX := Blk.new w 90 #[.int .i64 p, .int .i64 q]
  go_enter Try.func129, Try.ntmps129
  go_upto_region 1 with fail
  have hs0 : (w.alloc (.cells #[.int .i64 p, .int .i64 q] 90)).heap.size = w.heap.size + 1 := by simp
  obtain ⟨W, hW⟩ : ∃ W, w.alloc (.cells #[.int .i64 p, .int .i64 q] 90) = W := ⟨_, rfl⟩
  rw [hW] at H hb0 hX hs0 ⊢
  clear hW
  have x0 := hX.cell 0 (v := .int .i64 p) rfl
  have x1 := hX.cell 1 (v := .int .i64 q) rfl
  have ltW : w.heap.size < W.heap.size := by omega
  have ltGW : G < W.heap.size := by omega
  clear hX hs0
  go_cut [5] (fun ov W2 => ov = .bool bR ∧ W2 = W)
  case first =>
    cases d1 : (q == -1) with
    | false =>
      go_wp2_with fail
      go_meet
      exact ⟨by rw [← HQ.out.2.1, d1] <;> rfl, rfl⟩
    | true =>
      cases d2 : (decide (0 ≤ p)) with
      | false =>
        go_wp2_with fail
        go_meet
        exact ⟨by rw [← HQ.out.2.1, d1, d2] <;> rfl, rfl⟩
      | true =>
        cases d3 : (decide (p < 8)) with
        | false =>
          go_wp2_with fail
          go_meet
          exact ⟨by rw [← HQ.out.2.1, d1, d2, d3] <;> rfl, rfl⟩
        | true =>
          go_wp2_with fail
          go_meet
          exact ⟨by rw [← HQ.out.2.1, d1, d2, d3] <;> rfl, rfl⟩
  case rest =>
    obtain ⟨rfl, hwc⟩ := hcut
    have hwc2 := hwc.symm
    subst hwc2
    clear hwc
    cases bR with
    | true =>
      obtain ⟨rfl, hp0, hp8⟩ := H1.out.1 rfl
      obtain ⟨r, rfl⟩ := Int.eq_ofNat_of_zero_le hp0
      obtain ⟨b, hb⟩ : ∃ b, st.regs[r]? = some b := ⟨_, List.getElem?_eq_getElem (by have := H.out.2.2.1; omega)⟩
      have g0 := H.out.1.cell r (wrC_reg hb)
      have hQb : Q = b := by rw [← HQ.out.1, if_pos rfl, Int.toNat_natCast, List.getD_eq_getElem?_getD, hb]; rfl
      have HZ := Lib.hid hQb; clear hQb hb
      go_wp2_with fail
      go_quiet (fail)
      go_wp2_with fail
      go_ret
      exact ⟨by rw [HZ.out]; rfl, below_drewN hb0 _⟩
    | false =>
      have g8 := H.out.1.cell 8 (wrC_slots H.out.2.2.1)
      go_upto_region 3 with fail
      go_cut [26] (fun ov W2 => ov = .bool bS ∧ ∃ nq, W2 = W.drewN nq)
      case first =>
        cases d1 : (p == -1) with
        | false =>
          go_quiet (fail)
          go_wp2_with fail
          go_meet
          exact ⟨by rw [← HQ.out.2.2, d1] <;> rfl, _, rfl⟩
        | true =>
          cases d2 : (decide (0 ≤ q)) with
          | false =>
            go_quiet (fail)
            go_wp2_with fail
            go_meet
            exact ⟨by rw [← HQ.out.2.2, d1, d2] <;> rfl, _, rfl⟩
          | true =>
            cases d3 : (decide (q < (n : Int))) with
            | false =>
              go_quiet (fail)
              go_wp2_with fail
              go_meet
              exact ⟨by rw [← HQ.out.2.2, d1, d2, d3] <;> rfl, _, rfl⟩
            | true =>
              go_quiet (fail)
              go_wp2_with fail
              go_meet
              exact ⟨by rw [← HQ.out.2.2, d1, d2, d3] <;> rfl, _, rfl⟩
      case rest =>
        obtain ⟨rfl, nq0, hwc⟩ := hcut
        cases bS with
        | true =>
          obtain ⟨rfl, hp0, hp8⟩ := H1.out.2 rfl
          obtain ⟨r, rfl⟩ := Int.eq_ofNat_of_zero_le hp0
          obtain ⟨b, hb⟩ : ∃ b, st.slots[r]? = some b := ⟨_, List.getElem?_eq_getElem (by have := H.out.2.2.2; omega)⟩
          obtain ⟨gs, rfl, hs1, hs2⟩ := H.out.2.1.some_ (by have := H.out.2.2.2; omega)
          have k0 := H.out.2.1.cell_bool hb
          have hQb : Q = b := by rw [← HQ.out.1, if_neg (by decide), if_pos rfl, Int.toNat_natCast, List.getD_eq_getElem?_getD, hb]; rfl
          have HZ := Lib.hid hQb; clear hQb hb
          rw [hwc]
          clear hwc
          go_wp2_with fail
          go_quiet (fail)
          go_wp2_with fail
          go_ret
          exact ⟨by rw [HZ.out]; rfl, below_drewN (below_drewN hb0 _) _⟩
        | false =>
          rw [hwc]
          clear hwc
          go_wp2_with fail
          go_ret
          exact ⟨ret_bool HQ.out.1, below_drewN hb0 _⟩

theorem egAll1 : ∀ args w, (callFunc 128 args).run Try.prog w = .ok (.enter 128 args) w := fun _ _ => by kernel_rfl
set_option maxRecDepth 100000 in
theorem predHas (base G GP : Nat) (st : Ord.St) (l : List (Int × Int)) (w : World) (h : Ws w base G st) (hP : Blk w GP 155 #[.pointer (some ⟨G, 0, none⟩)]) : PredRP Try.prog 128 #[.pointer (some ⟨GP, 0, none⟩)] (fun p => !Ord.has st p) l w := by
  rintro W ⟨p, q⟩ hm hok hb
  change Calls Try.prog 128 #[.agg #[.int .i64 p, .int .i64 q], .pointer (some ⟨GP, 0, none⟩)] W _
  have g0 := (hP.fresh hb).cell 0 (v := .pointer (some ⟨G, 0, none⟩)) rfl
  have ltG := (hP.fresh hb).lt
  have hW := (h.fresh hb).alloc (.cells #[.int .i64 p, .int .i64 q] 90)
  have HW := Lib.hid hW; clear hW h hP hm hok hb
  show Calls _ _ _ _ fun e W' => e = .returned (.bool (!Ord.has st (p, q))) ∧ _
  obtain ⟨Q, hQ⟩ : ∃ Q, Ord.has st (p, q) = Q := ⟨_, rfl⟩
  rw [hQ]
  have HQ := Lib.hid hQ; clear hQ
  go_enter Try.func128, Try.ntmps128
  go_wp2_with fail
  refine (has_any base G st p q _ HW.out).mono ?_
  rintro e w1 ⟨rfl, hb1⟩
  rw [HQ.out]
  go_wp2_with fail
  go_ret
  exact ⟨rfl, ((Below.refl _ _).alloc (Nat.le_refl _) _).trans (hb1.mono (by simp))⟩

set_option maxHeartbeats 800000 in
set_option maxRecDepth 100000 in
theorem all_any (base G B sc mc N : Nat) (SA MA : Option Addr) (st : Ord.St) (x : RE) (w : World) (h : Ws w base G st) (hs : At w B SA x.sets) (hm : At w B MA x.makes) (hB : B ≤ w.heap.size) (hN : (Ord.places x).length = N) (hNb : N * 16 ≤ 140737488355328) :
    Calls Try.prog 94 #[.pointer (some ⟨G, 0, none⟩), .agg #[.int .i64 x.at_, .int .i64 x.steps, .slice SA x.sets.length sc, .slice MA x.makes.length mc]] w fun e w' => e = .returned (.bool (Ord.all_ st x)) ∧ Below w.heap.size w w' := by
  have hok := Ord.places_ok hs hm
  have H := Lib.hid (And.intro h (And.intro hs (And.intro hm (And.intro hN hok)))); clear h hs hm hN hok
  obtain ⟨Q, hQ⟩ : ∃ Q, ((Ord.places x).any fun p => !Ord.has st p) = Q := ⟨_, rfl⟩
  have hA : Ord.all_ st x = !Q := by unfold Ord.all_; rw [hQ]
  rw [hA]
  have HQ := Lib.hid hQ; clear hQ hA
  go_enter Try.func94, Try.ntmps94
  go_wp2_with fail
  refine calls_world (fun W => Blk W w.heap.size 155 #[.pointer (some ⟨G, 0, none⟩)] ∧ Blk W (w.heap.size + 1) 102 #[.int .i64 x.at_, .int .i64 x.steps, .slice SA x.sets.length sc, .slice MA x.makes.length mc] ∧ Below w.heap.size w W ∧ w.heap.size + 2 ≤ W.heap.size) ⟨(Blk.new _ _ _).alloc _, Blk.at_ _ _ _ (by simp), ((Below.refl _ _).alloc (Nat.le_refl _) _).alloc (by simp) _, by simp⟩ ?_
  rintro W ⟨hP, hX, hb0, hs0⟩
  refine (places_any B sc mc N SA MA x W (H.out.2.1.below (hb0.mono hB)) (H.out.2.2.1.below (hb0.mono hB)) (by omega) H.out.2.2.2.1 hNb).mono ?_
  rintro e w1 ⟨PA, pd, rfl, ho1, hb1⟩
  have hs1 := hb1.size
  have hbl := hb0.trans (hb1.mono (by omega))
  have H1 := Lib.hid (And.intro (ho1.at_ H.out.2.2.2.2) (And.intro (H.out.1.fresh hbl) (hP.fresh hb1))); clear ho1 hP hX
  go_wp2_with fail
  refine (containsFuncRP_any PA pd w1.heap.size 128 N #[.pointer (some ⟨w.heap.size, 0, none⟩)] (fun p => !Ord.has st p) (Ord.places x) w1 H.out.2.2.2.1 H1.out.1 (Nat.le_refl _) (by omega) egAll1 (predHas base G w.heap.size st _ _ H1.out.2.1 H1.out.2.2)).mono ?_
  rintro e w2 ⟨rfl, hb2⟩
  rw [HQ.out]
  go_wp2_with fail
  go_ret
  exact ⟨rfl, hbl.trans (hb2.mono (by omega))⟩

end Go.Proofs.Ytljdnadejmkaeaa
