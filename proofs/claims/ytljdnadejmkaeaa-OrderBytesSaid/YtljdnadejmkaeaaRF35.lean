/- RF: Live12. -/
import Derived.Test.YtljdnadejmkaeaaRF21
import Derived.Test.YtljdnadejmkaeaaRF29
import Derived.Test.YtljdnadejmkaeaaRF33
import Derived.Test.YtljdnadejmkaeaaRF34
import Derived.Deep.DrawnRows
/- live.one: what is wrong with one instruction. -/
namespace Go.Proofs.Ytljdnadejmkaeaa
open Go.RowKit

attribute [local go_sem ↓] Go.wp_at_zero Go.wp_at_succ

/-- a trace's block, an instruction's block: their cells -/
def Tr (v0 v1 : Value) (loop : Int) (IA EA : Option Addr) (il ic el ec : Nat) (ts bs : Array Value) : Array Value :=
  #[v0, v1, .int .i64 loop, .slice IA il ic, .slice EA el ec] ++ ts ++ bs
theorem Blk.cells13 {w : World} {g : Nat} {t : TypeId} {a0 a1 a2 a3 a4 a5 a6 a7 a8 a9 a10 a11 a12 : Value} (h : Blk w g t #[a0, a1, a2, a3, a4, a5, a6, a7, a8, a9, a10, a11, a12]) :
    w.cell? ⟨g, 0, none⟩ = some a0 ∧ w.cell? ⟨g, 1, none⟩ = some a1 ∧ w.cell? ⟨g, 2, none⟩ = some a2 ∧ w.cell? ⟨g, 3, none⟩ = some a3 ∧ w.cell? ⟨g, 4, none⟩ = some a4 ∧ w.cell? ⟨g, 5, none⟩ = some a5 ∧ w.cell? ⟨g, 6, none⟩ = some a6 ∧ w.cell? ⟨g, 7, none⟩ = some a7 ∧ w.cell? ⟨g, 8, none⟩ = some a8 ∧ w.cell? ⟨g, 9, none⟩ = some a9 ∧ w.cell? ⟨g, 10, none⟩ = some a10 ∧ w.cell? ⟨g, 11, none⟩ = some a11 ∧ w.cell? ⟨g, 12, none⟩ = some a12 :=
  ⟨h.cell 0 rfl, h.cell 1 rfl, h.cell 2 rfl, h.cell 3 rfl, h.cell 4 rfl, h.cell 5 rfl, h.cell 6 rfl, h.cell 7 rfl, h.cell 8 rfl, h.cell 9 rfl, h.cell 10 rfl, h.cell 11 rfl, h.cell 12 rfl⟩

theorem Liv.vals_ok {w : World} {B : Nat} {As Am : Option Addr} {x : Ex} (hs : At w B As x.sets) (hm : At w B Am x.makes) : ∀ z ∈ Liv.vals x, Flat.ok z := by
  intro z hz
  unfold Liv.vals at hz
  rw [List.mem_append] at hz
  rcases hz with hz | hz
  · obtain ⟨p, hp, rfl⟩ := List.mem_map.1 hz
    exact (hs.ok_ p hp).2
  · obtain ⟨m, hm', hz⟩ := List.mem_flatMap.1 hz
    obtain ⟨i, hi⟩ := List.mem_iff_getElem?.1 hm'
    obtain ⟨b, o, m2, VA, vc, -, -, hx, -, -, -, -, av, -, j0, -⟩ := hm.mk_ (List.getElem?_eq_some_iff.1 hi).1
    obtain rfl : m2 = m := Option.some.inj (hx.symm.trans hi)
    rcases List.mem_cons.1 hz with rfl | hz
    · exact j0
    · exact av.ok_ z hz

set_option maxHeartbeats 1600000 in
set_option maxRecDepth 100000 in
theorem lone_any (B ic ec : Nat) (IA EA : Option Addr) (ins : List TI) (exits : List Ex) (k : Nat) (x : TI) (v0 v1 v2 v5 v6 v7 v8 v9 v10 v11 v12 : Value) (w : World) (hx : ins[k]? = some x) (hI : At w B IA ins) (hE : At w B EA exits) (hB : B ≤ w.heap.size)
    (hil : ins.length ≤ 300) (hel : exits.length ≤ 200) (hf : ∀ y ∈ exits, (Liv.vals y).length * 8 ≤ 140737488355328) :
    Calls Try.prog 69 #[.agg #[v0, v1, v2, .slice IA ins.length ic, .slice EA exits.length ec, v5, v6, v7, v8, v9, v10, v11, v12], .int .i64 k] w fun e w' => e = .returned (.int .i64 (Liv.oneF ins exits k x)) ∧ Below w.heap.size w w' := by
  have hk : k < ins.length := (List.getElem?_eq_some_iff.1 hx).1
  have H := Lib.hid (And.intro hI (And.intro hE hf)); clear hI hE hf
  obtain ⟨b, o, x', rfl, hb, hx', d0, d1, d2, d3, d4, d5, d6, d7, j0, j1, j2, j3, j4, j5, j6, j7⟩ := H.out.1.tI_ hk
  have hxx : x' = x := Option.some.inj (hx'.symm.trans hx)
  subst hxx
  obtain ⟨q, hq⟩ : ∃ q, Liv.oneF ins exits k x' = q := ⟨_, rfl⟩
  rw [hq]
  have HQ := Lib.hid (And.intro hq (And.intro j1 (And.intro j2 j3))); clear hq hx' hx j0 j1 j2 j3 j4 j5 j6 j7
  have hbw : b < w.heap.size := by omega
  have hk0 : (0 : Int) ≤ (k : Int) := by omega
  have hk1 : (k : Int) < (ins.length : Int) := by omega
  go_enter Try.func69, Try.ntmps69
  go_wp2_with fail
  refine calls_world (fun W => Blk W w.heap.size 72 #[v0, v1, v2, .slice (some ⟨b, o, none⟩) ins.length ic, .slice EA exits.length ec, v5, v6, v7, v8, v9, v10, v11, v12] ∧ Blk W (w.heap.size + 1) 121 #[.int .i64 x'.op, .int .i64 x'.a, .int .i64 x'.b, .int .i64 x'.c, .int .i64 x'.n, .int .i64 x'.exit, .int .i64 x'.k.1, .int .i64 x'.k.2] ∧ Below w.heap.size w W ∧ w.heap.size + 2 ≤ W.heap.size) ⟨(Blk.new _ _ _).alloc _, Blk.at_ _ _ _ (by simp), ((Below.refl _ _).alloc (Nat.le_refl _) _).alloc (by simp) _, by simp⟩ ?_
  rintro W ⟨hT, hX, hb0, hs0⟩
  have x0 := hX.cell 0 (v := .int .i64 x'.op) rfl
  have ltX : w.heap.size + 1 < W.heap.size := by omega
  have ltT : w.heap.size < W.heap.size := by omega
  have HT := Lib.hid hT; clear hT
  have HX := Lib.hid hX; clear hX
  clear d0 d1 d2 d3 d4 d5 d6 d7
  refine (known_any x'.op W).mono ?_
  rintro e W1 ⟨rfl, rfl⟩
  cases hop : Liv.isOp x'.op with
  | false =>
    have hq : q = 7 := by rw [← HQ.out.1]; unfold Liv.oneF; rw [if_pos hop]
    clear hop; subst hq
    go_wp2_with fail
    go_ret
    exact ⟨rfl, hb0⟩
  | true =>
    have HOP := Lib.hid hop; clear hop
    clear x0
    go_wp2_with fail
    have hal : (Liv.asks x').length ≤ 3 := by unfold Liv.asks; rw [List.length_take]; have := Liv.asksN_le x'.op; omega
    have hao : ∀ z ∈ Liv.asks x', Flat.ok z := by
      intro z hz; obtain ⟨j1, j2, j3⟩ := HQ.out.2
      have := List.mem_of_mem_take hz
      simp at this; rcases this with rfl | rfl | rfl <;> assumption
    have HA := Lib.hid hao; clear hao
    cases hbad : (Liv.asks x').any (Liv.bad ins k) with
    | true =>
      have hq : q = 3 := by rw [← HQ.out.1]; unfold Liv.oneF; rw [if_neg (by rw [HOP.out]; decide), if_pos (by rw [hbad]; rfl)]
      have HB := Lib.hid hbad; clear hbad
      subst hq
      refine wp_region_held_drew (S := (fun w' => w'.cell? ⟨w.heap.size, 0, none⟩ = some (v0) ∧ w'.cell? ⟨w.heap.size, 1, none⟩ = some (v1) ∧ w'.cell? ⟨w.heap.size, 2, none⟩ = some (v2) ∧ w'.cell? ⟨w.heap.size, 3, none⟩ = some (.slice (some ⟨b, o, none⟩) ins.length ic) ∧ w'.cell? ⟨w.heap.size, 4, none⟩ = some (.slice EA exits.length ec) ∧ w'.cell? ⟨w.heap.size, 5, none⟩ = some (v5) ∧ w'.cell? ⟨w.heap.size, 6, none⟩ = some (v6) ∧ w'.cell? ⟨w.heap.size, 7, none⟩ = some (v7) ∧ w'.cell? ⟨w.heap.size, 8, none⟩ = some (v8) ∧ w'.cell? ⟨w.heap.size, 9, none⟩ = some (v9) ∧ w'.cell? ⟨w.heap.size, 10, none⟩ = some (v10) ∧ w'.cell? ⟨w.heap.size, 11, none⟩ = some (v11) ∧ w'.cell? ⟨w.heap.size, 12, none⟩ = some (v12) ∧ w'.cell? ⟨w.heap.size + 1, 0, none⟩ = some (.int .i64 x'.op) ∧ w'.cell? ⟨w.heap.size + 1, 1, none⟩ = some (.int .i64 x'.a) ∧ w'.cell? ⟨w.heap.size + 1, 2, none⟩ = some (.int .i64 x'.b) ∧ w'.cell? ⟨w.heap.size + 1, 3, none⟩ = some (.int .i64 x'.c) ∧ w'.cell? ⟨w.heap.size + 1, 4, none⟩ = some (.int .i64 x'.n) ∧ w'.cell? ⟨w.heap.size + 1, 5, none⟩ = some (.int .i64 x'.exit) ∧ w'.cell? ⟨w.heap.size + 1, 6, none⟩ = some (.int .i64 x'.k.1) ∧ w'.cell? ⟨w.heap.size + 1, 7, none⟩ = some (.int .i64 x'.k.2))) (by kernel_rfl) ?_ (fun hHeld0 => ?_)
      · first | trivial | ((try dsimp only); ((obtain ⟨p0, p1, p2, p3, p4, p5, p6, p7, p8, p9, p10, p11, p12⟩ := (HT.out.drew).cells13; obtain ⟨q0, q1, q2, q3, q4, q5, q6, q7⟩ := (HX.out.drew).cells8; exact ⟨p0, p1, p2, p3, p4, p5, p6, p7, p8, p9, p10, p11, p12, q0, q1, q2, q3, q4, q5, q6, q7⟩)))
      refine held_take (v := ?_) 0 rfl (by kernel_rfl) (by kernel_rfl) (by kernel_rfl) (fun _ _ _ h => h) (by rfl) ?_ (by assumption) ?_
      rotate_left
      · (intro w hSw; (try dsimp only at hSw); go_simp; try with_reducible rfl)
      try simp only [Act.put, List.setIfInBounds_toArray, List.set_cons_zero, List.set_cons_succ]
      refine held_take (v := ?_) 1 rfl (by kernel_rfl) (by kernel_rfl) (by kernel_rfl) (fun _ _ _ h => h) (by rfl) ?_ (by assumption) ?_
      rotate_left
      · (intro w hSw; (try dsimp only at hSw); go_simp; try with_reducible rfl)
      try simp only [Act.put, List.setIfInBounds_toArray, List.set_cons_zero, List.set_cons_succ]
      refine held_take (v := ?_) 3 rfl (by kernel_rfl) (by kernel_rfl) (by kernel_rfl) (fun _ _ _ h => h) (by rfl) ?_ (by assumption) ?_
      rotate_left
      · (intro w hSw; (try dsimp only at hSw); go_simp; try with_reducible rfl)
      try simp only [Act.put, List.setIfInBounds_toArray, List.set_cons_zero, List.set_cons_succ]
      refine held_call 2 (by kernel_rfl) rfl (fun K hK => ?_)
      go_simp
      go_at_call 67; refine (irAsks_any x' HQ.out.2 _).mono ?_; rintro e w1 ⟨A1, d1, rfl, ho1, hb1d⟩; have hb1 : Below W.heap.size W w1 := undrew hb1d; clear hb1d
      try (go_wp2_with fail)
      refine hK.out _ _ ?_ (fun hHeld1 => ?_)
      · first | trivial | ((try dsimp only); ((obtain ⟨p0, p1, p2, p3, p4, p5, p6, p7, p8, p9, p10, p11, p12⟩ := (HT.out.fresh hb1).cells13; obtain ⟨q0, q1, q2, q3, q4, q5, q6, q7⟩ := (HX.out.fresh hb1).cells8; exact ⟨p0, p1, p2, p3, p4, p5, p6, p7, p8, p9, p10, p11, p12, q0, q1, q2, q3, q4, q5, q6, q7⟩)))
      clear hK K hHeld0
      try simp only [Act.put, List.setIfInBounds_toArray, List.set_cons_zero, List.set_cons_succ]
      refine held_call 4 (by kernel_rfl) rfl (fun K hK => ?_)
      go_simp
      go_at_call 70; refine (lall_any B w1.heap.size ic d1 _ _ A1 ins (Liv.asks x') k _ _ _ _ _ _ _ _ _ _ _ _ w1 (H.out.1.below ((hb0.trans (hb1.mono (by omega))).mono hB)) (by have := hb1.size; omega) (by omega) rfl (ho1.at_ HA.out) (Nat.le_refl _) (by omega)).mono ?_; rintro e w2 ⟨he, hb2⟩; obtain rfl : e = .returned (.bool false) := (by (rw [he, HB.out]; rfl)); clear he
      try (go_wp2_with fail)
      refine hK.out _ _ ?_ (fun hHeld2 => ?_)
      · first | trivial | ((try dsimp only); ((obtain ⟨p0, p1, p2, p3, p4, p5, p6, p7, p8, p9, p10, p11, p12⟩ := ((HT.out.fresh hb1).fresh hb2).cells13; obtain ⟨q0, q1, q2, q3, q4, q5, q6, q7⟩ := ((HX.out.fresh hb1).fresh hb2).cells8; exact ⟨p0, p1, p2, p3, p4, p5, p6, p7, p8, p9, p10, p11, p12, q0, q1, q2, q3, q4, q5, q6, q7⟩)))
      clear hK K hHeld1
      try simp only [Act.put, List.setIfInBounds_toArray, List.set_cons_zero, List.set_cons_succ]
      refine held_take (v := ?_) 5 rfl (by kernel_rfl) (by kernel_rfl) (by kernel_rfl) (fun _ _ _ h => h) (by rfl) ?_ (by assumption) ?_
      rotate_left
      · (intro w hSw; (try dsimp only at hSw); go_simp; try with_reducible rfl)
      try simp only [Act.put, List.setIfInBounds_toArray, List.set_cons_zero, List.set_cons_succ]
      refine held_take (v := ?_) 6 rfl (by kernel_rfl) (by kernel_rfl) (by kernel_rfl) (fun _ _ _ h => h) (by rfl) ?_ (by assumption) ?_
      rotate_left
      · (intro w hSw; (try dsimp only at hSw); go_simp; try with_reducible rfl)
      try simp only [Act.put, List.setIfInBounds_toArray, List.set_cons_zero, List.set_cons_succ]
      refine held_skip 7 rfl (by kernel_rfl) (by kernel_rfl) (by kernel_rfl) (fun _ _ _ h => h) (by rfl) (by assumption) ?_
      try simp only [Act.put, List.setIfInBounds_toArray, List.set_cons_zero, List.set_cons_succ]
      refine held_skip 8 rfl (by kernel_rfl) (by kernel_rfl) (by kernel_rfl) (fun _ _ _ h => h) (by rfl) (by assumption) ?_
      try simp only [Act.put, List.setIfInBounds_toArray, List.set_cons_zero, List.set_cons_succ]
      refine held_skip 9 rfl (by kernel_rfl) (by kernel_rfl) (by kernel_rfl) (fun _ _ _ h => h) (by rfl) (by assumption) ?_
      try simp only [Act.put, List.setIfInBounds_toArray, List.set_cons_zero, List.set_cons_succ]
      refine held_take (v := ?_) 10 rfl (by kernel_rfl) (by kernel_rfl) (by kernel_rfl) (fun _ _ _ h => h) (by rfl) ?_ (by assumption) ?_
      rotate_left
      · (intro w hSw; (try dsimp only at hSw); go_simp; try with_reducible rfl)
      try simp only [Act.put, List.setIfInBounds_toArray, List.set_cons_zero, List.set_cons_succ]
      refine held_take (v := ?_) 11 rfl (by kernel_rfl) (by kernel_rfl) (by kernel_rfl) (fun _ _ _ h => h) (by rfl) ?_ (by assumption) ?_
      rotate_left
      · (intro w hSw; (try dsimp only at hSw); go_simp; try with_reducible rfl)
      try simp only [Act.put, List.setIfInBounds_toArray, List.set_cons_zero, List.set_cons_succ]
      refine held_skip 12 rfl (by kernel_rfl) (by kernel_rfl) (by kernel_rfl) (fun _ _ _ h => h) (by rfl) (by assumption) ?_
      try simp only [Act.put, List.setIfInBounds_toArray, List.set_cons_zero, List.set_cons_succ]
      refine held_skip 13 rfl (by kernel_rfl) (by kernel_rfl) (by kernel_rfl) (fun _ _ _ h => h) (by rfl) (by assumption) ?_
      try simp only [Act.put, List.setIfInBounds_toArray, List.set_cons_zero, List.set_cons_succ]
      refine held_skip 14 rfl (by kernel_rfl) (by kernel_rfl) (by kernel_rfl) (fun _ _ _ h => h) (by rfl) (by assumption) ?_
      try simp only [Act.put, List.setIfInBounds_toArray, List.set_cons_zero, List.set_cons_succ]
      refine held_skip 15 rfl (by kernel_rfl) (by kernel_rfl) (by kernel_rfl) (fun _ _ _ h => h) (by rfl) (by assumption) ?_
      try simp only [Act.put, List.setIfInBounds_toArray, List.set_cons_zero, List.set_cons_succ]
      refine held_skip 16 rfl (by kernel_rfl) (by kernel_rfl) (by kernel_rfl) (fun _ _ _ h => h) (by rfl) (by assumption) ?_
      try simp only [Act.put, List.setIfInBounds_toArray, List.set_cons_zero, List.set_cons_succ]
      refine held_skip 17 rfl (by kernel_rfl) (by kernel_rfl) (by kernel_rfl) (fun _ _ _ h => h) (by rfl) (by assumption) ?_
      try simp only [Act.put, List.setIfInBounds_toArray, List.set_cons_zero, List.set_cons_succ]
      refine held_take (v := ?_) 18 rfl (by kernel_rfl) (by kernel_rfl) (by kernel_rfl) (fun _ _ _ h => h) (by rfl) ?_ (by assumption) ?_
      rotate_left
      · (intro w hSw; (try dsimp only at hSw); go_simp; try with_reducible rfl)
      try simp only [Act.put, List.setIfInBounds_toArray, List.set_cons_zero, List.set_cons_succ]
      refine held_take (v := ?_) 19 rfl (by kernel_rfl) (by kernel_rfl) (by kernel_rfl) (fun _ _ _ h => h) (by rfl) ?_ (by assumption) ?_
      rotate_left
      · (intro w hSw; (try dsimp only at hSw); go_simp; try with_reducible rfl)
      try simp only [Act.put, List.setIfInBounds_toArray, List.set_cons_zero, List.set_cons_succ]
      refine wpAnyH_done (by kernel_rfl) ?_ _
      have hbl : Below w.heap.size w w2 := (hb0.trans (hb1.mono (by omega))).trans (hb2.mono (by have := hb1.size; omega))
      clear ho1
      go_wp2_with fail
      go_ret
      exact ⟨rfl, hbl⟩
    | false =>
      have HB := Lib.hid hbad; clear hbad
      by_cases h1 : x'.exit < -1
      · have hq : q = 3 := by rw [← HQ.out.1]; unfold Liv.oneF; rw [if_neg (by rw [HOP.out]; decide), if_pos (by simp [h1])]
        subst hq
        refine wp_region_held_drew (S := (fun w' => w'.cell? ⟨w.heap.size, 0, none⟩ = some (v0) ∧ w'.cell? ⟨w.heap.size, 1, none⟩ = some (v1) ∧ w'.cell? ⟨w.heap.size, 2, none⟩ = some (v2) ∧ w'.cell? ⟨w.heap.size, 3, none⟩ = some (.slice (some ⟨b, o, none⟩) ins.length ic) ∧ w'.cell? ⟨w.heap.size, 4, none⟩ = some (.slice EA exits.length ec) ∧ w'.cell? ⟨w.heap.size, 5, none⟩ = some (v5) ∧ w'.cell? ⟨w.heap.size, 6, none⟩ = some (v6) ∧ w'.cell? ⟨w.heap.size, 7, none⟩ = some (v7) ∧ w'.cell? ⟨w.heap.size, 8, none⟩ = some (v8) ∧ w'.cell? ⟨w.heap.size, 9, none⟩ = some (v9) ∧ w'.cell? ⟨w.heap.size, 10, none⟩ = some (v10) ∧ w'.cell? ⟨w.heap.size, 11, none⟩ = some (v11) ∧ w'.cell? ⟨w.heap.size, 12, none⟩ = some (v12) ∧ w'.cell? ⟨w.heap.size + 1, 0, none⟩ = some (.int .i64 x'.op) ∧ w'.cell? ⟨w.heap.size + 1, 1, none⟩ = some (.int .i64 x'.a) ∧ w'.cell? ⟨w.heap.size + 1, 2, none⟩ = some (.int .i64 x'.b) ∧ w'.cell? ⟨w.heap.size + 1, 3, none⟩ = some (.int .i64 x'.c) ∧ w'.cell? ⟨w.heap.size + 1, 4, none⟩ = some (.int .i64 x'.n) ∧ w'.cell? ⟨w.heap.size + 1, 5, none⟩ = some (.int .i64 x'.exit) ∧ w'.cell? ⟨w.heap.size + 1, 6, none⟩ = some (.int .i64 x'.k.1) ∧ w'.cell? ⟨w.heap.size + 1, 7, none⟩ = some (.int .i64 x'.k.2))) (by kernel_rfl) ?_ (fun hHeld0 => ?_)
        · first | trivial | ((try dsimp only); ((obtain ⟨p0, p1, p2, p3, p4, p5, p6, p7, p8, p9, p10, p11, p12⟩ := (HT.out.drew).cells13; obtain ⟨q0, q1, q2, q3, q4, q5, q6, q7⟩ := (HX.out.drew).cells8; exact ⟨p0, p1, p2, p3, p4, p5, p6, p7, p8, p9, p10, p11, p12, q0, q1, q2, q3, q4, q5, q6, q7⟩)))
        refine held_take (v := ?_) 0 rfl (by kernel_rfl) (by kernel_rfl) (by kernel_rfl) (fun _ _ _ h => h) (by rfl) ?_ (by assumption) ?_
        rotate_left
        · (intro w hSw; (try dsimp only at hSw); go_simp; try with_reducible rfl)
        try simp only [Act.put, List.setIfInBounds_toArray, List.set_cons_zero, List.set_cons_succ]
        refine held_take (v := ?_) 1 rfl (by kernel_rfl) (by kernel_rfl) (by kernel_rfl) (fun _ _ _ h => h) (by rfl) ?_ (by assumption) ?_
        rotate_left
        · (intro w hSw; (try dsimp only at hSw); go_simp; try with_reducible rfl)
        try simp only [Act.put, List.setIfInBounds_toArray, List.set_cons_zero, List.set_cons_succ]
        refine held_take (v := ?_) 3 rfl (by kernel_rfl) (by kernel_rfl) (by kernel_rfl) (fun _ _ _ h => h) (by rfl) ?_ (by assumption) ?_
        rotate_left
        · (intro w hSw; (try dsimp only at hSw); go_simp; try with_reducible rfl)
        try simp only [Act.put, List.setIfInBounds_toArray, List.set_cons_zero, List.set_cons_succ]
        refine held_call 2 (by kernel_rfl) rfl (fun K hK => ?_)
        go_simp
        go_at_call 67; refine (irAsks_any x' HQ.out.2 _).mono ?_; rintro e w1 ⟨A1, d1, rfl, ho1, hb1d⟩; have hb1 : Below W.heap.size W w1 := undrew hb1d; clear hb1d
        try (go_wp2_with fail)
        refine hK.out _ _ ?_ (fun hHeld1 => ?_)
        · first | trivial | ((try dsimp only); ((obtain ⟨p0, p1, p2, p3, p4, p5, p6, p7, p8, p9, p10, p11, p12⟩ := (HT.out.fresh hb1).cells13; obtain ⟨q0, q1, q2, q3, q4, q5, q6, q7⟩ := (HX.out.fresh hb1).cells8; exact ⟨p0, p1, p2, p3, p4, p5, p6, p7, p8, p9, p10, p11, p12, q0, q1, q2, q3, q4, q5, q6, q7⟩)))
        clear hK K hHeld0
        try simp only [Act.put, List.setIfInBounds_toArray, List.set_cons_zero, List.set_cons_succ]
        refine held_call 4 (by kernel_rfl) rfl (fun K hK => ?_)
        go_simp
        go_at_call 70; refine (lall_any B w1.heap.size ic d1 _ _ A1 ins (Liv.asks x') k _ _ _ _ _ _ _ _ _ _ _ _ w1 (H.out.1.below ((hb0.trans (hb1.mono (by omega))).mono hB)) (by have := hb1.size; omega) (by omega) rfl (ho1.at_ HA.out) (Nat.le_refl _) (by omega)).mono ?_; rintro e w2 ⟨he, hb2⟩; obtain rfl : e = .returned (.bool true) := (by (rw [he, HB.out]; rfl)); clear he
        try (go_wp2_with fail)
        refine hK.out _ _ ?_ (fun hHeld2 => ?_)
        · first | trivial | ((try dsimp only); ((obtain ⟨p0, p1, p2, p3, p4, p5, p6, p7, p8, p9, p10, p11, p12⟩ := ((HT.out.fresh hb1).fresh hb2).cells13; obtain ⟨q0, q1, q2, q3, q4, q5, q6, q7⟩ := ((HX.out.fresh hb1).fresh hb2).cells8; exact ⟨p0, p1, p2, p3, p4, p5, p6, p7, p8, p9, p10, p11, p12, q0, q1, q2, q3, q4, q5, q6, q7⟩)))
        clear hK K hHeld1
        try simp only [Act.put, List.setIfInBounds_toArray, List.set_cons_zero, List.set_cons_succ]
        refine held_take (v := ?_) 5 rfl (by kernel_rfl) (by kernel_rfl) (by kernel_rfl) (fun _ _ _ h => h) (by rfl) ?_ (by assumption) ?_
        rotate_left
        · (intro w hSw; (try dsimp only at hSw); go_simp; try with_reducible rfl)
        try simp only [Act.put, List.setIfInBounds_toArray, List.set_cons_zero, List.set_cons_succ]
        refine held_take (v := ?_) 6 rfl (by kernel_rfl) (by kernel_rfl) (by kernel_rfl) (fun _ _ _ h => h) (by rfl) ?_ (by assumption) ?_
        rotate_left
        · (intro w hSw; (try dsimp only at hSw); go_simp; try with_reducible rfl)
        try simp only [Act.put, List.setIfInBounds_toArray, List.set_cons_zero, List.set_cons_succ]
        refine held_take (v := ?_) 7 rfl (by kernel_rfl) (by kernel_rfl) (by kernel_rfl) (fun _ _ _ h => h) (by rfl) ?_ (by assumption) ?_
        rotate_left
        · (intro w hSw; (try dsimp only at hSw); go_simp; try with_reducible rfl)
        try simp only [Act.put, List.setIfInBounds_toArray, List.set_cons_zero, List.set_cons_succ]
        refine held_take (v := ?_) 8 rfl (by kernel_rfl) (by kernel_rfl) (by kernel_rfl) (fun _ _ _ h => h) (by rfl) ?_ (by assumption) ?_
        rotate_left
        · (intro w hSw; (try dsimp only at hSw); go_simp; try with_reducible rfl)
        try simp only [Act.put, List.setIfInBounds_toArray, List.set_cons_zero, List.set_cons_succ]
        refine held_take (v := ?_) 9 rfl (by kernel_rfl) (by kernel_rfl) (by kernel_rfl) (fun _ _ _ h => h) (by rfl) ?_ (by assumption) ?_
        rotate_left
        · (intro w hSw; (try dsimp only at hSw); go_simp; try with_reducible rfl)
        try simp only [Act.put, List.setIfInBounds_toArray, List.set_cons_zero, List.set_cons_succ]
        refine held_take (v := ?_) 10 rfl (by kernel_rfl) (by kernel_rfl) (by kernel_rfl) (fun _ _ _ h => h) (by rfl) ?_ (by assumption) ?_
        rotate_left
        · (intro w hSw; (try dsimp only at hSw); go_simp; try with_reducible rfl)
        try simp only [Act.put, List.setIfInBounds_toArray, List.set_cons_zero, List.set_cons_succ]
        refine held_take (v := ?_) 11 rfl (by kernel_rfl) (by kernel_rfl) (by kernel_rfl) (fun _ _ _ h => h) (by rfl) ?_ (by assumption) ?_
        rotate_left
        · (intro w hSw; (try dsimp only at hSw); go_simp; try with_reducible rfl)
        try simp only [Act.put, List.setIfInBounds_toArray, List.set_cons_zero, List.set_cons_succ]
        refine held_skip 12 rfl (by kernel_rfl) (by kernel_rfl) (by kernel_rfl) (fun _ _ _ h => h) (by rfl) (by assumption) ?_
        try simp only [Act.put, List.setIfInBounds_toArray, List.set_cons_zero, List.set_cons_succ]
        refine held_skip 13 rfl (by kernel_rfl) (by kernel_rfl) (by kernel_rfl) (fun _ _ _ h => h) (by rfl) (by assumption) ?_
        try simp only [Act.put, List.setIfInBounds_toArray, List.set_cons_zero, List.set_cons_succ]
        refine held_skip 14 rfl (by kernel_rfl) (by kernel_rfl) (by kernel_rfl) (fun _ _ _ h => h) (by rfl) (by assumption) ?_
        try simp only [Act.put, List.setIfInBounds_toArray, List.set_cons_zero, List.set_cons_succ]
        refine held_skip 15 rfl (by kernel_rfl) (by kernel_rfl) (by kernel_rfl) (fun _ _ _ h => h) (by rfl) (by assumption) ?_
        try simp only [Act.put, List.setIfInBounds_toArray, List.set_cons_zero, List.set_cons_succ]
        refine held_skip 16 rfl (by kernel_rfl) (by kernel_rfl) (by kernel_rfl) (fun _ _ _ h => h) (by rfl) (by assumption) ?_
        try simp only [Act.put, List.setIfInBounds_toArray, List.set_cons_zero, List.set_cons_succ]
        refine held_skip 17 rfl (by kernel_rfl) (by kernel_rfl) (by kernel_rfl) (fun _ _ _ h => h) (by rfl) (by assumption) ?_
        try simp only [Act.put, List.setIfInBounds_toArray, List.set_cons_zero, List.set_cons_succ]
        refine held_take (v := ?_) 18 rfl (by kernel_rfl) (by kernel_rfl) (by kernel_rfl) (fun _ _ _ h => h) (by rfl) ?_ (by assumption) ?_
        rotate_left
        · (intro w hSw; (try dsimp only at hSw); go_simp; try with_reducible rfl)
        try simp only [Act.put, List.setIfInBounds_toArray, List.set_cons_zero, List.set_cons_succ]
        refine held_take (v := ?_) 19 rfl (by kernel_rfl) (by kernel_rfl) (by kernel_rfl) (fun _ _ _ h => h) (by rfl) ?_ (by assumption) ?_
        rotate_left
        · (intro w hSw; (try dsimp only at hSw); go_simp; try with_reducible rfl)
        try simp only [Act.put, List.setIfInBounds_toArray, List.set_cons_zero, List.set_cons_succ]
        refine wpAnyH_done (by kernel_rfl) ?_ _
        have hbl : Below w.heap.size w w2 := (hb0.trans (hb1.mono (by omega))).trans (hb2.mono (by have := hb1.size; omega))
        clear ho1
        go_wp2_with fail
        go_ret
        exact ⟨rfl, hbl⟩
      · have hd1 : decide (x'.exit < -1) = false := by simpa using h1
        by_cases h2 : (exits.length : Int) ≤ x'.exit
        · have hq : q = 3 := by rw [← HQ.out.1]; unfold Liv.oneF; rw [if_neg (by rw [HOP.out]; decide), if_pos (by simp [h2])]
          subst hq
          refine wp_region_held_drew (S := (fun w' => w'.cell? ⟨w.heap.size, 0, none⟩ = some (v0) ∧ w'.cell? ⟨w.heap.size, 1, none⟩ = some (v1) ∧ w'.cell? ⟨w.heap.size, 2, none⟩ = some (v2) ∧ w'.cell? ⟨w.heap.size, 3, none⟩ = some (.slice (some ⟨b, o, none⟩) ins.length ic) ∧ w'.cell? ⟨w.heap.size, 4, none⟩ = some (.slice EA exits.length ec) ∧ w'.cell? ⟨w.heap.size, 5, none⟩ = some (v5) ∧ w'.cell? ⟨w.heap.size, 6, none⟩ = some (v6) ∧ w'.cell? ⟨w.heap.size, 7, none⟩ = some (v7) ∧ w'.cell? ⟨w.heap.size, 8, none⟩ = some (v8) ∧ w'.cell? ⟨w.heap.size, 9, none⟩ = some (v9) ∧ w'.cell? ⟨w.heap.size, 10, none⟩ = some (v10) ∧ w'.cell? ⟨w.heap.size, 11, none⟩ = some (v11) ∧ w'.cell? ⟨w.heap.size, 12, none⟩ = some (v12) ∧ w'.cell? ⟨w.heap.size + 1, 0, none⟩ = some (.int .i64 x'.op) ∧ w'.cell? ⟨w.heap.size + 1, 1, none⟩ = some (.int .i64 x'.a) ∧ w'.cell? ⟨w.heap.size + 1, 2, none⟩ = some (.int .i64 x'.b) ∧ w'.cell? ⟨w.heap.size + 1, 3, none⟩ = some (.int .i64 x'.c) ∧ w'.cell? ⟨w.heap.size + 1, 4, none⟩ = some (.int .i64 x'.n) ∧ w'.cell? ⟨w.heap.size + 1, 5, none⟩ = some (.int .i64 x'.exit) ∧ w'.cell? ⟨w.heap.size + 1, 6, none⟩ = some (.int .i64 x'.k.1) ∧ w'.cell? ⟨w.heap.size + 1, 7, none⟩ = some (.int .i64 x'.k.2))) (by kernel_rfl) ?_ (fun hHeld0 => ?_)
          · first | trivial | ((try dsimp only); ((obtain ⟨p0, p1, p2, p3, p4, p5, p6, p7, p8, p9, p10, p11, p12⟩ := (HT.out.drew).cells13; obtain ⟨q0, q1, q2, q3, q4, q5, q6, q7⟩ := (HX.out.drew).cells8; exact ⟨p0, p1, p2, p3, p4, p5, p6, p7, p8, p9, p10, p11, p12, q0, q1, q2, q3, q4, q5, q6, q7⟩)))
          refine held_take (v := ?_) 0 rfl (by kernel_rfl) (by kernel_rfl) (by kernel_rfl) (fun _ _ _ h => h) (by rfl) ?_ (by assumption) ?_
          rotate_left
          · (intro w hSw; (try dsimp only at hSw); go_simp; try with_reducible rfl)
          try simp only [Act.put, List.setIfInBounds_toArray, List.set_cons_zero, List.set_cons_succ]
          refine held_take (v := ?_) 1 rfl (by kernel_rfl) (by kernel_rfl) (by kernel_rfl) (fun _ _ _ h => h) (by rfl) ?_ (by assumption) ?_
          rotate_left
          · (intro w hSw; (try dsimp only at hSw); go_simp; try with_reducible rfl)
          try simp only [Act.put, List.setIfInBounds_toArray, List.set_cons_zero, List.set_cons_succ]
          refine held_take (v := ?_) 3 rfl (by kernel_rfl) (by kernel_rfl) (by kernel_rfl) (fun _ _ _ h => h) (by rfl) ?_ (by assumption) ?_
          rotate_left
          · (intro w hSw; (try dsimp only at hSw); go_simp; try with_reducible rfl)
          try simp only [Act.put, List.setIfInBounds_toArray, List.set_cons_zero, List.set_cons_succ]
          refine held_call 2 (by kernel_rfl) rfl (fun K hK => ?_)
          go_simp
          go_at_call 67; refine (irAsks_any x' HQ.out.2 _).mono ?_; rintro e w1 ⟨A1, d1, rfl, ho1, hb1d⟩; have hb1 : Below W.heap.size W w1 := undrew hb1d; clear hb1d
          try (go_wp2_with fail)
          refine hK.out _ _ ?_ (fun hHeld1 => ?_)
          · first | trivial | ((try dsimp only); ((obtain ⟨p0, p1, p2, p3, p4, p5, p6, p7, p8, p9, p10, p11, p12⟩ := (HT.out.fresh hb1).cells13; obtain ⟨q0, q1, q2, q3, q4, q5, q6, q7⟩ := (HX.out.fresh hb1).cells8; exact ⟨p0, p1, p2, p3, p4, p5, p6, p7, p8, p9, p10, p11, p12, q0, q1, q2, q3, q4, q5, q6, q7⟩)))
          clear hK K hHeld0
          try simp only [Act.put, List.setIfInBounds_toArray, List.set_cons_zero, List.set_cons_succ]
          refine held_call 4 (by kernel_rfl) rfl (fun K hK => ?_)
          go_simp
          go_at_call 70; refine (lall_any B w1.heap.size ic d1 _ _ A1 ins (Liv.asks x') k _ _ _ _ _ _ _ _ _ _ _ _ w1 (H.out.1.below ((hb0.trans (hb1.mono (by omega))).mono hB)) (by have := hb1.size; omega) (by omega) rfl (ho1.at_ HA.out) (Nat.le_refl _) (by omega)).mono ?_; rintro e w2 ⟨he, hb2⟩; obtain rfl : e = .returned (.bool true) := (by (rw [he, HB.out]; rfl)); clear he
          try (go_wp2_with fail)
          refine hK.out _ _ ?_ (fun hHeld2 => ?_)
          · first | trivial | ((try dsimp only); ((obtain ⟨p0, p1, p2, p3, p4, p5, p6, p7, p8, p9, p10, p11, p12⟩ := ((HT.out.fresh hb1).fresh hb2).cells13; obtain ⟨q0, q1, q2, q3, q4, q5, q6, q7⟩ := ((HX.out.fresh hb1).fresh hb2).cells8; exact ⟨p0, p1, p2, p3, p4, p5, p6, p7, p8, p9, p10, p11, p12, q0, q1, q2, q3, q4, q5, q6, q7⟩)))
          clear hK K hHeld1
          try simp only [Act.put, List.setIfInBounds_toArray, List.set_cons_zero, List.set_cons_succ]
          refine held_take (v := ?_) 5 rfl (by kernel_rfl) (by kernel_rfl) (by kernel_rfl) (fun _ _ _ h => h) (by rfl) ?_ (by assumption) ?_
          rotate_left
          · (intro w hSw; (try dsimp only at hSw); go_simp; try with_reducible rfl)
          try simp only [Act.put, List.setIfInBounds_toArray, List.set_cons_zero, List.set_cons_succ]
          refine held_take (v := ?_) 6 rfl (by kernel_rfl) (by kernel_rfl) (by kernel_rfl) (fun _ _ _ h => h) (by rfl) ?_ (by assumption) ?_
          rotate_left
          · (intro w hSw; (try dsimp only at hSw); go_simp; try with_reducible rfl)
          try simp only [Act.put, List.setIfInBounds_toArray, List.set_cons_zero, List.set_cons_succ]
          refine held_take (v := ?_) 7 rfl (by kernel_rfl) (by kernel_rfl) (by kernel_rfl) (fun _ _ _ h => h) (by rfl) ?_ (by assumption) ?_
          rotate_left
          · (intro w hSw; (try dsimp only at hSw); go_simp; try with_reducible rfl)
          try simp only [Act.put, List.setIfInBounds_toArray, List.set_cons_zero, List.set_cons_succ]
          refine held_take (v := ?_) 8 rfl (by kernel_rfl) (by kernel_rfl) (by kernel_rfl) (fun _ _ _ h => h) (by rfl) ?_ (by assumption) ?_
          rotate_left
          · (intro w hSw; (try dsimp only at hSw); go_simp; try with_reducible rfl)
          try simp only [Act.put, List.setIfInBounds_toArray, List.set_cons_zero, List.set_cons_succ]
          refine held_take (v := ?_) 9 rfl (by kernel_rfl) (by kernel_rfl) (by kernel_rfl) (fun _ _ _ h => h) (by rfl) ?_ (by assumption) ?_
          rotate_left
          · (intro w hSw; (try dsimp only at hSw); go_simp; try with_reducible rfl)
          try simp only [Act.put, List.setIfInBounds_toArray, List.set_cons_zero, List.set_cons_succ]
          refine held_take (v := ?_) 10 rfl (by kernel_rfl) (by kernel_rfl) (by kernel_rfl) (fun _ _ _ h => h) (by rfl) ?_ (by assumption) ?_
          rotate_left
          · (intro w hSw; (try dsimp only at hSw); go_simp; try with_reducible rfl)
          try simp only [Act.put, List.setIfInBounds_toArray, List.set_cons_zero, List.set_cons_succ]
          refine held_take (v := ?_) 11 rfl (by kernel_rfl) (by kernel_rfl) (by kernel_rfl) (fun _ _ _ h => h) (by rfl) ?_ (by assumption) ?_
          rotate_left
          · (intro w hSw; (try dsimp only at hSw); go_simp; try with_reducible rfl)
          try simp only [Act.put, List.setIfInBounds_toArray, List.set_cons_zero, List.set_cons_succ]
          refine held_take (v := ?_) 12 rfl (by kernel_rfl) (by kernel_rfl) (by kernel_rfl) (fun _ _ _ h => h) (by rfl) ?_ (by assumption) ?_
          rotate_left
          · (intro w hSw; (try dsimp only at hSw); go_simp; try with_reducible rfl)
          try simp only [Act.put, List.setIfInBounds_toArray, List.set_cons_zero, List.set_cons_succ]
          refine held_take (v := ?_) 13 rfl (by kernel_rfl) (by kernel_rfl) (by kernel_rfl) (fun _ _ _ h => h) (by rfl) ?_ (by assumption) ?_
          rotate_left
          · (intro w hSw; (try dsimp only at hSw); go_simp; try with_reducible rfl)
          try simp only [Act.put, List.setIfInBounds_toArray, List.set_cons_zero, List.set_cons_succ]
          refine held_take (v := ?_) 14 rfl (by kernel_rfl) (by kernel_rfl) (by kernel_rfl) (fun _ _ _ h => h) (by rfl) ?_ (by assumption) ?_
          rotate_left
          · (intro w hSw; (try dsimp only at hSw); go_simp; try with_reducible rfl)
          try simp only [Act.put, List.setIfInBounds_toArray, List.set_cons_zero, List.set_cons_succ]
          refine held_take (v := ?_) 15 rfl (by kernel_rfl) (by kernel_rfl) (by kernel_rfl) (fun _ _ _ h => h) (by rfl) ?_ (by assumption) ?_
          rotate_left
          · (intro w hSw; (try dsimp only at hSw); go_simp; try with_reducible rfl)
          try simp only [Act.put, List.setIfInBounds_toArray, List.set_cons_zero, List.set_cons_succ]
          refine held_take (v := ?_) 16 rfl (by kernel_rfl) (by kernel_rfl) (by kernel_rfl) (fun _ _ _ h => h) (by rfl) ?_ (by assumption) ?_
          rotate_left
          · (intro w hSw; (try dsimp only at hSw); go_simp; try with_reducible rfl)
          try simp only [Act.put, List.setIfInBounds_toArray, List.set_cons_zero, List.set_cons_succ]
          refine held_take (v := ?_) 17 rfl (by kernel_rfl) (by kernel_rfl) (by kernel_rfl) (fun _ _ _ h => h) (by rfl) ?_ (by assumption) ?_
          rotate_left
          · (intro w hSw; (try dsimp only at hSw); go_simp; try with_reducible rfl)
          try simp only [Act.put, List.setIfInBounds_toArray, List.set_cons_zero, List.set_cons_succ]
          refine held_take (v := ?_) 18 rfl (by kernel_rfl) (by kernel_rfl) (by kernel_rfl) (fun _ _ _ h => h) (by rfl) ?_ (by assumption) ?_
          rotate_left
          · (intro w hSw; (try dsimp only at hSw); go_simp; try with_reducible rfl)
          try simp only [Act.put, List.setIfInBounds_toArray, List.set_cons_zero, List.set_cons_succ]
          refine held_take (v := ?_) 19 rfl (by kernel_rfl) (by kernel_rfl) (by kernel_rfl) (fun _ _ _ h => h) (by rfl) ?_ (by assumption) ?_
          rotate_left
          · (intro w hSw; (try dsimp only at hSw); go_simp; try with_reducible rfl)
          try simp only [Act.put, List.setIfInBounds_toArray, List.set_cons_zero, List.set_cons_succ]
          refine wpAnyH_done (by kernel_rfl) ?_ _
          have hbl : Below w.heap.size w w2 := (hb0.trans (hb1.mono (by omega))).trans (hb2.mono (by have := hb1.size; omega))
          clear ho1
          go_wp2_with fail
          go_ret
          exact ⟨rfl, hbl⟩
        · have hq : q = if (Liv.exitVals exits x'.exit).any (Liv.bad ins k) = true then 3 else 0 := by
            rw [← HQ.out.1]; unfold Liv.oneF; rw [if_neg (by rw [HOP.out]; decide), if_neg (by rw [HB.out]; simp; omega)]
          have HQQ := Lib.hid hq; clear hq
          have hd2 : decide ((exits.length : Int) ≤ x'.exit) = false := by simpa using h2
          refine wp_region_held_drew (S := (fun w' => w'.cell? ⟨w.heap.size, 0, none⟩ = some (v0) ∧ w'.cell? ⟨w.heap.size, 1, none⟩ = some (v1) ∧ w'.cell? ⟨w.heap.size, 2, none⟩ = some (v2) ∧ w'.cell? ⟨w.heap.size, 3, none⟩ = some (.slice (some ⟨b, o, none⟩) ins.length ic) ∧ w'.cell? ⟨w.heap.size, 4, none⟩ = some (.slice EA exits.length ec) ∧ w'.cell? ⟨w.heap.size, 5, none⟩ = some (v5) ∧ w'.cell? ⟨w.heap.size, 6, none⟩ = some (v6) ∧ w'.cell? ⟨w.heap.size, 7, none⟩ = some (v7) ∧ w'.cell? ⟨w.heap.size, 8, none⟩ = some (v8) ∧ w'.cell? ⟨w.heap.size, 9, none⟩ = some (v9) ∧ w'.cell? ⟨w.heap.size, 10, none⟩ = some (v10) ∧ w'.cell? ⟨w.heap.size, 11, none⟩ = some (v11) ∧ w'.cell? ⟨w.heap.size, 12, none⟩ = some (v12) ∧ w'.cell? ⟨w.heap.size + 1, 0, none⟩ = some (.int .i64 x'.op) ∧ w'.cell? ⟨w.heap.size + 1, 1, none⟩ = some (.int .i64 x'.a) ∧ w'.cell? ⟨w.heap.size + 1, 2, none⟩ = some (.int .i64 x'.b) ∧ w'.cell? ⟨w.heap.size + 1, 3, none⟩ = some (.int .i64 x'.c) ∧ w'.cell? ⟨w.heap.size + 1, 4, none⟩ = some (.int .i64 x'.n) ∧ w'.cell? ⟨w.heap.size + 1, 5, none⟩ = some (.int .i64 x'.exit) ∧ w'.cell? ⟨w.heap.size + 1, 6, none⟩ = some (.int .i64 x'.k.1) ∧ w'.cell? ⟨w.heap.size + 1, 7, none⟩ = some (.int .i64 x'.k.2))) (by kernel_rfl) ?_ (fun hHeld0 => ?_)
          · first | trivial | ((try dsimp only); ((obtain ⟨p0, p1, p2, p3, p4, p5, p6, p7, p8, p9, p10, p11, p12⟩ := (HT.out.drew).cells13; obtain ⟨q0, q1, q2, q3, q4, q5, q6, q7⟩ := (HX.out.drew).cells8; exact ⟨p0, p1, p2, p3, p4, p5, p6, p7, p8, p9, p10, p11, p12, q0, q1, q2, q3, q4, q5, q6, q7⟩)))
          refine held_take (v := ?_) 0 rfl (by kernel_rfl) (by kernel_rfl) (by kernel_rfl) (fun _ _ _ h => h) (by rfl) ?_ (by assumption) ?_
          rotate_left
          · (intro w hSw; (try dsimp only at hSw); go_simp; try with_reducible rfl)
          try simp only [Act.put, List.setIfInBounds_toArray, List.set_cons_zero, List.set_cons_succ]
          refine held_take (v := ?_) 1 rfl (by kernel_rfl) (by kernel_rfl) (by kernel_rfl) (fun _ _ _ h => h) (by rfl) ?_ (by assumption) ?_
          rotate_left
          · (intro w hSw; (try dsimp only at hSw); go_simp; try with_reducible rfl)
          try simp only [Act.put, List.setIfInBounds_toArray, List.set_cons_zero, List.set_cons_succ]
          refine held_take (v := ?_) 3 rfl (by kernel_rfl) (by kernel_rfl) (by kernel_rfl) (fun _ _ _ h => h) (by rfl) ?_ (by assumption) ?_
          rotate_left
          · (intro w hSw; (try dsimp only at hSw); go_simp; try with_reducible rfl)
          try simp only [Act.put, List.setIfInBounds_toArray, List.set_cons_zero, List.set_cons_succ]
          refine held_call 2 (by kernel_rfl) rfl (fun K hK => ?_)
          go_simp
          go_at_call 67; refine (irAsks_any x' HQ.out.2 _).mono ?_; rintro e w1 ⟨A1, d1, rfl, ho1, hb1d⟩; have hb1 : Below W.heap.size W w1 := undrew hb1d; clear hb1d
          try (go_wp2_with fail)
          refine hK.out _ _ ?_ (fun hHeld1 => ?_)
          · first | trivial | ((try dsimp only); ((obtain ⟨p0, p1, p2, p3, p4, p5, p6, p7, p8, p9, p10, p11, p12⟩ := (HT.out.fresh hb1).cells13; obtain ⟨q0, q1, q2, q3, q4, q5, q6, q7⟩ := (HX.out.fresh hb1).cells8; exact ⟨p0, p1, p2, p3, p4, p5, p6, p7, p8, p9, p10, p11, p12, q0, q1, q2, q3, q4, q5, q6, q7⟩)))
          clear hK K hHeld0
          try simp only [Act.put, List.setIfInBounds_toArray, List.set_cons_zero, List.set_cons_succ]
          refine held_call 4 (by kernel_rfl) rfl (fun K hK => ?_)
          go_simp
          go_at_call 70; refine (lall_any B w1.heap.size ic d1 _ _ A1 ins (Liv.asks x') k _ _ _ _ _ _ _ _ _ _ _ _ w1 (H.out.1.below ((hb0.trans (hb1.mono (by omega))).mono hB)) (by have := hb1.size; omega) (by omega) rfl (ho1.at_ HA.out) (Nat.le_refl _) (by omega)).mono ?_; rintro e w2 ⟨he, hb2⟩; obtain rfl : e = .returned (.bool true) := (by (rw [he, HB.out]; rfl)); clear he
          try (go_wp2_with fail)
          refine hK.out _ _ ?_ (fun hHeld2 => ?_)
          · first | trivial | ((try dsimp only); ((obtain ⟨p0, p1, p2, p3, p4, p5, p6, p7, p8, p9, p10, p11, p12⟩ := ((HT.out.fresh hb1).fresh hb2).cells13; obtain ⟨q0, q1, q2, q3, q4, q5, q6, q7⟩ := ((HX.out.fresh hb1).fresh hb2).cells8; exact ⟨p0, p1, p2, p3, p4, p5, p6, p7, p8, p9, p10, p11, p12, q0, q1, q2, q3, q4, q5, q6, q7⟩)))
          clear hK K hHeld1
          try simp only [Act.put, List.setIfInBounds_toArray, List.set_cons_zero, List.set_cons_succ]
          refine held_take (v := ?_) 5 rfl (by kernel_rfl) (by kernel_rfl) (by kernel_rfl) (fun _ _ _ h => h) (by rfl) ?_ (by assumption) ?_
          rotate_left
          · (intro w hSw; (try dsimp only at hSw); go_simp; try with_reducible rfl)
          try simp only [Act.put, List.setIfInBounds_toArray, List.set_cons_zero, List.set_cons_succ]
          refine held_take (v := ?_) 6 rfl (by kernel_rfl) (by kernel_rfl) (by kernel_rfl) (fun _ _ _ h => h) (by rfl) ?_ (by assumption) ?_
          rotate_left
          · (intro w hSw; (try dsimp only at hSw); go_simp; try with_reducible rfl)
          try simp only [Act.put, List.setIfInBounds_toArray, List.set_cons_zero, List.set_cons_succ]
          refine held_take (v := ?_) 7 rfl (by kernel_rfl) (by kernel_rfl) (by kernel_rfl) (fun _ _ _ h => h) (by rfl) ?_ (by assumption) ?_
          rotate_left
          · (intro w hSw; (try dsimp only at hSw); go_simp; try with_reducible rfl)
          try simp only [Act.put, List.setIfInBounds_toArray, List.set_cons_zero, List.set_cons_succ]
          refine held_take (v := ?_) 8 rfl (by kernel_rfl) (by kernel_rfl) (by kernel_rfl) (fun _ _ _ h => h) (by rfl) ?_ (by assumption) ?_
          rotate_left
          · (intro w hSw; (try dsimp only at hSw); go_simp; try with_reducible rfl)
          try simp only [Act.put, List.setIfInBounds_toArray, List.set_cons_zero, List.set_cons_succ]
          refine held_take (v := ?_) 9 rfl (by kernel_rfl) (by kernel_rfl) (by kernel_rfl) (fun _ _ _ h => h) (by rfl) ?_ (by assumption) ?_
          rotate_left
          · (intro w hSw; (try dsimp only at hSw); go_simp; try with_reducible rfl)
          try simp only [Act.put, List.setIfInBounds_toArray, List.set_cons_zero, List.set_cons_succ]
          refine held_take (v := ?_) 10 rfl (by kernel_rfl) (by kernel_rfl) (by kernel_rfl) (fun _ _ _ h => h) (by rfl) ?_ (by assumption) ?_
          rotate_left
          · (intro w hSw; (try dsimp only at hSw); go_simp; try with_reducible rfl)
          try simp only [Act.put, List.setIfInBounds_toArray, List.set_cons_zero, List.set_cons_succ]
          refine held_take (v := ?_) 11 rfl (by kernel_rfl) (by kernel_rfl) (by kernel_rfl) (fun _ _ _ h => h) (by rfl) ?_ (by assumption) ?_
          rotate_left
          · (intro w hSw; (try dsimp only at hSw); go_simp; try with_reducible rfl)
          try simp only [Act.put, List.setIfInBounds_toArray, List.set_cons_zero, List.set_cons_succ]
          refine held_take (v := ?_) 12 rfl (by kernel_rfl) (by kernel_rfl) (by kernel_rfl) (fun _ _ _ h => h) (by rfl) ?_ (by assumption) ?_
          rotate_left
          · (intro w hSw; (try dsimp only at hSw); go_simp; try with_reducible rfl)
          try simp only [Act.put, List.setIfInBounds_toArray, List.set_cons_zero, List.set_cons_succ]
          refine held_take (v := ?_) 13 rfl (by kernel_rfl) (by kernel_rfl) (by kernel_rfl) (fun _ _ _ h => h) (by rfl) ?_ (by assumption) ?_
          rotate_left
          · (intro w hSw; (try dsimp only at hSw); go_simp; try with_reducible rfl)
          try simp only [Act.put, List.setIfInBounds_toArray, List.set_cons_zero, List.set_cons_succ]
          refine held_take (v := ?_) 14 rfl (by kernel_rfl) (by kernel_rfl) (by kernel_rfl) (fun _ _ _ h => h) (by rfl) ?_ (by assumption) ?_
          rotate_left
          · (intro w hSw; (try dsimp only at hSw); go_simp; try with_reducible rfl)
          try simp only [Act.put, List.setIfInBounds_toArray, List.set_cons_zero, List.set_cons_succ]
          refine held_take (v := ?_) 15 rfl (by kernel_rfl) (by kernel_rfl) (by kernel_rfl) (fun _ _ _ h => h) (by rfl) ?_ (by assumption) ?_
          rotate_left
          · (intro w hSw; (try dsimp only at hSw); go_simp; try with_reducible rfl)
          try simp only [Act.put, List.setIfInBounds_toArray, List.set_cons_zero, List.set_cons_succ]
          refine held_take (v := ?_) 16 rfl (by kernel_rfl) (by kernel_rfl) (by kernel_rfl) (fun _ _ _ h => h) (by rfl) ?_ (by assumption) ?_
          rotate_left
          · (intro w hSw; (try dsimp only at hSw); go_simp; try with_reducible rfl)
          try simp only [Act.put, List.setIfInBounds_toArray, List.set_cons_zero, List.set_cons_succ]
          refine held_take (v := ?_) 17 rfl (by kernel_rfl) (by kernel_rfl) (by kernel_rfl) (fun _ _ _ h => h) (by rfl) ?_ (by assumption) ?_
          rotate_left
          · (intro w hSw; (try dsimp only at hSw); go_simp; try with_reducible rfl)
          try simp only [Act.put, List.setIfInBounds_toArray, List.set_cons_zero, List.set_cons_succ]
          refine held_take (v := ?_) 18 rfl (by kernel_rfl) (by kernel_rfl) (by kernel_rfl) (fun _ _ _ h => h) (by rfl) ?_ (by assumption) ?_
          rotate_left
          · (intro w hSw; (try dsimp only at hSw); go_simp; try with_reducible rfl)
          try simp only [Act.put, List.setIfInBounds_toArray, List.set_cons_zero, List.set_cons_succ]
          refine held_take (v := ?_) 19 rfl (by kernel_rfl) (by kernel_rfl) (by kernel_rfl) (fun _ _ _ h => h) (by rfl) ?_ (by assumption) ?_
          rotate_left
          · (intro w hSw; (try dsimp only at hSw); go_simp; try with_reducible rfl)
          try simp only [Act.put, List.setIfInBounds_toArray, List.set_cons_zero, List.set_cons_succ]
          refine wpAnyH_done (by kernel_rfl) ?_ _
          have hbl : Below w.heap.size w w2 := (hb0.trans (hb1.mono (by omega))).trans (hb2.mono (by have := hb1.size; omega))
          have HT2 := Lib.hid ((HT.out.fresh hb1).fresh hb2)
          have HX2 := Lib.hid ((HX.out.fresh hb1).fresh hb2)
          have x5 := HX2.out.cell 5 (v := .int .i64 x'.exit) rfl
          have hs2 : w.heap.size + 2 ≤ w2.heap.size := by have := hb1.size; have := hb2.size; omega
          have lt2 : w.heap.size < w2.heap.size := by omega
          have lt3 : w.heap.size + 1 < w2.heap.size := by omega
          clear ho1
          by_cases h3 : 0 ≤ x'.exit
          · obtain ⟨y, hy⟩ : ∃ y : Nat, x'.exit = (y : Int) := ⟨x'.exit.toNat, by omega⟩
            have hyl : y < exits.length := by omega
            obtain ⟨be, oe, ex, As, cs, Am, cm, rfl, hbE, hex, e0, e1, e2, e3, as_, -, am_, -, -⟩ := (H.out.2.1.below (hbl.mono hB)).ex_ hyl
            obtain ⟨N, hN⟩ : ∃ N, (Liv.vals ex).length = N := ⟨_, rfl⟩
            have hvb := H.out.2.2 ex (List.mem_of_getElem? hex)
            rw [hN] at hvb
            have hok := Liv.vals_ok as_ am_
            have hev : Liv.exitVals exits x'.exit = Liv.vals ex := by unfold Liv.exitVals; rw [if_neg (by omega), hy, Int.toNat_natCast, hex]; rfl
            rw [hev] at HQQ
            have HE := Lib.hid (And.intro as_ (And.intro am_ (And.intro hok (And.intro hN hvb)))); clear as_ am_ hN hvb hok hex hev
            have HY := Lib.hid hy
            have hbe : be < w2.heap.size := by omega
            have hy0 : (0 : Int) ≤ (y : Int) := by omega
            have hy1 : (y : Int) < (exits.length : Int) := by omega
            clear hd1 hd2
            rw [hy] at x5 h1 h2 h3
            clear hy
            go_wp2_with fail
            cases hv : (Liv.vals ex).any (Liv.bad ins k) with
            | true =>
              rw [hv, if_pos rfl] at HQQ
              have HV := Lib.hid hv; clear hv
              refine wp_region_held_drew (S := (fun w' => w'.cell? ⟨w.heap.size, 0, none⟩ = some (v0) ∧ w'.cell? ⟨w.heap.size, 1, none⟩ = some (v1) ∧ w'.cell? ⟨w.heap.size, 2, none⟩ = some (v2) ∧ w'.cell? ⟨w.heap.size, 3, none⟩ = some (.slice (some ⟨b, o, none⟩) ins.length ic) ∧ w'.cell? ⟨w.heap.size, 4, none⟩ = some (.slice (some ⟨be, oe, none⟩) exits.length ec) ∧ w'.cell? ⟨w.heap.size, 5, none⟩ = some (v5) ∧ w'.cell? ⟨w.heap.size, 6, none⟩ = some (v6) ∧ w'.cell? ⟨w.heap.size, 7, none⟩ = some (v7) ∧ w'.cell? ⟨w.heap.size, 8, none⟩ = some (v8) ∧ w'.cell? ⟨w.heap.size, 9, none⟩ = some (v9) ∧ w'.cell? ⟨w.heap.size, 10, none⟩ = some (v10) ∧ w'.cell? ⟨w.heap.size, 11, none⟩ = some (v11) ∧ w'.cell? ⟨w.heap.size, 12, none⟩ = some (v12) ∧ w'.cell? ⟨w.heap.size + 1, 5, none⟩ = some (.int .i64 (y : Int)) ∧ w'.cell? ⟨be, oe + y * 4, none⟩ = some (.int .i64 ex.at_) ∧ w'.cell? ⟨be, oe + y * 4 + 1, none⟩ = some (.int .i64 ex.steps) ∧ w'.cell? ⟨be, oe + y * 4 + 2, none⟩ = some (.slice As ex.sets.length cs) ∧ w'.cell? ⟨be, oe + y * 4 + 3, none⟩ = some (.slice Am ex.makes.length cm))) (by kernel_rfl) ?_ (fun hHeld0 => ?_)
              · first | trivial | ((try dsimp only); ((obtain ⟨p0, p1, p2, p3, p4, p5, p6, p7, p8, p9, p10, p11, p12⟩ := (HT2.out.drew).cells13; exact ⟨p0, p1, p2, p3, p4, p5, p6, p7, p8, p9, p10, p11, p12, (HX2.out.drew).cell 5 (by rw [HY.out]; rfl), e0, e1, e2, e3⟩)))
              refine held_take (v := ?_) 0 rfl (by kernel_rfl) (by kernel_rfl) (by kernel_rfl) (fun _ _ _ h => h) (by rfl) ?_ (by assumption) ?_
              rotate_left
              · (intro w hSw; (try dsimp only at hSw); go_simp; try with_reducible rfl)
              try simp only [Act.put, List.setIfInBounds_toArray, List.set_cons_zero, List.set_cons_succ]
              refine held_take (v := ?_) 1 rfl (by kernel_rfl) (by kernel_rfl) (by kernel_rfl) (fun _ _ _ h => h) (by rfl) ?_ (by assumption) ?_
              rotate_left
              · (intro w hSw; (try dsimp only at hSw); go_simp; try with_reducible rfl)
              try simp only [Act.put, List.setIfInBounds_toArray, List.set_cons_zero, List.set_cons_succ]
              refine held_take (v := ?_) 2 rfl (by kernel_rfl) (by kernel_rfl) (by kernel_rfl) (fun _ _ _ h => h) (by rfl) ?_ (by assumption) ?_
              rotate_left
              · (intro w hSw; (try dsimp only at hSw); go_simp; try with_reducible rfl)
              try simp only [Act.put, List.setIfInBounds_toArray, List.set_cons_zero, List.set_cons_succ]
              refine held_take (v := ?_) 3 rfl (by kernel_rfl) (by kernel_rfl) (by kernel_rfl) (fun _ _ _ h => h) (by rfl) ?_ (by assumption) ?_
              rotate_left
              · (intro w hSw; (try dsimp only at hSw); go_simp; try with_reducible rfl)
              try simp only [Act.put, List.setIfInBounds_toArray, List.set_cons_zero, List.set_cons_succ]
              refine held_take (v := ?_) 4 rfl (by kernel_rfl) (by kernel_rfl) (by kernel_rfl) (fun _ _ _ h => h) (by rfl) ?_ (by assumption) ?_
              rotate_left
              · (intro w hSw; (try dsimp only at hSw); go_simp; try with_reducible rfl)
              try simp only [Act.put, List.setIfInBounds_toArray, List.set_cons_zero, List.set_cons_succ]
              refine held_take (v := ?_) 5 rfl (by kernel_rfl) (by kernel_rfl) (by kernel_rfl) (fun _ _ _ h => h) (by rfl) ?_ (by assumption) ?_
              rotate_left
              · (intro w hSw; (try dsimp only at hSw); go_simp; try with_reducible rfl)
              try simp only [Act.put, List.setIfInBounds_toArray, List.set_cons_zero, List.set_cons_succ]
              refine held_take (v := ?_) 6 rfl (by kernel_rfl) (by kernel_rfl) (by kernel_rfl) (fun _ _ _ h => h) (by rfl) ?_ (by assumption) ?_
              rotate_left
              · (intro w hSw; (try dsimp only at hSw); go_simp; try with_reducible rfl)
              try simp only [Act.put, List.setIfInBounds_toArray, List.set_cons_zero, List.set_cons_succ]
              refine held_take (v := ?_) 7 rfl (by kernel_rfl) (by kernel_rfl) (by kernel_rfl) (fun _ _ _ h => h) (by rfl) ?_ (by assumption) ?_
              rotate_left
              · (intro w hSw; (try dsimp only at hSw); go_simp; try with_reducible rfl)
              try simp only [Act.put, List.setIfInBounds_toArray, List.set_cons_zero, List.set_cons_succ]
              refine held_take (v := ?_) 8 rfl (by kernel_rfl) (by kernel_rfl) (by kernel_rfl) (fun _ _ _ h => h) (by rfl) ?_ (by assumption) ?_
              rotate_left
              · (intro w hSw; (try dsimp only at hSw); go_simp; try with_reducible rfl)
              try simp only [Act.put, List.setIfInBounds_toArray, List.set_cons_zero, List.set_cons_succ]
              refine held_take (v := ?_) 9 rfl (by kernel_rfl) (by kernel_rfl) (by kernel_rfl) (fun _ _ _ h => h) (by rfl) ?_ (by assumption) ?_
              rotate_left
              · (intro w hSw; (try dsimp only at hSw); go_simp; try with_reducible rfl)
              try simp only [Act.put, List.setIfInBounds_toArray, List.set_cons_zero, List.set_cons_succ]
              refine held_take (v := ?_) 10 rfl (by kernel_rfl) (by kernel_rfl) (by kernel_rfl) (fun _ _ _ h => h) (by rfl) ?_ (by assumption) ?_
              rotate_left
              · (intro w hSw; (try dsimp only at hSw); go_simp; try with_reducible rfl)
              try simp only [Act.put, List.setIfInBounds_toArray, List.set_cons_zero, List.set_cons_succ]
              refine held_take (v := ?_) 12 rfl (by kernel_rfl) (by kernel_rfl) (by kernel_rfl) (fun _ _ _ h => h) (by rfl) ?_ (by assumption) ?_
              rotate_left
              · (intro w hSw; (try dsimp only at hSw); go_simp; try with_reducible rfl)
              try simp only [Act.put, List.setIfInBounds_toArray, List.set_cons_zero, List.set_cons_succ]
              refine held_call 11 (by kernel_rfl) rfl (fun K hK => ?_)
              go_simp
              go_at_call 68; refine (lvalues_any B cs cm N As Am ex _ (HE.out.1.drew) (HE.out.2.1.drew) (by show B ≤ w2.heap.size; omega) HE.out.2.2.2.1 HE.out.2.2.2.2).mono ?_; rintro e w3 ⟨A3, d3, rfl, ho3, hb3d⟩; have hb3 : Below w2.heap.size w2 w3 := undrew hb3d; clear hb3d
              try (go_wp2_with fail)
              refine hK.out _ _ ?_ (fun hHeld1 => ?_)
              · first | trivial | ((try dsimp only); ((obtain ⟨p0, p1, p2, p3, p4, p5, p6, p7, p8, p9, p10, p11, p12⟩ := (HT2.out.fresh hb3).cells13; exact ⟨p0, p1, p2, p3, p4, p5, p6, p7, p8, p9, p10, p11, p12, (HX2.out.fresh hb3).cell 5 (by rw [HY.out]; rfl), (hb3.cell (p := ⟨be, oe + y * 4, none⟩) hbe).trans e0, (hb3.cell (p := ⟨be, oe + y * 4 + 1, none⟩) hbe).trans e1, (hb3.cell (p := ⟨be, oe + y * 4 + 2, none⟩) hbe).trans e2, (hb3.cell (p := ⟨be, oe + y * 4 + 3, none⟩) hbe).trans e3⟩)))
              clear hK K hHeld0
              try simp only [Act.put, List.setIfInBounds_toArray, List.set_cons_zero, List.set_cons_succ]
              refine held_call 13 (by kernel_rfl) rfl (fun K hK => ?_)
              go_simp
              go_at_call 70; refine (lall_any B w3.heap.size ic d3 N _ A3 ins (Liv.vals ex) k _ _ _ _ _ _ _ _ _ _ _ _ w3 (H.out.1.below ((hbl.trans (hb3.mono (by omega))).mono hB)) (by have := hb3.size; omega) (by omega) HE.out.2.2.2.1 (ho3.at_ HE.out.2.2.1) (Nat.le_refl _) (by have := HE.out.2.2.2.2; omega)).mono ?_; rintro e w4 ⟨he, hb4⟩; obtain rfl : e = .returned (.bool false) := (by (rw [he, HV.out]; rfl)); clear he
              try (go_wp2_with fail)
              refine hK.out _ _ ?_ (fun hHeld2 => ?_)
              · first | trivial | ((try dsimp only); ((obtain ⟨p0, p1, p2, p3, p4, p5, p6, p7, p8, p9, p10, p11, p12⟩ := ((HT2.out.fresh hb3).fresh hb4).cells13; exact ⟨p0, p1, p2, p3, p4, p5, p6, p7, p8, p9, p10, p11, p12, ((HX2.out.fresh hb3).fresh hb4).cell 5 (by rw [HY.out]; rfl), (hb4.cell (p := ⟨be, oe + y * 4, none⟩) (show be < w3.heap.size by have := hb3.size; omega)).trans ((hb3.cell (p := ⟨be, oe + y * 4, none⟩) hbe).trans e0), (hb4.cell (p := ⟨be, oe + y * 4 + 1, none⟩) (show be < w3.heap.size by have := hb3.size; omega)).trans ((hb3.cell (p := ⟨be, oe + y * 4 + 1, none⟩) hbe).trans e1), (hb4.cell (p := ⟨be, oe + y * 4 + 2, none⟩) (show be < w3.heap.size by have := hb3.size; omega)).trans ((hb3.cell (p := ⟨be, oe + y * 4 + 2, none⟩) hbe).trans e2), (hb4.cell (p := ⟨be, oe + y * 4 + 3, none⟩) (show be < w3.heap.size by have := hb3.size; omega)).trans ((hb3.cell (p := ⟨be, oe + y * 4 + 3, none⟩) hbe).trans e3)⟩)))
              clear hK K hHeld1
              try simp only [Act.put, List.setIfInBounds_toArray, List.set_cons_zero, List.set_cons_succ]
              refine held_take (v := ?_) 14 rfl (by kernel_rfl) (by kernel_rfl) (by kernel_rfl) (fun _ _ _ h => h) (by rfl) ?_ (by assumption) ?_
              rotate_left
              · (intro w hSw; (try dsimp only at hSw); go_simp; try with_reducible rfl)
              try simp only [Act.put, List.setIfInBounds_toArray, List.set_cons_zero, List.set_cons_succ]
              refine held_take (v := ?_) 15 rfl (by kernel_rfl) (by kernel_rfl) (by kernel_rfl) (fun _ _ _ h => h) (by rfl) ?_ (by assumption) ?_
              rotate_left
              · (intro w hSw; (try dsimp only at hSw); go_simp; try with_reducible rfl)
              try simp only [Act.put, List.setIfInBounds_toArray, List.set_cons_zero, List.set_cons_succ]
              refine held_take (v := ?_) 16 rfl (by kernel_rfl) (by kernel_rfl) (by kernel_rfl) (fun _ _ _ h => h) (by rfl) ?_ (by assumption) ?_
              rotate_left
              · (intro w hSw; (try dsimp only at hSw); go_simp; try with_reducible rfl)
              try simp only [Act.put, List.setIfInBounds_toArray, List.set_cons_zero, List.set_cons_succ]
              refine wpAnyH_done (by kernel_rfl) ?_ _
              have hbl4 : Below w.heap.size w w4 := (hbl.trans (hb3.mono (by omega))).trans (hb4.mono (by have := hb3.size; omega))
              clear ho3
              go_wp2_with fail
              go_ret
              exact ⟨by rw [HQQ.out] <;> rfl, hbl4⟩
            | false =>
              rw [hv, if_neg (by decide)] at HQQ
              have HV := Lib.hid hv; clear hv
              refine wp_region_held_drew (S := (fun w' => w'.cell? ⟨w.heap.size, 0, none⟩ = some (v0) ∧ w'.cell? ⟨w.heap.size, 1, none⟩ = some (v1) ∧ w'.cell? ⟨w.heap.size, 2, none⟩ = some (v2) ∧ w'.cell? ⟨w.heap.size, 3, none⟩ = some (.slice (some ⟨b, o, none⟩) ins.length ic) ∧ w'.cell? ⟨w.heap.size, 4, none⟩ = some (.slice (some ⟨be, oe, none⟩) exits.length ec) ∧ w'.cell? ⟨w.heap.size, 5, none⟩ = some (v5) ∧ w'.cell? ⟨w.heap.size, 6, none⟩ = some (v6) ∧ w'.cell? ⟨w.heap.size, 7, none⟩ = some (v7) ∧ w'.cell? ⟨w.heap.size, 8, none⟩ = some (v8) ∧ w'.cell? ⟨w.heap.size, 9, none⟩ = some (v9) ∧ w'.cell? ⟨w.heap.size, 10, none⟩ = some (v10) ∧ w'.cell? ⟨w.heap.size, 11, none⟩ = some (v11) ∧ w'.cell? ⟨w.heap.size, 12, none⟩ = some (v12) ∧ w'.cell? ⟨w.heap.size + 1, 5, none⟩ = some (.int .i64 (y : Int)) ∧ w'.cell? ⟨be, oe + y * 4, none⟩ = some (.int .i64 ex.at_) ∧ w'.cell? ⟨be, oe + y * 4 + 1, none⟩ = some (.int .i64 ex.steps) ∧ w'.cell? ⟨be, oe + y * 4 + 2, none⟩ = some (.slice As ex.sets.length cs) ∧ w'.cell? ⟨be, oe + y * 4 + 3, none⟩ = some (.slice Am ex.makes.length cm))) (by kernel_rfl) ?_ (fun hHeld0 => ?_)
              · first | trivial | ((try dsimp only); ((obtain ⟨p0, p1, p2, p3, p4, p5, p6, p7, p8, p9, p10, p11, p12⟩ := (HT2.out.drew).cells13; exact ⟨p0, p1, p2, p3, p4, p5, p6, p7, p8, p9, p10, p11, p12, (HX2.out.drew).cell 5 (by rw [HY.out]; rfl), e0, e1, e2, e3⟩)))
              refine held_take (v := ?_) 0 rfl (by kernel_rfl) (by kernel_rfl) (by kernel_rfl) (fun _ _ _ h => h) (by rfl) ?_ (by assumption) ?_
              rotate_left
              · (intro w hSw; (try dsimp only at hSw); go_simp; try with_reducible rfl)
              try simp only [Act.put, List.setIfInBounds_toArray, List.set_cons_zero, List.set_cons_succ]
              refine held_take (v := ?_) 1 rfl (by kernel_rfl) (by kernel_rfl) (by kernel_rfl) (fun _ _ _ h => h) (by rfl) ?_ (by assumption) ?_
              rotate_left
              · (intro w hSw; (try dsimp only at hSw); go_simp; try with_reducible rfl)
              try simp only [Act.put, List.setIfInBounds_toArray, List.set_cons_zero, List.set_cons_succ]
              refine held_take (v := ?_) 2 rfl (by kernel_rfl) (by kernel_rfl) (by kernel_rfl) (fun _ _ _ h => h) (by rfl) ?_ (by assumption) ?_
              rotate_left
              · (intro w hSw; (try dsimp only at hSw); go_simp; try with_reducible rfl)
              try simp only [Act.put, List.setIfInBounds_toArray, List.set_cons_zero, List.set_cons_succ]
              refine held_take (v := ?_) 3 rfl (by kernel_rfl) (by kernel_rfl) (by kernel_rfl) (fun _ _ _ h => h) (by rfl) ?_ (by assumption) ?_
              rotate_left
              · (intro w hSw; (try dsimp only at hSw); go_simp; try with_reducible rfl)
              try simp only [Act.put, List.setIfInBounds_toArray, List.set_cons_zero, List.set_cons_succ]
              refine held_take (v := ?_) 4 rfl (by kernel_rfl) (by kernel_rfl) (by kernel_rfl) (fun _ _ _ h => h) (by rfl) ?_ (by assumption) ?_
              rotate_left
              · (intro w hSw; (try dsimp only at hSw); go_simp; try with_reducible rfl)
              try simp only [Act.put, List.setIfInBounds_toArray, List.set_cons_zero, List.set_cons_succ]
              refine held_take (v := ?_) 5 rfl (by kernel_rfl) (by kernel_rfl) (by kernel_rfl) (fun _ _ _ h => h) (by rfl) ?_ (by assumption) ?_
              rotate_left
              · (intro w hSw; (try dsimp only at hSw); go_simp; try with_reducible rfl)
              try simp only [Act.put, List.setIfInBounds_toArray, List.set_cons_zero, List.set_cons_succ]
              refine held_take (v := ?_) 6 rfl (by kernel_rfl) (by kernel_rfl) (by kernel_rfl) (fun _ _ _ h => h) (by rfl) ?_ (by assumption) ?_
              rotate_left
              · (intro w hSw; (try dsimp only at hSw); go_simp; try with_reducible rfl)
              try simp only [Act.put, List.setIfInBounds_toArray, List.set_cons_zero, List.set_cons_succ]
              refine held_take (v := ?_) 7 rfl (by kernel_rfl) (by kernel_rfl) (by kernel_rfl) (fun _ _ _ h => h) (by rfl) ?_ (by assumption) ?_
              rotate_left
              · (intro w hSw; (try dsimp only at hSw); go_simp; try with_reducible rfl)
              try simp only [Act.put, List.setIfInBounds_toArray, List.set_cons_zero, List.set_cons_succ]
              refine held_take (v := ?_) 8 rfl (by kernel_rfl) (by kernel_rfl) (by kernel_rfl) (fun _ _ _ h => h) (by rfl) ?_ (by assumption) ?_
              rotate_left
              · (intro w hSw; (try dsimp only at hSw); go_simp; try with_reducible rfl)
              try simp only [Act.put, List.setIfInBounds_toArray, List.set_cons_zero, List.set_cons_succ]
              refine held_take (v := ?_) 9 rfl (by kernel_rfl) (by kernel_rfl) (by kernel_rfl) (fun _ _ _ h => h) (by rfl) ?_ (by assumption) ?_
              rotate_left
              · (intro w hSw; (try dsimp only at hSw); go_simp; try with_reducible rfl)
              try simp only [Act.put, List.setIfInBounds_toArray, List.set_cons_zero, List.set_cons_succ]
              refine held_take (v := ?_) 10 rfl (by kernel_rfl) (by kernel_rfl) (by kernel_rfl) (fun _ _ _ h => h) (by rfl) ?_ (by assumption) ?_
              rotate_left
              · (intro w hSw; (try dsimp only at hSw); go_simp; try with_reducible rfl)
              try simp only [Act.put, List.setIfInBounds_toArray, List.set_cons_zero, List.set_cons_succ]
              refine held_take (v := ?_) 12 rfl (by kernel_rfl) (by kernel_rfl) (by kernel_rfl) (fun _ _ _ h => h) (by rfl) ?_ (by assumption) ?_
              rotate_left
              · (intro w hSw; (try dsimp only at hSw); go_simp; try with_reducible rfl)
              try simp only [Act.put, List.setIfInBounds_toArray, List.set_cons_zero, List.set_cons_succ]
              refine held_call 11 (by kernel_rfl) rfl (fun K hK => ?_)
              go_simp
              go_at_call 68; refine (lvalues_any B cs cm N As Am ex _ (HE.out.1.drew) (HE.out.2.1.drew) (by show B ≤ w2.heap.size; omega) HE.out.2.2.2.1 HE.out.2.2.2.2).mono ?_; rintro e w3 ⟨A3, d3, rfl, ho3, hb3d⟩; have hb3 : Below w2.heap.size w2 w3 := undrew hb3d; clear hb3d
              try (go_wp2_with fail)
              refine hK.out _ _ ?_ (fun hHeld1 => ?_)
              · first | trivial | ((try dsimp only); ((obtain ⟨p0, p1, p2, p3, p4, p5, p6, p7, p8, p9, p10, p11, p12⟩ := (HT2.out.fresh hb3).cells13; exact ⟨p0, p1, p2, p3, p4, p5, p6, p7, p8, p9, p10, p11, p12, (HX2.out.fresh hb3).cell 5 (by rw [HY.out]; rfl), (hb3.cell (p := ⟨be, oe + y * 4, none⟩) hbe).trans e0, (hb3.cell (p := ⟨be, oe + y * 4 + 1, none⟩) hbe).trans e1, (hb3.cell (p := ⟨be, oe + y * 4 + 2, none⟩) hbe).trans e2, (hb3.cell (p := ⟨be, oe + y * 4 + 3, none⟩) hbe).trans e3⟩)))
              clear hK K hHeld0
              try simp only [Act.put, List.setIfInBounds_toArray, List.set_cons_zero, List.set_cons_succ]
              refine held_call 13 (by kernel_rfl) rfl (fun K hK => ?_)
              go_simp
              go_at_call 70; refine (lall_any B w3.heap.size ic d3 N _ A3 ins (Liv.vals ex) k _ _ _ _ _ _ _ _ _ _ _ _ w3 (H.out.1.below ((hbl.trans (hb3.mono (by omega))).mono hB)) (by have := hb3.size; omega) (by omega) HE.out.2.2.2.1 (ho3.at_ HE.out.2.2.1) (Nat.le_refl _) (by have := HE.out.2.2.2.2; omega)).mono ?_; rintro e w4 ⟨he, hb4⟩; obtain rfl : e = .returned (.bool true) := (by (rw [he, HV.out]; rfl)); clear he
              try (go_wp2_with fail)
              refine hK.out _ _ ?_ (fun hHeld2 => ?_)
              · first | trivial | ((try dsimp only); ((obtain ⟨p0, p1, p2, p3, p4, p5, p6, p7, p8, p9, p10, p11, p12⟩ := ((HT2.out.fresh hb3).fresh hb4).cells13; exact ⟨p0, p1, p2, p3, p4, p5, p6, p7, p8, p9, p10, p11, p12, ((HX2.out.fresh hb3).fresh hb4).cell 5 (by rw [HY.out]; rfl), (hb4.cell (p := ⟨be, oe + y * 4, none⟩) (show be < w3.heap.size by have := hb3.size; omega)).trans ((hb3.cell (p := ⟨be, oe + y * 4, none⟩) hbe).trans e0), (hb4.cell (p := ⟨be, oe + y * 4 + 1, none⟩) (show be < w3.heap.size by have := hb3.size; omega)).trans ((hb3.cell (p := ⟨be, oe + y * 4 + 1, none⟩) hbe).trans e1), (hb4.cell (p := ⟨be, oe + y * 4 + 2, none⟩) (show be < w3.heap.size by have := hb3.size; omega)).trans ((hb3.cell (p := ⟨be, oe + y * 4 + 2, none⟩) hbe).trans e2), (hb4.cell (p := ⟨be, oe + y * 4 + 3, none⟩) (show be < w3.heap.size by have := hb3.size; omega)).trans ((hb3.cell (p := ⟨be, oe + y * 4 + 3, none⟩) hbe).trans e3)⟩)))
              clear hK K hHeld1
              try simp only [Act.put, List.setIfInBounds_toArray, List.set_cons_zero, List.set_cons_succ]
              refine held_take (v := ?_) 14 rfl (by kernel_rfl) (by kernel_rfl) (by kernel_rfl) (fun _ _ _ h => h) (by rfl) ?_ (by assumption) ?_
              rotate_left
              · (intro w hSw; (try dsimp only at hSw); go_simp; try with_reducible rfl)
              try simp only [Act.put, List.setIfInBounds_toArray, List.set_cons_zero, List.set_cons_succ]
              refine held_take (v := ?_) 15 rfl (by kernel_rfl) (by kernel_rfl) (by kernel_rfl) (fun _ _ _ h => h) (by rfl) ?_ (by assumption) ?_
              rotate_left
              · (intro w hSw; (try dsimp only at hSw); go_simp; try with_reducible rfl)
              try simp only [Act.put, List.setIfInBounds_toArray, List.set_cons_zero, List.set_cons_succ]
              refine held_take (v := ?_) 16 rfl (by kernel_rfl) (by kernel_rfl) (by kernel_rfl) (fun _ _ _ h => h) (by rfl) ?_ (by assumption) ?_
              rotate_left
              · (intro w hSw; (try dsimp only at hSw); go_simp; try with_reducible rfl)
              try simp only [Act.put, List.setIfInBounds_toArray, List.set_cons_zero, List.set_cons_succ]
              refine wpAnyH_done (by kernel_rfl) ?_ _
              have hbl4 : Below w.heap.size w w4 := (hbl.trans (hb3.mono (by omega))).trans (hb4.mono (by have := hb3.size; omega))
              clear ho3
              go_wp2_with fail
              go_ret
              exact ⟨by rw [HQQ.out] <;> rfl, hbl4⟩
          · have hev : Liv.exitVals exits x'.exit = [] := by unfold Liv.exitVals; rw [if_pos (by omega)]
            rw [hev, if_neg (by simp)] at HQQ
            clear hev
            have hd3 : decide (0 ≤ x'.exit) = false := by simpa using h3
            go_wp2_with fail
            refine wp_region_held_drew (S := (fun w' => w'.cell? ⟨w.heap.size + 1, 5, none⟩ = some (.int .i64 x'.exit))) (by kernel_rfl) ?_ (fun hHeld0 => ?_)
            · first | trivial | ((try dsimp only); (exact x5))
            refine held_take (v := ?_) 0 rfl (by kernel_rfl) (by kernel_rfl) (by kernel_rfl) (fun _ _ _ h => h) (by rfl) ?_ (by assumption) ?_
            rotate_left
            · (intro w hSw; (try dsimp only at hSw); go_simp; try with_reducible rfl)
            try simp only [Act.put, List.setIfInBounds_toArray, List.set_cons_zero, List.set_cons_succ]
            refine held_take (v := ?_) 1 rfl (by kernel_rfl) (by kernel_rfl) (by kernel_rfl) (fun _ _ _ h => h) (by rfl) ?_ (by assumption) ?_
            rotate_left
            · (intro w hSw; (try dsimp only at hSw); go_simp; try with_reducible rfl)
            try simp only [Act.put, List.setIfInBounds_toArray, List.set_cons_zero, List.set_cons_succ]
            refine held_take (v := ?_) 2 rfl (by kernel_rfl) (by kernel_rfl) (by kernel_rfl) (fun _ _ _ h => h) (by rfl) ?_ (by assumption) ?_
            rotate_left
            · (intro w hSw; (try dsimp only at hSw); go_simp; try with_reducible rfl)
            try simp only [Act.put, List.setIfInBounds_toArray, List.set_cons_zero, List.set_cons_succ]
            refine held_take (v := ?_) 3 rfl (by kernel_rfl) (by kernel_rfl) (by kernel_rfl) (fun _ _ _ h => h) (by rfl) ?_ (by assumption) ?_
            rotate_left
            · (intro w hSw; (try dsimp only at hSw); go_simp; try with_reducible rfl)
            try simp only [Act.put, List.setIfInBounds_toArray, List.set_cons_zero, List.set_cons_succ]
            refine held_skip 4 rfl (by kernel_rfl) (by kernel_rfl) (by kernel_rfl) (fun _ _ _ h => h) (by rfl) (by assumption) ?_
            try simp only [Act.put, List.setIfInBounds_toArray, List.set_cons_zero, List.set_cons_succ]
            refine held_skip 5 rfl (by kernel_rfl) (by kernel_rfl) (by kernel_rfl) (fun _ _ _ h => h) (by rfl) (by assumption) ?_
            try simp only [Act.put, List.setIfInBounds_toArray, List.set_cons_zero, List.set_cons_succ]
            refine held_skip 6 rfl (by kernel_rfl) (by kernel_rfl) (by kernel_rfl) (fun _ _ _ h => h) (by rfl) (by assumption) ?_
            try simp only [Act.put, List.setIfInBounds_toArray, List.set_cons_zero, List.set_cons_succ]
            refine held_skip 7 rfl (by kernel_rfl) (by kernel_rfl) (by kernel_rfl) (fun _ _ _ h => h) (by rfl) (by assumption) ?_
            try simp only [Act.put, List.setIfInBounds_toArray, List.set_cons_zero, List.set_cons_succ]
            refine held_skip 8 rfl (by kernel_rfl) (by kernel_rfl) (by kernel_rfl) (fun _ _ _ h => h) (by rfl) (by assumption) ?_
            try simp only [Act.put, List.setIfInBounds_toArray, List.set_cons_zero, List.set_cons_succ]
            refine held_skip 9 rfl (by kernel_rfl) (by kernel_rfl) (by kernel_rfl) (fun _ _ _ h => h) (by rfl) (by assumption) ?_
            try simp only [Act.put, List.setIfInBounds_toArray, List.set_cons_zero, List.set_cons_succ]
            refine held_skip 10 rfl (by kernel_rfl) (by kernel_rfl) (by kernel_rfl) (fun _ _ _ h => h) (by rfl) (by assumption) ?_
            try simp only [Act.put, List.setIfInBounds_toArray, List.set_cons_zero, List.set_cons_succ]
            refine held_skip 11 rfl (by kernel_rfl) (by kernel_rfl) (by kernel_rfl) (fun _ _ _ h => h) (by rfl) (by assumption) ?_
            try simp only [Act.put, List.setIfInBounds_toArray, List.set_cons_zero, List.set_cons_succ]
            refine held_skip 12 rfl (by kernel_rfl) (by kernel_rfl) (by kernel_rfl) (fun _ _ _ h => h) (by rfl) (by assumption) ?_
            try simp only [Act.put, List.setIfInBounds_toArray, List.set_cons_zero, List.set_cons_succ]
            refine held_skip 13 rfl (by kernel_rfl) (by kernel_rfl) (by kernel_rfl) (fun _ _ _ h => h) (by rfl) (by assumption) ?_
            try simp only [Act.put, List.setIfInBounds_toArray, List.set_cons_zero, List.set_cons_succ]
            refine held_skip 14 rfl (by kernel_rfl) (by kernel_rfl) (by kernel_rfl) (fun _ _ _ h => h) (by rfl) (by assumption) ?_
            try simp only [Act.put, List.setIfInBounds_toArray, List.set_cons_zero, List.set_cons_succ]
            refine held_take (v := ?_) 15 rfl (by kernel_rfl) (by kernel_rfl) (by kernel_rfl) (fun _ _ _ h => h) (by rfl) ?_ (by assumption) ?_
            rotate_left
            · (intro w hSw; (try dsimp only at hSw); go_simp; try with_reducible rfl)
            try simp only [Act.put, List.setIfInBounds_toArray, List.set_cons_zero, List.set_cons_succ]
            refine held_take (v := ?_) 16 rfl (by kernel_rfl) (by kernel_rfl) (by kernel_rfl) (fun _ _ _ h => h) (by rfl) ?_ (by assumption) ?_
            rotate_left
            · (intro w hSw; (try dsimp only at hSw); go_simp; try with_reducible rfl)
            try simp only [Act.put, List.setIfInBounds_toArray, List.set_cons_zero, List.set_cons_succ]
            refine wpAnyH_done (by kernel_rfl) ?_ _
            go_wp2_with fail
            go_ret
            exact ⟨by rw [HQQ.out] <;> rfl, hbl.drew⟩

end Go.Proofs.Ytljdnadejmkaeaa
