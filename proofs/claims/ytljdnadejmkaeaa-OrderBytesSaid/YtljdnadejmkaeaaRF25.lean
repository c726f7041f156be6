/- RF: Live2. -/
import Derived.Test.YtljdnadejmkaeaaRF1
import Derived.Test.YtljdnadejmkaeaaRF11
import Derived.Deep.DeepMust
import Derived.Deep.RegionHeld3
/- The values of an exit: the reference's list and live's. -/
namespace Go.Proofs.Ytljdnadejmkaeaa
open Go.RowKit

namespace Liv
def vals (x : Ex) : List Int := x.sets.map (·.2) ++ x.makes.flatMap (fun m => m.cell :: m.vals)
theorem fm_snoc {α β : Type} (f : α → List β) (l : List α) (k : Nat) (x : α) (h : l[k]? = some x) : (l.take (k + 1)).flatMap f = (l.take k).flatMap f ++ f x := by
  rw [List.take_add_one, h, List.flatMap_append]; simp
theorem mp_snoc {α β : Type} (f : α → β) (l : List α) (k : Nat) (x : α) (h : l[k]? = some x) : (l.take (k + 1)).map f = (l.take k).map f ++ [f x] := by
  rw [List.take_add_one, h, List.map_append]; simp
theorem fm_room {α β : Type} (f : α → List β) (l : List α) (k : Nat) (x : α) (h : l[k]? = some x) : ((l.take k).flatMap f).length + (f x).length ≤ (l.flatMap f).length := by
  have e : l = l.take (k + 1) ++ l.drop (k + 1) := (List.take_append_drop _ _).symm
  have h1 : (l.flatMap f).length = ((l.take (k + 1) ++ l.drop (k + 1)).flatMap f).length := by rw [← e]
  rw [h1, List.flatMap_append, List.length_append, fm_snoc f l k x h, List.length_append]
  omega
theorem vals_sets (x : Ex) : x.sets.length ≤ (vals x).length := by unfold vals; rw [List.length_append, List.length_map]; omega
theorem fm_ge {α β : Type} (f : α → List β) (l : List α) (h : ∀ x, 1 ≤ (f x).length) : l.length ≤ (l.flatMap f).length := by
  induction l with
  | nil => simp
  | cons x l ih => rw [List.flatMap_cons, List.length_append, List.length_cons]; have := h x; omega
theorem vals_makes (x : Ex) : x.makes.length ≤ (vals x).length := by
  unfold vals; rw [List.length_append]
  have := fm_ge (fun m : Mk => m.cell :: m.vals) x.makes (fun m => by simp)
  omega
end Liv

set_option maxHeartbeats 1600000 in
set_option maxRecDepth 100000 in
theorem rvalues_any (B sc mc N : Nat) (SA MA : Option Addr) (x : Ex) (w : World) (hs : At w B SA x.sets) (hm : At w B MA x.makes) (hB : B ≤ w.heap.size) (hN : (Liv.vals x).length = N) (hl : N * 8 ≤ 140737488355328) :
    Calls Try.prog 63 #[.agg #[.int .i64 x.at_, .int .i64 x.steps, .slice SA x.sets.length sc, .slice MA x.makes.length mc]] w fun e w' => ∃ A d, e = .returned (.slice A N d) ∧ Own w' w.heap.size 3 A d (Liv.vals x) ∧ Below w.heap.size w w' := by
  obtain ⟨i0, hi, hz0, hz1, hz2⟩ := info_parts infoInt
  have hsl := Liv.vals_sets x
  have hml := Liv.vals_makes x
  rw [hN] at hsl hml
  have H := Lib.hid (And.intro hs (And.intro hm hN)); clear hs hm hN
  go_enter Try.func63, Try.ntmps63
  go_wp2_with fail
  refine wp_world (fun W => Blk W w.heap.size 31 #[.int .i64 x.at_, .int .i64 x.steps, .slice SA x.sets.length sc, .slice MA x.makes.length mc] ∧ Below w.heap.size w W ∧ w.heap.size + 1 ≤ W.heap.size) ⟨Blk.new _ _ _, (Below.refl _ _).alloc (Nat.le_refl _) _, by simp⟩ ?_
  rintro W ⟨hG, hb0, hs0⟩
  have g2 := hG.cell 2 (v := .slice SA x.sets.length sc) rfl
  have HG := Lib.hid hG; clear hG
  have ltW : w.heap.size < W.heap.size := by omega
  go_wp2_with fail
  clear g2
  go_loopg [3, 11] (x.sets.length) (fun gk ov iv wr => ∃ (k : Nat) (A2 : Option Addr) (c2 : Nat) (o1 : List Int), k ≤ x.sets.length ∧ gk = x.sets.length - k ∧ iv = .int .i64 k ∧ ov = .slice A2 o1.length c2 ∧ o1.length ≤ k ∧ Hid (o1 = (x.sets.take k).map (·.2) ∧ Own wr (w.heap.size + 1) 3 A2 c2 o1) ∧ Below (w.heap.size + 1) W wr ∧ w.heap.size + 1 ≤ wr.heap.size)
  case atStart => exact ⟨0, none, 0, [], Nat.zero_le _, rfl, rfl, rfl, Nat.le_refl _, ⟨rfl, Own.nil_⟩, Below.refl _ _, hs0⟩
  case round =>
    obtain ⟨k, A2, c2, o1, hk, rfl, rfl, rfl, ho1, hkeep, hbl, hsz⟩ := hrel
    by_cases hlt : k < x.sets.length
    · obtain ⟨b, o, a1, a2, rfl, hb, hx, hox, hoy, d0, d1⟩ := (H.out.1.below ((hb0.trans (hbl.mono (by omega))).mono hB)).pair hlt
      have hsn := Liv.mp_snoc (·.2) x.sets k _ hx
      have HX := Lib.hid (And.intro hsn (And.intro hkeep.out hoy)); clear hsn hx hox hoy hkeep
      go_wp2_with (at_builtin; go_must (refine wpList_app (α := Int) (n := o1.length) (m := 1) (B := wr.heap.size + 1 + 1) (r := [a2]) rfl (.tmp 15) (.tmp 18) _ rfl (w.heap.size + 1) 3 i0 _ 8 Try.underlying40 hi hz0 hz1 hz2 rfl (by decide) int_one (by rfl) rfl ((HX.out.2.1.2.alloc _).alloc _) (by rfl) ?_ rfl (by omega) (by simp only [maxLen]; omega) (by simp; omega) ?_))
      · have := At.built (wr.alloc (.cells #[.int .i64 a1, .int .i64 a2] 38)) #[.int .i64 a2] 3 [a2] rfl (by intro z hz; simp at hz; subst hz; exact HX.out.2.2)
        simpa using this
      intro A3 c3 w3 hown3 hgr3 hat3
      have hbl3 : Below (w.heap.size + 1) W w3 := ((hbl.alloc hsz _).alloc (by simp; omega) _).grown hgr3 (by simp; omega) (fun g hg => (HX.out.2.1.2.lt g hg).1)
      have hs3 : w.heap.size + 1 ≤ w3.heap.size := by have := hgr3.size; simp at this; omega
      have heq : o1 ++ [a2] = (x.sets.take (k + 1)).map (·.2) := by rw [HX.out.1, ← HX.out.2.1.1]
      have hl3 : (o1 ++ [a2]).length = o1.length + 1 := by rw [List.length_append]; rfl
      have H3 := Lib.hid (And.intro heq (And.intro hown3 hl3)); clear heq hown3 hl3 hgr3 hat3
      go_wp2_with fail
      go_roundg (x.sets.length - (k + 1))
      case measure => omega
      case rel => exact ⟨k + 1, A3, c3, _, by omega, rfl, by go_num, by rw [H3.out.2.2], by rw [H3.out.2.2]; omega, ⟨H3.out.1, H3.out.2.1⟩, hbl3, hs3⟩
    · obtain ⟨k1, k2⟩ := hkeep.out
      rw [List.take_of_length_le (by omega)] at k1
      have hls : o1.length = x.sets.length := by rw [k1, List.length_map]
      have HK := Lib.hid (And.intro k1 (And.intro k2 hls)); clear k1 k2 hls hkeep
      have hG2 : Blk wr w.heap.size 31 #[.int .i64 x.at_, .int .i64 x.steps, .slice SA x.sets.length sc, .slice MA x.makes.length mc] := (hbl.block _ (by omega)).trans HG.out
      have g3 := hG2.cell 3 (v := .slice MA x.makes.length mc) rfl
      have ltr : w.heap.size < wr.heap.size := by omega
      clear hG2
      obtain ⟨wo, rfl⟩ : ∃ wo : World, wo = wr := ⟨_, rfl⟩
      go_wp2_with fail
      clear g3
      go_loopg [3, 24] (x.makes.length) (fun gj ov jv wj => ∃ (j : Nat) (A5 : Option Addr) (c5 : Nat) (o2 : List Int), j ≤ x.makes.length ∧ gj = x.makes.length - j ∧ jv = .int .i64 j ∧ ov = .slice A5 o2.length c5 ∧ Hid (o2 = o1 ++ (x.makes.take j).flatMap (fun m => m.cell :: m.vals) ∧ Own wj (w.heap.size + 1) 3 A5 c5 o2) ∧ Below (w.heap.size + 1) W wj ∧ w.heap.size + 1 ≤ wj.heap.size)
      case atStart => exact ⟨0, A2, c2, o1, Nat.zero_le _, rfl, rfl, rfl, ⟨by simp, HK.out.2.1⟩, hbl, by omega⟩
      case round =>
        obtain ⟨j, A5, c5, o2, hj, rfl, rfl, rfl, hkeep, hblj, hsj⟩ := hrel
        by_cases hjt : j < x.makes.length
        · obtain ⟨b, o, m, VA, vc, rfl, hb, hx, e0, e1, e2, e3, av, hvc, j0, j1, j2⟩ := (H.out.2.1.below ((hb0.trans (hblj.mono (by omega))).mono hB)).mk_ hjt
          have hsn := Liv.fm_snoc (fun m : Mk => m.cell :: m.vals) x.makes j _ hx
          have hrm := Liv.fm_room (fun m : Mk => m.cell :: m.vals) x.makes j _ hx
          have hroom : o2.length + (m.vals.length + 1) ≤ N := by
            rw [← H.out.2.2, hkeep.out.1, List.length_append, HK.out.2.2]; unfold Liv.vals; rw [List.length_append, List.length_map]; simp only [List.length_cons] at hrm; omega
          have HX := Lib.hid (And.intro hsn (And.intro hkeep.out (And.intro j0 av))); clear hsn hx hrm hkeep j0 j1 j2 av hvc
          go_wp2_with (at_builtin; go_must (refine wpList_app (α := Int) (n := o2.length) (m := 1) (B := wr.heap.size + 1 + 1) (r := [m.cell]) rfl (.tmp 28) (.tmp 31) _ rfl (w.heap.size + 1) 3 i0 _ 8 Try.underlying40 hi hz0 hz1 hz2 rfl (by decide) int_one (by rfl) rfl ((HX.out.2.1.2.alloc _).alloc _) (by rfl) ?_ rfl (by omega) (by simp only [maxLen]; omega) (by simp; omega) ?_))
          · have := At.built (wr.alloc (.cells #[.int .i64 m.cell, .int .i64 m.kind, .int .i64 m.num, .slice VA m.vals.length vc] 54)) #[.int .i64 m.cell] 3 [m.cell] rfl (by intro z hz; simp at hz; subst hz; exact HX.out.2.2.1)
            simpa using this
          intro A3 c3 w3 hown3 hgr3 hat3
          have hlo : (o2 ++ [m.cell]).length = o2.length + 1 := by rw [List.length_append]; rfl
          have hF := ((Blk.new wr 54 #[.int .i64 m.cell, .int .i64 m.kind, .int .i64 m.num, .slice VA m.vals.length vc]).alloc (.cells #[.int .i64 m.cell] 3)).grown hgr3 (fun e => by have := (HX.out.2.1.2.lt _ e).2; omega)
          have p3 := hF.cell 3 (v := .slice VA m.vals.length vc) rfl
          have hbr3 : Below (w.heap.size + 1) wr w3 := (((Below.refl _ wr).alloc hsj _).alloc (by simp; omega) _).grown hgr3 (by simp; omega) (fun g hg => (HX.out.2.1.2.lt g hg).1)
          have hs3 : wr.heap.size + 2 ≤ w3.heap.size := by have := hgr3.size; simp at this; omega
          have lt3 : wr.heap.size < w3.heap.size := by omega
          have hbl3 : Below (w.heap.size + 1) W w3 := hblj.trans hbr3
          have HA3 := Lib.hid (And.intro hown3 (And.intro hlo (HX.out.2.2.2.below (hbr3.mono (by omega))))); clear hown3 hlo hF hgr3 hat3 e0 e1 e2 e3
          go_wp2_with (at_builtin; go_must (refine wpList_app (α := Int) (n := o2.length + 1) (m := m.vals.length) (B := B) (r := m.vals) rfl (.tmp 33) (.tmp 35) _ rfl (w.heap.size + 1) 3 i0 _ 8 Try.underlying40 hi hz0 hz1 hz2 rfl (by decide) int_one (by rfl) HA3.out.2.1 HA3.out.1 (by rfl) HA3.out.2.2 rfl (by omega) (by simp only [maxLen]; omega) (by omega) ?_))
          intro A4 c4 w4 hown4 hgr4 hat4
          have hown4 : Own w4 (w.heap.size + 1) 3 A4 c4 (o2 ++ [m.cell] ++ m.vals) := by simpa using hown4
          have hs4 := hgr4.size
          have hbl4 : Below (w.heap.size + 1) W w4 := hbl3.grown hgr4 (by omega) (fun g hg => (HA3.out.1.lt g hg).1)
          have heq : o2 ++ [m.cell] ++ m.vals = o1 ++ (x.makes.take (j + 1)).flatMap (fun m => m.cell :: m.vals) := by rw [HX.out.1, HX.out.2.1.1]; simp
          have hl4 : o2.length + 1 + m.vals.length = (o2 ++ [m.cell] ++ m.vals).length := by rw [List.length_append, HA3.out.2.1]
          have H4 := Lib.hid (And.intro heq (And.intro hown4 hl4)); clear heq hown4 hl4 hgr4 hat4 p3
          go_wp2_with fail
          go_roundg (x.makes.length - (j + 1))
          case measure => omega
          case rel => exact ⟨j + 1, A4, c4, _, by omega, rfl, by go_num, by rw [← H4.out.2.2], ⟨H4.out.1, H4.out.2.1⟩, hbl4, by omega⟩
        · obtain ⟨q1, q2⟩ := hkeep.out
          rw [List.take_of_length_le (by omega), HK.out.1] at q1
          have hq1 : o2 = Liv.vals x := q1
          have hq2 : o2.length = N := by rw [hq1]; exact H.out.2.2
          have hblw : Below w.heap.size w wr := hb0.trans (hblj.mono (by omega))
          have HF := Lib.hid (And.intro hq1 (And.intro hq2 q2)); clear q1 hq1 hq2 q2 hkeep
          go_wp2_with fail
          go_ret
          exact ⟨A5, c5, by rw [← HF.out.2.1]; rfl, by rw [← HF.out.1]; exact HF.out.2.2.base_le (by omega), hblw⟩

end Go.Proofs.Ytljdnadejmkaeaa
