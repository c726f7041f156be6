/- RF: Ord7. -/
import Derived.Test.YtljdnadejmkaeaaRF1
import Derived.Test.YtljdnadejmkaeaaRF25
/- order.Places: the places of an exit. -/
namespace Go.Proofs.Ytljdnadejmkaeaa
open Go.RowKit

theorem At.trip {w : World} {B : Nat} {A : Option Addr} {l : List (Int × Int × Int)} {k : Nat} (h : At w B A l) (hk : k < l.length) :
    ∃ b o x y z, A = some ⟨b, o, none⟩ ∧ b < B ∧ l[k]? = some (x, y, z) ∧ I64 x ∧ I64 y ∧ I64 z ∧ w.cell? ⟨b, o + k * 3, none⟩ = some (.int .i64 x) ∧ w.cell? ⟨b, o + k * 3 + 1, none⟩ = some (.int .i64 y) ∧ w.cell? ⟨b, o + k * 3 + 2, none⟩ = some (.int .i64 z) := by
  obtain ⟨x, hx⟩ : ∃ x, l[k]? = some x := ⟨l[k], List.getElem?_eq_getElem hk⟩
  obtain ⟨b, o, cs, rfl, hb, hc, rfl, hok⟩ := h k x hx
  exact ⟨b, o, x.1, x.2.1, x.2.2, rfl, hb, hx, hok.1, hok.2.1, hok.2.2, hc 0 _ rfl, hc 1 _ rfl, hc 2 _ rfl⟩
theorem Ord.places_sets (x : RE) : x.sets.length ≤ (Ord.places x).length := by unfold Ord.places; simp
theorem Ord.places_makes (x : RE) : x.makes.length ≤ (Ord.places x).length := by
  unfold Ord.places
  rw [List.length_append]
  have key : ∀ l : List RM, l.length ≤ (l.flatMap fun m => m.cell :: m.vals).length := by
    intro l
    induction l with
    | nil => simp
    | cons m l ih => rw [List.flatMap_cons, List.length_append]; simp only [List.length_cons]; omega
  have := key x.makes
  omega

set_option maxHeartbeats 1600000 in
set_option maxRecDepth 100000 in
theorem places_any (B sc mc N : Nat) (SA MA : Option Addr) (x : RE) (w : World) (hs : At w B SA x.sets) (hm : At w B MA x.makes) (hB : B ≤ w.heap.size) (hN : (Ord.places x).length = N) (hl : N * 16 ≤ 140737488355328) :
    Calls Try.prog 127 #[.agg #[.int .i64 x.at_, .int .i64 x.steps, .slice SA x.sets.length sc, .slice MA x.makes.length mc]] w fun e w' => ∃ A d, e = .returned (.slice A N d) ∧ Own w' w.heap.size 90 A d (Ord.places x) ∧ Below w.heap.size w w' := by
  obtain ⟨i0, hi, hz0, hz1, hz2⟩ := info_parts infoRPlace
  have hsl := Ord.places_sets x
  have hml := Ord.places_makes x
  rw [hN] at hsl hml
  have H := Lib.hid (And.intro hs (And.intro hm hN)); clear hs hm hN
  go_enter Try.func127, Try.ntmps127
  go_wp2_with fail
  refine wp_world (fun W => Blk W w.heap.size 102 #[.int .i64 x.at_, .int .i64 x.steps, .slice SA x.sets.length sc, .slice MA x.makes.length mc] ∧ Below w.heap.size w W ∧ w.heap.size + 1 ≤ W.heap.size) ⟨Blk.new _ _ _, (Below.refl _ _).alloc (Nat.le_refl _) _, by simp⟩ ?_
  rintro W ⟨hG, hb0, hs0⟩
  have g2 := hG.cell 2 (v := .slice SA x.sets.length sc) rfl
  have HG := Lib.hid hG; clear hG
  have ltW : w.heap.size < W.heap.size := by omega
  go_wp2_with fail
  clear g2
  go_loopg [3, 11] (x.sets.length) (fun gk ov iv wr => ∃ (k : Nat) (A2 : Option Addr) (c2 : Nat) (o1 : List (Int × Int)), k ≤ x.sets.length ∧ gk = x.sets.length - k ∧ iv = .int .i64 k ∧ ov = .slice A2 o1.length c2 ∧ o1.length ≤ k ∧ Hid (o1 = (x.sets.take k).map (·.2) ∧ Own wr (w.heap.size + 1) 90 A2 c2 o1) ∧ Below (w.heap.size + 1) W wr ∧ w.heap.size + 1 ≤ wr.heap.size)
  case atStart => exact ⟨0, none, 0, [], Nat.zero_le _, rfl, rfl, rfl, Nat.le_refl _, ⟨rfl, Own.nil_⟩, Below.refl _ _, hs0⟩
  case round =>
    obtain ⟨k, A2, c2, o1, hk, rfl, rfl, rfl, ho1, hkeep, hbl, hsz⟩ := hrel
    by_cases hlt : k < x.sets.length
    · obtain ⟨b, o, a0, a1, a2, rfl, hb, hx, hox, hoy, hoz, d0, d1, d2⟩ := (H.out.1.below ((hb0.trans (hbl.mono (by omega))).mono hB)).trip hlt
      have hsn := Liv.mp_snoc (·.2) x.sets k _ hx
      have HX := Lib.hid (And.intro hsn (And.intro hkeep.out (And.intro hoy hoz))); clear hsn hx hox hoy hoz hkeep
      go_wp2_with (at_builtin; go_must (refine wpList_app (α := Int × Int) (n := o1.length) (m := 1) (B := wr.heap.size + 1 + 1) (r := [(a1, a2)]) rfl (.tmp 15) (.tmp 18) _ rfl (w.heap.size + 1) 90 i0 _ 16 Try.underlying83 hi hz0 hz1 hz2 rfl (by decide) pair_one (by rfl) rfl ((HX.out.2.1.2.alloc _).alloc _) (by rfl) ?_ rfl (by omega) (by simp only [maxLen]; omega) (by simp; omega) ?_))
      · have := At.built (wr.alloc (.cells #[.int .i64 a0, .int .i64 a1, .int .i64 a2] 186)) #[.int .i64 a1, .int .i64 a2] 90 [(a1, a2)] rfl (by intro z hz; simp at hz; subst hz; exact HX.out.2.2)
        simpa using this
      intro A3 c3 w3 hown3 hgr3 hat3
      have hbl3 : Below (w.heap.size + 1) W w3 := ((hbl.alloc hsz _).alloc (by simp; omega) _).grown hgr3 (by simp; omega) (fun g hg => (HX.out.2.1.2.lt g hg).1)
      have hs3 : w.heap.size + 1 ≤ w3.heap.size := by have := hgr3.size; simp at this; omega
      have heq : o1 ++ [(a1, a2)] = (x.sets.take (k + 1)).map (·.2) := by rw [HX.out.1, ← HX.out.2.1.1]
      have hl3 : (o1 ++ [(a1, a2)]).length = o1.length + 1 := by rw [List.length_append]; rfl
      have H3 := Lib.hid (And.intro heq (And.intro hown3 hl3)); clear heq hown3 hl3 hgr3 hat3
      go_wp2_with fail
      go_roundg (x.sets.length - (k + 1))
      case measure => omega
      case rel => exact ⟨k + 1, A3, c3, _, by omega, rfl, by go_num, by rw [H3.out.2.2], by rw [H3.out.2.2]; omega, ⟨H3.out.1, H3.out.2.1⟩, hbl3, hs3⟩
    · obtain ⟨k1, k2⟩ := hkeep.out
      rw [List.take_of_length_le (by omega)] at k1
      have hls : o1.length = x.sets.length := by rw [k1, List.length_map]
      have HK := Lib.hid (And.intro k1 (And.intro k2 hls)); clear k1 k2 hls hkeep
      have hG2 : Blk wr w.heap.size 102 #[.int .i64 x.at_, .int .i64 x.steps, .slice SA x.sets.length sc, .slice MA x.makes.length mc] := (hbl.block _ (by omega)).trans HG.out
      have g3 := hG2.cell 3 (v := .slice MA x.makes.length mc) rfl
      have ltr : w.heap.size < wr.heap.size := by omega
      clear hG2
      obtain ⟨wo, rfl⟩ : ∃ wo : World, wo = wr := ⟨_, rfl⟩
      go_wp2_with fail
      clear g3
      go_loopg [3, 24] (x.makes.length) (fun gj ov jv wj => ∃ (j : Nat) (A5 : Option Addr) (c5 : Nat) (o2 : List (Int × Int)), j ≤ x.makes.length ∧ gj = x.makes.length - j ∧ jv = .int .i64 j ∧ ov = .slice A5 o2.length c5 ∧ Hid (o2 = o1 ++ (x.makes.take j).flatMap (fun m => m.cell :: m.vals) ∧ Own wj (w.heap.size + 1) 90 A5 c5 o2) ∧ Below (w.heap.size + 1) W wj ∧ w.heap.size + 1 ≤ wj.heap.size)
      case atStart => exact ⟨0, A2, c2, o1, Nat.zero_le _, rfl, rfl, rfl, ⟨by simp, HK.out.2.1⟩, hbl, by omega⟩
      case round =>
        obtain ⟨j, A5, c5, o2, hj, rfl, rfl, rfl, hkeep, hblj, hsj⟩ := hrel
        by_cases hjt : j < x.makes.length
        · obtain ⟨b, o, m, VA, vc, rfl, hb, hx, e0, e1, e2, e3, e4, av, hvc, j0, j1, j2, j3⟩ := (H.out.2.1.below ((hb0.trans (hblj.mono (by omega))).mono hB)).rM_ hjt
          have hsn := Liv.fm_snoc (fun m : RM => m.cell :: m.vals) x.makes j _ hx
          have hrm := Liv.fm_room (fun m : RM => m.cell :: m.vals) x.makes j _ hx
          have hroom : o2.length + (m.vals.length + 1) ≤ N := by
            rw [← H.out.2.2, hkeep.out.1, List.length_append, HK.out.2.2]; unfold Ord.places; rw [List.length_append, List.length_map]; simp only [List.length_cons] at hrm; omega
          have HX := Lib.hid (And.intro hsn (And.intro hkeep.out (And.intro (And.intro j0 j1) av))); clear hsn hx hrm hkeep j0 j1 j2 j3 av hvc
          go_wp2_with fail
          refine wp_world (fun V => Blk V wr.heap.size 189 #[.int .i64 m.cell.1, .int .i64 m.cell.2, .int .i64 m.kind, .int .i64 m.num, .slice VA m.vals.length vc] ∧ Own V (w.heap.size + 1) 90 A5 c5 o2 ∧ Below (w.heap.size + 1) wr V ∧ wr.heap.size + 1 ≤ V.heap.size) ⟨Blk.new _ _ _, HX.out.2.1.2.alloc _, (Below.refl _ _).alloc hsj _, by simp⟩ ?_
          rintro V ⟨hF, hO, hbV, hsV⟩
          have p0 := hF.cell 0 (v := .int .i64 m.cell.1) rfl
          have p1 := hF.cell 1 (v := .int .i64 m.cell.2) rfl
          have p3 := hF.cell 4 (v := .slice VA m.vals.length vc) rfl
          have HLB := Lib.hid (hF.drew.alloc (.cells #[.int .i64 m.cell.1, .int .i64 m.cell.2] 90))
          have HLO := Lib.hid (hO.drew.alloc (.cells #[.int .i64 m.cell.1, .int .i64 m.cell.2] 90))
          have HLT := Lib.hid (At.built V.drew #[.int .i64 m.cell.1, .int .i64 m.cell.2] 90 [m.cell] rfl (by intro z hz; simp at hz; subst hz; exact HX.out.2.2.1))
          have hsV1 : w.heap.size + 1 ≤ V.heap.size := by omega
          have eV : V.drew.heap.size = V.heap.size := rfl
          have HAV := Lib.hid (fun (w3 : World) (r : Option Nat) (hg : (V.drew.alloc (.cells #[.int .i64 m.cell.1, .int .i64 m.cell.2] 90)).grownBy w3 r) (hr : r = rowOf A5) => HX.out.2.2.2.below (((hbV.drew.alloc (show w.heap.size + 1 ≤ V.heap.size from hsV1) (.cells #[.int .i64 m.cell.1, .int .i64 m.cell.2] 90)).grown hg (by simp; omega) (fun g hg' => (hO.lt g (by rw [← hr]; exact hg')).1)).mono (show B ≤ w.heap.size + 1 by omega)))
          have HBV := Lib.hid (And.intro hO hbV)
          clear hF hO hbV e0 e1 e2 e3 e4
          go_region_held3 (fun w' => w'.cell? ⟨wr.heap.size, 0, none⟩ = some (.int .i64 m.cell.1) ∧ w'.cell? ⟨wr.heap.size, 1, none⟩ = some (.int .i64 m.cell.2) ∧ w'.cell? ⟨wr.heap.size, 4, none⟩ = some (.slice VA m.vals.length vc))
            (first
              | exact ⟨p0, p1, p3⟩
              | exact ⟨HLB.out.cell 0 rfl, HLB.out.cell 1 rfl, HLB.out.cell 4 rfl⟩
              | (have F1 := HLB.out.grown hgr3 (fun e => own_ne_ty HLO.out HLB.out (by decide) e); exact ⟨F1.cell 0 rfl, F1.cell 1 rfl, F1.cell 4 rfl⟩)
              | (have F1 := HLB.out.grown hgr3 (fun e => own_ne_ty HLO.out HLB.out (by decide) e); have F2 := F1.grown hgr4 (fun e => own_ne_ty hown3 F1 (by decide) e); exact ⟨F2.cell 0 rfl, F2.cell 1 rfl, F2.cell 4 rfl⟩)
              | go_keep)
            (first
              | (refine step_app (α := Int × Int) (n := o2.length) (m := 1) (nm := o2.length + 1) (B := V.heap.size + 1) (r := [m.cell]) (by rfl) (.tmp 28) (.tmp 31) _ (by rfl) (w.heap.size + 1) 90 i0 _ 16 Try.underlying83 hi hz0 hz1 hz2 rfl (by decide) pair_one (by rfl) rfl HLO.out (by rfl) HLT.out rfl rfl (by omega) (by simp only [maxLen]; omega) (by simp; omega) ?_; intro A3 c3 w3 hown3 hgr3 hat3)
              | (refine step_app (α := Int × Int) (n := o2.length + 1) (m := m.vals.length) (nm := o2.length + 1 + m.vals.length) (B := B) (r := m.vals) (by rfl) (.tmp 32) (.tmp 34) _ (by rfl) (w.heap.size + 1) 90 i0 _ 16 Try.underlying83 hi hz0 hz1 hz2 rfl (by decide) pair_one (by rfl) (by rw [List.length_append]; rfl) hown3 (by rfl) (HAV.out w3 _ hgr3 rfl) rfl rfl (by omega) (by simp only [maxLen]; omega) (by have := hgr3.size; simp at this; omega) ?_; intro A4 c4 w4 hown4 hgr4 hat4))
          have hs3 : V.heap.size + 1 ≤ w3.heap.size := by simpa using hgr3.size
          have hs4 := hgr4.size
          have hbl4 : Below (w.heap.size + 1) W w4 := hblj.trans (((HBV.out.2.drew.alloc (show w.heap.size + 1 ≤ V.heap.size from hsV1) (.cells #[.int .i64 m.cell.1, .int .i64 m.cell.2] 90)).grown hgr3 (by simp; omega) (fun g hg => (HBV.out.1.lt g hg).1)).grown hgr4 (by omega) (fun g hg => (hown3.lt g hg).1))
          have heq : o2 ++ [m.cell] ++ m.vals = o1 ++ (x.makes.take (j + 1)).flatMap (fun m => m.cell :: m.vals) := by rw [HX.out.1, HX.out.2.1.1]; simp
          have hl4 : o2.length + 1 + m.vals.length = (o2 ++ [m.cell] ++ m.vals).length := by rw [List.length_append, List.length_append]; rfl
          have H4 := Lib.hid (And.intro heq (And.intro hown4 hl4)); clear heq hown4 hl4 hgr4 hat4 hown3 hgr3 hat3 p0 p1 p3
          go_wp2_with fail
          go_roundg (x.makes.length - (j + 1))
          case measure => omega
          case rel => exact ⟨j + 1, A4, c4, _, by omega, rfl, by go_num, by rw [← H4.out.2.2], ⟨H4.out.1, H4.out.2.1⟩, hbl4, by omega⟩
        · obtain ⟨q1, q2⟩ := hkeep.out
          rw [List.take_of_length_le (by omega), HK.out.1] at q1
          have hq1 : o2 = Ord.places x := q1
          have hq2 : o2.length = N := by rw [hq1]; exact H.out.2.2
          have hblw : Below w.heap.size w wr := hb0.trans (hblj.mono (by omega))
          have HF := Lib.hid (And.intro hq1 (And.intro hq2 q2)); clear q1 hq1 hq2 q2 hkeep
          go_wp2_with fail
          go_ret
          exact ⟨A5, c5, by rw [← HF.out.2.1]; rfl, by rw [← HF.out.1]; exact HF.out.2.2.base_le (by omega), hblw⟩

end Go.Proofs.Ytljdnadejmkaeaa
