/- RF: Ord15. -/
import Derived.Test.YtljdnadejmkaeaaRF39
/- order's writer: places, exits. -/
namespace Go.Proofs.Ytljdnadejmkaeaa
open Go.RowKit

namespace Ord
theorem bys_nums (a b : List Int) : bys (numsB (a ++ b)) = bys (numsB a) ++ bys (numsB b) := by rw [numsB_append, bys_append]
theorem nums_bound {l : List Int} (h : ∀ x ∈ l, I64 x) : (bys (numsB l)).length ≤ l.length * 10 := by rw [bys_length]; exact numsB_len h
end Ord

set_option maxRecDepth 100000 in
theorem place_any (R base : Nat) (p q : Int) (out : List U8) (w : World) (hp : I64 p) (hq : I64 q) (h : Bw w base R out) (hlen : out.length + 20 ≤ 1000000000000) :
    Calls Try.prog 122 #[.pointer (some ⟨R, 0, none⟩), .agg #[.int .i64 p, .int .i64 q]] w fun en w' => en = .returned (.tuple #[]) ∧ Bw w' base R (out ++ Ord.bys (Ord.numsB [p, q])) ∧ Below base w w' ∧ BKeep R w w' := by
  have hl := h.lt
  have H := Lib.hid (And.intro h (And.intro hp hq)); clear h hp hq
  go_enter Try.func122, Try.ntmps122
  go_wp2_with fail
  refine (nums_new R base (w.heap.size + 1) 2 _ [p, q] out (w.alloc (.cells #[.int .i64 p, .int .i64 q] 90)) (by simp) rfl rfl (by intro x hx; simp at hx; rcases hx with rfl | rfl; exact H.out.2.1; exact H.out.2.2) (H.out.1.alloc _) (by omega)).mono ?_
  rintro en w1 ⟨rfl, hW1, hb1, hk1⟩
  have H1 := Lib.hid (And.intro hW1 (And.intro (((Below.refl base w).alloc (by omega) (.cells #[.int .i64 p, .int .i64 q] 90)).trans hb1) (((BKeep.refl R w).alloc (.cells #[.int .i64 p, .int .i64 q] 90)).trans hk1))); clear hW1 hb1 hk1
  go_wp2_with fail
  go_end0
  exact ⟨rfl, H1.out⟩

set_option maxHeartbeats 6400000 in
set_option maxRecDepth 100000 in
theorem wexit_any (R base B sc mc : Nat) (SA MA : Option Addr) (x : RE) (out : List U8) (w : World) (hs : At w B SA x.sets) (hm : At w B MA x.makes) (hB : B ≤ base) (h : Bw w base R out) (hlen : out.length ≤ 900000000000) (hi : I64 x.at_ ∧ I64 x.steps) (hlg : Ord.large x = false) :
    Calls Try.prog 90 #[.pointer (some ⟨R, 0, none⟩), .agg #[.int .i64 x.at_, .int .i64 x.steps, .slice SA x.sets.length sc, .slice MA x.makes.length mc]] w fun en w' => en = .returned (.tuple #[]) ∧ Bw w' base R (out ++ Ord.bys (Ord.numsB (Ord.exitNums x))) ∧ Below base w w' ∧ BKeep R w w' := by
  obtain ⟨-, hsl, hml, hvl⟩ := Ord.large_no hlg
  have hl := h.lt
  have HH := Lib.hid (And.intro hs (And.intro hm (And.intro h (And.intro hvl hi)))); clear hs hm h hlg hvl hi
  go_enter Try.func90, Try.ntmps90
  go_wp2_with fail
  refine (nums_new R base (w.heap.size + 1) 3 _ [x.at_, x.steps, (x.sets.length : Int)] out (w.alloc (.cells #[.int .i64 x.at_, .int .i64 x.steps, .slice SA x.sets.length sc, .slice MA x.makes.length mc] 102)) (by simp) rfl rfl (by intro z hz; simp at hz; rcases hz with rfl | rfl | rfl; exact HH.out.2.2.2.2.1; exact HH.out.2.2.2.2.2; unfold I64; omega) (HH.out.2.2.1.alloc _) (by omega)).mono ?_
  rintro en w1 ⟨rfl, hW1, hb1, hk1⟩
  have hC1 := hk1 w.heap.size _ _ (by omega) (by decide) (Blk.new w 102 #[.int .i64 x.at_, .int .i64 x.steps, .slice SA x.sets.length sc, .slice MA x.makes.length mc])
  have hbl1 : Below base w w1 := ((Below.refl _ _).alloc (by omega) _).trans hb1
  have hK1 := ((BKeep.refl R w).alloc (.cells #[.int .i64 x.at_, .int .i64 x.steps, .slice SA x.sets.length sc, .slice MA x.makes.length mc] 102)).trans hk1
  have c2 := hC1.cell 2 (v := .slice SA x.sets.length sc) rfl
  have hlen1 : (out ++ Ord.bys (Ord.numsB [x.at_, x.steps, (x.sets.length : Int)])).length ≤ out.length + 30 := by
    rw [List.length_append]
    have := Ord.nums_bound (l := [x.at_, x.steps, (x.sets.length : Int)]) (by intro z hz; simp at hz; rcases hz with rfl | rfl | rfl; exact HH.out.2.2.2.2.1; exact HH.out.2.2.2.2.2; unfold I64; omega)
    simp only [List.length_cons, List.length_nil] at this
    omega
  have H1 := Lib.hid (And.intro hW1 (And.intro hC1 (And.intro hK1 hlen1))); clear hW1 hC1 hK1 hk1 hlen1
  have lt1 : w.heap.size < w1.heap.size := H1.out.2.1.lt
  go_wp2_with fail
  clear c2
  go_loopg [23] (x.sets.length) (fun gk iv wr => ∃ (k : Nat) (o1 : List U8), k ≤ x.sets.length ∧ gk = x.sets.length - k ∧ iv = .int .i64 k ∧ o1.length ≤ out.length + 30 + k * 30 ∧ Hid (o1 = out ++ Ord.bys (Ord.numsB ([x.at_, x.steps, (x.sets.length : Int)] ++ (x.sets.take k).flatMap Ord.setNums)) ∧ Bw wr base R o1 ∧ BKeep R w wr ∧ Blk wr w.heap.size 102 #[.int .i64 x.at_, .int .i64 x.steps, .slice SA x.sets.length sc, .slice MA x.makes.length mc]) ∧ Below base w wr ∧ w.heap.size < wr.heap.size)
  case atStart => exact ⟨0, _, Nat.zero_le _, rfl, rfl, by have := H1.out.2.2.2; omega, ⟨by simp, H1.out.1, H1.out.2.2.1, H1.out.2.1⟩, hbl1, lt1⟩
  case round =>
    obtain ⟨k, o1, hk, rfl, rfl, ho1, hkeep, hbl, hwl⟩ := hrel
    have hRl := hkeep.out.2.1.lt
    by_cases hlt : k < x.sets.length
    · obtain ⟨b, o, a0, a1, a2, rfl, hbB, hx, i0, i1, i2, d0, d1, d2⟩ := (HH.out.1.below (hbl.mono hB)).trip hlt
      have hfs := Ord.fm_take Ord.setNums hx
      have hk0 : (0 : Int) ≤ (k : Int) := by omega
      have hk1 : (k : Int) < (x.sets.length : Int) := by omega
      have hFB := Blk.new wr 186 #[.int .i64 a0, .int .i64 a1, .int .i64 a2]
      have HX := Lib.hid (And.intro hfs (And.intro (And.intro i0 (And.intro i1 i2)) (And.intro hFB (And.intro hkeep.out.1 (And.intro (hkeep.out.2.1.alloc (.cells #[.int .i64 a0, .int .i64 a1, .int .i64 a2] 186)) (And.intro (hkeep.out.2.2.1.alloc (.cells #[.int .i64 a0, .int .i64 a1, .int .i64 a2] 186)) (hkeep.out.2.2.2.alloc (.cells #[.int .i64 a0, .int .i64 a1, .int .i64 a2] 186)))))))); clear hfs i0 i1 i2 hFB hkeep hx
      have hbla : Below base w (wr.alloc (.cells #[.int .i64 a0, .int .i64 a1, .int .i64 a2] 186)) := hbl.alloc (by omega) _
      go_wp2_with fail
      refine (nums_new R base (wr.heap.size + 1) 1 _ [a0] o1 _ (by simp) rfl rfl (by intro z hz; simp at hz; subst hz; exact HX.out.2.1.1) HX.out.2.2.2.2.1 (by omega)).mono ?_
      rintro en w2 ⟨rfl, hW2, hb2, hk2⟩
      have hF2 := hk2 _ _ _ (by omega) (by decide) HX.out.2.2.1
      have hC2 := hk2 _ _ _ (by omega) (by decide) HX.out.2.2.2.2.2.2
      have hbl2 := hbla.trans hb2
      have p1 := hF2.cell 1 (v := .int .i64 a1) rfl
      have p2 := hF2.cell 2 (v := .int .i64 a2) rfl
      have ltF := hF2.lt
      have hl2 : (o1 ++ Ord.bys (Ord.numsB [a0])).length ≤ o1.length + 10 := by
        rw [List.length_append]
        have := Ord.nums_bound (l := [a0]) (by intro z hz; simp at hz; subst hz; exact HX.out.2.1.1)
        simp only [List.length_cons, List.length_nil] at this
        omega
      have H2 := Lib.hid (And.intro hW2 (And.intro hC2 (HX.out.2.2.2.2.2.1.trans hk2))); clear hW2 hC2 hF2 hk2
      go_wp2_with fail
      refine (place_any R base a1 a2 _ w2 HX.out.2.1.2.1 HX.out.2.1.2.2 H2.out.1 (by omega)).mono ?_
      rintro en w3 ⟨rfl, hW3, hb3, hk3⟩
      have hC3 := hk3 _ _ _ (by omega) (by decide) H2.out.2.1
      have hbl3 := hbl2.trans hb3
      have heq : (o1 ++ Ord.bys (Ord.numsB [a0])) ++ Ord.bys (Ord.numsB [a1, a2]) = out ++ Ord.bys (Ord.numsB ([x.at_, x.steps, (x.sets.length : Int)] ++ (x.sets.take (k + 1)).flatMap Ord.setNums)) := by
        rw [HX.out.1, HX.out.2.2.2.1, List.append_assoc, ← Ord.bys_nums, List.append_assoc, ← Ord.bys_nums, List.append_assoc]; rfl
      have hl3 : ((o1 ++ Ord.bys (Ord.numsB [a0])) ++ Ord.bys (Ord.numsB [a1, a2])).length ≤ out.length + 30 + (k + 1) * 30 := by
        rw [List.length_append]
        have := Ord.nums_bound (l := [a1, a2]) (by intro z hz; simp at hz; rcases hz with rfl | rfl; exact HX.out.2.1.2.1; exact HX.out.2.1.2.2)
        simp only [List.length_cons, List.length_nil] at this
        omega
      have lt3 := hC3.lt
      have H3 := Lib.hid (And.intro heq (And.intro hW3 (And.intro (H2.out.2.2.trans hk3) (And.intro hC3 hl3)))); clear heq hW3 hk3 hC3 hl3 p1 p2
      go_wp2_with fail
      go_roundg (x.sets.length - (k + 1))
      case measure => omega
      case rel => exact ⟨k + 1, _, by omega, rfl, by go_num, H3.out.2.2.2.2, ⟨H3.out.1, H3.out.2.1, H3.out.2.2.1, H3.out.2.2.2.1⟩, hbl3, lt3⟩
    · have hk2 := hkeep.out
      rw [List.take_of_length_le (by omega)] at hk2
      have c3 := hk2.2.2.2.cell 3 (v := .slice MA x.makes.length mc) rfl
      have hFa := hk2.1
      have H2 := Lib.hid hk2; clear hk2 hkeep hFa
      have ho1' : o1.length ≤ out.length + 1830 := by omega
      clear ho1
      go_wp2_with fail
      refine (nums_new R base wr.heap.size 1 _ [(x.makes.length : Int)] o1 wr rfl rfl rfl (by intro z hz; simp at hz; subst hz; unfold I64; omega) H2.out.2.1 (by omega)).mono ?_
      rintro en w4 ⟨rfl, hW4, hb4, hk4⟩
      have hC4 := hk4 _ _ _ (by omega) (by decide) H2.out.2.2.2
      have hbl4 := hbl.trans hb4
      have c3' := hC4.cell 3 (v := .slice MA x.makes.length mc) rfl
      have lt4 := hC4.lt
      have hl4 : (o1 ++ Ord.bys (Ord.numsB [(x.makes.length : Int)])).length ≤ out.length + 1840 := by
        rw [List.length_append]
        have := Ord.nums_bound (l := [(x.makes.length : Int)]) (by intro z hz; simp at hz; subst hz; unfold I64; omega)
        simp only [List.length_cons, List.length_nil] at this
        omega
      have H4 := Lib.hid (And.intro hW4 (And.intro hC4 (H2.out.2.2.1.trans hk4))); clear hW4 hC4 hk4 c3
      go_wp2_with fail
      clear c3'
      go_loopg [46] (x.makes.length) (fun gj jv wj => ∃ (j : Nat) (o2 : List U8), j ≤ x.makes.length ∧ gj = x.makes.length - j ∧ jv = .int .i64 j ∧ o2.length ≤ out.length + 1840 + j * 2050 ∧ Hid (o2 = (o1 ++ Ord.bys (Ord.numsB [(x.makes.length : Int)])) ++ Ord.bys (Ord.numsB ((x.makes.take j).flatMap Ord.makeNums)) ∧ Bw wj base R o2 ∧ BKeep R w wj) ∧ Below base w wj)
      case atStart => exact ⟨0, _, Nat.zero_le _, rfl, rfl, by omega, ⟨by simp [Ord.numsB, Ord.bys], H4.out.1, H4.out.2.2⟩, hbl4⟩
      case round =>
        obtain ⟨j, o2, hj, rfl, rfl, ho2, hkeep, hblj⟩ := hrel
        have hRj := hkeep.out.2.1.lt
        by_cases hjt : j < x.makes.length
        · obtain ⟨b, o, m, VA, vc, rfl, hbB, hx, q0, q1, q2, q3, q4, av, hvc, j0, j1, j2, j3⟩ := (HH.out.2.1.below (hblj.mono hB)).rM_ hjt
          have hm100 := HH.out.2.2.2.1 m (List.mem_of_getElem? hx)
          obtain ⟨⟨m0, m1⟩, mk, mn, vals⟩ := m
          simp only at q0 q1 q2 q3 q4 av hvc j0 j1 j2 j3 hm100
          have hfs := Ord.fm_take Ord.makeNums hx
          have hj0 : (0 : Int) ≤ (j : Int) := by omega
          have hj1 : (j : Int) < (x.makes.length : Int) := by omega
          obtain ⟨F, hF⟩ : ∃ F : Array Value, F = #[.int .i64 m0, .int .i64 m1, .int .i64 mk, .int .i64 mn, .slice VA vals.length vc] := ⟨_, rfl⟩
          have hFB := Blk.new wr 189 F
          have hWa := hkeep.out.2.1.alloc (.cells F 189)
          have hKa := hkeep.out.2.2.alloc (.cells F 189)
          have hbla : Below base w (wr.alloc (.cells F 189)) := hblj.alloc (by omega) _
          rw [hF] at hFB hWa hKa hbla
          have p0 := hFB.cell 0 (v := .int .i64 m0) rfl
          have p1 := hFB.cell 1 (v := .int .i64 m1) rfl
          have HX := Lib.hid (And.intro hfs (And.intro (And.intro (And.intro j0 j1) (And.intro j2 j3)) (And.intro hFB (And.intro hkeep.out.1 (And.intro hWa (And.intro hKa av)))))); clear hfs j0 j1 j2 j3 hFB hkeep hx hWa hKa av hF F hvc p0 p1
          go_wp2_with fail
          refine (place_any R base m0 m1 o2 _ HX.out.2.1.1.1 HX.out.2.1.1.2 HX.out.2.2.2.2.1 (by omega)).mono ?_
          rintro en w5 ⟨rfl, hW5, hb5, hk5⟩
          have hF5 := hk5 _ _ _ (by omega) (by decide) HX.out.2.2.1
          have hbl5 := hbla.trans hb5
          have p2 := hF5.cell 2 (v := .int .i64 mk) rfl
          have p3 := hF5.cell 3 (v := .int .i64 mn) rfl
          have p4 := hF5.cell 4 (v := .slice VA vals.length vc) rfl
          have lt5 := hF5.lt
          have hl5 : (o2 ++ Ord.bys (Ord.numsB [m0, m1])).length ≤ o2.length + 20 := by
            rw [List.length_append]
            have := Ord.nums_bound (l := [m0, m1]) (by intro z hz; simp at hz; rcases hz with rfl | rfl; exact HX.out.2.1.1.1; exact HX.out.2.1.1.2)
            simp only [List.length_cons, List.length_nil] at this
            omega
          have H5 := Lib.hid (And.intro hW5 (And.intro hF5 (HX.out.2.2.2.2.2.1.trans hk5))); clear hW5 hF5 hk5
          go_wp2_with fail
          refine (nums_new R base w5.heap.size 3 _ [mk, mn, (vals.length : Int)] _ w5 rfl rfl rfl (by intro z hz; simp at hz; rcases hz with rfl | rfl | rfl; exact HX.out.2.1.2.1; exact HX.out.2.1.2.2; unfold I64; omega) H5.out.1 (by omega)).mono ?_
          rintro en w6 ⟨rfl, hW6, hb6, hk6⟩
          have hF6 := hk6 _ _ _ (by omega) (by decide) H5.out.2.1
          have hbl6 := hbl5.trans hb6
          have p4' := hF6.cell 4 (v := .slice VA vals.length vc) rfl
          have lt6 := hF6.lt
          have hl6 : ((o2 ++ Ord.bys (Ord.numsB [m0, m1])) ++ Ord.bys (Ord.numsB [mk, mn, (vals.length : Int)])).length ≤ o2.length + 50 := by
            rw [List.length_append]
            have := Ord.nums_bound (l := [mk, mn, (vals.length : Int)]) (by intro z hz; simp at hz; rcases hz with rfl | rfl | rfl; exact HX.out.2.1.2.1; exact HX.out.2.1.2.2; unfold I64; omega)
            simp only [List.length_cons, List.length_nil] at this
            omega
          have hbw6 : Below base wr w6 := (((Below.refl base wr).alloc (by omega) (.cells #[.int .i64 m0, .int .i64 m1, .int .i64 mk, .int .i64 mn, .slice VA vals.length vc] 189)).trans hb5).trans hb6
          have H6 := Lib.hid (And.intro hW6 (And.intro hF6 (H5.out.2.2.trans hk6))); clear hW6 hF6 hk6 p2 p3 p4
          obtain ⟨wo, rfl⟩ : ∃ wo : World, wo = wr := ⟨_, rfl⟩
          go_wp2_with fail
          clear p4'
          go_loopg [67] (vals.length) (fun gi vv wi => ∃ (i : Nat) (o3 : List U8), i ≤ vals.length ∧ gi = vals.length - i ∧ vv = .int .i64 i ∧ o3.length ≤ o2.length + 50 + i * 20 ∧ Hid (o3 = ((o2 ++ Ord.bys (Ord.numsB [m0, m1])) ++ Ord.bys (Ord.numsB [mk, mn, (vals.length : Int)])) ++ Ord.bys (Ord.numsB ((vals.take i).flatMap fun v => [v.1, v.2])) ∧ Bw wi base R o3 ∧ BKeep R w wi) ∧ Below base w wi ∧ Below base wo wi)
          case atStart => exact ⟨0, _, Nat.zero_le _, rfl, rfl, by omega, ⟨by simp [Ord.numsB, Ord.bys], H6.out.1, H6.out.2.2⟩, hbl6, hbw6⟩
          case round =>
            obtain ⟨i, o3, hi, rfl, rfl, ho3, hkeep, hbli, hbwi⟩ := hrel
            have hRi := hkeep.out.2.1.lt
            by_cases hit : i < vals.length
            · obtain ⟨b', o', u, v, rfl, hb', hx, hou, hov, e0, e1⟩ := (HX.out.2.2.2.2.2.2.below (hbwi.mono hB)).pair hit
              have hfs := Ord.fm_take (fun v : Int × Int => [v.1, v.2]) hx
              have hi0 : (0 : Int) ≤ (i : Int) := by omega
              have hi1 : (i : Int) < (vals.length : Int) := by omega
              have HT := Lib.hid (And.intro hfs (And.intro (hkeep.out.2.1.alloc (.cells #[.int .i64 u, .int .i64 v] 90)) (And.intro (hkeep.out.2.2.alloc (.cells #[.int .i64 u, .int .i64 v] 90)) (And.intro hkeep.out.1 (And.intro hou hov))))); clear hfs hx hou hov hkeep
              go_wp2_with fail
              refine (place_any R base u v o3 _ HT.out.2.2.2.2.1 HT.out.2.2.2.2.2 HT.out.2.1 (by omega)).mono ?_
              rintro en w7 ⟨rfl, hW7, hb7, hk7⟩
              have hbl7 : Below base w w7 := (hbli.alloc (by omega) _).trans hb7
              have hbw7 : Below base wo w7 := (hbwi.alloc (by omega) _).trans hb7
              have heq : o3 ++ Ord.bys (Ord.numsB [u, v]) = ((o2 ++ Ord.bys (Ord.numsB [m0, m1])) ++ Ord.bys (Ord.numsB [mk, mn, (vals.length : Int)])) ++ Ord.bys (Ord.numsB ((vals.take (i + 1)).flatMap fun v => [v.1, v.2])) := by
                rw [HT.out.1, Ord.bys_nums, ← List.append_assoc, ← HT.out.2.2.2.1]
              have hl7 : (o3 ++ Ord.bys (Ord.numsB [u, v])).length ≤ o2.length + 50 + (i + 1) * 20 := by
                rw [List.length_append]
                have := Ord.nums_bound (l := [u, v]) (by intro z hz; simp at hz; rcases hz with rfl | rfl; exact HT.out.2.2.2.2.1; exact HT.out.2.2.2.2.2)
                simp only [List.length_cons, List.length_nil] at this
                omega
              have H7 := Lib.hid (And.intro heq (And.intro hW7 (And.intro (HT.out.2.2.1.trans hk7) hl7))); clear heq hW7 hk7 hl7
              go_wp2_with fail
              go_roundg (vals.length - (i + 1))
              case measure => omega
              case rel => exact ⟨i + 1, _, by omega, rfl, by go_num, H7.out.2.2.2, ⟨H7.out.1, H7.out.2.1, H7.out.2.2.1⟩, hbl7, hbw7⟩
            · obtain ⟨k1, k2, k3⟩ := hkeep.out
              rw [List.take_of_length_le (by omega)] at k1
              have heq : o3 = (o1 ++ Ord.bys (Ord.numsB [(x.makes.length : Int)])) ++ Ord.bys (Ord.numsB ((x.makes.take (j + 1)).flatMap Ord.makeNums)) := by
                rw [HX.out.1, k1, HX.out.2.2.2.1, Ord.bys_nums]
                simp only [List.append_assoc, ← Ord.bys_nums]
                rfl
              have hl7 : o3.length ≤ out.length + 1840 + (j + 1) * 2050 := by omega
              have H7 := Lib.hid (And.intro heq (And.intro k2 (And.intro k3 hl7))); clear heq k1 k2 k3 hl7 hkeep
              go_wp2_with fail
              go_roundg (x.makes.length - (j + 1))
              case measure => omega
              case rel => exact ⟨j + 1, _, by omega, rfl, by go_num, H7.out.2.2.2, ⟨H7.out.1, H7.out.2.1, H7.out.2.2.1⟩, hbli⟩
        · obtain ⟨k1, k2, k3⟩ := hkeep.out
          rw [List.take_of_length_le (by omega)] at k1
          have heq : o2 = out ++ Ord.bys (Ord.numsB (Ord.exitNums x)) := by
            rw [k1, H2.out.1]
            simp only [List.append_assoc, ← Ord.bys_nums]
            unfold Ord.exitNums
            simp only [List.append_assoc]
          have H7 := Lib.hid (And.intro heq (And.intro k2 k3)); clear heq k1 k2 k3 hkeep
          go_wp2_with fail
          go_end0
          exact ⟨rfl, by have h2 := H7.out.2.1; rw [H7.out.1] at h2; exact h2, hblj, H7.out.2.2⟩

end Go.Proofs.Ytljdnadejmkaeaa
