/- RF: Ord18. -/
import Derived.Test.YtljdnadejmkaeaaRF42
import Derived.Test.YtljdnadejmkaeaaRF43
/- The reference's bytes: nums, an exit. -/
namespace Go.Proofs.Ytljdnadejmkaeaa
open Go.RowKit

/-- bytes of numbers, handed back -/
def NumsPost (l : List Int) (w : World) (e : Ending) (w' : World) : Prop := ∃ (A : Option Addr) (c m : Nat), e = .returned (.slice A m c) ∧ (Ord.bys (Ord.numsB l)).length = m ∧ m ≤ l.length * 10 ∧ Own w' w.heap.size 5 A c (Ord.bys (Ord.numsB l)) ∧ Below w.heap.size w w'
theorem bys_okk (l : List Int) : ∀ x ∈ Ord.bys (Ord.numsB l), Flat.ok x := Ord.bys_ok (Ord.numsB_ok l)

set_option maxHeartbeats 1600000 in
set_option maxRecDepth 100000 in
theorem rnums_any (A : Option Addr) (c B n : Nat) (l : List Int) (w : World) (hn : l.length = n) (h : At w B A l) (hB : B ≤ w.heap.size) (hl : n ≤ 1000000) :
    Calls Try.prog 98 #[.slice A n c] w (NumsPost l w) := by
  obtain ⟨i0, hi, hz0, hz1, hz2⟩ := info_parts infoU8
  have hio := h.ok_
  have H := Lib.hid (And.intro h (And.intro hn hio)); clear h hn hio
  go_enter Try.func98, Try.ntmps98
  go_wp2_with fail
  go_loopg [3, 8] n (fun gk ov iv wr => ∃ (k : Nat) (A2 : Option Addr) (c2 : Nat) (o1 : List U8), k ≤ n ∧ gk = n - k ∧ iv = .int .i64 k ∧ ov = .slice A2 o1.length c2 ∧ o1.length ≤ k * 10 ∧ Hid (o1 = Ord.bys (Ord.numsB (l.take k)) ∧ Own wr w.heap.size 5 A2 c2 o1) ∧ Below w.heap.size w wr)
  case atStart => exact ⟨0, none, 0, [], Nat.zero_le _, rfl, rfl, rfl, Nat.zero_le _, ⟨rfl, Own.nil_⟩, Below.refl _ _⟩
  case round =>
    obtain ⟨k, A2, c2, o1, hk, rfl, rfl, rfl, ho1, hkeep, hbl⟩ := hrel
    have hsz := hbl.size
    by_cases hlt : k < n
    · obtain ⟨b, o, x, rfl, hb, hx, hox, r0⟩ := (H.out.1.below (hbl.mono hB)).int_ (k := k) (by have := H.out.2.1; omega)
      have hsn := Ord.numsB_take hx
      have hnl := Ord.numB_len hox
      have hk0 : (0 : Int) ≤ (k : Int) := by omega
      have hk1 : (k : Int) < (n : Int) := by omega
      obtain ⟨m, hm⟩ : ∃ m, (Ord.bys (Ord.numB x)).length = m := ⟨_, rfl⟩
      have hm10 : m ≤ 10 := by rw [← hm, Ord.bys_length]; exact hnl
      have HX := Lib.hid (And.intro hsn (And.intro hkeep.out (And.intro hm hox))); clear hsn hx hkeep hm hnl hox
      go_wp2_with fail
      refine (rnum_any x wr HX.out.2.2.2).mono ?_
      rintro e w3 ⟨A3, c3, he, ho3, hb3⟩
      rw [HX.out.2.2.1] at he
      subst he
      have hs3 := hb3.size
      have hO := HX.out.2.1.2.fresh hb3
      have hbl3 := hbl.trans (hb3.mono hsz)
      have H3 := Lib.hid (And.intro hO (ho3.at_ (Ord.bys_ok (Ord.numB_ok x)))); clear hO ho3 hb3
      go_wp2_with (at_builtin; go_must (refine wpList_app (α := U8) (m := m) (B := w3.heap.size) (r := Ord.bys (Ord.numB x)) rfl (.tmp 12) (.tmp 14) _ rfl w.heap.size 5 i0 _ 1 Try.underlying105 hi hz0 hz1 hz2 rfl (by decide) u8_one (by rfl) rfl H3.out.1 (by rfl) H3.out.2 HX.out.2.2.1 (by omega) (by simp only [maxLen]; omega) (by omega) ?_))
      intro A4 c4 w4 hown4 hgr4 hat4
      have heq : o1 ++ Ord.bys (Ord.numB x) = Ord.bys (Ord.numsB (l.take (k + 1))) := by rw [HX.out.2.1.1, HX.out.1, Ord.bys_append]
      have hls : o1.length + m = (o1 ++ Ord.bys (Ord.numB x)).length := by rw [List.length_append, HX.out.2.2.1]
      have hbl4 := hbl3.grown hgr4 (by omega) (fun g hg => (H3.out.1.lt g hg).1)
      have H4 := Lib.hid (And.intro heq (And.intro hown4 hls)); clear heq hown4 hls hgr4 hat4
      go_wp2_with fail
      go_roundg (n - (k + 1))
      case measure => omega
      case rel => exact ⟨k + 1, A4, c4, _, by omega, rfl, by go_num, by rw [H4.out.2.2], by rw [← H4.out.2.2]; omega, ⟨H4.out.1, H4.out.2.1⟩, hbl4⟩
    · obtain ⟨k1, k2⟩ := hkeep.out
      rw [List.take_of_length_le (by have := H.out.2.1; omega)] at k1
      have HK := Lib.hid (And.intro k1 k2); clear k1 k2 hkeep
      go_wp2_with fail
      go_ret
      exact ⟨A2, c2, o1.length, rfl, by rw [← HK.out.1], by rw [HK.out.1]; exact Ord.nums_bound H.out.2.2, by rw [← HK.out.1]; exact HK.out.2, hbl⟩

set_option maxRecDepth 100000 in
/-- of a list that was just laid -/
theorem rnums_new (gl n : Nat) (cs : Array Value) (l : List Int) (w : World) (hgl : gl = w.heap.size) (hcs : cs.toList = flat l) (hn : l.length = n) (hok : ∀ x ∈ l, I64 x) (hl : n ≤ 1000000) :
    Calls Try.prog 98 #[.slice (some ⟨gl, 0, none⟩) n n] (w.alloc (.cells cs 3)) (NumsPost l (w.alloc (.cells cs 3))) := by
  subst hgl
  exact rnums_any _ _ (w.heap.size + 1) n l _ hn (At.built w cs 3 l hcs hok) (by simp) hl

set_option maxHeartbeats 6400000 in
set_option maxRecDepth 100000 in
theorem rexit_any (B sc mc : Nat) (SA MA : Option Addr) (x : RE) (w : World) (hs : At w B SA x.sets) (hm : At w B MA x.makes) (hB : B ≤ w.heap.size) (hi : I64 x.at_ ∧ I64 x.steps) (hlg : Ord.large x = false) :
    Calls Try.prog 99 #[.agg #[.int .i64 x.at_, .int .i64 x.steps, .slice SA x.sets.length sc, .slice MA x.makes.length mc]] w (NumsPost (Ord.exitNums x) w) := by
  obtain ⟨P, hP⟩ : ∃ P, NumsPost (Ord.exitNums x) w = P := ⟨_, rfl⟩
  rw [hP]
  obtain ⟨i0, hii, hz0, hz1, hz2⟩ := info_parts infoU8
  obtain ⟨-, hsl, hml, hvl⟩ := Ord.large_no hlg
  have hen := Ord.exitNums_ok hs hm hi hlg
  have HH := Lib.hid (And.intro hs (And.intro hm (And.intro hP.symm (And.intro hvl (And.intro hi hen))))); clear hs hm hP hlg hvl hi hen
  go_enter Try.func99, Try.ntmps99
  go_wp2_with fail
  have hok3 : ∀ z ∈ [x.at_, x.steps, (x.sets.length : Int)], I64 z := by intro z hz; simp at hz; rcases hz with rfl | rfl | rfl; exact HH.out.2.2.2.2.1.1; exact HH.out.2.2.2.2.1.2; unfold I64; omega
  refine (rnums_new (w.heap.size + 1) 3 _ [x.at_, x.steps, (x.sets.length : Int)] (w.alloc (.cells #[.int .i64 x.at_, .int .i64 x.steps, .slice SA x.sets.length sc, .slice MA x.makes.length mc] 102)) (by simp) rfl rfl hok3 (by omega)).mono ?_
  rintro e w1 ⟨A1, d1, m1, rfl, hm1, hm1b, ho1, hb1⟩
  clear hok3
  have hs1 := hb1.size
  simp only [World.size_alloc] at hs1
  have hC1 := ((Blk.new w 102 #[.int .i64 x.at_, .int .i64 x.steps, .slice SA x.sets.length sc, .slice MA x.makes.length mc]).alloc (.cells #[.int .i64 x.at_, .int .i64 x.steps, .int .i64 (x.sets.length : Int)] 3)).fresh hb1
  have hbl1 : Below w.heap.size w w1 := (((Below.refl _ _).alloc (Nat.le_refl _) _).alloc (by simp) _).trans (hb1.mono (by simp; omega))
  have c2 := hC1.cell 2 (v := .slice SA x.sets.length sc) rfl
  have lt1 : w.heap.size < w1.heap.size := by omega
  have hm1c : m1 ≤ 30 := by simpa using hm1b
  have H1 := Lib.hid (And.intro (ho1.base_le (show w.heap.size + 1 ≤ _ by simp)) (And.intro hC1 hm1)); clear ho1 hC1 hm1 hb1 hm1b
  go_wp2_with fail
  clear c2
  go_loopg [3, 22] (x.sets.length) (fun gk ov iv wr => ∃ (k : Nat) (A2 : Option Addr) (c2 : Nat) (o1 : List U8), k ≤ x.sets.length ∧ gk = x.sets.length - k ∧ iv = .int .i64 k ∧ ov = .slice A2 o1.length c2 ∧ o1.length ≤ 30 + k * 30 ∧ Hid (o1 = Ord.bys (Ord.numsB ([x.at_, x.steps, (x.sets.length : Int)] ++ (x.sets.take k).flatMap Ord.setNums)) ∧ Own wr (w.heap.size + 1) 5 A2 c2 o1 ∧ Blk wr w.heap.size 102 #[.int .i64 x.at_, .int .i64 x.steps, .slice SA x.sets.length sc, .slice MA x.makes.length mc]) ∧ Below w.heap.size w wr ∧ w.heap.size + 1 ≤ wr.heap.size)
  case atStart => exact ⟨0, A1, d1, _, Nat.zero_le _, rfl, rfl, by rw [H1.out.2.2], by rw [H1.out.2.2]; omega, ⟨by simp, H1.out.1, H1.out.2.1⟩, hbl1, by omega⟩
  case round =>
    obtain ⟨k, A2, c2, o1, hk, rfl, rfl, rfl, ho1, hkeep, hbl, hsz⟩ := hrel
    by_cases hlt : k < x.sets.length
    · obtain ⟨b, o, a0, a1, a2, rfl, hbB, hx, j0, j1, j2, d0, d1', d2⟩ := (HH.out.1.below (hbl.mono hB)).trip hlt
      have hfs := Ord.fm_take Ord.setNums hx
      have hk0 : (0 : Int) ≤ (k : Int) := by omega
      have hk1 : (k : Int) < (x.sets.length : Int) := by omega
      have hok : ∀ z ∈ Ord.setNums (a0, a1, a2), I64 z := by intro z hz; simp [Ord.setNums] at hz; rcases hz with rfl | rfl | rfl <;> assumption
      have HX := Lib.hid (And.intro hfs (And.intro hok (And.intro hkeep.out.1 (And.intro ((hkeep.out.2.1.alloc (.cells #[.int .i64 a0, .int .i64 a1, .int .i64 a2] 186)).alloc (.cells #[.int .i64 a0, .int .i64 a1, .int .i64 a2] 3)) ((hkeep.out.2.2.alloc (.cells #[.int .i64 a0, .int .i64 a1, .int .i64 a2] 186)).alloc (.cells #[.int .i64 a0, .int .i64 a1, .int .i64 a2] 3)))))); clear hfs hok hkeep hx j0 j1 j2
      go_wp2_with fail
      refine (rnums_new (wr.heap.size + 1) 3 _ (Ord.setNums (a0, a1, a2)) (wr.alloc (.cells #[.int .i64 a0, .int .i64 a1, .int .i64 a2] 186)) (by simp) rfl rfl HX.out.2.1 (by omega)).mono ?_
      rintro e w3 ⟨A3, d3, m3, rfl, hm3, hm3b, ho3, hb3⟩
      have hm3c : m3 ≤ 30 := hm3b
      have hs3 := hb3.size
      simp only [World.size_alloc] at hs3
      have hbl3 : Below w.heap.size w w3 := ((hbl.alloc (by omega) _).alloc (by simp; omega) _).trans (hb3.mono (by simp; omega))
      have H3 := Lib.hid (And.intro (HX.out.2.2.2.1.fresh hb3) (And.intro (HX.out.2.2.2.2.fresh hb3) (And.intro (ho3.at_ (bys_okk _)) hm3))); clear ho3 hb3 hm3 hm3b
      go_wp2_with (at_builtin; go_must (refine wpList_app (α := U8) (m := m3) (B := w3.heap.size) (r := Ord.bys (Ord.numsB (Ord.setNums (a0, a1, a2)))) rfl (.tmp 26) (.tmp 36) _ rfl (w.heap.size + 1) 5 i0 _ 1 Try.underlying105 hii hz0 hz1 hz2 rfl (by decide) u8_one (by rfl) rfl H3.out.1 (by rfl) H3.out.2.2.1 H3.out.2.2.2 (by omega) (by simp only [maxLen]; omega) (by omega) ?_))
      intro A4 c4 w4 hown4 hgr4 hat4
      have heq : o1 ++ Ord.bys (Ord.numsB (Ord.setNums (a0, a1, a2))) = Ord.bys (Ord.numsB ([x.at_, x.steps, (x.sets.length : Int)] ++ (x.sets.take (k + 1)).flatMap Ord.setNums)) := by
        rw [HX.out.2.2.1, HX.out.1, ← Ord.bys_nums, List.append_assoc]
      have hls : o1.length + m3 = (o1 ++ Ord.bys (Ord.numsB (Ord.setNums (a0, a1, a2)))).length := by rw [List.length_append, H3.out.2.2.2]
      have hbl4 := hbl3.grown hgr4 (by omega) (fun g hg => by have := (H3.out.1.lt g hg).1; omega)
      have hC4 := H3.out.2.1.grown hgr4 (own_ne_ty H3.out.1 H3.out.2.1 (by decide))
      have hs4 : w.heap.size + 1 ≤ w4.heap.size := hC4.lt
      have H4 := Lib.hid (And.intro heq (And.intro hown4 (And.intro hC4 hls))); clear heq hown4 hls hgr4 hat4 hC4
      go_wp2_with fail
      go_roundg (x.sets.length - (k + 1))
      case measure => omega
      case rel => exact ⟨k + 1, A4, c4, _, by omega, rfl, by go_num, by rw [H4.out.2.2.2], by rw [← H4.out.2.2.2]; omega, ⟨H4.out.1, H4.out.2.1, H4.out.2.2.1⟩, hbl4, hs4⟩
    · have hk2 := hkeep.out
      rw [List.take_of_length_le (by omega)] at hk2
      have c3 := hk2.2.2.cell 3 (v := .slice MA x.makes.length mc) rfl
      have H2 := Lib.hid (And.intro hk2.1 (And.intro (hk2.2.1.alloc (.cells #[.int .i64 (x.makes.length : Int)] 3)) (hk2.2.2.alloc (.cells #[.int .i64 (x.makes.length : Int)] 3)))); clear hk2 hkeep
      have ho1' : o1.length ≤ 1830 := by omega
      clear ho1
      go_wp2_with fail
      refine (rnums_new wr.heap.size 1 _ [(x.makes.length : Int)] wr rfl rfl rfl (by intro z hz; simp at hz; subst hz; unfold I64; omega) (by omega)).mono ?_
      rintro e w3 ⟨A3, d3, m3, rfl, hm3, hm3b, ho3, hb3⟩
      have hm3c : m3 ≤ 10 := hm3b
      have hs3 := hb3.size
      simp only [World.size_alloc] at hs3
      have hbl3 : Below w.heap.size w w3 := (hbl.alloc (by omega) _).trans (hb3.mono (by simp; omega))
      have H3 := Lib.hid (And.intro (H2.out.2.1.fresh hb3) (And.intro (H2.out.2.2.fresh hb3) (And.intro (ho3.at_ (bys_okk _)) hm3))); clear ho3 hb3 hm3 hm3b c3
      go_wp2_with (at_builtin; go_must (refine wpList_app (α := U8) (m := m3) (B := w3.heap.size) (r := Ord.bys (Ord.numsB [(x.makes.length : Int)])) rfl (.tmp 39) (.tmp 44) _ rfl (w.heap.size + 1) 5 i0 _ 1 Try.underlying105 hii hz0 hz1 hz2 rfl (by decide) u8_one (by rfl) rfl H3.out.1 (by rfl) H3.out.2.2.1 H3.out.2.2.2 (by omega) (by simp only [maxLen]; omega) (by omega) ?_))
      intro A4 c4 w4 hown4 hgr4 hat4
      have hls : o1.length + m3 = (o1 ++ Ord.bys (Ord.numsB [(x.makes.length : Int)])).length := by rw [List.length_append, H3.out.2.2.2]
      have hbl4 := hbl3.grown hgr4 (by omega) (fun g hg => by have := (H3.out.1.lt g hg).1; omega)
      have hC4 := H3.out.2.1.grown hgr4 (own_ne_ty H3.out.1 H3.out.2.1 (by decide))
      have hs4 : w.heap.size + 1 ≤ w4.heap.size := hC4.lt
      have c3' := hC4.cell 3 (v := .slice MA x.makes.length mc) rfl
      have ltw4 : w.heap.size < w4.heap.size := by omega
      obtain ⟨o4, ho4⟩ : ∃ o4, o1 ++ Ord.bys (Ord.numsB [(x.makes.length : Int)]) = o4 := ⟨_, rfl⟩
      rw [ho4] at hown4 hls
      have ho4l : o4.length ≤ 1840 := by omega
      have ho4e : o4 = Ord.bys (Ord.numsB (([x.at_, x.steps, (x.sets.length : Int)] ++ x.sets.flatMap Ord.setNums) ++ [(x.makes.length : Int)])) := by rw [← ho4, H2.out.1, ← Ord.bys_nums]
      have H4 := Lib.hid (And.intro hown4 (And.intro hls ho4e)); clear hown4 hls hgr4 hat4 hC4 ho4 ho4e
      go_wp2_with fail
      clear c3'
      go_loopg [3, 49] (x.makes.length) (fun gj ov jv wj => ∃ (j : Nat) (A2 : Option Addr) (c2 : Nat) (o2 : List U8), j ≤ x.makes.length ∧ gj = x.makes.length - j ∧ jv = .int .i64 j ∧ ov = .slice A2 o2.length c2 ∧ o2.length ≤ 1840 + j * 2050 ∧ Hid (o2 = o4 ++ Ord.bys (Ord.numsB ((x.makes.take j).flatMap Ord.makeNums)) ∧ Own wj (w.heap.size + 1) 5 A2 c2 o2) ∧ Below w.heap.size w wj ∧ w.heap.size + 1 ≤ wj.heap.size)
      case atStart => exact ⟨0, A4, c4, o4, Nat.zero_le _, rfl, rfl, by rw [H4.out.2.1], by omega, ⟨by simp [Ord.numsB, Ord.bys], H4.out.1⟩, hbl4, hs4⟩
      case round =>
        obtain ⟨j, A2, c2, o2, hj, rfl, rfl, rfl, ho2, hkeep, hblj, hsj⟩ := hrel
        by_cases hjt : j < x.makes.length
        · obtain ⟨b, o, m, VA, vc, rfl, hbB, hx, q0, q1, q2, q3, q4, av, hvc, j0, j1, j2, j3⟩ := (HH.out.2.1.below (hblj.mono hB)).rM_ hjt
          have hm100 := HH.out.2.2.2.1 m (List.mem_of_getElem? hx)
          obtain ⟨⟨m0, m1'⟩, mk, mn, vals⟩ := m
          simp only at q0 q1 q2 q3 q4 av hvc j0 j1 j2 j3 hm100
          have hfs := Ord.fm_take Ord.makeNums hx
          have hj0 : (0 : Int) ≤ (j : Int) := by omega
          have hj1 : (j : Int) < (x.makes.length : Int) := by omega
          have hok : ∀ z ∈ [m0, m1', mk, mn, (vals.length : Int)], I64 z := by intro z hz; simp at hz; rcases hz with rfl | rfl | rfl | rfl | rfl; exact j0; exact j1; exact j2; exact j3; unfold I64; omega
          obtain ⟨F, hF⟩ : ∃ F : Array Value, F = #[.int .i64 m0, .int .i64 m1', .int .i64 mk, .int .i64 mn, .slice VA vals.length vc] := ⟨_, rfl⟩
          have hFB := (Blk.new wr 189 F).alloc (.cells #[.int .i64 m0, .int .i64 m1', .int .i64 mk, .int .i64 mn, .int .i64 (vals.length : Int)] 3)
          have hOa := (hkeep.out.2.alloc (.cells F 189)).alloc (.cells #[.int .i64 m0, .int .i64 m1', .int .i64 mk, .int .i64 mn, .int .i64 (vals.length : Int)] 3)
          rw [hF] at hFB hOa
          have HX := Lib.hid (And.intro hfs (And.intro hok (And.intro hFB (And.intro hkeep.out.1 (And.intro hOa av))))); clear hfs j0 j1 j2 j3 hFB hkeep hx hOa av hF F hvc hok
          go_wp2_with fail
          refine (rnums_new (wr.heap.size + 1) 5 _ [m0, m1', mk, mn, (vals.length : Int)] (wr.alloc (.cells #[.int .i64 m0, .int .i64 m1', .int .i64 mk, .int .i64 mn, .slice VA vals.length vc] 189)) (by simp) rfl rfl HX.out.2.1 (by omega)).mono ?_
          rintro e w5 ⟨A5, d5, m5, rfl, hm5, hm5b, ho5, hb5⟩
          have hm5c : m5 ≤ 50 := hm5b
          have hs5 := hb5.size
          simp only [World.size_alloc] at hs5
          have hbl5 : Below w.heap.size w w5 := ((hblj.alloc (by omega) _).alloc (by simp; omega) _).trans (hb5.mono (by simp; omega))
          have hbw5 : Below wr.heap.size wr w5 := (((Below.refl _ _).alloc (Nat.le_refl _) _).alloc (by simp) _).trans (hb5.mono (by simp; omega))
          have H5 := Lib.hid (And.intro (HX.out.2.2.2.2.1.fresh hb5) (And.intro (HX.out.2.2.1.fresh hb5) (And.intro (ho5.at_ (bys_okk _)) hm5))); clear ho5 hb5 hm5 hm5b
          go_wp2_with (at_builtin; go_must (refine wpList_app (α := U8) (m := m5) (B := w5.heap.size) (r := Ord.bys (Ord.numsB [m0, m1', mk, mn, (vals.length : Int)])) rfl (.tmp 53) (.tmp 68) _ rfl (w.heap.size + 1) 5 i0 _ 1 Try.underlying105 hii hz0 hz1 hz2 rfl (by decide) u8_one (by rfl) rfl H5.out.1 (by rfl) H5.out.2.2.1 H5.out.2.2.2 (by omega) (by simp only [maxLen]; omega) (by omega) ?_))
          intro A6 c6 w6 hown6 hgr6 hat6
          have hls : o2.length + m5 = (o2 ++ Ord.bys (Ord.numsB [m0, m1', mk, mn, (vals.length : Int)])).length := by rw [List.length_append, H5.out.2.2.2]
          have hbl6 := hbl5.grown hgr6 (by omega) (fun g hg => by have := (H5.out.1.lt g hg).1; omega)
          have hbw6 : Below (w.heap.size + 1) wr w6 := (hbw5.mono hsj).grown hgr6 (by omega) (fun g hg => (H5.out.1.lt g hg).1)
          have hC6 := H5.out.2.1.grown hgr6 (own_ne_ty H5.out.1 H5.out.2.1 (by decide))
          have p4 := hC6.cell 4 (v := .slice VA vals.length vc) rfl
          have hs6 := hC6.lt
          obtain ⟨o6, ho6⟩ : ∃ o6, o2 ++ Ord.bys (Ord.numsB [m0, m1', mk, mn, (vals.length : Int)]) = o6 := ⟨_, rfl⟩
          rw [ho6] at hown6 hls
          have ho6l : o6.length ≤ o2.length + 50 := by omega
          have H6 := Lib.hid (And.intro hown6 (And.intro hls ho6)); clear hown6 hgr6 hat6 hC6 ho6 hls
          have hsw6 : w.heap.size + 1 ≤ w6.heap.size := by omega
          obtain ⟨wo, rfl⟩ : ∃ wo : World, wo = wr := ⟨_, rfl⟩
          go_wp2_with fail
          clear p4
          go_loopg [3, 73] (vals.length) (fun gi ov vv wi => ∃ (i : Nat) (A2 : Option Addr) (c2 : Nat) (o3 : List U8), i ≤ vals.length ∧ gi = vals.length - i ∧ vv = .int .i64 i ∧ ov = .slice A2 o3.length c2 ∧ o3.length ≤ o2.length + 50 + i * 20 ∧ Hid (o3 = o6 ++ Ord.bys (Ord.numsB ((vals.take i).flatMap fun v => [v.1, v.2])) ∧ Own wi (w.heap.size + 1) 5 A2 c2 o3) ∧ Below w.heap.size w wi ∧ Below (w.heap.size + 1) wo wi ∧ w.heap.size + 1 ≤ wi.heap.size)
          case atStart => exact ⟨0, A6, c6, o6, Nat.zero_le _, rfl, rfl, by rw [H6.out.2.1], by omega, ⟨by simp [Ord.numsB, Ord.bys], H6.out.1⟩, hbl6, hbw6, hsw6⟩
          case round =>
            obtain ⟨i, A7, c7, o3, hi3, rfl, rfl, rfl, ho3, hkeep, hbli, hbwi, hsi⟩ := hrel
            by_cases hit : i < vals.length
            · obtain ⟨b', o', u, v, rfl, hb', hx, hou, hov, e0, e1⟩ := (HX.out.2.2.2.2.2.below (hbwi.mono (by omega))).pair hit
              have hfs := Ord.fm_take (fun v : Int × Int => [v.1, v.2]) hx
              have hi0 : (0 : Int) ≤ (i : Int) := by omega
              have hi1 : (i : Int) < (vals.length : Int) := by omega
              have HT := Lib.hid (And.intro hfs (And.intro ((hkeep.out.2.alloc (.cells #[.int .i64 u, .int .i64 v] 90)).alloc (.cells #[.int .i64 u, .int .i64 v] 3)) (And.intro hkeep.out.1 (And.intro hou hov)))); clear hfs hx hou hov hkeep
              go_wp2_with fail
              refine (rnums_new (wr.heap.size + 1) 2 _ [u, v] (wr.alloc (.cells #[.int .i64 u, .int .i64 v] 90)) (by simp) rfl rfl (by intro z hz; simp at hz; rcases hz with rfl | rfl; exact HT.out.2.2.2.1; exact HT.out.2.2.2.2) (by omega)).mono ?_
              rintro e w7 ⟨A8, d8, m8, rfl, hm8, hm8b, ho8, hb8⟩
              have hm8c : m8 ≤ 20 := hm8b
              have hs8 := hb8.size
              simp only [World.size_alloc] at hs8
              have hbl8 : Below w.heap.size w w7 := ((hbli.alloc (by omega) _).alloc (by simp; omega) _).trans (hb8.mono (by simp; omega))
              have hbw8 : Below (w.heap.size + 1) wo w7 := ((hbwi.alloc (by omega) _).alloc (by simp; omega) _).trans (hb8.mono (by simp; omega))
              have H8 := Lib.hid (And.intro (HT.out.2.1.fresh hb8) (And.intro (ho8.at_ (bys_okk _)) hm8)); clear ho8 hb8 hm8 hm8b
              go_wp2_with (at_builtin; go_must (refine wpList_app (α := U8) (m := m8) (B := w7.heap.size) (r := Ord.bys (Ord.numsB [u, v])) rfl (.tmp 77) (.tmp 83) _ rfl (w.heap.size + 1) 5 i0 _ 1 Try.underlying105 hii hz0 hz1 hz2 rfl (by decide) u8_one (by rfl) rfl H8.out.1 (by rfl) H8.out.2.1 H8.out.2.2 (by omega) (by simp only [maxLen]; omega) (by omega) ?_))
              intro A9 c9 w9 hown9 hgr9 hat9
              have hls : o3.length + m8 = (o3 ++ Ord.bys (Ord.numsB [u, v])).length := by rw [List.length_append, H8.out.2.2]
              have hbl9 := hbl8.grown hgr9 (by omega) (fun g hg => by have := (H8.out.1.lt g hg).1; omega)
              have hbw9 := hbw8.grown hgr9 (by omega) (fun g hg => (H8.out.1.lt g hg).1)
              have hs9 : w.heap.size + 1 ≤ w9.heap.size := by have := hgr9.size; omega
              have heq : o3 ++ Ord.bys (Ord.numsB [u, v]) = o6 ++ Ord.bys (Ord.numsB ((vals.take (i + 1)).flatMap fun v => [v.1, v.2])) := by
                rw [HT.out.1, Ord.bys_nums, ← List.append_assoc, ← HT.out.2.2.1]
              have H9 := Lib.hid (And.intro heq (And.intro hown9 hls)); clear heq hown9 hls hgr9 hat9
              go_wp2_with fail
              go_roundg (vals.length - (i + 1))
              case measure => omega
              case rel => exact ⟨i + 1, A9, c9, _, by omega, rfl, by go_num, by rw [H9.out.2.2], by rw [← H9.out.2.2]; omega, ⟨H9.out.1, H9.out.2.1⟩, hbl9, hbw9, hs9⟩
            · obtain ⟨k1, k2⟩ := hkeep.out
              rw [List.take_of_length_le (by omega)] at k1
              have heq : o3 = o4 ++ Ord.bys (Ord.numsB ((x.makes.take (j + 1)).flatMap Ord.makeNums)) := by
                rw [HX.out.1, k1, ← H6.out.2.2, HX.out.2.2.2.1, Ord.bys_nums]
                simp only [List.append_assoc, ← Ord.bys_nums]
                rfl
              have hl7 : o3.length ≤ 1840 + (j + 1) * 2050 := by omega
              have H7 := Lib.hid (And.intro heq (And.intro k2 hl7)); clear heq k1 k2 hl7 hkeep
              go_wp2_with fail
              go_roundg (x.makes.length - (j + 1))
              case measure => omega
              case rel => exact ⟨j + 1, A7, c7, _, by omega, rfl, by go_num, rfl, H7.out.2.2, ⟨H7.out.1, H7.out.2.1⟩, hbli, hsi⟩
        · obtain ⟨k1, k2⟩ := hkeep.out
          rw [List.take_of_length_le (by omega)] at k1
          have heq : o2 = Ord.bys (Ord.numsB (Ord.exitNums x)) := by
            rw [k1, H4.out.2.2]
            simp only [← Ord.bys_nums]
            rfl
          have H7 := Lib.hid (And.intro heq k2); clear heq k1 k2 hkeep
          go_wp2_with fail
          rw [HH.out.2.2.1]
          exact ⟨A2, c2, o2.length, rfl, by rw [← H7.out.1], by rw [H7.out.1]; exact Ord.nums_bound HH.out.2.2.2.2.2.1, by rw [← H7.out.1]; exact H7.out.2.base_le (by omega), hblj⟩

end Go.Proofs.Ytljdnadejmkaeaa
