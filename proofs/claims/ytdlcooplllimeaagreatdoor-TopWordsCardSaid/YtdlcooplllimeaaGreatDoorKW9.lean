/- KW: Wor2. -/
import Derived.Test.YtdlcooplllimeaaGreatDoorKW8
import Derived.BigQuiet
import Derived.Deep.QuietTactic
/- words: a cell's words; Of. -/
namespace Go.Proofs.YtdlcooplllimeaaGreatDoor
open Go.RowKit

theorem most_any (k : Int) (w : World) : Calls Tryz.prog 97 #[.int .i64 k] w fun e w' => e = .returned (.int .i64 (mostV k)) ∧ w' = w := by
  by_cases h : k = 7
  · subst h
    go_enter Tryz.func97, Tryz.ntmps97
    go_wp2
    go_ret
    exact ⟨rfl, rfl⟩
  · have hm : mostV k = 100 := by unfold mostV; rw [if_neg h]
    have hk : (k == 7) = false := by simpa using h
    rw [hm]
    clear hm h
    go_enter Tryz.func97, Tryz.ntmps97
    go_wp2
    go_ret
    exact ⟨rfl, rfl⟩

theorem any_stop {α : Type} (p : α → Bool) (l : List α) (k : Nat) (x : α) (h : l[k]? = some x) (hp : p x = true) : l.any p = true := List.any_eq_true.2 ⟨x, List.mem_of_getElem? h, hp⟩
theorem any_snoc {α : Type} (p : α → Bool) (l : List α) (k : Nat) (x : α) (h : l[k]? = some x) : (l.take (k + 1)).any p = ((l.take k).any p || p x) := by
  rw [List.take_add_one, h]; simp [List.any_append]

set_option maxHeartbeats 1600000 in
set_option maxRecDepth 100000 in
theorem large_any (B vc fc : Nat) (VA FA : Option Addr) (c : Ce) (w : World) (hf : At w B FA c.frames) (hB : B ≤ w.heap.size) (hv : c.vals.length ≤ 9223372036854775807) (hfl : c.frames.length ≤ 9223372036854775807) :
    Calls Tryz.prog 93 #[.agg #[.int .i64 c.kind, .int .i64 c.num, .slice VA c.vals.length vc, .slice FA c.frames.length fc]] w fun e w' => e = .returned (.bool (cellLarge c)) ∧ Below w.heap.size w w' := by
  have H := Lib.hid hf; clear hf
  obtain ⟨kind, num, vals, frames⟩ := c
  have hv : vals.length ≤ 9223372036854775807 := hv
  have hfl : frames.length ≤ 9223372036854775807 := hfl
  have H : Hid (At w B FA frames) := H
  show Calls Tryz.prog 93 #[.agg #[.int .i64 kind, .int .i64 num, .slice VA vals.length vc, .slice FA frames.length fc]] w _
  go_enter Tryz.func93, Tryz.ntmps93
  go_wp2_with fail
  refine wp_world (fun W => Blk W w.heap.size 46 #[.int .i64 kind, .int .i64 num, .slice VA vals.length vc, .slice FA frames.length fc] ∧ Below w.heap.size w W ∧ w.heap.size + 1 ≤ W.heap.size) ⟨Blk.new _ _ _, (Below.refl _ _).alloc (Nat.le_refl _) _, by simp⟩ ?_
  rintro W ⟨hC, hb0, hs0⟩
  go_loopw [8] (fun i wr => ∃ k : Nat, k ≤ frames.length ∧ i = .int .i64 k ∧ Hid ((frames.take k).any frLarge = false ∧ Blk wr w.heap.size 46 #[.int .i64 kind, .int .i64 num, .slice VA vals.length vc, .slice FA frames.length fc]) ∧ Below w.heap.size w wr ∧ w.heap.size + 1 ≤ wr.heap.size) (fun i _ => frames.length - (intOf i).toNat)
  case atStart => exact ⟨0, Nat.zero_le _, rfl, ⟨rfl, hC⟩, hb0, hs0⟩
  case round =>
    obtain ⟨k, hk, rfl, hkeep, hbl, hsz⟩ := hrel
    clear hC hb0 hs0
    by_cases hlt : k < frames.length
    · obtain ⟨b, o, f, A1, c1, A2, c2, rfl, hb, hx, q0, q1, q2, q3, q4, q5, q6, q7, -, hm1, -, hm2, -⟩ := (H.out.below (hbl.mono hB)).fr_ hlt
      obtain ⟨fn, fat, fto, gen, self, regs, tries⟩ := f
      simp only at q0 q1 q2 q3 q4 q5 q6 q7 hm1 hm2
      have hm1' : regs.length ≤ 9223372036854775807 := by unfold maxLen at hm1; omega
      have hm2' : tries.length ≤ 9223372036854775807 := by unfold maxLen at hm2; omega
      have HX := Lib.hid (And.intro hx (And.intro hkeep.out.1 (hkeep.out.2.alloc (.cells #[.int .i64 fn, .int .i64 fat, .int .i64 fto, .int .i64 gen, .int .i64 self.1, .int .i64 self.2, .slice A1 regs.length c1, .slice A2 tries.length c2] 141)))); clear hx hkeep hm1 hm2
      by_cases h60 : 60 < regs.length
      · have he : cellLarge ⟨kind, num, vals, frames⟩ = true := by unfold cellLarge; rw [any_stop frLarge frames k _ HX.out.1 (by simp [frLarge, h60])]; simp
        have HE := Lib.hid he; clear he
        go_wp2_with fail
        go_ret
        exact ⟨ret_bool HE.out.symm, hbl.alloc (by omega) _⟩
      · by_cases h20 : 20 < tries.length
        · have he : cellLarge ⟨kind, num, vals, frames⟩ = true := by unfold cellLarge; rw [any_stop frLarge frames k _ HX.out.1 (by simp [frLarge, h20])]; simp
          have HE := Lib.hid he; clear he
          have h60' : (regs.length : Int) ≤ 60 := by omega
          go_wp2_with fail
          go_ret
          exact ⟨ret_bool HE.out.symm, hbl.alloc (by omega) _⟩
        · have he : frLarge ⟨fn, fat, fto, gen, self, regs, tries⟩ = false := by simp [frLarge]; omega
          have HE := Lib.hid he; clear he
          have h60' : (regs.length : Int) ≤ 60 := by omega
          have h20' : (tries.length : Int) ≤ 20 := by omega
          go_wp2_with fail
          go_roundw
          case rel => exact ⟨k + 1, by omega, by go_num, ⟨by rw [any_snoc _ _ _ _ HX.out.1, HX.out.2.1, HE.out]; rfl, HX.out.2.2⟩, hbl.alloc (by omega) _, by simp; omega⟩
          case measure => simp [intOf]; omega
    · have hk2 := hkeep.out.1
      rw [List.take_of_length_le (by omega)] at hk2
      have c0 := hkeep.out.2.cell 0 (v := .int .i64 kind) rfl
      have c2 := hkeep.out.2.cell 2 (v := .slice VA vals.length vc) rfl
      have c3 := hkeep.out.2.cell 3 (v := .slice FA frames.length fc) rfl
      have he : cellLarge ⟨kind, num, vals, frames⟩ = (decide (mostV kind < (vals.length : Int)) || decide (30 < frames.length)) := by unfold cellLarge; rw [hk2]; simp
      have hmo := fun w => most_any kind w
      have HK := Lib.hid (And.intro he hmo); clear hk2 he hmo hkeep
      by_cases hmv : mostV kind < (vals.length : Int)
      · have hd : decide (mostV kind < (vals.length : Int)) = true := by simpa using hmv
        have HD := Lib.hid hmv; clear hmv
        go_wp2_with fail
        go_quiet ((go_at_call 97; exact Calls.quiet_of_same (most_any kind _)))
        go_wp2_with fail
        go_ret
        exact ⟨ret_bool (by rw [HK.out.1, decide_eq_true HD.out]; rfl), below_drewN hbl _⟩
      · have hd : decide (mostV kind < (vals.length : Int)) = false := by simpa using hmv
        have HD := Lib.hid (show decide (mostV kind < (vals.length : Int)) = false by simpa using hmv); clear hmv
        go_wp2_with fail
        go_quiet ((go_at_call 97; exact Calls.quiet_of_same (most_any kind _)))
        go_wp2_with fail
        go_ret
        exact ⟨ret_bool (by rw [HK.out.1, HD.out, Bool.false_or, Bool.eq_iff_iff]; simp; try omega), below_drewN hbl _⟩


theorem ints_ok {l : List Int} (h : ∀ x ∈ l, I64 x) : ∀ x ∈ l, I64 x := h

set_option maxHeartbeats 6400000 in
set_option maxRecDepth 100000 in
theorem cell_any (R base B vc fc : Nat) (VA FA : Option Addr) (c : Ce) (out : List U64) (e : Int) (w : World) (hvA : At w B VA c.vals) (hf : At w B FA c.frames) (hB : B ≤ base) (h : Wr w base R out e) (hlen : out.length ≤ 100000) (hlg : cellLarge c = false) (hik : I64 c.kind ∧ I64 c.num) :
    Calls Tryz.prog 94 #[.pointer (some ⟨R, 0, none⟩), .agg #[.int .i64 c.kind, .int .i64 c.num, .slice VA c.vals.length vc, .slice FA c.frames.length fc]] w fun en w' => en = .returned (.tuple #[]) ∧ Wr w' base R (out ++ cellW bx c) (errFrom bx e (cellVals c)) ∧ Below base w w' ∧ Keeps R w w' := by
  obtain ⟨l1, l2, l3, -⟩ := cellLarge_no hlg
  obtain ⟨kind, num, vals, frames⟩ := c
  have l1 : ∀ f ∈ frames, frLarge f = false := l1
  have l2 : vals.length ≤ 600 := l2
  have l3 : frames.length ≤ 30 := l3
  have hvA : At w B VA vals := hvA
  have hf : At w B FA frames := hf
  have hik : I64 kind ∧ I64 num := hik
  show Calls Tryz.prog 94 #[.pointer (some ⟨R, 0, none⟩), .agg #[.int .i64 kind, .int .i64 num, .slice VA vals.length vc, .slice FA frames.length fc]] w _
  have hl := h.lt
  have HH := Lib.hid (And.intro hvA (And.intro hf (And.intro h (And.intro l1 hik)))); clear hvA hf h l1 hlg hik
  go_enter Tryz.func94, Tryz.ntmps94
  go_wp2_with fail
  refine (numbers_new R base (w.heap.size + 1) 2 _ [kind, num] out e (w.alloc (.cells #[.int .i64 kind, .int .i64 num, .slice VA vals.length vc, .slice FA frames.length fc] 46)) (by simp) rfl rfl (by intro x hx; simp at hx; rcases hx with rfl | rfl; exact HH.out.2.2.2.2.1; exact HH.out.2.2.2.2.2) (HH.out.2.2.1.alloc _) (by omega)).mono ?_
  rintro en w1 ⟨rfl, hW1, hb1, hk1⟩
  have hC1 := hk1 w.heap.size _ _ (by omega) (by decide) (Blk.new w 46 #[.int .i64 kind, .int .i64 num, .slice VA vals.length vc, .slice FA frames.length fc])
  have hbl1 : Below base w w1 := ((Below.refl _ _).alloc (by omega) _).trans hb1
  have hK1 := ((Keeps.refl R w).alloc (.cells #[.int .i64 kind, .int .i64 num, .slice VA vals.length vc, .slice FA frames.length fc] 46)).trans hk1
  have c2 := hC1.cell 2 (v := .slice VA vals.length vc) rfl
  have H1 := Lib.hid (And.intro hW1 (And.intro hC1 hK1)); clear hW1 hC1 hK1 hk1
  go_wp2_with fail
  refine (values_any R base B vc VA vals (out ++ [kind, num].map wd) e w1 (HH.out.1.below (hbl1.mono hB)) hB H1.out.1 (by simp; omega)).mono ?_
  rintro en w2 ⟨rfl, hW2, hb2, hk2⟩
  have hC2 := hk2 w.heap.size _ _ (by omega) (by decide) H1.out.2.1
  have hbl2 := hbl1.trans hb2
  have hK2 := H1.out.2.2.trans hk2
  have c3 := hC2.cell 3 (v := .slice FA frames.length fc) rfl
  have H2 := Lib.hid (And.intro hW2 (And.intro hC2 hK2)); clear hW2 hC2 hK2 hk2 c2 H1
  go_wp2_with fail
  refine (numbers_new R base w2.heap.size 1 _ [(frames.length : Int)] ((out ++ [kind, num].map wd) ++ valsW bx vals) (errFrom bx e vals) w2 rfl rfl rfl (by intro x hx; simp at hx; subst hx; unfold I64; omega) H2.out.1 (by simp [valsW]; omega)).mono ?_
  rintro en w3 ⟨rfl, hW3, hb3, hk3⟩
  have hC3 := hk3 w.heap.size _ _ (by omega) (by decide) H2.out.2.1
  have hbl3 := hbl2.trans hb3
  have hK3 := H2.out.2.2.trans hk3
  have c3' := hC3.cell 3 (v := .slice FA frames.length fc) rfl
  have H3 := Lib.hid (And.intro hW3 hK3); clear hW3 hC3 hK3 hk3 c3 H2
  go_wp2_with fail
  clear c3'
  go_loopg [28] (frames.length) (fun gk iv wr => ∃ (k : Nat) (o1 : List U64) (e1 : Int), k ≤ frames.length ∧ gk = frames.length - k ∧ iv = .int .i64 k ∧ o1.length ≤ out.length + 604 + k * 110 ∧ Hid (o1 = out ++ ([wd kind, wd num] ++ valsW bx vals ++ [wd frames.length] ++ (frames.take k).flatMap (frameW bx)) ∧ e1 = errFrom bx e (vals ++ (frames.take k).flatMap frVals) ∧ Wr wr base R o1 e1 ∧ Keeps R w wr) ∧ Below base w wr)
  case atStart => exact ⟨0, _, _, Nat.zero_le _, rfl, rfl, by simp [valsW]; omega, ⟨by simp, by simp, H3.out⟩, hbl3⟩
  case round =>
    obtain ⟨k, o1, e1, hk, rfl, rfl, ho1, hkeep, hbl⟩ := hrel
    have hRl := hkeep.out.2.2.1.lt
    by_cases hlt : k < frames.length
    · obtain ⟨b, o, f, A1, c1, A2, c2, rfl, hb, hx, q0, q1, q2, q3, q4, q5, q6, q7, at1, hm1, at2, hm2, i0, i1, i2, i3, i4, i5⟩ := (HH.out.2.1.below (hbl.mono hB)).fr_ hlt
      have hfl := HH.out.2.2.2.1 f (List.mem_of_getElem? hx)
      have hfw := frameW_length bx f hfl
      obtain ⟨fn, fat, fto, gen, ⟨s0, s1⟩, regs, tries⟩ := f
      simp only at q0 q1 q2 q3 q4 q5 q6 q7 hm1 hm2 at1 at2 i0 i1 i2 i3 i4 i5
      simp only [frLarge, Bool.or_eq_false_iff, decide_eq_false_iff_not] at hfl
      obtain ⟨hr60, ht20⟩ := hfl
      have hr60' : regs.length ≤ 60 := by omega
      have ht20' : tries.length ≤ 20 := by omega
      have hfs := flatMap_snoc (frameW bx) frames k _ hx
      have hvs := flatMap_snoc frVals frames k _ hx
      obtain ⟨F, hF⟩ : ∃ F : Array Value, F = #[.int .i64 fn, .int .i64 fat, .int .i64 fto, .int .i64 gen, .int .i64 s0, .int .i64 s1, .slice A1 regs.length c1, .slice A2 tries.length c2] := ⟨_, rfl⟩
      have hWa := hkeep.out.2.2.1.alloc (.cells F 141)
      have hKa := hkeep.out.2.2.2.alloc (.cells F 141)
      have hbla : Below base w (wr.alloc (.cells F 141)) := hbl.alloc (by omega) _
      have hFB := Blk.new wr 141 F
      rw [hF] at hWa hKa hbla hFB
      have hsg : wr.heap.size ≠ R := by omega
      have HX := Lib.hid (And.intro hfs (And.intro hvs (And.intro (And.intro at1 at2) (And.intro hKa (And.intro hFB (And.intro hkeep.out.1 (And.intro hkeep.out.2.1 (And.intro (And.intro i0 (And.intro i1 (And.intro i2 i3))) (And.intro i4 i5))))))))); clear hfs hvs at1 at2 hx hKa hFB hkeep hF F hm1 hm2 i0 i1 i2 i3 i4 i5
      clear hr60 ht20
      go_wp2_with fail
      refine (numbers_new R base (wr.heap.size + 1) 4 _ [fn, fat, fto, gen] o1 e1 _ (by simp) rfl rfl (by obtain ⟨j0, j1, j2, j3⟩ := HX.out.2.2.2.2.2.2.2.1; intro x hx; simp at hx; rcases hx with rfl | rfl | rfl | rfl <;> assumption) hWa (by omega)).mono ?_
      rintro en w4 ⟨rfl, hW4, hb4, hk4⟩
      have hF4 := hk4 _ _ _ hsg (by decide) HX.out.2.2.2.2.1
      have hbl4 := hbla.trans hb4
      have p4 := hF4.cell 4 (v := .int .i64 s0) rfl
      have p5 := hF4.cell 5 (v := .int .i64 s1) rfl
      have H4 := Lib.hid (And.intro hW4 (And.intro hF4 (HX.out.2.2.2.1.trans hk4))); clear hW4 hF4 hk4 hWa
      go_wp2_with fail
      refine (value_any R base s0 s1 (o1 ++ [fn, fat, fto, gen].map wd) e1 w4 HX.out.2.2.2.2.2.2.2.2.1 HX.out.2.2.2.2.2.2.2.2.2 H4.out.1 (by simp; omega)).mono ?_
      rintro en w5 ⟨rfl, hW5, hb5, hk5⟩
      have hF5 := hk5 _ _ _ hsg (by decide) H4.out.2.1
      have hbl5 := hbl4.trans hb5
      have p6 := hF5.cell 6 (v := .slice A1 regs.length c1) rfl
      have H5 := Lib.hid (And.intro hW5 (And.intro hF5 (H4.out.2.2.trans hk5))); clear hW5 hF5 hk5 p4 p5 H4
      generalize he5 : (if e1 = 0 then (bx (s0, s1)).2 else e1) = e5 at H5
      have HE5 := Lib.hid he5; clear he5
      go_wp2_with fail
      refine (values_any R base B c1 A1 regs ((o1 ++ [fn, fat, fto, gen].map wd) ++ [boxW bx (s0, s1)]) e5 w5 (HX.out.2.2.1.1.below (((((Below.refl base wr).alloc (by omega) _).trans hb4).trans hb5).mono hB)) hB H5.out.1 (by simp; omega)).mono ?_
      rintro en w6 ⟨rfl, hW6, hb6, hk6⟩
      have hF6 := hk6 _ _ _ hsg (by decide) H5.out.2.1
      have hbl6 := hbl5.trans hb6
      have p7 := hF6.cell 7 (v := .slice A2 tries.length c2) rfl
      have H6 := Lib.hid (And.intro hW6 (And.intro hF6 (H5.out.2.2.trans hk6))); clear hW6 hF6 hk6 p6 H5
      generalize he6 : errFrom bx e5 regs = e6 at H6
      have HE6 := Lib.hid he6; clear he6
      go_wp2_with fail
      refine (numbers_new R base w6.heap.size 1 _ [(tries.length : Int)] (((o1 ++ [fn, fat, fto, gen].map wd) ++ [boxW bx (s0, s1)]) ++ valsW bx regs) e6 w6 rfl rfl rfl (by intro x hx; simp at hx; subst hx; unfold I64; omega) H6.out.1 (by simp [valsW]; omega)).mono ?_
      rintro en w7 ⟨rfl, hW7, hb7, hk7⟩
      have hF7 := hk7 _ _ _ hsg (by decide) H6.out.2.1
      have hbl7 := hbl6.trans hb7
      have p7' := hF7.cell 7 (v := .slice A2 tries.length c2) rfl
      have hbw : Below base wr w7 := ((((((Below.refl base wr).alloc (by omega) _).trans hb4).trans hb5).trans hb6).trans hb7)
      have H7 := Lib.hid (And.intro hW7 (And.intro hF7 (H6.out.2.2.trans hk7))); clear hW7 hF7 hk7 p7 H6
      obtain ⟨wo, rfl⟩ : ∃ wo : World, wo = wr := ⟨_, rfl⟩
      go_wp2_with fail
      clear p7'
      go_loopg [60] (tries.length) (fun gj jv wj => ∃ (j : Nat) (o2 : List U64), j ≤ tries.length ∧ gj = tries.length - j ∧ jv = .int .i64 j ∧ o2.length ≤ out.length + 604 + k * 110 + 70 + 2 * j ∧ Hid (o2 = o1 ++ ([wd fn, wd fat, wd fto, wd gen] ++ [boxW bx (s0, s1)] ++ valsW bx regs ++ [wd tries.length] ++ triesW (tries.take j)) ∧ Wr wj base R o2 e6 ∧ Keeps R w wj) ∧ Below base w wj ∧ Below base wo wj)
      case atStart => exact ⟨0, _, Nat.zero_le _, rfl, rfl, by simp [valsW]; omega, ⟨by simp [triesW], H7.out.1, H7.out.2.2⟩, hbl7, hbw⟩
      case round =>
        obtain ⟨j, o2, hj, rfl, rfl, ho2, hkeep, hbl8, hblo⟩ := hrel
        have hRl8 := hkeep.out.2.1.lt
        by_cases hjt : j < tries.length
        · obtain ⟨b', o', x, y, rfl, hb', hx, hox, hoy, d0, d1⟩ := (HX.out.2.2.1.2.below (hblo.mono hB)).pairW hjt
          have hts : triesW (tries.take (j + 1)) = triesW (tries.take j) ++ [wd x, wd y] := flatMap_snoc _ tries j _ hx
          have HT := Lib.hid (And.intro hts (And.intro (hkeep.out.2.1.alloc (.cells #[.int .i64 x, .int .i64 y] 200)) (And.intro (hkeep.out.2.2.alloc (.cells #[.int .i64 x, .int .i64 y] 200)) (And.intro hkeep.out.1 (And.intro hox hoy))))); clear hts hx hox hoy hkeep
          go_wp2_with fail
          refine (numbers_new R base (wr.heap.size + 1) 2 _ [x, y] o2 e6 _ (by simp) rfl rfl (by intro z hz; simp at hz; rcases hz with rfl | rfl; exact HT.out.2.2.2.2.1; exact HT.out.2.2.2.2.2) HT.out.2.1 (by omega)).mono ?_
          rintro en w9 ⟨rfl, hW9, hb9, hk9⟩
          have hbl9 : Below base w w9 := (hbl8.alloc (by omega) _).trans hb9
          have hblo9 : Below base wo w9 := (hblo.alloc (by omega) _).trans hb9
          have heq : o2 ++ [x, y].map wd = o1 ++ ([wd fn, wd fat, wd fto, wd gen] ++ [boxW bx (s0, s1)] ++ valsW bx regs ++ [wd tries.length] ++ triesW (tries.take (j + 1))) := by rw [HT.out.1, HT.out.2.2.2.1]; simp
          have hl9 : (o2 ++ [x, y].map wd).length ≤ out.length + 604 + k * 110 + 70 + 2 * (j + 1) := by simp; omega
          have H9 := Lib.hid (And.intro heq (And.intro hW9 (And.intro (HT.out.2.2.1.trans hk9) hl9))); clear heq hW9 hk9 hl9
          go_wp2_with fail
          go_roundg (tries.length - (j + 1))
          case measure => omega
          case rel => exact ⟨j + 1, _, by omega, rfl, by go_num, H9.out.2.2.2, ⟨H9.out.1, H9.out.2.1, H9.out.2.2.1⟩, hbl9, hblo9⟩
        · obtain ⟨j1, j2, j3⟩ := hkeep.out
          rw [List.take_of_length_le (by omega)] at j1
          have heq : o2 = out ++ ([wd kind, wd num] ++ valsW bx vals ++ [wd frames.length] ++ (frames.take (k + 1)).flatMap (frameW bx)) := by
            rw [HX.out.1, j1, HX.out.2.2.2.2.2.1]; simp [frameW]
          have heq2 : e6 = errFrom bx e (vals ++ (frames.take (k + 1)).flatMap frVals) := by
            rw [HX.out.2.1, ← List.append_assoc, errFrom_append, ← HX.out.2.2.2.2.2.2.1, ← HE6.out, ← HE5.out]; rfl
          have hl9 : o2.length ≤ out.length + 604 + (k + 1) * 110 := by omega
          have HF := Lib.hid (And.intro heq (And.intro heq2 (And.intro j2 (And.intro j3 hl9)))); clear heq heq2 j1 j2 j3 hkeep hl9
          go_wp2_with fail
          go_roundg (frames.length - (k + 1))
          case measure => omega
          case rel => exact ⟨k + 1, _, _, by omega, rfl, by go_num, HF.out.2.2.2.2, ⟨HF.out.1, HF.out.2.1, HF.out.2.2.1, HF.out.2.2.2.1⟩, hbl8⟩
    · obtain ⟨k1, k2, k3, k4⟩ := hkeep.out
      rw [List.take_of_length_le (by omega)] at k1 k2
      have HF := Lib.hid (And.intro k1 (And.intro k2 (And.intro k3 k4))); clear k1 k2 k3 k4 hkeep
      go_wp2_with fail
      go_end0
      exact ⟨rfl, by have h3 := HF.out.2.2.1; rw [HF.out.1, HF.out.2.1] at h3; exact h3, hbl, HF.out.2.2.2⟩

def OfPost (c : Ce) (w : World) (e : Ending) (w' : World) : Prop :=
  Below w.heap.size w w' ∧ ((cellErr bx c = 0 ∧ ∃ A d, e = .returned (.tuple #[.slice A (cellW bx c).length d, .int .i64 0]) ∧ Own w' w.heap.size 73 A d (cellW bx c)) ∨
    (cellErr bx c ≠ 0 ∧ e = .returned (.tuple #[.slice none 0 0, .int .i64 (cellErr bx c)])))

set_option maxHeartbeats 1600000 in
set_option maxRecDepth 100000 in
theorem of_any (B vc fc : Nat) (VA FA : Option Addr) (c : Ce) (w : World) (hvA : At w B VA c.vals) (hf : At w B FA c.frames) (hB : B ≤ w.heap.size) (hv : c.vals.length ≤ 9223372036854775807) (hfl : c.frames.length ≤ 9223372036854775807) (hik : I64 c.kind ∧ I64 c.num) :
    Calls Tryz.prog 36 #[.agg #[.int .i64 c.kind, .int .i64 c.num, .slice VA c.vals.length vc, .slice FA c.frames.length fc]] w (OfPost c w) := by
  have HH := Lib.hid (And.intro hvA (And.intro hf hik)); clear hvA hf hik
  obtain ⟨C, hC⟩ : ∃ C : Array Value, C = #[.int .i64 c.kind, .int .i64 c.num, .slice VA c.vals.length vc, .slice FA c.frames.length fc] := ⟨_, rfl⟩
  go_enter Tryz.func36, Tryz.ntmps36
  go_wp2_with fail
  refine calls_world (fun W => Blk W w.heap.size 46 #[.int .i64 c.kind, .int .i64 c.num, .slice VA c.vals.length vc, .slice FA c.frames.length fc] ∧ Below w.heap.size w W ∧ w.heap.size + 1 ≤ W.heap.size) ⟨Blk.new _ _ _, (Below.refl _ _).alloc (Nat.le_refl _) _, by simp⟩ ?_
  clear hC C
  rintro W ⟨hG, hb0, hs0⟩
  refine (large_any B vc fc VA FA c W (HH.out.2.1.below (hb0.mono hB)) (by omega) hv hfl).mono ?_
  rintro e w1 ⟨rfl, hb1⟩
  have hs1 := hb1.size
  have hbl1 := hb0.trans (hb1.mono (by omega))
  have hG1 := hG.fresh hb1
  have g0 := hG1.cell 0 (v := .int .i64 c.kind) rfl
  have g1 := hG1.cell 1 (v := .int .i64 c.num) rfl
  have g2 := hG1.cell 2 (v := .slice VA c.vals.length vc) rfl
  have g3 := hG1.cell 3 (v := .slice FA c.frames.length fc) rfl
  have lt0 : w.heap.size < w1.heap.size := by omega
  cases hlg : cellLarge c with
  | true =>
    have he : cellErr bx c = 2 := by unfold cellErr; rw [if_pos hlg]
    have HE := Lib.hid he; clear he hlg hG hG1
    go_wp2_with fail
    go_ret2
    exact ⟨hbl1, .inr (by rw [HE.out]; exact ⟨by decide, rfl⟩)⟩
  | false =>
    have he : cellErr bx c = errFrom bx 0 (cellVals c) := by unfold cellErr; rw [hlg]; rfl
    have HE := Lib.hid (And.intro he hlg); clear he hlg hG hG1
    go_wp2_with fail
    have hWr : Wr (w1.alloc (.cells #[.slice none 0 0, .int .i64 0] 185)) w1.heap.size w1.heap.size [] 0 := ⟨none, 0, Blk.new _ _ _, Own.nil_, Nat.le_refl _⟩
    have hbl2 : Below w.heap.size w (w1.alloc (.cells #[.slice none 0 0, .int .i64 0] 185)) := hbl1.alloc (by omega) _
    refine (cell_any w1.heap.size w1.heap.size B vc fc VA FA c [] 0 _ (HH.out.1.below (hbl2.mono hB)) (HH.out.2.1.below (hbl2.mono hB)) (by omega) hWr (by simp) HE.out.2 HH.out.2.2).mono ?_
    rintro e w3 ⟨rfl, hW3, hb3, -⟩
    have hbl3 : Below w.heap.size w w3 := hbl2.trans (hb3.mono (by omega))
    obtain ⟨er, her⟩ : ∃ er, errFrom bx 0 (cellVals c) = er := ⟨_, rfl⟩
    rw [her] at hW3 HE
    obtain ⟨A, d, r1, r2, r3⟩ := hW3
    rw [List.nil_append] at r1 r2
    have c0 := r1.cell 0 (v := .slice A (cellW bx c).length d) rfl
    have c1 := r1.cell 1 (v := .int .i64 er) rfl
    have HR := Lib.hid r2; clear r1 r2 her hWr g0 g1 g2 g3
    obtain ⟨cw, hcw⟩ : ∃ cw, cellW bx c = cw := ⟨_, rfl⟩
    rw [hcw] at c0 HR
    have HCW := Lib.hid hcw; clear hcw
    by_cases h0 : er = 0
    · subst h0
      go_wp2_with fail
      go_ret2
      exact ⟨hbl3, .inl (by rw [HCW.out]; exact ⟨HE.out.1, A, d, rfl, HR.out.base_le (by omega)⟩)⟩
    · have hne : (er != 0) = true := by simp [h0]
      have H0 := Lib.hid h0; clear h0
      go_wp2_with fail
      go_quiet (fail)
      go_wp2_with fail
      go_ret2
      exact ⟨below_drewN hbl3 _, .inr (by rw [HE.out.1]; exact ⟨H0.out, rfl⟩)⟩

end Go.Proofs.YtdlcooplllimeaaGreatDoor
