/- KT: CdK. -/
import Derived.Test.YtdlcooplllimeaaGreatDoorKT13
import Derived.Test.YtdlcooplllimeaaGreatDoorKT20
import Derived.Test.YtdlcooplllimeaaGreatDoorKT34
/- code.Check: a program that is called right, is right. -/
namespace Go.Proofs.YtdlcooplllimeaaGreatDoor
open Go.RowKit

attribute [local go_sem ↓] Go.wp_at_zero Go.wp_at_succ

namespace Top
theorem egCheck1 : ∀ args w, (callFunc 69 args).run Tryz.prog w = .ok (.enter 69 args) w := fun _ _ => by kernel_rfl
set_option maxHeartbeats 800000 in
set_option maxRecDepth 100000 in
theorem check1_any (p : Pg) (x : Fn) (g fc cc tc kc dc B : Nat) (FA CA TA KA DA : Option Addr) (w : World) (hg : Blk w g 26 #[.slice FA p.fns.length fc, .slice CA p.consts.length cc, .slice TA p.texts.length tc]) (hF : At w B FA p.fns) (hD : At w B DA x.code) (hB : B ≤ w.heap.size) (hnl : NotLarge p.fns p.consts.length p.texts.length) (hnk : x.caught.length ≤ kc ∧ kc ≤ maxLen) (hx : x ∈ p.fns) :
    Calls Tryz.prog 69 #[.agg #[.int .i64 x.params, .int .i64 x.regs, .bool x.gen, .slice KA x.caught.length kc, .slice DA x.code.length dc], .pointer (some ⟨g, 0, none⟩)] w fun e w' => ∃ b : Bool, e = .returned (.bool b) ∧ (b = false → ∀ i ∈ x.code, tgt p.fns.length i) ∧ Below w.heap.size w w' := by
  have hb0 : Below w.heap.size w (w.alloc (.cells #[.int .i64 x.params, .int .i64 x.regs, .bool x.gen, .slice KA x.caught.length kc, .slice DA x.code.length dc] 160)) := (Below.refl _ _).alloc (Nat.le_refl _) _
  have hg1 := hg.fresh hb0
  have hglt := hg.lt
  have p0 := hg.cell 0 (v := .slice FA p.fns.length fc) rfl
  have p1 := hg.cell 1 (v := .slice CA p.consts.length cc) rfl
  have p2 := hg.cell 2 (v := .slice TA p.texts.length tc) rfl
  obtain ⟨n1, n2, n3, n4⟩ := hnl
  have hf := function_any FA CA TA KA DA p.fns.length fc p.consts.length cc p.texts.length tc x.caught.length kc x.code.length dc x.params x.regs x.gen B p.fns x.code _ (hF.below (hb0.mono hB)) (hD.below (hb0.mono hB)) rfl rfl (by simp; omega) (by unfold maxLen; omega) (by unfold maxLen; omega) (by unfold maxLen; omega) (by omega) (n4 x hx).2
  have H := Lib.hid (And.intro hf hb0); clear hf hb0 hg hg1 hF hD n1 n2 n3 n4 hx
  go_enter Tryz.func69, Tryz.ntmps69
  go_wp2_with fail
  refine H.out.1.mono ?_
  rintro e w1 ⟨b, rfl, hq, hb1⟩
  have HQ := Lib.hid (And.intro hq hb1); clear hq hb1 p0 p1 p2
  go_wp2_with fail
  go_returns
  exact ⟨_, rfl, fun h => HQ.out.1 (by simpa using h), H.out.2.trans (HQ.out.2.mono (by simp))⟩

set_option maxHeartbeats 3200000 in
set_option maxRecDepth 100000 in
theorem codeCheck_any (p : Pg) (fc cc tc B : Nat) (FA CA TA : Option Addr) (w : World) (hF : At w B FA p.fns) (hC : At w B CA p.consts) (hX : At w B TA p.texts) (hB : B ≤ w.heap.size) (htc : p.texts.length ≤ tc ∧ tc ≤ maxLen) (hTab : Tabs w) :
    Calls Tryz.prog 30 #[.agg #[.slice FA p.fns.length fc, .slice CA p.consts.length cc, .slice TA p.texts.length tc]] w fun e w' => ∃ r : Int, e = .returned (.int .i64 r) ∧ (r = 0 → CdOk p) ∧ (r = 0 ∨ r = 2 ∨ r = 3) ∧ Below w.heap.size w w' := by
  have hb0 : Below w.heap.size w (w.alloc (.cells #[.slice FA p.fns.length fc, .slice CA p.consts.length cc, .slice TA p.texts.length tc] 26)) := (Below.refl _ _).alloc (Nat.le_refl _) _
  have hl := large_any B fc p.consts.length cc p.texts.length tc FA CA TA p.fns p.texts (w.alloc (.cells #[.slice FA p.fns.length fc, .slice CA p.consts.length cc, .slice TA p.texts.length tc] 26)) (hF.below (hb0.mono hB)) (hX.below (hb0.mono hB)) (by simp; omega) rfl
  have H := Lib.hid (And.intro hF (And.intro hC (And.intro hX (And.intro hTab (And.intro hb0 hl))))); clear hF hC hX hTab hb0 hl
  go_enter Tryz.func30, Tryz.ntmps30
  go_wp2_with fail
  refine H.out.2.2.2.2.2.mono ?_
  rintro e w1 ⟨b, rfl, hnl, hb1⟩
  have hbl1 := H.out.2.2.2.2.1.trans (hb1.mono (by simp))
  have hP := (Blk.new w 26 #[.slice FA p.fns.length fc, .slice CA p.consts.length cc, .slice TA p.texts.length tc]).fresh hb1
  cases b with
  | true =>
    have HB := Lib.hid hbl1; clear hbl1 hP hb1 hnl
    go_wp2_with fail
    go_returns
    exact ⟨2, rfl, fun h => (by cases h), by simp, HB.out⟩
  | false =>
    have hn := hnl rfl
    have p0 := hP.cell 0 (v := .slice FA p.fns.length fc) rfl
    have p1 := hP.cell 1 (v := .slice CA p.consts.length cc) rfl
    have p2 := hP.cell 2 (v := .slice TA p.texts.length tc) rfl
    have ht := tables_any B p.fns.length fc p.consts.length cc p.texts.length tc FA CA TA p.consts p.texts w1 (H.out.2.1.below (hbl1.mono hB)) (H.out.2.2.1.below (hbl1.mono hB)) (by have := hbl1.size; omega) rfl rfl (H.out.2.2.2.1.fresh hbl1) hn.2.1 hn.2.2.1 htc
    have H1 := Lib.hid (And.intro ht (And.intro hP (And.intro hbl1 hn))); clear ht hP hbl1 hn hnl hb1
    go_wp2_with fail
    refine H1.out.1.mono ?_
    rintro e w2 ⟨b, rfl, hb2⟩
    have hbl2 := H1.out.2.2.1.trans (hb2.mono H1.out.2.2.1.size)
    have hP2 := H1.out.2.1.fresh hb2
    clear p0 p1 p2
    have p0 := hP2.cell 0 (v := .slice FA p.fns.length fc) rfl
    have H2 := Lib.hid (And.intro hP2 hbl2); clear hP2 hbl2 hb2
    cases b with
    | false =>
      go_wp2_with fail
      go_returns
      exact ⟨3, rfl, fun h => (by cases h), by simp, H2.out.2⟩
    | true =>
      by_cases h0 : p.fns.length = 0
      · rw [h0] at p0
        go_wp2_with fail
        go_returns
        exact ⟨3, rfl, fun h => (by cases h), by simp, H2.out.2⟩
      have hpos : 0 < p.fns.length := by omega
      have hpos' : (0 : Int) < (p.fns.length : Int) := by omega
      have d0 : ((p.fns.length : Int) == 0) = false := by rw [beq_eq_false_iff_ne]; omega
      obtain ⟨b, o, x, KA, kc, DA, dc, rfl, hbb, hx, q0, q1, q2, q3, q4, -⟩ := (H.out.1.below (H2.out.2.mono hB)).fn_ (k := 0) hpos
      rw [Nat.zero_mul, Nat.add_zero] at q0 q1 q2 q3 q4
      clear h0 hx q1 q4
      by_cases hpa : x.params = 0
      · rw [hpa] at q0
        by_cases hca : x.caught.length = 0
        · rw [hca] at q3
          cases hge : x.gen with
          | true =>
            rw [hge] at q2
            clear hpa hca hge
            go_wp2_with fail
            go_returns
            exact ⟨3, rfl, fun h => (by cases h), by simp, H2.out.2⟩
          | false =>
            rw [hge] at q2
            clear hpa hca hge
            have hct := ctFFn_any (some ⟨b, o, none⟩) fc B 69 p.fns.length #[.pointer (some ⟨w.heap.size, 0, none⟩)] p.fns w2 (fun f => ∀ i ∈ f.code, tgt p.fns.length i) rfl (H.out.1.below (H2.out.2.mono hB)) (by have := H2.out.2.size; omega) (by have := H1.out.2.2.2.1; omega) egCheck1
              (fun V hV x hx Av Af cv cf _ hcv hAf _ _ _ => check1_any p x w.heap.size fc cc tc cv cf B (some ⟨b, o, none⟩) CA TA Av Af V (H2.out.1.fresh hV) (H.out.1.below ((H2.out.2.trans (hV.mono H2.out.2.size)).mono hB)) hAf (by have := hV.size; have := H2.out.2.size; omega) H1.out.2.2.2 hcv hx)
            have HC := Lib.hid hct; clear hct
            go_wp2_with fail
            refine HC.out.mono ?_
            rintro e w3 ⟨b3, rfl, hq, hb3⟩
            have HQ := Lib.hid (And.intro hq (H2.out.2.trans (hb3.mono H2.out.2.size))); clear hq hb3 p0 q0 q2 q3
            cases b3 with
            | true =>
              go_wp2_with fail
              go_returns
              exact ⟨3, rfl, fun h => (by cases h), by simp, HQ.out.2⟩
            | false =>
              go_wp2_with fail
              go_returns
              exact ⟨0, rfl, fun _ => ⟨⟨hpos, H1.out.2.2.2.1⟩, fun f hf => ⟨(H1.out.2.2.2.2.2.2 f hf).1, (H1.out.2.2.2.2.2.2 f hf).2, HQ.out.1 (by simp) f hf⟩⟩, by simp, HQ.out.2⟩
        · have d1 : decide ((0 : Int) < (x.caught.length : Int)) = true := decide_eq_true (by omega)
          have d2 : 0 < x.caught.length := by omega
          clear hpa hca q2
          go_wp2_with fail
          go_returns
          exact ⟨3, rfl, fun h => (by cases h), by simp, H2.out.2⟩
      · have d1 : (x.params == 0) = false := by simpa using hpa
        have d2 : (x.params != 0) = true := by simpa using hpa
        clear hpa q2 q3
        go_wp2_with fail
        go_returns
        exact ⟨3, rfl, fun h => (by cases h), by simp, H2.out.2⟩
end Top
end Go.Proofs.YtdlcooplllimeaaGreatDoor
