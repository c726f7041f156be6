/- KT: ClA, ClB. -/
import Derived.Test.YtdlcooplllimeaaGreatDoorKT13
import Derived.Test.YtdlcooplllimeaaGreatDoorKT14
import Derived.Test.YtdlcooplllimeaaGreatDoorKT18
import Derived.Test.YtdlcooplllimeaaGreatDoorKT20
import Derived.Test.YtdlcooplllimeaaGreatDoorKT22
/- cells: weak tables; texts; is a state too large? -/
namespace Go.Proofs.YtdlcooplllimeaaGreatDoor
open Go.RowKit

attribute [local go_sem ↓] Go.wp_at_zero Go.wp_at_succ

namespace Top
def WkOk (l : List (Int × Int)) : Prop := (∀ i v, l[2 * i]? = some v → v.1 = 5) ∧ l.length % 2 = 0
set_option maxHeartbeats 1600000 in
set_option maxRecDepth 100000 in
theorem clweak_any (pv : Value) (A : Option Addr) (c B n : Nat) (l : List (Int × Int)) (w : World) (hn : l.length = n) (h : At w B A l) (hB : B ≤ w.heap.size) (hm : n ≤ 1000000) :
    Calls Tryz.prog 127 #[pv, .slice A n c] w fun e w' => ∃ b : Bool, e = .returned (.bool b) ∧ (b = true → WkOk l) ∧ Below w.heap.size w w' := by
  have hmm := run_makeMap (P := Tryz.prog) 89 w
  have H := Lib.hid (And.intro h hn); clear h hn
  go_enter Tryz.func127, Tryz.ntmps127
  go_wp2_with fail
  clear hmm
  go_loopg [6] (n + 2) (fun gk iv wr => ∃ i : Nat, 2 * i ≤ n + 1 ∧ gk = n + 2 - 2 * i ∧ iv = .int .i64 ((2 * i : Nat) : Int) ∧ Hid ((∀ j v, j < i → l[2 * j]? = some v → v.1 = 5) ∧ MapN wr 3 w.heap.size i) ∧ Below w.heap.size w wr)
  case atStart => exact ⟨0, by omega, by omega, rfl, ⟨fun j v hj => by omega, MapN.made w _⟩, (Below.refl _ _).alloc (Nat.le_refl _) _⟩
  case round =>
    obtain ⟨i, hi, rfl, rfl, hkeep, hbl⟩ := hrel
    have hsz := hbl.size
    obtain ⟨k, hk⟩ : ∃ k, 2 * i = k := ⟨_, rfl⟩
    rw [hk]
    by_cases hlt : k < n
    · obtain ⟨b, o, x, rfl, hb, hx, p0, p1, j0, j1⟩ := (H.out.1.below (hbl.mono hB)).pairT (k := k) (by have := H.out.2; omega)
      have hk0 : (0 : Int) ≤ (k : Int) := by omega
      have hk1 : (k : Int) < (n : Int) := by omega
      by_cases h5 : x.1 = 5
      · rw [h5] at p0
        obtain ⟨cc, hlook⟩ := hkeep.out.2.look (t := 89) lawInt Tryz.underlying89 (keyInt j1)
        by_cases hc : cc = 1
        · subst hc
          clear hx hkeep
          go_wp2_with fail
          go_returns
          exact ⟨_, rfl, fun h => (by cases h), hbl⟩
        · have dc : (cc == 1) = false := by simpa using hc
          obtain ⟨Y, hupd, hmY, hgY⟩ := hkeep.out.2.upd (t := 89) lawInt Tryz.underlying89 (by unfold maxLen; omega) (keyInt j1) (x := 1) (by unfold I64; omega)
          have hbY : Below w.heap.size w Y := hbl.grown hgY (by omega) (fun g hg => by injection hg with hg; omega)
          have hall : ∀ j v, j < i + 1 → l[2 * j]? = some v → v.1 = 5 := by
            intro j v hj hv
            by_cases hji : j < i
            · exact hkeep.out.1 j v hji hv
            · obtain rfl : j = i := by omega
              rw [hk, hx] at hv
              injection hv with hv
              rw [← hv]; exact h5
          have hwk : IntKind.i64.wrap ((k : Int) + 2) = (k : Int) + 2 := IntWalk.i64_in _ (by omega)
          have HY := Lib.hid (And.intro hmY (And.intro hall hbY)); clear hmY hall hbY hgY hx hkeep hc
          go_wp2_with fail
          go_roundg (n + 2 - 2 * (i + 1))
          case measure => omega
          case rel => exact ⟨i + 1, by omega, rfl, by rw [show 2 * (i + 1) = k + 2 by omega]; go_num, ⟨HY.out.2.1, HY.out.1⟩, HY.out.2.2⟩
      · have d5 : (x.1 == 5) = false := by simpa using h5
        have d6 : (x.1 != 5) = true := by simpa using h5
        clear hx hkeep h5
        go_wp2_with fail
        go_returns
        exact ⟨_, rfl, fun h => (by cases h), hbl⟩
    · have hall := hkeep.out.1
      have hwr : Int.tmod (n : Int) 2 = ((n % 2 : Nat) : Int) := by rw [show (2 : Int) = ((2 : Nat) : Int) from rfl, ← Int.ofNat_tmod]
      have HA := Lib.hid hall; clear hall hkeep
      go_wp2_with fail
      go_returns
      refine ⟨_, rfl, fun h => ⟨fun j v hv => HA.out j v ?_ hv, ?_⟩, hbl⟩
      · have := (List.getElem?_eq_some_iff.1 hv).1
        have := H.out.2
        omega
      · have := H.out.2
        simp at h
        omega
end Top
end Go.Proofs.YtdlcooplllimeaaGreatDoor

/- cells: is a state too large? Its texts; the tests of its shapes, of what was said, of its ends. -/
namespace Go.Proofs.YtdlcooplllimeaaGreatDoor
open Go.RowKit

attribute [local go_sem ↓] Go.wp_at_zero Go.wp_at_succ

namespace Top
theorem egCl1 : ∀ args w, (callFunc 119 args).run Tryz.prog w = .ok (.enter 119 args) w := fun _ _ => by kernel_rfl
theorem egCl2 : ∀ args w, (callFunc 120 args).run Tryz.prog w = .ok (.enter 120 args) w := fun _ _ => by kernel_rfl
theorem cllarge1_any (s : ByteArray) (w : World) : Calls Tryz.prog 119 #[.string s] w fun e w' => ∃ b : Bool, e = .returned (.bool b) ∧ (b = false → True) ∧ Below w.heap.size w w' := by
  go_enter Tryz.func119, Tryz.ntmps119
  go_wp2_with fail
  go_returns
  exact ⟨_, rfl, fun _ => trivial, Below.refl _ _⟩
def ceSmall (kind : Int) (n : Nat) : Prop := n ≤ 100 ∨ (kind = 7 ∧ n ≤ 600)
theorem cllarge2_any (k m : Int) (VA FA : Option Addr) (nv vc nf fc : Nat) (w : World) : Calls Tryz.prog 120 #[.agg #[.int .i64 k, .int .i64 m, .slice VA nv vc, .slice FA nf fc]] w fun e w' => ∃ b : Bool, e = .returned (.bool b) ∧ (b = false → ceSmall k nv) ∧ Below w.heap.size w w' := by
  have HB := Lib.hid (fun o => (Below.refl w.heap.size w).alloc (Nat.le_refl _) o)
  by_cases h1 : nv ≤ 100
  · have h1' : (nv : Int) ≤ 100 := by omega
    go_enter Tryz.func120, Tryz.ntmps120
    go_wp2_with fail
    go_returns
    first | exact ⟨_, rfl, fun _ => .inl h1, HB.out _⟩ | exact .inl ⟨rfl, .inl h1, HB.out _⟩
  have h1' : 100 < (nv : Int) := by omega
  clear h1
  by_cases h7 : k = 7
  · subst h7
    by_cases h2 : nv ≤ 600
    · have h2' : (nv : Int) ≤ 600 := by omega
      go_enter Tryz.func120, Tryz.ntmps120
      go_wp2_with fail
      go_returns
      exact ⟨_, rfl, fun _ => .inr ⟨rfl, h2⟩, HB.out _⟩
    · have h2' : 600 < (nv : Int) := by omega
      go_enter Tryz.func120, Tryz.ntmps120
      go_wp2_with fail
      go_returns
      exact ⟨_, rfl, fun h => (by cases h), HB.out _⟩
  · have d7 : (k == 7) = false := by simpa using h7
    have d8 : (k != 7) = true := by simpa using h7
    clear h7
    go_enter Tryz.func120, Tryz.ntmps120
    go_wp2_with fail
    go_returns
    exact ⟨_, rfl, fun h => (by cases h), HB.out _⟩
def StSmall (s : Stt) : Prop := s.cells.length ≤ 300 ∧ s.texts.length ≤ 300 ∧ s.said.length ≤ 200 ∧ s.ends.length ≤ 100 ∧ ∀ c ∈ s.cells, ceSmall c.kind c.vals.length
set_option maxHeartbeats 1600000 in
set_option maxRecDepth 100000 in
theorem cllarge_any (w : World) (p : Nat) (s : Stt) (h : StA w p s) :
    Calls Tryz.prog 71 #[.pointer (some ⟨p, 0, none⟩)] w fun e w' => ∃ b : Bool, e = .returned (.bool b) ∧ (b = false → StSmall s) ∧ Below w.heap.size w w' := by
  have hS := h
  obtain ⟨CA, SA, TA, HA, EA, DA, cc, sc, tc, hc, ec, dc, h1, h2, h3, h4, h5, h6, h7⟩ := h
  have g0 := h1.cell 0 (v := .slice CA s.cells.length cc) rfl
  have g2 := h1.cell 2 (v := .slice TA s.texts.length tc) rfl
  have g4 := h1.cell 4 (v := .slice EA s.ends.length ec) rfl
  have g5 := h1.cell 5 (v := .slice DA s.said.length dc) rfl
  by_cases b1 : 300 < s.cells.length
  · have b1' : 300 < (s.cells.length : Int) := by omega
    clear h1 h2 h3 h4 h5 h6 h7 hS
    go_enter Tryz.func71, Tryz.ntmps71
    go_wp2_with fail
    go_returns
    exact ⟨_, rfl, fun h => (by cases h), Below.refl _ _⟩
  have c1 : (s.cells.length : Int) ≤ 300 := by omega
  by_cases b2 : 300 < s.texts.length
  · have b2' : 300 < (s.texts.length : Int) := by omega
    clear h1 h2 h3 h4 h5 h6 h7 hS
    go_enter Tryz.func71, Tryz.ntmps71
    go_wp2_with fail
    go_returns
    exact ⟨_, rfl, fun h => (by cases h), Below.refl _ _⟩
  have c2 : (s.texts.length : Int) ≤ 300 := by omega
  by_cases b3 : 200 < s.said.length
  · have b3' : 200 < (s.said.length : Int) := by omega
    clear h1 h2 h3 h4 h5 h6 h7 hS
    go_enter Tryz.func71, Tryz.ntmps71
    go_wp2_with fail
    go_returns
    exact ⟨_, rfl, fun h => (by cases h), Below.refl _ _⟩
  have c3 : (s.said.length : Int) ≤ 200 := by omega
  by_cases b4 : 100 < s.ends.length
  · have b4' : 100 < (s.ends.length : Int) := by omega
    clear h1 h2 h3 h4 h5 h6 h7 hS
    go_enter Tryz.func71, Tryz.ntmps71
    go_wp2_with fail
    go_returns
    exact ⟨_, rfl, fun h => (by cases h), Below.refl _ _⟩
  have c4 : (s.ends.length : Int) ≤ 100 := by omega
  have hct := ctFStr_any TA tc w.heap.size 119 s.texts.length #[] s.texts w (fun _ => True) rfl h4 (Nat.le_refl _) (by omega) egCl1 (fun V hV x _ _ => cllarge1_any x V)
  have H := Lib.hid (And.intro hct (And.intro h1 h2)); clear hct h1 h2 h3 h4 h5 h6 h7 hS
  go_enter Tryz.func71, Tryz.ntmps71
  go_wp2_with fail
  refine H.out.1.mono ?_
  rintro e w1 ⟨b, rfl, -, hb1⟩
  have k0 := (H.out.2.1.fresh hb1).cell 0 (v := .slice CA s.cells.length cc) rfl
  cases b with
  | true =>
    have HB := Lib.hid hb1; clear hb1
    go_wp2_with fail
    go_returns
    exact ⟨_, rfl, fun h => (by cases h), HB.out⟩
  | false =>
    have hct2 := ctFCell_any CA cc w.heap.size 120 s.cells.length #[] s.cells w1 (fun c => ceSmall c.kind c.vals.length) rfl (H.out.2.2.below hb1) hb1.size (by omega) egCl2
      (fun V hV x _ Av Af cv cf _ _ _ _ _ _ => cllarge2_any x.kind x.num Av Af x.vals.length cv x.frames.length cf V)
    have HB := Lib.hid (And.intro hct2 hb1); clear hct2 hb1
    go_wp2_with fail
    refine HB.out.1.mono ?_
    rintro e w2 ⟨b, rfl, hq, hb2⟩
    have HQ := Lib.hid (And.intro hq (HB.out.2.trans (hb2.mono HB.out.2.size))); clear hq hb2
    go_wp2_with fail
    go_returns
    refine ⟨_, rfl, fun h => ⟨by omega, by omega, by omega, by omega, HQ.out.1 ?_⟩, HQ.out.2⟩
    cases b <;> simp at h ⊢

set_option maxHeartbeats 1600000 in
set_option maxRecDepth 100000 in
theorem cltexts_any (A : Option Addr) (c B n : Nat) (l : List ByteArray) (w : World) (hn : l.length = n) (h : At w B A l) (hB : B ≤ w.heap.size) (hm : n ≤ 1000000) (hT : Tabs w) :
    Calls Tryz.prog 73 #[.slice A n c] w fun e w' => ∃ b : Bool, e = .returned (.bool b) ∧ Below w.heap.size w w' := by
  have hw0 := words_any w hT
  have H := Lib.hid (And.intro h (And.intro hn hw0)); clear h hn hw0 hT
  go_enter Tryz.func73, Tryz.ntmps73
  go_wp2_with fail
  refine H.out.2.2.mono ?_
  rintro e w1 ⟨WA, rfl, hW, hb1⟩
  have HW := Lib.hid (And.intro hW hb1); clear hW hb1
  have hmm := run_makeMap (P := Tryz.prog) 208 w1
  go_wp2_with fail
  clear hmm
  go_loopg [11] n (fun gk iv wr => ∃ k : Nat, k ≤ n ∧ gk = n - k ∧ iv = .int .i64 k ∧ Hid (MapN wr 9 w1.heap.size k) ∧ Below w1.heap.size w1 wr)
  case atStart => exact ⟨0, Nat.zero_le _, rfl, rfl, MapN.made w1 _, (Below.refl _ _).alloc (Nat.le_refl _) _⟩
  case round =>
    obtain ⟨k, hk, rfl, rfl, hmap, hbl⟩ := hrel
    have hsz := hbl.size
    have hbl0 := HW.out.2.trans (hbl.mono HW.out.2.size)
    by_cases hlt : k < n
    · obtain ⟨b, o, x, rfl, hb, hx, q0, hxs⟩ := (H.out.1.below (hbl0.mono hB)).strT (k := k) (by have := H.out.2.1; omega)
      have hk0 : (0 : Int) ≤ (k : Int) := by omega
      have hk1 : (k : Int) < (n : Int) := by omega
      obtain ⟨cc, hlook⟩ := hmap.out.look (t := 208) lawStr Tryz.underlying208 (keyStr hxs)
      by_cases hc : cc = 1
      · subst hc
        clear hx hmap
        go_wp2_with fail
        go_returns
        exact ⟨_, rfl, hbl0⟩
      have dc : (cc == 1) = false := by simpa using hc
      obtain ⟨Y, hupd, hmY, hgY⟩ := hmap.out.upd (t := 208) lawStr Tryz.underlying208 (by unfold maxLen; omega) (keyStr hxs) (x := 1) (by unfold I64; omega)
      have hbY : Below w1.heap.size w1 Y := hbl.grown hgY (by omega) (fun g hg => by injection hg with hg; omega)
      have HY := Lib.hid (And.intro hmY hbY); clear hmY hbY hgY hx hc hmap
      by_cases h19 : k < 19
      · obtain ⟨b', o', y, rfl, hb', hy, r0, -⟩ := (HW.out.1.below hbl).strT (k := k) (by rw [wordsB_len]; exact h19)
        have k19 : (k : Int) < 19 := by omega
        clear hy
        by_cases e1 : x = y
        · subst e1
          go_wp2_with fail
          go_roundg (n - (k + 1))
          case measure => omega
          case rel => exact ⟨k + 1, by omega, rfl, by go_num, HY.out.1, HY.out.2⟩
        · have f1 : (x.toList == y.toList) = false := by rw [Bool.eq_false_iff]; exact fun h => e1 (toList_eq.1 h)
          have f2 : (x == y) = false := by rw [beq_toListBytes]; exact f1
          clear e1
          go_wp2_with fail
          go_returns
          exact ⟨_, rfl, hbl0⟩
      · have k19 : (19 : Int) ≤ (k : Int) := by omega
        clear h19
        go_wp2_with fail
        go_roundg (n - (k + 1))
        case measure => omega
        case rel => exact ⟨k + 1, by omega, rfl, by go_num, HY.out.1, HY.out.2⟩
    · go_wp2_with fail
      go_returns
      exact ⟨_, rfl, hbl0⟩
end Top
end Go.Proofs.YtdlcooplllimeaaGreatDoor
