/- KT: CdJ. -/
import Derived.Test.YtdlcooplllimeaaGreatDoorKT13
import Derived.Test.YtdlcooplllimeaaGreatDoorKT14
import Derived.Test.YtdlcooplllimeaaGreatDoorKT18
import Derived.Test.YtdlcooplllimeaaGreatDoorKT19
/- code: are texts and constants right? Whatever is said, it is said. -/
namespace Go.Proofs.YtdlcooplllimeaaGreatDoor
open Go.RowKit

attribute [local go_sem ↓] Go.wp_at_zero Go.wp_at_succ

namespace Top
theorem keyStr {s : ByteArray} (h : s.size ≤ maxLen) : keyOf Tryz.prog 9 (.string s) = some (.string s.data.toList) := by
  rw [keyOf_string Tryz.underlying9]
  simp [mapKey, Tryz.underlying9, h]
theorem egTables1 : ∀ args w, (callFunc 115 args).run Tryz.prog w = .ok (.enter 115 args) w := fun _ _ => by kernel_rfl
set_option maxHeartbeats 800000 in
set_option maxRecDepth 100000 in
theorem tables1_any (k n : Int) (g nf fc nc cc nt tc : Nat) (FA CA TA : Option Addr) (w : World) (hg : Blk w g 26 #[.slice FA nf fc, .slice CA nc cc, .slice TA nt tc]) (hk : I64 k) (hn : I64 n) :
    Calls Tryz.prog 115 #[.agg #[.int .i64 k, .int .i64 n], .pointer (some ⟨g, 0, none⟩)] w fun e w' => ∃ b : Bool, e = .returned (.bool b) ∧ (b = false → True) ∧ Below w.heap.size w w' := by
  have hb0 : Below w.heap.size w (w.alloc (.cells #[.int .i64 k, .int .i64 n] 48)) := (Below.refl _ _).alloc (Nat.le_refl _) _
  have hr := right_any k n (w.alloc (.cells #[.int .i64 k, .int .i64 n] 48)) hk hn
  have H := Lib.hid (And.intro hg (And.intro hb0 hr)); clear hg hb0 hr
  go_enter Tryz.func115, Tryz.ntmps115
  go_wp2_with fail
  refine H.out.2.2.mono ?_
  rintro e w1 ⟨b, rfl, -, hb1⟩
  have hv := (Blk.new w 48 #[.int .i64 k, .int .i64 n]).fresh hb1
  have v0 := hv.cell 0 (v := .int .i64 k) rfl
  have v1 := hv.cell 1 (v := .int .i64 n) rfl
  have hbl := H.out.2.1.trans (hb1.mono (by simp))
  have t2 := (H.out.1.fresh hbl).cell 2 (v := .slice TA nt tc) rfl
  have HB := Lib.hid hbl; clear hv hb1 hbl
  cases b with
  | false =>
    go_wp2_with fail
    go_returns
    exact ⟨_, rfl, fun _ => trivial, HB.out⟩
  | true =>
    by_cases h5 : k = 5
    · subst h5
      go_wp2_with fail
      go_returns
      exact ⟨_, rfl, fun _ => trivial, HB.out⟩
    have d5 : (k == 5) = false := by simpa using h5
    clear h5
    by_cases h4 : k = 4
    · subst h4
      clear d5
      go_wp2_with fail
      go_returns
      exact ⟨_, rfl, fun _ => trivial, HB.out⟩
    have d4 : (k == 4) = false := by simpa using h4
    clear h4
    go_wp2_with fail
    go_returns
    exact ⟨_, rfl, fun _ => trivial, HB.out⟩

set_option maxHeartbeats 3200000 in
set_option maxRecDepth 100000 in
theorem tables_any (B nf fc nc cc nt tc : Nat) (FA CA TA : Option Addr) (consts : List (Int × Int)) (texts : List ByteArray) (w : World) (hC : At w B CA consts) (hX : At w B TA texts) (hB : B ≤ w.heap.size) (hnc : consts.length = nc) (hnt : texts.length = nt) (hTab : Tabs w) (hc2 : nc ≤ 200) (ht2 : nt ≤ 200) (htc : nt ≤ tc ∧ tc ≤ maxLen) :
    Calls Tryz.prog 67 #[.agg #[.slice FA nf fc, .slice CA nc cc, .slice TA nt tc]] w fun e w' => ∃ b : Bool, e = .returned (.bool b) ∧ Below w.heap.size w w' := by
  have hb0 : Below w.heap.size w (w.alloc (.cells #[.slice FA nf fc, .slice CA nc cc, .slice TA nt tc] 26)) := (Below.refl _ _).alloc (Nat.le_refl _) _
  have hw0 := words_any (w.alloc (.cells #[.slice FA nf fc, .slice CA nc cc, .slice TA nt tc] 26)) (hTab.fresh hb0)
  have H := Lib.hid (And.intro hC (And.intro hX (And.intro hnc (And.intro hnt (And.intro hb0 hw0))))); clear hC hX hnc hnt hb0 hw0 hTab
  go_enter Tryz.func67, Tryz.ntmps67
  go_wp2_with fail
  refine H.out.2.2.2.2.2.mono ?_
  rintro e w1 ⟨WA, rfl, hW, hb1⟩
  have hbl1 := H.out.2.2.2.2.1.trans (hb1.mono (by simp))
  have hP := (Blk.new w 26 #[.slice FA nf fc, .slice CA nc cc, .slice TA nt tc]).fresh hb1
  have p0 := hP.cell 0 (v := .slice FA nf fc) rfl
  have p1 := hP.cell 1 (v := .slice CA nc cc) rfl
  have p2 := hP.cell 2 (v := .slice TA nt tc) rfl
  have hs1 : w.heap.size + 1 ≤ w1.heap.size := by have := hb1.size; simpa using this
  by_cases h19 : nt < 19
  · have h19' : (nt : Int) < 19 := by omega
    have HB := Lib.hid hbl1; clear hbl1 hb1 hP hW h19
    go_wp2_with fail
    go_returns
    exact ⟨_, rfl, HB.out⟩
  have h19' : (19 : Int) ≤ (nt : Int) := by omega
  have htc1 : 19 ≤ tc := by omega
  have htc2 : (19 : Int) ≤ (tc : Int) := by omega
  have hX1 := H.out.2.1.below (hbl1.mono hB)
  have hX19 : At w1 B TA (texts.take 19) := fun i x hx => hX1 i x (by rw [List.getElem?_take] at hx; split at hx; exact hx; cases hx)
  have heq := eqS_any TA WA tc 19 w1.heap.size 19 19 (texts.take 19) wordsB w1 (by rw [List.length_take]; have := H.out.2.2.2.1; omega) wordsB_len (hX19.more (by omega)) hW (by decide)
  have HW := Lib.hid (And.intro heq (And.intro hP hbl1)); clear heq hP hbl1 hW hX1 hX19 hb1 h19
  cases hTA : TA with
  | none =>
    exfalso
    have h1 := H.out.2.1
    rw [hTA] at h1
    have := h1.nil_len
    have h2 := H.out.2.2.2.1
    rw [this] at h2
    simp at h2
    omega
  | some ta =>
  rw [hTA] at HW p2
  go_wp2_with fail
  refine HW.out.1.mono ?_
  rintro e w2 ⟨b, rfl, -, hb2⟩
  have hbl2 := HW.out.2.2.trans (hb2.mono (by omega))
  have hP2 := HW.out.2.1.fresh hb2
  clear p0 p1 p2
  have p1 := hP2.cell 1 (v := .slice CA nc cc) rfl
  have p2 := hP2.cell 2 (v := .slice (some ta) nt tc) rfl
  have hs2 : w.heap.size + 1 ≤ w2.heap.size := by have := hb2.size; omega
  have H2 := Lib.hid (And.intro hP2 hbl2); clear hP2 hbl2 hb2
  cases b with
  | false =>
    go_wp2_with fail
    go_returns
    exact ⟨_, rfl, H2.out.2⟩
  | true =>
    have lt2 : w.heap.size < w2.heap.size := by omega
    have hmm := run_makeMap (P := Tryz.prog) 208 w2
    go_wp2_with fail
    clear hmm
    go_loopg [28] nt (fun gk i wr => ∃ k : Nat, k ≤ nt ∧ gk = nt - k ∧ i = .int .i64 k ∧ Hid (MapN wr 9 w2.heap.size k) ∧ Below w2.heap.size w2 wr)
    case atStart => exact ⟨0, Nat.zero_le _, rfl, rfl, MapN.made w2 _, (Below.refl _ _).alloc (Nat.le_refl _) _⟩
    case round =>
      obtain ⟨k, hk, rfl, rfl, hmap, hbl⟩ := hrel
      have hsz := hbl.size
      have hbl0 := H2.out.2.trans (hbl.mono (by omega))
      clear p1 p2
      by_cases hlt : k < nt
      · obtain ⟨b, o, x, hA, hb, hx, q0, hxs⟩ := (H.out.2.1.below (hbl0.mono hB)).strT (k := k) (by have := H.out.2.2.2.1; omega)
        rw [hTA] at hA
        injection hA with hA
        subst hA
        have hk0 : (0 : Int) ≤ (k : Int) := by omega
        have hk1 : (k : Int) < (nt : Int) := by omega
        obtain ⟨c, hlook⟩ := hmap.out.look (t := 208) lawStr Tryz.underlying208 (keyStr hxs)
        by_cases hc : c = 1
        · subst hc
          clear hx
          go_wp2_with fail
          go_returns
          exact ⟨_, rfl, hbl0⟩
        · have dc : (c == 1) = false := by simpa using hc
          obtain ⟨w3, hupd, hm3, hg3⟩ := hmap.out.upd (t := 208) lawStr Tryz.underlying208 (by unfold maxLen; omega) (keyStr hxs) (x := 1) (by unfold I64; omega)
          have hb3 : Below w2.heap.size w2 w3 := hbl.grown hg3 (by omega) (fun g hg => by injection hg with hg; omega)
          have HM := Lib.hid (And.intro hm3 hb3); clear hm3 hb3 hg3 hx hc
          go_wp2_with fail
          go_roundg (nt - (k + 1))
          case measure => omega
          case rel => exact ⟨k + 1, by omega, rfl, by go_num, HM.out.1, HM.out.2⟩
      · have hP3 := H2.out.1.fresh hbl
        have p1 := hP3.cell 1 (v := .slice CA nc cc) rfl
        have hct := ctFVal_any CA cc B 115 nc #[.pointer (some ⟨w.heap.size, 0, none⟩)] consts wr (fun _ => True) H.out.2.2.1 (H.out.1.below (hbl0.mono hB)) (by omega) (by omega) egTables1
          (fun V hV x _ h1 h2 => tables1_any x.1 x.2 w.heap.size nf fc nc cc nt tc FA CA (some ta) V (hP3.fresh hV) h1 h2)
        have HC := Lib.hid (And.intro hct hbl0); clear hct hP3
        go_wp2_with fail
        refine HC.out.1.mono ?_
        rintro e w4 ⟨b, rfl, -, hb4⟩
        have HB := Lib.hid hb4; clear hb4
        go_wp2_with fail
        go_returns
        exact ⟨_, rfl, HC.out.2.trans (HB.out.mono (by omega))⟩
end Top
end Go.Proofs.YtdlcooplllimeaaGreatDoor
