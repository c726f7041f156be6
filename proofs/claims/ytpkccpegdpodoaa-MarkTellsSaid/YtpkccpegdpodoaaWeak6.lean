/- The reference's tests of graphs and pairs; copies and equality of lists. -/
import Derived.Test.YtpkccpegdpodoaaWeak5
import Derived.Test.YtpkccpegdpodoaaClone
namespace Go.Proofs.Ytpkccpegdpodoaa
open Go.RowKit

theorem copyInt_n (A : Option Addr) (c B n : Nat) (l : List Int) (w : World) (hn : l.length = n) (h : At w B A l) (hl : n * 8 ≤ 140737488355328) :
    Calls Try.prog 103 #[.slice A n c] w fun e w' => ∃ A' c', e = .returned (.slice A' n c') ∧ Own w' w.heap.size 3 A' c' l ∧ Below w.heap.size w w' := by
  obtain ⟨i0, hi, hz0, hz1, hz2⟩ := info_parts infoInt
  have H := Lib.hid (And.intro h hn); clear h hn
  go_enter Try.func103, Try.ntmps103
  go_wp2_with (at_builtin; go_must (refine wpList_app (α := Int) (n := 0) rfl (.const (.slice none 0 0)) (.tmp 3) _ rfl w.heap.size 3 i0 _ 8 Try.underlying47 hi hz0 hz1 hz2 rfl (by decide) int_one (by rfl) rfl Own.nil_ (by rfl) H.out.1 H.out.2 (by omega) (by simp only [maxLen]; omega) (Nat.le_refl _) ?_); intro A1 c1 w1 hown hgr hat)
  go_ret
  exact ⟨A1, c1, by simp, by simpa using hown, (Below.refl _ _).grown hgr (Nat.le_refl _) (by simp [rowOf])⟩

theorem ne_of_at {α : Type} {l r : List α} {k : Nat} {x y : α} (h : l[k]? = some x) (h' : r[k]? = some y) (hne : x ≠ y) : l ≠ r := by
  rintro rfl; rw [h] at h'; exact hne (Option.some.inj h')

theorem eqInt_n (A A' : Option Addr) (c c' B n n' : Nat) (l r : List Int) (w : World) (hn : l.length = n) (hn' : r.length = n') (h : At w B A l) (h' : At w B A' r) (hl : n ≤ 9223372036854775807) :
    Calls Try.prog 31 #[.slice A n c, .slice A' n' c'] w fun e w' => e = .returned (.bool (decide (l = r))) ∧ w = w' := by
  have H := Lib.hid h; clear h
  have H' := Lib.hid h'; clear h'
  have HN := Lib.hid (And.intro hn hn'); clear hn hn'
  by_cases he : n = n'
  · subst he
    go_enter Try.func31, Try.ntmps31
    go_wp2
    go_loop [14] (fun i => ∃ k : Nat, k ≤ n ∧ i = .int .i64 k ∧ Hid (l.take k = r.take k)) (fun i => n - (intOf i).toNat)
    case atStart => exact ⟨0, Nat.zero_le _, rfl, by simp [Hid]⟩
    case round =>
      obtain ⟨k, hk, rfl, heq⟩ := hrel
      by_cases hlt : k < n
      · obtain ⟨b, o, x, rfl, hb, hx, -, h0⟩ := H.out.int_ (by have := HN.out.1; omega : k < l.length)
        obtain ⟨b', o', x', rfl, hb', hx', -, h0'⟩ := H'.out.int_ (by have := HN.out.2; omega : k < r.length)
        have HX := Lib.hid (And.intro hx hx'); clear hx hx'
        have hk0 : (0 : Int) ≤ (k : Int) := by omega
        have hk1 : (k : Int) < (n : Int) := by omega
        by_cases hxy : x = x'
        · subst hxy
          go_wp2
          go_round
          case rel => exact ⟨k + 1, by omega, by go_num, by unfold Hid; rw [take_snoc _ _ _ HX.out.1, take_snoc _ _ _ HX.out.2, heq.out]⟩
          case measure => simp [intOf]; omega
        · have hne : (x != x') = true := by simp [hxy]
          have HXY := Lib.hid hxy; clear hxy
          go_wp2
          go_ret
          exact ⟨ret_bool (by simp [ne_of_at HX.out.1 HX.out.2 HXY.out]), rfl⟩
      · go_wp2
        go_ret
        exact ⟨ret_bool (by have h1 := heq.out; have h2 := HN.out; rw [List.take_of_length_le (by omega), List.take_of_length_le (by omega)] at h1; simp [h1]), rfl⟩
  · have hne : ((n : Int) != (n' : Int)) = true := by simp; omega
    have HE := Lib.hid he; clear he
    go_enter Try.func31, Try.ntmps31
    go_wp2
    go_ret
    exact ⟨ret_bool (by have := HE.out; have h2 := HN.out; simp; rintro rfl; omega), rfl⟩

theorem all_flat (has : List (List Int)) (roots : List Int) (p : Int → Bool) : (roots ++ has.flatten).all p = (roots :: has).all (fun l => l.all p) := by
  rw [List.all_append, List.all_cons, List.all_flatten]
theorem flatten_snoc (has : List (List Int)) (k : Nat) (l : List Int) (h : has[k]? = some l) : (has.take (k + 1)).flatten = (has.take k).flatten ++ l := by
  rw [take_snoc _ _ _ h]; simp
theorem flatten_len (has : List (List Int)) (h : ∀ l ∈ has, l.length ≤ 10) : has.flatten.length ≤ 10 * has.length := by
  induction has with
  | nil => simp
  | cons l r ih =>
    have h1 := ih (fun x hx => h x (by simp [hx]))
    have h2 := h l (by simp)
    rw [List.flatten_cons, List.length_append, List.length_cons]; omega

set_option maxHeartbeats 1600000 in
set_option maxRecDepth 100000 in
theorem gfault_any (B hc rc : Nat) (HA RA : Option Addr) (has : List (List Int)) (roots : List Int) (w : World) (hh : At w B HA has) (hr : At w B RA roots) (hB : B ≤ w.heap.size) (hl : has.length ≤ 9223372036854775807) (hrl : roots.length ≤ 9223372036854775807) :
    Calls Try.prog 25 #[.agg #[.slice HA has.length hc, .slice RA roots.length rc]] w fun e w' => e = .returned (.int .i64 (grErr has roots)) ∧ Below w.heap.size w w' := by
  have hbox : Below w.heap.size w (w.alloc (.cells #[.slice HA has.length hc, .slice RA roots.length rc] 49)) := (Below.refl _ _).alloc (Nat.le_refl _) _
  by_cases h1 : 100 < has.length
  · have he := grErr_large1 (roots := roots) (.inl h1)
    have HE := Lib.hid (And.intro he hbox); clear he hh hr hbox
    go_enter Try.func25, Try.ntmps25
    go_wp2
    go_ret
    exact ⟨ret_i64 HE.out.1.symm, HE.out.2⟩
  by_cases h2 : 100 < roots.length
  · have he := grErr_large1 (has := has) (.inr h2)
    have HE := Lib.hid (And.intro he hbox); clear he hh hr hbox
    have h1' : (has.length : Int) ≤ 100 := by omega
    go_enter Try.func25, Try.ntmps25
    go_wp2
    go_ret
    exact ⟨ret_i64 HE.out.1.symm, HE.out.2⟩
  obtain ⟨i0, hi, hz0, hz1, hz2⟩ := info_parts infoInt
  have HH := Lib.hid (And.intro hh hr); clear hh hr
  have HB := Lib.hid hbox; clear hbox
  have h1' : (has.length : Int) ≤ 100 := by omega
  have h2' : (roots.length : Int) ≤ 100 := by omega
  have H12 := Lib.hid (show ¬ (100 < has.length ∨ 100 < roots.length) by omega)
  go_enter Try.func25, Try.ntmps25
  go_wp2_with fail
  refine calls_world (fun W => Blk W w.heap.size 49 #[.slice HA has.length hc, .slice RA roots.length rc] ∧ Below w.heap.size w W ∧ w.heap.size + 1 ≤ W.heap.size) ⟨Blk.new _ _ _, HB.out, by simp⟩ ?_
  rintro W ⟨hG, hb0, hs0⟩
  refine (copyInt_n RA rc B roots.length roots W rfl (HH.out.2.below (hb0.mono hB)) (by omega)).mono ?_
  rintro e w1 ⟨A1, c1, rfl, hown1, hb1⟩
  have hs1 := hb1.size
  have hbl1 := hb0.trans (hb1.mono (by omega))
  have hG1 := hG.fresh hb1
  have g0 := hG1.cell 0 (v := .slice HA has.length hc) rfl
  have HG := Lib.hid (And.intro hG1 hown1); clear hG1 hown1 hG
  go_wp2_with fail
  clear g0
  go_loopg [3, 24] (has.length) (fun gk av iv wr => ∃ (k : Nat) (A2 : Option Addr) (c2 : Nat) (al : List Int), k ≤ has.length ∧ gk = has.length - k ∧ iv = .int .i64 k ∧ av = .slice A2 al.length c2 ∧ al.length ≤ 1100 ∧ Hid (al = roots ++ (has.take k).flatten ∧ (∀ l ∈ has.take k, l.length ≤ 10) ∧ Own wr (w.heap.size + 1) 3 A2 c2 al ∧ Blk wr w.heap.size 49 #[.slice HA has.length hc, .slice RA roots.length rc]) ∧ Below w.heap.size w wr ∧ w.heap.size + 1 ≤ wr.heap.size)
  case atStart => exact ⟨0, A1, c1, roots, Nat.zero_le _, rfl, rfl, rfl, by omega, ⟨by simp, fun l hl => by simp at hl, HG.out.2.base_le hs0, HG.out.1⟩, hbl1, by omega⟩
  case round =>
    obtain ⟨k, A2, c2, al, hk, rfl, rfl, rfl, hal, hkeep, hbl, hsz⟩ := hrel
    by_cases hlt : k < has.length
    · obtain ⟨b, o, l, A', c', rfl, hb, hx, hcell, hat, -, hmx⟩ := (HH.out.1.below (hbl.mono hB)).slice_ hlt
      unfold maxLen at hmx
      have hfs := flatten_snoc has k l hx
      have HX := Lib.hid (And.intro hx (And.intro hfs hat)); clear hx hfs hat
      by_cases h10 : 10 < l.length
      · have he := grErr_large2 (roots := roots) HX.out.1 h10
        have HE := Lib.hid he; clear he hkeep
        go_wp2_with fail
        go_ret
        exact ⟨ret_i64 HE.out.symm, hbl⟩
      · go_wp2_with (at_builtin; go_must (refine wpList_app (α := Int) (m := l.length) (r := l) rfl (.tmp 31) (.tmp 32) _ rfl (w.heap.size + 1) 3 i0 _ 8 Try.underlying47 hi hz0 hz1 hz2 rfl (by decide) int_one (by rfl) rfl hkeep.out.2.2.1 (by rfl) HX.out.2.2 rfl (by omega) (by simp only [maxLen]; omega) (by omega) ?_))
        intro A4 c4 w4 hown4 hgr4 hat4
        have hs4 := hgr4.size
        have hG4 := hkeep.out.2.2.2.grown hgr4 (fun e => by have := (hkeep.out.2.2.1.lt _ e).1; omega)
        have hbl4 : Below w.heap.size w w4 := hbl.grown hgr4 (by omega) (fun g hg => by have := (hkeep.out.2.2.1.lt g hg).1; omega)
        have hall2 : ∀ l' ∈ has.take (k + 1), l'.length ≤ 10 := fun l' hl' => by
          rw [take_snoc _ _ _ HX.out.1] at hl'
          rcases List.mem_append.1 hl' with h | h
          · exact hkeep.out.2.1 l' h
          · simp at h; subst h; omega
        have heq : al ++ l = roots ++ (has.take (k + 1)).flatten := by rw [HX.out.2.1, ← List.append_assoc, ← hkeep.out.1]
        have hfl := flatten_len _ hall2
        rw [List.length_take] at hfl
        have hal2 : (al ++ l).length ≤ 1100 := by rw [heq, List.length_append]; omega
        have hll : al.length + l.length = (al ++ l).length := List.length_append.symm
        rw [hll]
        generalize al ++ l = al2 at hown4 heq hal2 hll ⊢
        have HO := Lib.hid (And.intro heq (And.intro hall2 (And.intro hown4 hG4))); clear hown4 hG4 heq hall2 hll hfl
        go_wp2_with fail
        go_roundg (has.length - (k + 1))
        case measure => omega
        case rel => exact ⟨k + 1, A4, c4, al2, by omega, rfl, by go_num, rfl, hal2, HO.out, hbl4, by omega⟩
    · obtain ⟨k0, k1, k2, k3⟩ := hkeep.out
      rw [List.take_of_length_le (by omega)] at k0 k1
      have hform := grErr_form H12.out k1
      rw [← all_flat, ← k0] at hform
      have g0 := k3.cell 0 (v := .slice HA has.length hc) rfl
      have hlt0 : w.heap.size < wr.heap.size := by omega
      have HK := Lib.hid (And.intro k2 hform)
      clear k0
      clear k1 k2 k3 hkeep hform
      go_wp2_with fail
      go_loop [37] (fun i => ∃ j : Nat, j ≤ al.length ∧ i = .int .i64 j ∧ Hid ((al.take j).all (inN has.length) = true)) (fun i => al.length - (intOf i).toNat)
      case atStart => exact ⟨0, Nat.zero_le _, rfl, rfl⟩
      case round =>
        obtain ⟨j, hj, rfl, hin⟩ := hrel
        by_cases hjt : j < al.length
        · obtain ⟨x, hx⟩ : ∃ x, al[j]? = some x := ⟨_, List.getElem?_eq_getElem hjt⟩
          obtain ⟨g, rfl, hg1, hg2⟩ := HK.out.1.some_ (by omega)
          have h0 := HK.out.1.cell_int hx
          have HX := Lib.hid hx; clear hx
          cases hp : inN has.length x with
          | true =>
            obtain ⟨p1, p2⟩ := inN_iff.1 hp
            have HP := Lib.hid hp; clear hp
            go_wp2_with fail
            go_round
            case rel => exact ⟨j + 1, by omega, by go_num, by unfold Hid; rw [all_snoc _ _ _ _ HX.out, hin.out, HP.out]; rfl⟩
            case measure => simp [intOf]; omega
          | false =>
            have he : grErr has roots = 3 := by
              rw [HK.out.2, if_neg]
              rw [Bool.not_eq_true]
              exact all_stop _ _ j x HX.out hp
            have hcases : x < 0 ∨ (0 ≤ x ∧ (has.length : Int) ≤ x) := by simp [inN] at hp; omega
            have HP := Lib.hid he; clear hp he
            rcases hcases with h1 | ⟨h1, h2⟩ <;>
            · go_wp2_with fail
              go_ret
              exact ⟨ret_i64 HP.out.symm, hbl⟩
        · have hin2 := hin.out
          rw [List.take_of_length_le (by omega)] at hin2
          have he : grErr has roots = 0 := by rw [HK.out.2, if_pos hin2]
          have HE := Lib.hid he; clear he hin2 hin
          go_wp2_with fail
          go_ret
          exact ⟨ret_i64 HE.out.symm, hbl⟩


theorem prErr_graph {has : List (List Int)} {roots : List Int} {pairs : List (Int × Int)} (h : grErr has roots ≠ 0) : prErr has roots pairs = grErr has roots := by unfold prErr; rw [if_pos h]
theorem prErr_large {has : List (List Int)} {roots : List Int} {pairs : List (Int × Int)} (h : grErr has roots = 0) (h2 : 50 < pairs.length) : prErr has roots pairs = 2 := by unfold prErr; rw [if_neg (by simp [h]), if_pos h2]
theorem prErr_form {has : List (List Int)} {roots : List Int} {pairs : List (Int × Int)} (h : grErr has roots = 0) (h2 : ¬ 50 < pairs.length) : prErr has roots pairs = if pairs.all (fun p => inN has.length p.1 && inN has.length p.2) = true then 0 else 3 := by unfold prErr; rw [if_neg (by simp [h]), if_neg h2]

set_option maxHeartbeats 1600000 in
set_option maxRecDepth 100000 in
theorem pfault_any (B hc rc pc : Nat) (HA RA PA : Option Addr) (has : List (List Int)) (roots : List Int) (pairs : List (Int × Int)) (w : World) (hh : At w B HA has) (hr : At w B RA roots) (hp : At w B PA pairs) (hB : B ≤ w.heap.size) (hl : has.length ≤ 9223372036854775807) (hrl : roots.length ≤ 9223372036854775807) (hpl : pairs.length ≤ 9223372036854775807) :
    Calls Try.prog 29 #[.agg #[.slice HA has.length hc, .slice RA roots.length rc], .slice PA pairs.length pc] w fun e w' => e = .returned (.int .i64 (prErr has roots pairs)) ∧ Below w.heap.size w w' := by
  have HH := Lib.hid (And.intro hh (And.intro hr hp)); clear hh hr hp
  go_enter Try.func29, Try.ntmps29
  go_wp2_with fail
  refine calls_world (fun W => Blk W w.heap.size 49 #[.slice HA has.length hc, .slice RA roots.length rc] ∧ Below w.heap.size w W ∧ w.heap.size + 1 ≤ W.heap.size) ⟨Blk.new _ _ _, (Below.refl _ _).alloc (Nat.le_refl _) _, by simp⟩ ?_
  rintro W ⟨hG, hb0, hs0⟩
  refine (gfault_any B hc rc HA RA has roots W (HH.out.1.below (hb0.mono hB)) (HH.out.2.1.below (hb0.mono hB)) (by omega) hl hrl).mono ?_
  rintro e w1 ⟨rfl, hb1⟩
  have hbl1 := hb0.trans (hb1.mono (by omega))
  have hs1 := hb1.size
  obtain ⟨ge, hge⟩ : ∃ ge, grErr has roots = ge := ⟨_, rfl⟩
  rw [hge]
  by_cases h0 : ge = 0
  rotate_left
  · have he := prErr_graph (pairs := pairs) (show grErr has roots ≠ 0 by rw [hge]; exact h0)
    have hne : (ge != 0) = true := by simp [h0]
    have HE := Lib.hid (And.intro he hge); clear he hge h0 hG
    go_wp2_with fail
    go_ret
    exact ⟨ret_i64 (HE.out.1.trans HE.out.2).symm, hbl1⟩
  subst h0
  by_cases h50 : 50 < pairs.length
  · have he := prErr_large hge h50
    have HE := Lib.hid he; clear he hge hG
    go_wp2_with fail
    go_ret
    exact ⟨ret_i64 HE.out.symm, hbl1⟩
  have hform := prErr_form hge h50
  have HF := Lib.hid (And.intro hform (hG.fresh hb1)); clear hform hge hG
  go_wp2_with fail
  go_loopw [18] (fun i wr => ∃ j : Nat, j ≤ pairs.length ∧ i = .int .i64 j ∧ Hid ((pairs.take j).all (fun p => inN has.length p.1 && inN has.length p.2) = true ∧ Blk wr w.heap.size 49 #[.slice HA has.length hc, .slice RA roots.length rc]) ∧ Below w.heap.size w wr ∧ w.heap.size + 1 ≤ wr.heap.size) (fun i _ => pairs.length - (intOf i).toNat)
  case atStart => exact ⟨0, Nat.zero_le _, rfl, ⟨rfl, HF.out.2⟩, hbl1, by omega⟩
  case round =>
    obtain ⟨j, hj, rfl, hin, hbl, hsz⟩ := hrel
    by_cases hjt : j < pairs.length
    · obtain ⟨b, o, x, y, rfl, hb, hx, -, -, c0, c1⟩ := (HH.out.2.2.below (hbl.mono hB)).pair hjt
      have g0 := hin.out.2.cell 0 (v := .slice HA has.length hc) rfl
      have hlt0 : w.heap.size < wr.heap.size := by omega
      have hal := hin.out.2.alloc (.cells #[.int .i64 x, .int .i64 y] 63)
      cases hq : (inN has.length x && inN has.length y) with
      | true =>
        rw [Bool.and_eq_true] at hq
        obtain ⟨p1, p2⟩ := inN_iff.1 hq.1
        obtain ⟨p3, p4⟩ := inN_iff.1 hq.2
        have HX := Lib.hid (And.intro hx (And.intro hq (And.intro hin.out.1 hal))); clear hx hq hal hin
        go_wp2_with fail
        go_roundw
        case rel => exact ⟨j + 1, by omega, by go_num, ⟨by rw [all_snoc _ _ _ _ HX.out.1, HX.out.2.2.1]; simp [HX.out.2.1], HX.out.2.2.2⟩, hbl.alloc (by omega) _, by simp; omega⟩
        case measure => simp [intOf]; omega
      | false =>
        have he : prErr has roots pairs = 3 := by rw [HF.out.1, if_neg]; rw [Bool.not_eq_true]; exact all_stop _ _ j _ hx hq
        have hcases : x < 0 ∨ (0 ≤ x ∧ (has.length : Int) ≤ x) ∨ (0 ≤ x ∧ x < (has.length : Int) ∧ y < 0) ∨ (0 ≤ x ∧ x < (has.length : Int) ∧ 0 ≤ y ∧ (has.length : Int) ≤ y) := by simp [inN] at hq; omega
        have HE := Lib.hid he; clear he hx hq hal hin
        rcases hcases with h1 | ⟨h1, h2⟩ | ⟨h1, h2, h3⟩ | ⟨h1, h2, h3, h4⟩ <;>
        · go_wp2_with fail
          go_ret
          exact ⟨ret_i64 HE.out.symm, hbl.alloc (by omega) _⟩
    · have hin2 := hin.out.1
      rw [List.take_of_length_le (by omega)] at hin2
      have he : prErr has roots pairs = 0 := by rw [HF.out.1, if_pos hin2]
      have HE := Lib.hid he; clear he hin2 hin
      go_wp2_with fail
      go_ret
      exact ⟨ret_i64 HE.out.symm, hbl⟩

theorem neqRPair (x y x' y' : Int) (w : World) : (binOp .neq 63 (.agg #[.int .i64 x, .int .i64 y]) (.agg #[.int .i64 x', .int .i64 y'])).run Try.prog w = .ok (.bool (!decide ((x, y) = (x', y')))) w := by
  have u3 := Try.underlying3
  have a3 := Try.isAgg3
  have z3 := Try.sizeOf3
  have hS : Try.prog.underlying 63 = some (.struct (Try.prog.fieldsOf 63)) := by kernel_rfl
  have hp : Try.prog.stoodInHeld 63 = false := by kernel_rfl
  rw [run_neq_struct, show (10000 : Nat) = 9999 + 1 from rfl, run_equalIn_agg w 9999 63 _ _ hS hp]
  simp only [Program.fieldsOf, Try.underlying63]
  go_simp
  by_cases h1 : x = x' <;> by_cases h2 : y = y' <;> simp [h1, h2]

set_option maxHeartbeats 400000 in
theorem eqRPair_n (A A' : Option Addr) (c c' B n n' : Nat) (l r : List (Int × Int)) (w : World) (hn : l.length = n) (hn2 : r.length = n') (h : At w B A l) (h' : At w B A' r) (hB : B ≤ w.heap.size) (hl : n ≤ 9223372036854775807) (hr : n' ≤ 9223372036854775807) :
    Calls Try.prog 34 #[.slice A n c, .slice A' n' c'] w fun e w' => e = .returned (.bool (decide (l = r))) ∧ Below w.heap.size w w' := by
  subst hn hn2
  have H := Lib.hid h; clear h
  have H' := Lib.hid h'; clear h'
  by_cases hn : l.length = r.length
  · have hn' : ((l.length : Int) != (r.length : Int)) = false := by simp; omega
    have HN := Lib.hid hn; clear hn
    go_enter Try.func34, Try.ntmps34
    go_wp2
    go_loopw [14] (fun i wr => ∃ k : Nat, k ≤ l.length ∧ i = .int .i64 k ∧ Hid (l.take k = r.take k) ∧ Below w.heap.size w wr) (fun i _ => l.length - (intOf i).toNat)
    case atStart => exact ⟨0, Nat.zero_le _, rfl, by simp [Hid], Below.refl _ _⟩
    case round =>
      obtain ⟨k, hk, rfl, heq, hbl⟩ := hrel
      have hsz := hbl.size
      by_cases hlt : k < l.length
      · obtain ⟨b, o, x, y, rfl, hb, hx, -, -, h0, h1⟩ := (H.out.below (hbl.mono hB)).pair hlt
        obtain ⟨b', o', x', y', rfl, hb', hx', -, -, h0', h1'⟩ := (H'.out.below (hbl.mono hB)).pair (by have := HN.out; omega : k < r.length)
        have HX := Lib.hid hx; clear hx
        have HX' := Lib.hid hx'; clear hx'
        have hbw : b' < wr.heap.size := by omega
        have hk0 : (0 : Int) ≤ (k : Int) := by omega
        have hk1 : (k : Int) < (r.length : Int) := by have := HN.out; omega
        have hbl2 := hbl.alloc hsz (.cells #[.int .i64 x, .int .i64 y] 63)
        by_cases hxy : (x, y) = (x', y')
        · obtain ⟨rfl, rfl⟩ := Prod.mk.injEq .. ▸ hxy
          have hne := fun w => (neqRPair x y x y w).trans (by simp : _ = Result.ok (.bool false) w)
          go_wp2
          go_quiet (fail)
          go_wp2
          go_roundw
          case rel => exact ⟨k + 1, by omega, by go_num, by unfold Hid; rw [take_snoc _ _ _ HX.out, take_snoc _ _ _ HX'.out, heq.out], below_drewN hbl2 _⟩
          case measure => simp [intOf]; omega
        · have hne := fun w => (neqRPair x y x' y' w).trans (by rw [decide_eq_false hxy]; rfl : _ = Result.ok (.bool true) w)
          have HXY := Lib.hid hxy; clear hxy
          go_wp2
          go_quiet (fail)
          go_wp2
          go_ret
          exact ⟨ret_bool (by simp [ne_of_at HX.out HX'.out HXY.out]), below_drewN hbl2 _⟩
      · go_wp2
        go_ret
        exact ⟨ret_bool (by have h1 := heq.out; have h2 := HN.out; rw [List.take_of_length_le (by omega), List.take_of_length_le (by omega)] at h1; simp [h1]), hbl⟩
  · have hn' : ((l.length : Int) != (r.length : Int)) = true := by simp; omega
    have HN := Lib.hid hn; clear hn
    go_enter Try.func34, Try.ntmps34
    go_wp2
    go_ret
    exact ⟨ret_bool (by have := HN.out; simp; rintro rfl; exact this rfl), Below.refl _ _⟩

end Go.Proofs.Ytpkccpegdpodoaa
