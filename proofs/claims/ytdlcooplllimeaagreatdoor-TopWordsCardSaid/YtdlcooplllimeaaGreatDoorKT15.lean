/- KT: Weak5, Weak6. -/
import Derived.Test.YtdlcooplllimeaaGreatDoorKT1
import Derived.Test.YtdlcooplllimeaaGreatDoorKT6
import Derived.Test.YtdlcooplllimeaaGreatDoorKT12
/- What is wrong with a graph, with pairs: the program's tests and the reference's. -/
namespace Go.Proofs.YtdlcooplllimeaaGreatDoor
open Go.RowKit

theorem take_snoc {α : Type} (l : List α) (k : Nat) (x : α) (h : l[k]? = some x) : l.take (k + 1) = l.take k ++ [x] := by
  rw [List.take_add_one, h]; rfl
theorem all_snoc {α : Type} (p : α → Bool) (l : List α) (k : Nat) (x : α) (h : l[k]? = some x) : (l.take (k + 1)).all p = ((l.take k).all p && p x) := by
  rw [List.take_add_one, h]; simp [List.all_append]
theorem all_stop {α : Type} (p : α → Bool) (l : List α) (k : Nat) (x : α) (h : l[k]? = some x) (hp : p x = false) : l.all p = false := by
  rw [List.all_eq_false]; exact ⟨x, List.mem_of_getElem? h, by simp [hp]⟩
theorem ret_bool {a b : Bool} (h : a = b) : Ending.returned (.bool a) = .returned (.bool b) := by rw [h]
theorem ret_i64 {a b : Int} (h : a = b) : Ending.returned (.int .i64 a) = .returned (.int .i64 b) := by rw [h]

theorem in_any (n : Int) (many : Nat) (w : World) : Calls Tryz.prog 60 #[.int .i64 n, .int .i64 many] w fun e w' => e = .returned (.bool (inN many n)) ∧ w = w' := by
  by_cases h : 0 ≤ n
  · have h2 : inN many n = decide (n < (many : Int)) := by simp [inN, h]
    have H := Lib.hid h2; clear h2
    go_enter Tryz.func60, Tryz.ntmps60
    go_wp2
    go_ret
    exact ⟨ret_bool H.out.symm, rfl⟩
  · have h2 : inN many n = false := by simp [inN]; omega
    have H := Lib.hid h2; clear h2
    go_enter Tryz.func60, Tryz.ntmps60
    go_wp2
    go_ret
    exact ⟨ret_bool H.out.symm, rfl⟩

theorem infoInts : (Tryz.prog.info? 34).map (fun i => (i.zero, i.size, i.bytes)) = some (some (.slice none 0 0), 1, 24) := by kernel_rfl
theorem list_one {α : Type} [Enc α] {w : World} {B : Nat} : ∀ cs (x : List α), Enc.rd w B cs x → ∀ u ∈ cs, u.oneCell' = true := by
  rintro cs x ⟨A, cap, rfl, -⟩ u hu
  simp at hu; subst hu; rfl

theorem grErr_large1 {has : List (List Int)} {roots : List Int} (h : 100 < has.length ∨ 100 < roots.length) : grErr has roots = 2 := by unfold grErr; rw [if_pos h]
theorem grErr_large2 {has : List (List Int)} {roots l : List Int} {k : Nat} (hl : has[k]? = some l) (h : 10 < l.length) : grErr has roots = 2 := by
  unfold grErr
  by_cases h1 : 100 < has.length ∨ 100 < roots.length
  · rw [if_pos h1]
  · rw [if_neg h1, if_pos (List.any_eq_true.2 ⟨l, List.mem_of_getElem? hl, by simpa using h⟩)]
theorem grErr_form {has : List (List Int)} {roots : List Int} (h1 : ¬ (100 < has.length ∨ 100 < roots.length)) (h2 : ∀ l ∈ has, l.length ≤ 10) : grErr has roots = if (roots :: has).all (fun l => l.all (inN has.length)) = true then 0 else 3 := by
  unfold grErr
  rw [if_neg h1, if_neg]
  rw [Bool.not_eq_true, List.any_eq_false]
  intro l hl
  have := h2 l hl
  simp; omega

set_option maxHeartbeats 1600000 in
set_option maxRecDepth 100000 in
theorem wcheck_any (B hc rc : Nat) (HA RA : Option Addr) (has : List (List Int)) (roots : List Int) (w : World) (hh : At w B HA has) (hr : At w B RA roots) (hB : B ≤ w.heap.size) (hl : has.length ≤ 9223372036854775807) (hrl : roots.length ≤ 9223372036854775807) (hrc : roots.length ≤ rc ∧ rc ≤ maxLen) :
    Calls Tryz.prog 59 #[.agg #[.slice HA has.length hc, .slice RA roots.length rc]] w fun e w' => e = .returned (.int .i64 (grErr has roots)) ∧ Below w.heap.size w w' := by
  have hbox : Below w.heap.size w (w.alloc (.cells #[.slice HA has.length hc, .slice RA roots.length rc] 40)) := (Below.refl _ _).alloc (Nat.le_refl _) _
  by_cases h1 : 100 < has.length
  · have he := grErr_large1 (roots := roots) (.inl h1)
    have HE := Lib.hid (And.intro he hbox); clear he hh hr hbox
    go_enter Tryz.func59, Tryz.ntmps59
    go_wp2
    go_ret
    exact ⟨ret_i64 HE.out.1.symm, HE.out.2⟩
  by_cases h2 : 100 < roots.length
  · have he := grErr_large1 (has := has) (.inr h2)
    have HE := Lib.hid (And.intro he hbox); clear he hh hr hbox
    have h1' : (has.length : Int) ≤ 100 := by omega
    go_enter Tryz.func59, Tryz.ntmps59
    go_wp2
    go_ret
    exact ⟨ret_i64 HE.out.1.symm, HE.out.2⟩
  obtain ⟨i0, hi, hz0, hz1, hz2⟩ := info_parts infoInts
  have HH := Lib.hid (And.intro hh hr); clear hh hr
  have HB := Lib.hid hbox; clear hbox
  have h1' : (has.length : Int) ≤ 100 := by omega
  have h2' : (roots.length : Int) ≤ 100 := by omega
  have H12 := Lib.hid (show ¬ (100 < has.length ∨ 100 < roots.length) by omega)
  go_enter Tryz.func59, Tryz.ntmps59
  go_wp2_with fail
  refine wp_world (fun W => Blk W w.heap.size 40 #[.slice HA has.length hc, .slice RA roots.length rc] ∧ Below w.heap.size w W ∧ w.heap.size + 1 ≤ W.heap.size) ⟨Blk.new _ _ _, HB.out, by simp⟩ ?_
  rintro W ⟨hG, hb0, hs0⟩
  go_loop [24] (fun i => ∃ k : Nat, k ≤ has.length ∧ i = .int .i64 k ∧ Hid (∀ l ∈ has.take k, l.length ≤ 10)) (fun i => has.length - (intOf i).toNat)
  case atStart => exact ⟨0, Nat.zero_le _, rfl, fun l hl => by simp at hl⟩
  case round =>
    obtain ⟨k, hk, rfl, hall⟩ := hrel
    by_cases hlt : k < has.length
    · obtain ⟨b, o, l, A', c', rfl, hb, hx, hcell, -, -, hmx⟩ := (HH.out.1.below (hb0.mono hB)).slice_ hlt
      unfold maxLen at hmx
      have HX := Lib.hid hx; clear hx
      by_cases h10 : 10 < l.length
      · have he := grErr_large2 (roots := roots) HX.out h10
        have HE := Lib.hid he; clear he hG
        go_wp2_with fail
        go_ret
        exact ⟨ret_i64 HE.out.symm, hb0⟩
      · go_wp2_with fail
        go_round
        case rel => exact ⟨k + 1, by omega, by go_num, fun l' hl' => by
          rw [take_snoc _ _ _ HX.out] at hl'
          rcases List.mem_append.1 hl' with h | h
          · exact hall.out l' h
          · simp at h; subst h; omega⟩
        case measure => simp [intOf]; omega
    · have hall2 := hall.out
      rw [List.take_of_length_le (by omega)] at hall2
      have g0 := hG.cell 0 (v := .slice HA has.length hc) rfl
      have g1 := hG.cell 1 (v := .slice RA roots.length rc) rfl
      have HA2 := Lib.hid (And.intro hall2 hG); clear hall2 hG hall
      obtain ⟨rs, hrl1, hra, hrr⟩ := HH.out.1.raws (n := 1) rfl list_one
      have HRS := Lib.hid (And.intro hrl1 (And.intro hra hrr)); clear hrl1 hra hrr
      have hlt0 : w.heap.size < W.heap.size := by omega
      have ho1 : Own (α := Raw 1) (W.alloc (.cells #[.slice RA roots.length rc] 34)) W.heap.size 34 (some ⟨W.heap.size, 0, none⟩) 1 [⟨[.slice RA roots.length rc], rfl, by simp [Value.oneCell']⟩] :=
        ⟨rfl, .inr ⟨W.heap.size, 1, _, rfl, Nat.le_refl _, heap_alloc_new W _, by simp, by simp [maxLen], rfl, rfl⟩⟩
      have HO1 := Lib.hid ho1; clear ho1
      go_wp2_with (at_builtin; go_must (refine wpList_app (α := Raw 1) (n := 1) (m := has.length) (r := rs) rfl (.tmp 34) (.tmp 36) _ rfl W.heap.size 34 i0 _ 24 Tryz.underlying38 hi hz0 hz1 hz2 rfl (by decide) raw_one (by rfl) rfl HO1.out (by rfl) (((HRS.out.2.1.below (hb0.mono hB)).alloc (by omega) _)) HRS.out.1 (by omega) (by simp only [maxLen]; omega) (by simp) ?_))
      intro A3 c3 w3 hown3 hgr3 hat3
      have hbl3 : Below w.heap.size w w3 := (hb0.alloc (by omega) _).grown hgr3 (by simp; omega) (fun g hg => by simp [rowOf] at hg; omega)
      have hs3 := hbl3.size
      obtain ⟨g3, rfl, hg3, -⟩ := hown3.some_ (by simp)
      have hrows : ∀ j l, (roots :: has)[j]? = some l → ∃ A' c', w3.cell? ⟨g3, j, none⟩ = some (.slice A' l.length c') ∧ At w3 B A' l ∧ l.length ≤ maxLen := by
        intro j l hj
        cases j with
        | zero =>
          simp only [List.getElem?_cons_zero, Option.some.injEq] at hj
          subst hj
          have := hown3.raw_cell (i := 0) (j := 0) rfl (u := .slice RA roots.length rc) rfl
          exact ⟨RA, rc, by simpa using this, HH.out.2.below (hbl3.mono hB), by omega⟩
        | succ j =>
          simp only [List.getElem?_cons_succ] at hj
          have hjl : j < has.length := (List.getElem?_eq_some_iff.1 hj).1
          obtain ⟨r, hr⟩ : ∃ r, rs[j]? = some r := ⟨_, List.getElem?_eq_getElem (by have := HRS.out.1; omega)⟩
          obtain ⟨A', c', hcs, hc1, hc2, -, hat⟩ := HRS.out.2.2 j r l hr hj
          have := hown3.raw_cell (i := j + 1) (j := 0) (x := r) (by simpa using hr) (u := .slice A' l.length c') (by rw [hcs]; rfl)
          exact ⟨A', c', by simpa using this, hat.below (hbl3.mono hB), by omega⟩
      have hform := grErr_form H12.out HA2.out.1
      have HR := Lib.hid (And.intro hrows hform); clear hrows hform hown3 hgr3 hat3
      go_wp2_with fail
      go_loop [39] (fun i => ∃ j : Nat, j ≤ 1 + has.length ∧ i = .int .i64 j ∧ Hid (((roots :: has).take j).all (fun l => l.all (inN has.length)) = true)) (fun i => 1 + has.length - (intOf i).toNat)
      case atStart => exact ⟨0, Nat.zero_le _, rfl, rfl⟩
      case round =>
        obtain ⟨j, hj, rfl, hdone⟩ := hrel
        by_cases hjt : j < 1 + has.length
        · obtain ⟨l, hl⟩ : ∃ l, (roots :: has)[j]? = some l := ⟨_, List.getElem?_eq_getElem (by simp; omega)⟩
          obtain ⟨A', c', hcell, hat, hmx⟩ := HR.out.1 j l hl
          unfold maxLen at hmx
          have HL := Lib.hid (And.intro hl hat); clear hl hat
          have hj1 : (j : Int) < 1 + (has.length : Int) := by omega
          go_wp2_with fail
          go_loop [45] (fun i => ∃ q : Nat, q ≤ l.length ∧ i = .int .i64 q ∧ Hid ((l.take q).all (inN has.length) = true)) (fun i => l.length - (intOf i).toNat)
          case atStart => exact ⟨0, Nat.zero_le _, rfl, rfl⟩
          case round =>
            obtain ⟨q, hq, rfl, hin⟩ := hrel
            by_cases hqt : q < l.length
            · obtain ⟨b, o, x, rfl, hb, hx, hok, h0⟩ := HL.out.2.int_ hqt
              have HX := Lib.hid hx; clear hx hok
              cases hp : inN has.length x with
              | true =>
                have HP := Lib.hid hp; clear hp
                go_wp2_with (go_at_call 60; refine (in_any x has.length _).mono ?_; rintro e w9 ⟨rfl, rfl⟩; rw [HP.out])
                go_round
                case rel => exact ⟨q + 1, by omega, by go_num, by unfold Hid; rw [all_snoc _ _ _ _ HX.out, hin.out, HP.out]; rfl⟩
                case measure => simp [intOf]; omega
              | false =>
                have he : grErr has roots = 3 := by
                  rw [HR.out.2, if_neg]
                  rw [Bool.not_eq_true]
                  exact all_stop _ _ j l HL.out.1 (all_stop _ _ q x HX.out hp)
                have HP := Lib.hid (And.intro hp he); clear hp he
                go_wp2_with (go_at_call 60; refine (in_any x has.length _).mono ?_; rintro e w9 ⟨rfl, rfl⟩; rw [HP.out.1])
                go_ret
                exact ⟨ret_i64 HP.out.2.symm, hbl3⟩
            · have hin2 := hin.out
              rw [List.take_of_length_le (by omega)] at hin2
              have HI := Lib.hid hin2; clear hin2 hin
              go_wp2_with fail
              go_round
              case rel => exact ⟨j + 1, by omega, by go_num, by unfold Hid; rw [all_snoc _ _ _ _ HL.out.1, hdone.out, HI.out]; rfl⟩
              case measure => simp [intOf]; omega
        · have hd2 := hdone.out
          rw [List.take_of_length_le (by simp; omega)] at hd2
          have he : grErr has roots = 0 := by rw [HR.out.2, if_pos hd2]
          have HE := Lib.hid he; clear he hd2 hdone
          go_wp2_with fail
          go_ret
          exact ⟨ret_i64 HE.out.symm, hbl3⟩

end Go.Proofs.YtdlcooplllimeaaGreatDoor

/- The reference's tests of graphs and pairs; copies and equality of lists. -/
namespace Go.Proofs.YtdlcooplllimeaaGreatDoor
open Go.RowKit

theorem ne_of_at {α : Type} {l r : List α} {k : Nat} {x y : α} (h : l[k]? = some x) (h' : r[k]? = some y) (hne : x ≠ y) : l ≠ r := by
  rintro rfl; rw [h] at h'; exact hne (Option.some.inj h')

theorem eqInt_n (A A' : Option Addr) (c c' B n n' : Nat) (l r : List Int) (w : World) (hn : l.length = n) (hn' : r.length = n') (h : At w B A l) (h' : At w B A' r) (hl : n ≤ 9223372036854775807) :
    Calls Tryz.prog 10 #[.slice A n c, .slice A' n' c'] w fun e w' => e = .returned (.bool (decide (l = r))) ∧ w = w' := by
  have H := Lib.hid h; clear h
  have H' := Lib.hid h'; clear h'
  have HN := Lib.hid (And.intro hn hn'); clear hn hn'
  by_cases he : n = n'
  · subst he
    go_enter Tryz.func10, Tryz.ntmps10
    go_wp2
    go_loop [14] (fun i => ∃ k : Nat, k ≤ n ∧ i = .int .i64 k ∧ Hid (l.take k = r.take k)) (fun i => n - (intOf i).toNat)
    case atStart => exact ⟨0, Nat.zero_le _, rfl, by simp [Hid]⟩
    case round =>
      obtain ⟨k, hk, rfl, heq⟩ := hrel
      by_cases hlt : k < n
      · obtain ⟨b, o, x, rfl, hb, hx, -, h0⟩ := H.out.int_ (by have := HN.out.1; omega : k < l.length)
        obtain ⟨b', o', x', rfl, hb', hx', -, h0'⟩ := H'.out.int_ (by have := HN.out.2; omega : k < r.length)
        have HX := Lib.hid (And.intro hx hx'); clear hx hx'
        have hk0 : (0 : Int) ≤ (k : Int) := by omega
        have hk1 : (k : Int) < (n : Int) := by omega
        by_cases hxy : x = x'
        · subst hxy
          go_wp2
          go_round
          case rel => exact ⟨k + 1, by omega, by go_num, by unfold Hid; rw [take_snoc _ _ _ HX.out.1, take_snoc _ _ _ HX.out.2, heq.out]⟩
          case measure => simp [intOf]; omega
        · have hne : (x != x') = true := by simp [hxy]
          have HXY := Lib.hid hxy; clear hxy
          go_wp2
          go_ret
          exact ⟨ret_bool (by simp [ne_of_at HX.out.1 HX.out.2 HXY.out]), rfl⟩
      · go_wp2
        go_ret
        exact ⟨ret_bool (by have h1 := heq.out; have h2 := HN.out; rw [List.take_of_length_le (by omega), List.take_of_length_le (by omega)] at h1; simp [h1]), rfl⟩
  · have hne : ((n : Int) != (n' : Int)) = true := by simp; omega
    have HE := Lib.hid he; clear he
    go_enter Tryz.func10, Tryz.ntmps10
    go_wp2
    go_ret
    exact ⟨ret_bool (by have := HE.out; have h2 := HN.out; simp; rintro rfl; omega), rfl⟩

theorem all_flat (has : List (List Int)) (roots : List Int) (p : Int → Bool) : (roots ++ has.flatten).all p = (roots :: has).all (fun l => l.all p) := by
  rw [List.all_append, List.all_cons, List.all_flatten]
theorem flatten_snoc (has : List (List Int)) (k : Nat) (l : List Int) (h : has[k]? = some l) : (has.take (k + 1)).flatten = (has.take k).flatten ++ l := by
  rw [take_snoc _ _ _ h]; simp
theorem flatten_len (has : List (List Int)) (h : ∀ l ∈ has, l.length ≤ 10) : has.flatten.length ≤ 10 * has.length := by
  induction has with
  | nil => simp
  | cons l r ih =>
    have h1 := ih (fun x hx => h x (by simp [hx]))
    have h2 := h l (by simp)
    rw [List.flatten_cons, List.length_append, List.length_cons]; omega

theorem prErr_graph {has : List (List Int)} {roots : List Int} {pairs : List (Int × Int)} (h : grErr has roots ≠ 0) : prErr has roots pairs = grErr has roots := by unfold prErr; rw [if_pos h]
theorem prErr_large {has : List (List Int)} {roots : List Int} {pairs : List (Int × Int)} (h : grErr has roots = 0) (h2 : 50 < pairs.length) : prErr has roots pairs = 2 := by unfold prErr; rw [if_neg (by simp [h]), if_pos h2]
theorem prErr_form {has : List (List Int)} {roots : List Int} {pairs : List (Int × Int)} (h : grErr has roots = 0) (h2 : ¬ 50 < pairs.length) : prErr has roots pairs = if pairs.all (fun p => inN has.length p.1 && inN has.length p.2) = true then 0 else 3 := by unfold prErr; rw [if_neg (by simp [h]), if_neg h2]

theorem neqRPair (x y x' y' : Int) (w : World) : (binOp .neq 50 (.agg #[.int .i64 x, .int .i64 y]) (.agg #[.int .i64 x', .int .i64 y'])).run Tryz.prog w = .ok (.bool (!decide ((x, y) = (x', y')))) w := by
  have u3 := Tryz.underlying3
  have a3 := Tryz.isAgg3
  have z3 := Tryz.sizeOf3
  have hS : Tryz.prog.underlying 50 = some (.struct (Tryz.prog.fieldsOf 50)) := by kernel_rfl
  have hp : Tryz.prog.stoodInHeld 50 = false := by kernel_rfl
  rw [run_neq_struct, show (10000 : Nat) = 9999 + 1 from rfl, run_equalIn_agg w 9999 50 _ _ hS hp]
  simp only [Program.fieldsOf, Tryz.underlying50]
  go_simp
  by_cases h1 : x = x' <;> by_cases h2 : y = y' <;> simp [h1, h2]

end Go.Proofs.YtdlcooplllimeaaGreatDoor
