/- What is wrong with a graph, with pairs: the program's tests and the reference's. -/
import Derived.Test.YtpkccpegdpodoaaWeak1
import Derived.Test.YtpkccpegdpodoaaSteps
namespace Go.Proofs.Ytpkccpegdpodoaa
open Go.RowKit

theorem take_snoc {α : Type} (l : List α) (k : Nat) (x : α) (h : l[k]? = some x) : l.take (k + 1) = l.take k ++ [x] := by
  rw [List.take_add_one, h]; rfl
theorem all_snoc {α : Type} (p : α → Bool) (l : List α) (k : Nat) (x : α) (h : l[k]? = some x) : (l.take (k + 1)).all p = ((l.take k).all p && p x) := by
  rw [List.take_add_one, h]; simp [List.all_append]
theorem all_stop {α : Type} (p : α → Bool) (l : List α) (k : Nat) (x : α) (h : l[k]? = some x) (hp : p x = false) : l.all p = false := by
  rw [List.all_eq_false]; exact ⟨x, List.mem_of_getElem? h, by simp [hp]⟩
theorem ret_bool {a b : Bool} (h : a = b) : Ending.returned (.bool a) = .returned (.bool b) := by rw [h]
theorem ret_i64 {a b : Int} (h : a = b) : Ending.returned (.int .i64 a) = .returned (.int .i64 b) := by rw [h]

theorem in_any (n : Int) (many : Nat) (w : World) : Calls Try.prog 107 #[.int .i64 n, .int .i64 many] w fun e w' => e = .returned (.bool (inN many n)) ∧ w = w' := by
  by_cases h : 0 ≤ n
  · have h2 : inN many n = decide (n < (many : Int)) := by simp [inN, h]
    have H := Lib.hid h2; clear h2
    go_enter Try.func107, Try.ntmps107
    go_wp2
    go_ret
    exact ⟨ret_bool H.out.symm, rfl⟩
  · have h2 : inN many n = false := by simp [inN]; omega
    have H := Lib.hid h2; clear h2
    go_enter Try.func107, Try.ntmps107
    go_wp2
    go_ret
    exact ⟨ret_bool H.out.symm, rfl⟩

theorem infoInts : (Try.prog.info? 47).map (fun i => (i.zero, i.size, i.bytes)) = some (some (.slice none 0 0), 1, 24) := by kernel_rfl
theorem list_one {α : Type} [Enc α] {w : World} {B : Nat} : ∀ cs (x : List α), Enc.rd w B cs x → ∀ u ∈ cs, u.oneCell' = true := by
  rintro cs x ⟨A, cap, rfl, -⟩ u hu
  simp at hu; subst hu; rfl

theorem grErr_large1 {has : List (List Int)} {roots : List Int} (h : 100 < has.length ∨ 100 < roots.length) : grErr has roots = 2 := by unfold grErr; rw [if_pos h]
theorem grErr_large2 {has : List (List Int)} {roots l : List Int} {k : Nat} (hl : has[k]? = some l) (h : 10 < l.length) : grErr has roots = 2 := by
  unfold grErr
  by_cases h1 : 100 < has.length ∨ 100 < roots.length
  · rw [if_pos h1]
  · rw [if_neg h1, if_pos (List.any_eq_true.2 ⟨l, List.mem_of_getElem? hl, by simpa using h⟩)]
theorem grErr_form {has : List (List Int)} {roots : List Int} (h1 : ¬ (100 < has.length ∨ 100 < roots.length)) (h2 : ∀ l ∈ has, l.length ≤ 10) : grErr has roots = if (roots :: has).all (fun l => l.all (inN has.length)) = true then 0 else 3 := by
  unfold grErr
  rw [if_neg h1, if_neg]
  rw [Bool.not_eq_true, List.any_eq_false]
  intro l hl
  have := h2 l hl
  simp; omega

set_option maxHeartbeats 1600000 in
set_option maxRecDepth 100000 in
theorem wcheck_any (B hc rc : Nat) (HA RA : Option Addr) (has : List (List Int)) (roots : List Int) (w : World) (hh : At w B HA has) (hr : At w B RA roots) (hB : B ≤ w.heap.size) (hl : has.length ≤ 9223372036854775807) (hrl : roots.length ≤ 9223372036854775807) (hrc : roots.length ≤ rc ∧ rc ≤ maxLen) :
    Calls Try.prog 30 #[.agg #[.slice HA has.length hc, .slice RA roots.length rc]] w fun e w' => e = .returned (.int .i64 (grErr has roots)) ∧ Below w.heap.size w w' := by
  have hbox : Below w.heap.size w (w.alloc (.cells #[.slice HA has.length hc, .slice RA roots.length rc] 49)) := (Below.refl _ _).alloc (Nat.le_refl _) _
  by_cases h1 : 100 < has.length
  · have he := grErr_large1 (roots := roots) (.inl h1)
    have HE := Lib.hid (And.intro he hbox); clear he hh hr hbox
    go_enter Try.func30, Try.ntmps30
    go_wp2
    go_ret
    exact ⟨ret_i64 HE.out.1.symm, HE.out.2⟩
  by_cases h2 : 100 < roots.length
  · have he := grErr_large1 (has := has) (.inr h2)
    have HE := Lib.hid (And.intro he hbox); clear he hh hr hbox
    have h1' : (has.length : Int) ≤ 100 := by omega
    go_enter Try.func30, Try.ntmps30
    go_wp2
    go_ret
    exact ⟨ret_i64 HE.out.1.symm, HE.out.2⟩
  obtain ⟨i0, hi, hz0, hz1, hz2⟩ := info_parts infoInts
  have HH := Lib.hid (And.intro hh hr); clear hh hr
  have HB := Lib.hid hbox; clear hbox
  have h1' : (has.length : Int) ≤ 100 := by omega
  have h2' : (roots.length : Int) ≤ 100 := by omega
  have H12 := Lib.hid (show ¬ (100 < has.length ∨ 100 < roots.length) by omega)
  go_enter Try.func30, Try.ntmps30
  go_wp2_with fail
  refine wp_world (fun W => Blk W w.heap.size 49 #[.slice HA has.length hc, .slice RA roots.length rc] ∧ Below w.heap.size w W ∧ w.heap.size + 1 ≤ W.heap.size) ⟨Blk.new _ _ _, HB.out, by simp⟩ ?_
  rintro W ⟨hG, hb0, hs0⟩
  go_loop [24] (fun i => ∃ k : Nat, k ≤ has.length ∧ i = .int .i64 k ∧ Hid (∀ l ∈ has.take k, l.length ≤ 10)) (fun i => has.length - (intOf i).toNat)
  case atStart => exact ⟨0, Nat.zero_le _, rfl, fun l hl => by simp at hl⟩
  case round =>
    obtain ⟨k, hk, rfl, hall⟩ := hrel
    by_cases hlt : k < has.length
    · obtain ⟨b, o, l, A', c', rfl, hb, hx, hcell, -, -, hmx⟩ := (HH.out.1.below (hb0.mono hB)).slice_ hlt
      unfold maxLen at hmx
      have HX := Lib.hid hx; clear hx
      by_cases h10 : 10 < l.length
      · have he := grErr_large2 (roots := roots) HX.out h10
        have HE := Lib.hid he; clear he hG
        go_wp2_with fail
        go_ret
        exact ⟨ret_i64 HE.out.symm, hb0⟩
      · go_wp2_with fail
        go_round
        case rel => exact ⟨k + 1, by omega, by go_num, fun l' hl' => by
          rw [take_snoc _ _ _ HX.out] at hl'
          rcases List.mem_append.1 hl' with h | h
          · exact hall.out l' h
          · simp at h; subst h; omega⟩
        case measure => simp [intOf]; omega
    · have hall2 := hall.out
      rw [List.take_of_length_le (by omega)] at hall2
      have g0 := hG.cell 0 (v := .slice HA has.length hc) rfl
      have g1 := hG.cell 1 (v := .slice RA roots.length rc) rfl
      have HA2 := Lib.hid (And.intro hall2 hG); clear hall2 hG hall
      obtain ⟨rs, hrl1, hra, hrr⟩ := HH.out.1.raws (n := 1) rfl list_one
      have HRS := Lib.hid (And.intro hrl1 (And.intro hra hrr)); clear hrl1 hra hrr
      have hlt0 : w.heap.size < W.heap.size := by omega
      have ho1 : Own (α := Raw 1) (W.alloc (.cells #[.slice RA roots.length rc] 47)) W.heap.size 47 (some ⟨W.heap.size, 0, none⟩) 1 [⟨[.slice RA roots.length rc], rfl, by simp [Value.oneCell']⟩] :=
        ⟨rfl, .inr ⟨W.heap.size, 1, _, rfl, Nat.le_refl _, heap_alloc_new W _, by simp, by simp [maxLen], rfl, rfl⟩⟩
      have HO1 := Lib.hid ho1; clear ho1
      go_wp2_with (at_builtin; go_must (refine wpList_app (α := Raw 1) (n := 1) (m := has.length) (r := rs) rfl (.tmp 34) (.tmp 36) _ rfl W.heap.size 47 i0 _ 24 Try.underlying46 hi hz0 hz1 hz2 rfl (by decide) raw_one (by rfl) rfl HO1.out (by rfl) (((HRS.out.2.1.below (hb0.mono hB)).alloc (by omega) _)) HRS.out.1 (by omega) (by simp only [maxLen]; omega) (by simp) ?_))
      intro A3 c3 w3 hown3 hgr3 hat3
      have hbl3 : Below w.heap.size w w3 := (hb0.alloc (by omega) _).grown hgr3 (by simp; omega) (fun g hg => by simp [rowOf] at hg; omega)
      have hs3 := hbl3.size
      obtain ⟨g3, rfl, hg3, -⟩ := hown3.some_ (by simp)
      have hrows : ∀ j l, (roots :: has)[j]? = some l → ∃ A' c', w3.cell? ⟨g3, j, none⟩ = some (.slice A' l.length c') ∧ At w3 B A' l ∧ l.length ≤ maxLen := by
        intro j l hj
        cases j with
        | zero =>
          simp only [List.getElem?_cons_zero, Option.some.injEq] at hj
          subst hj
          have := hown3.raw_cell (i := 0) (j := 0) rfl (u := .slice RA roots.length rc) rfl
          exact ⟨RA, rc, by simpa using this, HH.out.2.below (hbl3.mono hB), by omega⟩
        | succ j =>
          simp only [List.getElem?_cons_succ] at hj
          have hjl : j < has.length := (List.getElem?_eq_some_iff.1 hj).1
          obtain ⟨r, hr⟩ : ∃ r, rs[j]? = some r := ⟨_, List.getElem?_eq_getElem (by have := HRS.out.1; omega)⟩
          obtain ⟨A', c', hcs, hc1, hc2, -, hat⟩ := HRS.out.2.2 j r l hr hj
          have := hown3.raw_cell (i := j + 1) (j := 0) (x := r) (by simpa using hr) (u := .slice A' l.length c') (by rw [hcs]; rfl)
          exact ⟨A', c', by simpa using this, hat.below (hbl3.mono hB), by omega⟩
      have hform := grErr_form H12.out HA2.out.1
      have HR := Lib.hid (And.intro hrows hform); clear hrows hform hown3 hgr3 hat3
      go_wp2_with fail
      go_loop [39] (fun i => ∃ j : Nat, j ≤ 1 + has.length ∧ i = .int .i64 j ∧ Hid (((roots :: has).take j).all (fun l => l.all (inN has.length)) = true)) (fun i => 1 + has.length - (intOf i).toNat)
      case atStart => exact ⟨0, Nat.zero_le _, rfl, rfl⟩
      case round =>
        obtain ⟨j, hj, rfl, hdone⟩ := hrel
        by_cases hjt : j < 1 + has.length
        · obtain ⟨l, hl⟩ : ∃ l, (roots :: has)[j]? = some l := ⟨_, List.getElem?_eq_getElem (by simp; omega)⟩
          obtain ⟨A', c', hcell, hat, hmx⟩ := HR.out.1 j l hl
          unfold maxLen at hmx
          have HL := Lib.hid (And.intro hl hat); clear hl hat
          have hj1 : (j : Int) < 1 + (has.length : Int) := by omega
          go_wp2_with fail
          go_loop [45] (fun i => ∃ q : Nat, q ≤ l.length ∧ i = .int .i64 q ∧ Hid ((l.take q).all (inN has.length) = true)) (fun i => l.length - (intOf i).toNat)
          case atStart => exact ⟨0, Nat.zero_le _, rfl, rfl⟩
          case round =>
            obtain ⟨q, hq, rfl, hin⟩ := hrel
            by_cases hqt : q < l.length
            · obtain ⟨b, o, x, rfl, hb, hx, hok, h0⟩ := HL.out.2.int_ hqt
              have HX := Lib.hid hx; clear hx hok
              cases hp : inN has.length x with
              | true =>
                have HP := Lib.hid hp; clear hp
                go_wp2_with (go_at_call 107; refine (in_any x has.length _).mono ?_; rintro e w9 ⟨rfl, rfl⟩; rw [HP.out])
                go_round
                case rel => exact ⟨q + 1, by omega, by go_num, by unfold Hid; rw [all_snoc _ _ _ _ HX.out, hin.out, HP.out]; rfl⟩
                case measure => simp [intOf]; omega
              | false =>
                have he : grErr has roots = 3 := by
                  rw [HR.out.2, if_neg]
                  rw [Bool.not_eq_true]
                  exact all_stop _ _ j l HL.out.1 (all_stop _ _ q x HX.out hp)
                have HP := Lib.hid (And.intro hp he); clear hp he
                go_wp2_with (go_at_call 107; refine (in_any x has.length _).mono ?_; rintro e w9 ⟨rfl, rfl⟩; rw [HP.out.1])
                go_ret
                exact ⟨ret_i64 HP.out.2.symm, hbl3⟩
            · have hin2 := hin.out
              rw [List.take_of_length_le (by omega)] at hin2
              have HI := Lib.hid hin2; clear hin2 hin
              go_wp2_with fail
              go_round
              case rel => exact ⟨j + 1, by omega, by go_num, by unfold Hid; rw [all_snoc _ _ _ _ HL.out.1, hdone.out, HI.out]; rfl⟩
              case measure => simp [intOf]; omega
        · have hd2 := hdone.out
          rw [List.take_of_length_le (by simp; omega)] at hd2
          have he : grErr has roots = 0 := by rw [HR.out.2, if_pos hd2]
          have HE := Lib.hid he; clear he hd2 hdone
          go_wp2_with fail
          go_ret
          exact ⟨ret_i64 HE.out.symm, hbl3⟩

end Go.Proofs.Ytpkccpegdpodoaa
