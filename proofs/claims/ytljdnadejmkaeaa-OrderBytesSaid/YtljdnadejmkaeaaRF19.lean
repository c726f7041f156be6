/- RF: Mov5. -/
import Derived.Test.YtljdnadejmkaeaaRF1
import Derived.Test.YtljdnadejmkaeaaRF18
/- The reference: what is wrong with a list of moves. -/
namespace Go.Proofs.Ytljdnadejmkaeaa
open Go.RowKit

theorem hasInt_any (A : Option Addr) (c B n : Nat) (l : List Int) (x : Int) (w : World) (hn : l.length = n) (h : At w B A l) (hl : n ≤ 9223372036854775807) :
    Calls Try.prog 57 #[.slice A n c, .int .i64 x] w fun e w' => e = .returned (.bool (decide (x ∈ l))) ∧ w = w' := by
  have H := Lib.hid h; clear h
  have HN := Lib.hid hn; clear hn
  go_enter Try.func57, Try.ntmps57
  go_wp2
  go_loop [9] (fun i => ∃ k : Nat, k ≤ n ∧ i = .int .i64 k ∧ Hid (x ∉ l.take k)) (fun i => n - (intOf i).toNat)
  case atStart => exact ⟨0, Nat.zero_le _, rfl, by simp [Hid]⟩
  case round =>
    obtain ⟨k, hk, rfl, hno⟩ := hrel
    by_cases hlt : k < n
    · obtain ⟨b, o, y, rfl, hb, hx, hok, h0⟩ := H.out.int_ (by have := HN.out; omega : k < l.length)
      have HX := Lib.hid hx; clear hx hok
      have hlt2 : (k : Int) < (n : Int) := by omega
      by_cases hxy : x = y
      · subst hxy
        go_wp2
        go_ret
        exact ⟨ret_bool (by rw [decide_eq_true (List.mem_of_getElem? HX.out)]), rfl⟩
      · have hxy2 : (x == y) = false := by simpa using hxy
        have HXY := Lib.hid hxy; clear hxy
        go_wp2
        go_round
        case rel => exact ⟨k + 1, by omega, by go_num, by unfold Hid; rw [take_snoc _ _ _ HX.out]; simp only [List.mem_append, List.mem_singleton, not_or]; exact ⟨hno.out, HXY.out⟩⟩
        case measure => simp [intOf]; omega
    · go_wp2
      go_ret
      exact ⟨ret_bool (by have := hno.out; rw [List.take_of_length_le (by have := HN.out; omega)] at this; simp [this]), rfl⟩

theorem any_mem (l : List (Int × Int)) (x : Int) : (l.any fun y => decide (y.1 = x)) = decide (x ∈ l.map (·.1)) := by
  rw [Bool.eq_iff_iff, List.any_eq_true]
  simp only [decide_eq_true_eq, List.mem_map]

set_option maxHeartbeats 800000 in
set_option maxRecDepth 100000 in
theorem mfault_any (A : Option Addr) (c B : Nat) (l : List (Int × Int)) (spare : Int) (w : World) (h : At w B A l) (hB : B ≤ w.heap.size) (hl : l.length ≤ 9223372036854775807) :
    Calls Try.prog 22 #[.slice A l.length c, .int .i64 spare] w fun e w' => e = .returned (.int .i64 (mvErr l spare)) ∧ Below w.heap.size w w' := by
  by_cases h60 : 60 < l.length
  · have he : mvErr l spare = 2 := by unfold mvErr; rw [if_pos h60]
    rw [he]; clear he h
    go_enter Try.func22, Try.ntmps22
    go_wp2
    go_ret
    exact ⟨rfl, Below.refl _ _⟩
  obtain ⟨i0, hi, hz0, hz1, hz2⟩ := info_parts infoInt
  have H := Lib.hid h; clear h
  go_enter Try.func22, Try.ntmps22
  go_wp2
  go_loopw [5, 15] (fun tv i wr => ∃ (k : Nat) (A1 : Option Addr) (c1 : Nat), k ≤ l.length ∧ i = .int .i64 k ∧ tv = .slice A1 k c1 ∧ Hid (noTwice (l.take k) = true ∧ Own wr w.heap.size 3 A1 c1 ((l.take k).map (·.1))) ∧ Below w.heap.size w wr) (fun _ i _ => l.length - (intOf i).toNat)
  case atStart => exact ⟨0, none, 0, Nat.zero_le _, rfl, rfl, ⟨by simp [noTwice], Own.nil_⟩, Below.refl _ _⟩
  case round =>
    obtain ⟨k, A1, c1, hk, rfl, rfl, hkeep, hbl⟩ := hrel
    have hsz := hbl.size
    by_cases hlt : k < l.length
    · have hat := H.out.below (hbl.mono hB)
      obtain ⟨b, o, x, y, rfl, hb, hx, hox, -, g0, g1⟩ := hat.pair hlt
      have HX := Lib.hid hx; clear hx
      have hle : ((l.take k).map (·.1)).length = k := by simp; omega
      have hokT : ∀ y ∈ (l.take k).map (·.1), Flat.ok y := by
        intro y hy
        obtain ⟨z, hz, rfl⟩ := List.mem_map.1 hy
        exact (hat.ok_ z (List.mem_of_mem_take hz)).1
      have HA := Lib.hid (And.intro hat (And.intro hle (And.intro hokT hox))); clear hat hle hokT hox
      go_wp2_with fail
      have ho1 := hkeep.out.2.alloc (.cells #[.int .i64 x, .int .i64 y] 62)
      have hct := hasInt_any A1 c1 _ k ((l.take k).map (·.1)) x _ HA.out.2.1 (ho1.at_ HA.out.2.2.1) (by omega)
      rw [← any_mem] at hct
      cases hq : (l.take k).any (fun z => decide (z.1 = x)) with
      | true =>
        rw [hq] at hct
        have he : mvErr l spare = 6 := by unfold mvErr; rw [if_neg h60, if_pos (noTwice_stop l k (x, y) HX.out hq)]
        have HE := Lib.hid he; clear he hq ho1
        refine hct.mono ?_
        rintro e w' ⟨rfl, rfl⟩
        clear hct
        go_wp2_with fail
        go_ret
        exact ⟨ret_i64 HE.out.symm, hbl.alloc hsz _⟩
      | false =>
        rw [hq] at hct
        have HQ := Lib.hid (And.intro hq ho1); clear hq ho1
        refine hct.mono ?_
        rintro e w' ⟨rfl, rfl⟩
        clear hct
        go_wp2_with (at_builtin; go_must (refine wpList_app (α := Int) (n := k) (m := 1) (B := wr.heap.size + 1 + 1) (r := [x]) rfl (.tmp 23) (.tmp 26) _ rfl w.heap.size 3 i0 _ 8 Try.underlying40 hi hz0 hz1 hz2 rfl (by decide) int_one (by rfl) HA.out.2.1 (HQ.out.2.alloc _) (by rfl) ?_ rfl (by omega) (by simp only [maxLen]; omega) (by simp; omega) ?_))
        · have := At.built (wr.alloc (.cells #[.int .i64 x, .int .i64 y] 62)) #[.int .i64 x] 3 [x] rfl (by intro z hz; simp at hz; subst hz; exact HA.out.2.2.2)
          simpa using this
        intro A2 c2 w2 hown2 hgr2 hat2
        have hbl2 : Below w.heap.size w w2 := ((hbl.alloc hsz _).alloc (by simp; omega) _).grown hgr2 (by simp; omega) (fun g hg => (HQ.out.2.lt g hg).1)
        have HO2 := Lib.hid hown2; clear hown2
        go_wp2_with fail
        go_roundw
        case rel => exact ⟨k + 1, A2, c2, by omega, by go_num, rfl, ⟨noTwice_snoc l k _ HX.out hkeep.out.1 HQ.out.1, by rw [take_snoc _ _ _ HX.out, List.map_append, List.map_take]; exact HO2.out⟩, hbl2⟩
        case measure => simp [intOf]; omega
    · have hk2 := hkeep.out.1
      rw [List.take_of_length_le (by omega)] at hk2
      have HN := Lib.hid hk2; clear hk2 hkeep
      go_wp2_with fail
      go_loopw [31] (fun i wr => ∃ k : Nat, k ≤ l.length ∧ i = .int .i64 k ∧ Hid ((l.take k).any (fun m => decide (m.1 = spare) || decide (m.2 = spare)) = false) ∧ Below w.heap.size w wr) (fun i _ => l.length - (intOf i).toNat)
      case atStart => exact ⟨0, Nat.zero_le _, rfl, by simp [Hid], hbl⟩
      case round =>
        obtain ⟨j, hj, rfl, hno, hbl2⟩ := hrel
        have hsz2 := hbl2.size
        by_cases hjt : j < l.length
        · obtain ⟨b, o, x, y, rfl, hb, hx, -, -, g0, g1⟩ := (H.out.below (hbl2.mono hB)).pair hjt
          have HX := Lib.hid hx; clear hx
          cases hq : (decide (x = spare) || decide (y = spare)) with
          | true =>
            have hany : l.any (fun m => decide (m.1 = spare) || decide (m.2 = spare)) = true := List.any_eq_true.2 ⟨(x, y), List.mem_of_getElem? HX.out, hq⟩
            have he : mvErr l spare = 1 := by unfold mvErr; rw [if_neg h60, if_neg (by simp [HN.out]), if_pos hany]
            have HE := Lib.hid he; clear he hany
            by_cases h1 : x = spare
            · have h1' : (x == spare) = true := by simpa using h1
              clear hq h1
              go_wp2_with fail
              go_ret
              exact ⟨ret_i64 HE.out.symm, hbl2.alloc hsz2 _⟩
            · have h1' : (x == spare) = false := by simpa using h1
              have h2' : (y == spare) = true := by simp [h1] at hq; simpa using hq
              clear hq h1
              go_wp2_with fail
              go_ret
              exact ⟨ret_i64 HE.out.symm, hbl2.alloc hsz2 _⟩
          | false =>
            have h1' : (x == spare) = false := by simp at hq; simpa using hq.1
            have h2' : (y == spare) = false := by simp at hq; simpa using hq.2
            have HQ := Lib.hid hq; clear hq
            go_wp2_with fail
            go_roundw
            case rel => exact ⟨j + 1, by omega, by go_num, by unfold Hid; rw [any_snoc _ _ _ _ HX.out, hno.out, Bool.false_or]; exact HQ.out, hbl2.alloc hsz2 _⟩
            case measure => simp [intOf]; omega
        · have hno2 := hno.out
          rw [List.take_of_length_le (by omega)] at hno2
          have he : mvErr l spare = 0 := by unfold mvErr; rw [if_neg h60, if_neg (by simp [HN.out]), if_neg (by simp [hno2])]
          have HE := Lib.hid he; clear he hno2
          go_wp2_with fail
          go_ret
          exact ⟨ret_i64 HE.out.symm, hbl2⟩

end Go.Proofs.Ytljdnadejmkaeaa
