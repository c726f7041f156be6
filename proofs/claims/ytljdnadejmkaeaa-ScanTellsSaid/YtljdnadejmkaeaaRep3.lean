/- slices.Repeat of one place. -/
import Derived.Test.YtljdnadejmkaeaaRep2
namespace Go.Proofs.Ytljdnadejmkaeaa
open Go.RowKit

attribute [local go_sem ↓] Go.wp_at_zero Go.wp_at_succ

set_option maxHeartbeats 800000 in
set_option maxRecDepth 100000 in
theorem repeatP_any (B c n : Nat) (A : Option Addr) (x : Int × Int) (w : World) (h : At w B A [x]) (hB : B ≤ w.heap.size) (hn : n ≤ 1000000) :
    Calls Try.prog 76 #[.slice A 1 c, .int .i64 n] w fun e w' => ∃ g c', e = .returned (.slice (some ⟨g, 0, none⟩) n c') ∧ Own w' w.heap.size 90 (some ⟨g, 0, none⟩) c' (List.replicate n x) ∧ Below w.heap.size w w' := by
  obtain ⟨i0, hi, hz0, hz1, hz2⟩ := info_parts infoRPlace
  obtain ⟨CS, hCS⟩ : ∃ CS, CS = (flat (List.replicate n ((0 : Int), (0 : Int)))).toArray := ⟨_, rfl⟩
  have hmk : ∀ w, (Instr.makeSlice 83 (.int .i64 (n : Int)) (.int .i64 (n : Int))).run Try.prog w = .ok (.slice (some ⟨w.heap.size, 0, none⟩) n n) (w.alloc (.cells CS 90)) := by
    rw [hCS]; exact run_make_flat (P := Try.prog) (α := Int × Int) 83 90 (.agg #[.int .i64 0, .int .i64 0]) 16 Try.underlying83 infoRPlace (0, 0) rfl (by decide) .i64 .i64 n (by omega) (by omega)
  have HCS := Lib.hid hCS; clear hCS
  have H := Lib.hid h; clear h
  have hd : decide ((n : Int) < 0) = false := by simp
  have hw1 : IntKind.i64.wrap (n : Int) = (n : Int) := IntWalk.i64_in _ (by omega)
  have hw2 : IntKind.u64.wrap (n : Int) = (n : Int) := by rw [IntKind.wrap_u64]; omega
  go_enter Try.func76, Try.ntmps76
  go_wp2_with fail
  refine (mul_one' n hn w).mono ?_
  rintro e w1 ⟨rfl, rfl⟩
  obtain ⟨b, o, hA, hb, hc⟩ : ∃ b o, A = some ⟨b, o, none⟩ ∧ b < B ∧ CellsAt w b o (flat [x]) := H.out.news (by simp)
  subst hA
  obtain ⟨k0, hk0⟩ : ∃ k0, k0 = min 1 n := ⟨_, rfl⟩
  have hk1 : k0 ≤ n := by omega
  have hk2 : k0 ≤ 1 := by omega
  have hsrc : ∀ j u, (flat (List.replicate k0 x))[j]? = some u → (w.alloc (.cells CS 90)).cell? ((⟨b, o, none⟩ : Addr).add j) = some u := by
    intro j u hu
    rw [add_mk, World.cell?_alloc_lt _ _ _ (show b < w.heap.size by omega)]
    rcases (by omega : k0 = 0 ∨ k0 = 1) with rfl | rfl
    · simp [flat] at hu
    · exact hc j u hu
  have hBK : Blk (w.alloc (.cells CS 90)) w.heap.size 90 (flat (List.replicate n ((0 : Int), (0 : Int)))).toArray := by rw [← HCS.out]; exact Blk.new _ _ _
  have hst : ((List.replicate n ((0 : Int), (0 : Int))).take 0 ++ List.replicate k0 x ++ (List.replicate n ((0 : Int), (0 : Int))).drop (0 + (List.replicate k0 x).length)) = List.replicate k0 x ++ List.replicate (n - k0) (0, 0) := by simp
  have HX := Lib.hid (And.intro hsrc (And.intro hBK hst)); clear hsrc hBK hst hc
  have hkk : k0 = Nat.min 1 n := hk0
  have hk3 : n = 0 ∨ 0 < k0 := by omega
  have HKK := Lib.hid (And.intro hkk hk3); clear hkk hk0 hk3
  go_wp2_with (refine wpList_copy_blk (α := Int × Int) rfl (.tmp 31) (.tmp 32) 83 83 (by rfl) 90 Try.underlying83 i0 hi hz1 w.heap.size 0 (List.replicate n ((0 : Int), (0 : Int))) (List.replicate k0 x) 90 (by rfl) (by rfl) HX.out.2.1 (by rw [List.length_replicate]; exact HKK.out.1) HX.out.1 (by simp; omega) pair_one k0 (by simp) ?_)
  intro w1 hg1 hgr1
  have hbl1 : Below w.heap.size w w1 := below_app ((Below.refl _ _).alloc (Nat.le_refl _) _) (A := some ⟨w.heap.size, 0, none⟩) hgr1 (by simp) (fun g hg => by injection hg with hg; subst hg; exact Nat.le_refl _)
  have HG1 := Lib.hid hg1; clear hg1 hgr1 hmk
  go_wp2_with fail
  go_loopg [8] (n - k0) (fun gk kv wr => ∃ (k : Nat), k ≤ n ∧ (n = 0 ∨ 0 < k) ∧ gk = n - k ∧ kv = .int .i64 k ∧ Hid (Blk wr w.heap.size 90 (flat (List.replicate k x ++ List.replicate (n - k) (0, 0))).toArray) ∧ Below w.heap.size w wr)
  case atStart => exact ⟨k0, hk1, HKK.out.2, rfl, rfl, HG1, hbl1⟩
  case round =>
    obtain ⟨k, hk, hpos, rfl, rfl, hkeep, hbl⟩ := hrel
    have hsz := hbl.size
    by_cases hlt : k < n
    · obtain ⟨m, hm⟩ : ∃ m, m = Nat.min k (n - k) := ⟨_, rfl⟩
      have hm1 : m ≤ k := by rw [hm]; exact Nat.min_le_left _ _
      have hm2 : k + m ≤ n := by have : m ≤ n - k := by rw [hm]; exact Nat.min_le_right _ _
                                 omega
      have hm3 : 0 < m := by rw [hm]; simp [Nat.min_def]; split <;> omega
      have hcs : ∀ j u, (flat (List.replicate m x))[j]? = some u → wr.drew.cell? ((⟨w.heap.size, 0, none⟩ : Addr).add j) = some u := by
        intro j u hu
        rw [add_mk, Nat.zero_add]
        refine hkeep.out.drew.cell j ?_
        rw [List.getElem?_toArray, flat_append, show List.replicate k x = List.replicate m x ++ List.replicate (k - m) x by rw [List.replicate_append_replicate]; congr 1; omega, flat_append, List.append_assoc, List.getElem?_append_left (List.getElem?_eq_some_iff.1 hu).1]
        exact hu
      have HM := Lib.hid (And.intro hm (And.intro hcs (And.intro hkeep.out.drew (rep_step x ((0 : Int), (0 : Int)) n k m hm2)))); clear hm hcs hkeep
      have hka : (0 : Int) ≤ (k : Int) := by omega
      have hkb : (k : Int) ≤ (n : Int) := by omega
      have hkc : ¬ n = k := by omega
      have hsum : IntKind.i64.wrap ((k : Int) + (m : Int)) = (k : Int) + (m : Int) := IntWalk.i64_in _ (by omega)
      go_wp2_with fail
      refine wp_region_held_drew (S := (fun _ => True)) (by kernel_rfl) ?_ (fun hHeld0 => ?_)
      · first | trivial | ((try dsimp only); (trivial))
      refine held_take (v := ?_) 0 rfl (by kernel_rfl) (by kernel_rfl) (by kernel_rfl) (fun _ _ _ h => h) (by rfl) ?_ (by assumption) ?_
      rotate_left
      · (intro w hSw; (try dsimp only at hSw); go_simp; try with_reducible rfl)
      try simp only [Act.put, List.setIfInBounds_toArray, List.set_cons_zero, List.set_cons_succ]
      refine held_take (v := ?_) 1 rfl (by kernel_rfl) (by kernel_rfl) (by kernel_rfl) (fun _ _ _ h => h) (by rfl) ?_ (by assumption) ?_
      rotate_left
      · (intro w hSw; (try dsimp only at hSw); go_simp; try with_reducible rfl)
      try simp only [Act.put, List.setIfInBounds_toArray, List.set_cons_zero, List.set_cons_succ]
      refine held_take (v := ?_) 2 rfl (by kernel_rfl) (by kernel_rfl) (by kernel_rfl) (fun _ _ _ h => h) (by rfl) ?_ (by assumption) ?_
      rotate_left
      · (intro w hSw; (try dsimp only at hSw); go_simp; try with_reducible rfl)
      try simp only [Act.put, List.setIfInBounds_toArray, List.set_cons_zero, List.set_cons_succ]
      refine held_take (v := ?_) 3 rfl (by kernel_rfl) (by kernel_rfl) (by kernel_rfl) (fun _ _ _ h => h) (by rfl) ?_ (by assumption) ?_
      rotate_left
      · (intro w hSw; (try dsimp only at hSw); go_simp; try with_reducible rfl)
      try simp only [Act.put, List.setIfInBounds_toArray, List.set_cons_zero, List.set_cons_succ]
      refine held_take (v := ?_) 4 rfl (by kernel_rfl) (by kernel_rfl) (by kernel_rfl) (fun _ _ _ h => h) (by rfl) ?_ (by assumption) ?_
      rotate_left
      · (intro w hSw; (try dsimp only at hSw); go_simp; try with_reducible rfl)
      try simp only [Act.put, List.setIfInBounds_toArray, List.set_cons_zero, List.set_cons_succ]
      refine held_take (v := ?_) 5 rfl (by kernel_rfl) (by kernel_rfl) (by kernel_rfl) (fun _ _ _ h => h) (by rfl) ?_ (by assumption) ?_
      rotate_left
      · (intro w hSw; (try dsimp only at hSw); go_simp; try with_reducible rfl)
      try simp only [Act.put, List.setIfInBounds_toArray, List.set_cons_zero, List.set_cons_succ]
      refine held_take (v := ?_) 6 rfl (by kernel_rfl) (by kernel_rfl) (by kernel_rfl) (fun _ _ _ h => h) (by rfl) ?_ (by assumption) ?_
      rotate_left
      · (intro w hSw; (try dsimp only at hSw); go_simp; try with_reducible rfl)
      try simp only [Act.put, List.setIfInBounds_toArray, List.set_cons_zero, List.set_cons_succ]
      refine held_call 7 (by kernel_rfl) rfl (fun K hK => ?_)
      refine step_copy_blk (α := Int × Int) (by rfl) (.tmp 41) (.tmp 44) 83 83 (by rfl) 90 Try.underlying83 i0 hi hz1 w.heap.size k (List.replicate k x ++ List.replicate (n - k) (0, 0)) (List.replicate m x) 90 (by rfl) (by rfl) HM.out.2.2.1 (by rw [List.length_replicate]; exact HM.out.1) HM.out.2.1 (by simp; omega) pair_one m (by simp) ?_; intro w4 hg4 hgr4
      refine hK.out _ _ ?_ (fun hHeld1 => ?_)
      · first | trivial | ((try dsimp only); (trivial))
      clear hK K hHeld0
      try simp only [Act.put, List.setIfInBounds_toArray, List.set_cons_zero, List.set_cons_succ]
      refine held_take (v := ?_) 8 rfl (by kernel_rfl) (by kernel_rfl) (by kernel_rfl) (fun _ _ _ h => h) (by rfl) ?_ (by assumption) ?_
      rotate_left
      · (intro w hSw; (try dsimp only at hSw); go_simp; try with_reducible rfl)
      try simp only [Act.put, List.setIfInBounds_toArray, List.set_cons_zero, List.set_cons_succ]
      refine held_take (v := ?_) 9 rfl (by kernel_rfl) (by kernel_rfl) (by kernel_rfl) (fun _ _ _ h => h) (by rfl) ?_ (by assumption) ?_
      rotate_left
      · (intro w hSw; (try dsimp only at hSw); go_simp; try with_reducible rfl)
      try simp only [Act.put, List.setIfInBounds_toArray, List.set_cons_zero, List.set_cons_succ]
      refine wpAnyH_done (by kernel_rfl) ?_ _
      rw [List.length_replicate, HM.out.2.2.2] at hg4
      have hbl4 : Below w.heap.size w w4 := below_app hbl (A := some ⟨w.heap.size, 0, none⟩) (grownBy_undrew hgr4) hsz (fun g hg => by injection hg with hg; subst hg; exact Nat.le_refl _)
      have HG4 := Lib.hid hg4; clear hg4 hgr4
      go_wp2_with fail
      go_roundg (n - (k + m))
      case measure => omega
      case rel => exact ⟨k + m, by omega, by omega, rfl, by go_num, HG4.out, hbl4⟩
    · obtain rfl : k = n := by omega
      have hk2 := hkeep.out
      rw [Nat.sub_self, List.replicate_zero, List.append_nil] at hk2
      have HK := Lib.hid hk2; clear hk2 hkeep
      go_wp2_with fail
      go_ret
      exact ⟨w.heap.size, k, rfl, own_blk HK.out (Nat.le_refl _) (by simp) (by simp only [maxLen]; omega), hbl⟩

end Go.Proofs.Ytljdnadejmkaeaa
