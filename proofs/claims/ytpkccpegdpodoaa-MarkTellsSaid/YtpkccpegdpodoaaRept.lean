/- math/bits.Mul at one and a small number; slices.Repeat of one int. -/
import Derived.Test.YtpkccpegdpodoaaIntFns
import Derived.Laws.Bits64b
import Derived.Laws.CopyOwn
import Derived.Deep.OwnRows
import Derived.IntWalk
import Derived.StillTailTactics
namespace Go.Proofs.Ytpkccpegdpodoaa
open Go.RowKit

attribute [local go_sem ↓] Go.wp_at_zero Go.wp_at_succ

theorem mul64_small (y : Nat) (hy : y ≤ 1000) (w : World) : Calls Try.prog 215 #[.int .u64 1, .int .u64 y] w fun e w' => e = .returned (.tuple #[.int .u64 0, .int .u64 y]) ∧ w = w' := by
  have hm : bits .and .u64 (y : Int) 4294967295 = (y : Int) := by
    have h := bits_and_u64_nat y 4294967295 (by omega) (by omega)
    have e : y &&& 4294967295 = y % 4294967296 := Nat.and_two_pow_sub_one_eq_mod y 32
    rw [e, Nat.mod_eq_of_lt (by omega)] at h
    exact h
  have hm1 : bits .and .u64 1 4294967295 = 1 := by decide +kernel
  have hd : (y : Int) / 4294967296 = 0 := by omega
  have hm0 : bits .and .u64 0 4294967295 = 0 := by decide +kernel
  have hw : IntKind.u64.wrap (y : Int) = (y : Int) := by rw [IntKind.wrap_u64]; omega
  go_enter Try.func215, Try.ntmps215
  go_wp2
  go_ret2
  exact ⟨rfl, rfl⟩
theorem mul_small (y : Nat) (hy : y ≤ 1000) (w : World) : Calls Try.prog 193 #[.int .u64 1, .int .u64 y] w fun e w' => e = .returned (.tuple #[.int .u64 0, .int .u64 y]) ∧ w = w' := by
  have H := Lib.hid hy
  go_enter Try.func193, Try.ntmps193
  go_wp2_with (go_at_call 215; refine (mul64_small y H.out w).mono ?_; rintro e w' ⟨rfl, rfl⟩)
  go_ret2
  exact ⟨rfl, rfl⟩

def repC (v : Int) (n k : Nat) : List Value := List.replicate k (.int .i64 v) ++ List.replicate (n - k) (.int .i64 0)
theorem repC_length (v : Int) (n k : Nat) (h : k ≤ n) : (repC v n k).length = n := by simp [repC]; omega
theorem repC_splice (v : Int) (n k m : Nat) (h : k + m ≤ n) : splice (repC v n k) k (List.replicate m (.int .i64 v)) = repC v n (k + m) := by
  unfold splice repC
  rw [List.length_replicate, List.take_left' (by simp), List.drop_append, List.drop_of_length_le (by simp), List.length_replicate, List.drop_replicate, List.nil_append, ← List.append_assoc, List.replicate_append_replicate]
  congr 2
  omega
theorem madeInt (n : Nat) : madeCells #[.int .i64 0] n = (repC 0 n 0).toArray := by
  apply Array.toList_inj.1
  apply List.ext_getElem?
  intro i
  simp only [madeCells, repC, Array.toList_map, Array.toList_range, List.getElem?_map, List.replicate_zero, List.nil_append, Nat.sub_zero, List.getElem?_replicate]
  by_cases h : i < n
  · simp [h, Nat.mod_one]
  · simp [h]
theorem repC_get (v : Int) (n k j : Nat) (h : j < k) : (repC v n k)[j]? = some (.int .i64 v) := by
  unfold repC
  rw [List.getElem?_append_left (by simpa using h), List.getElem?_replicate, if_pos h]
theorem repC_zero (v u : Int) (n : Nat) : repC v n 0 = repC u n 0 := by simp [repC]
theorem repC_flat (v : Int) (n : Nat) : repC v n n = flat (List.replicate n v) := by
  unfold repC
  rw [Nat.sub_self, List.replicate_zero, List.append_nil]
  induction n with
  | zero => rfl
  | succ n ih => rw [List.replicate_succ, ih, List.replicate_succ, flat_cons]; rfl
theorem at_one {w : World} {B : Nat} {X : Option Addr} {v : Int} (h : At w B X [v]) : ∃ b o, X = some ⟨b, o, none⟩ ∧ b < B ∧ w.cell? ⟨b, o, none⟩ = some (.int .i64 v) ∧ I64 v := by
  obtain ⟨b, o, x, rfl, hb, hx, hok, h0⟩ := h.int_ (k := 0) (by simp)
  injection hx with hx
  subst hx
  exact ⟨b, o, rfl, hb, h0, hok⟩

set_option maxHeartbeats 1600000 in
set_option maxRecDepth 100000 in
theorem repeatInt_any (A : Option Addr) (c B n : Nat) (v : Int) (w : World) (h : At w B A [v]) (hB : B ≤ w.heap.size) (hc : 1 ≤ c) (hn : n ≤ 100) :
    Calls Try.prog 171 #[.slice A 1 c, .int .i64 n] w fun e w' => e = .returned (.slice (some ⟨w.heap.size, 0, none⟩) n n) ∧ Own w' w.heap.size 3 (some ⟨w.heap.size, 0, none⟩) n (List.replicate n v) ∧ Below w.heap.size w w' := by
  have hmk := Go.run_make_row' (P := Try.prog) 47 3 (.int .i64 0) 8 Try.underlying47 infoInt rfl .i64 .i64 n (by omega) (by omega)
  have hsz : (Try.prog.info? 3).map (·.size) = some 1 := by kernel_rfl
  obtain ⟨b, o, rfl, hb, h0, hok⟩ := at_one h
  have HSZ := Lib.hid hsz; clear hsz h
  have HV := Lib.hid hok; clear hok
  have hge : (0 : Int) ≤ (n : Int) := by omega
  have hwn : IntKind.u64.wrap (n : Int) = (n : Int) := by rw [IntKind.wrap_u64]; omega
  have hwi : IntKind.i64.wrap (n : Int) = (n : Int) := IntWalk.i64_in _ (by omega)
  go_enter Try.func171, Try.ntmps171
  obtain ⟨W, hW⟩ : ∃ W, W = w.alloc (.cells (madeCells #[.int .i64 0] n) 3) := ⟨_, rfl⟩
  have hg0 : W.heap[w.heap.size]? = some (.cells (repC v n 0).toArray 3 (0, 0)) := by
    rw [hW, madeInt, repC_zero 0 v]; exact heap_alloc_new w _
  have hb0 : Below w.heap.size w W := by rw [hW]; exact (Below.refl _ _).alloc (Nat.le_refl _) _
  have hc0 : W.cell? ⟨b, o, none⟩ = some (.int .i64 v) := by
    rw [hW, World.cell?_alloc_lt w _ _ (by simp; omega)]; exact h0
  obtain ⟨W2, hrun, hg2, hb2⟩ : ∃ W2, (Builtin.copy_ #[47, 47] 3 #[.slice (some ⟨w.heap.size, 0, none⟩) n n, .slice (some ⟨b, o, none⟩) 1 c]).run Try.prog W = .ok (.int .i64 ((min 1 n : Nat) : Int)) W2 ∧ W2.heap[w.heap.size]? = some (.cells (repC v n (min 1 n)).toArray 3 (0, 0)) ∧ Below w.heap.size w W2 := by
    have hr := run_copy_row (P := Try.prog) W 47 47 3 3 w.heap.size 0 n n ⟨b, o, none⟩ 1 c (repC v n 0).toArray 3 (List.replicate (min 1 n) (.int .i64 v)) Try.underlying47 HSZ.out hg0 (by simp [Nat.min_def]) (fun j u hj => by
      rw [List.getElem?_replicate] at hj
      split at hj
      · rename_i hlt
        obtain rfl : j = 0 := by omega
        injection hj with hj
        subst hj
        exact hc0
      · cases hj) (by simp [repC_length]; omega) (fun u hu => by rw [(List.mem_replicate.1 hu).2]; rfl)
    refine ⟨_, by rw [hr, List.length_replicate]; rfl, ?_, bel_setRow hb0 (Nat.le_refl _) _⟩
    have := repC_splice v n 0 (min 1 n) (by omega)
    unfold splice at this
    rw [setRow_heap W w.heap.size _ _ _ _ hg0]
    simp only [Nat.zero_add] at this
    rw [← this]
    simp
  rw [hW] at hrun
  have H2 := Lib.hid (And.intro hg2 hb2); clear hg2 hb2 hg0 hb0 hc0 hW
  obtain ⟨m0, hm0⟩ : ∃ m, min 1 n = m := ⟨_, rfl⟩
  rw [hm0] at hrun H2
  have hm1 : m0 ≤ n := by omega
  have hm2 : 0 < n → 1 ≤ m0 := by omega
  have HM2 := Lib.hid hm2
  clear hm0 hm2
  go_wp2_with (go_at_call 193; refine (mul_small n (by omega) w).mono ?_; rintro e w' ⟨rfl, rfl⟩)
  go_loopg [8] (n - m0) (fun gk mv wr => ∃ m : Nat, m ≤ n ∧ gk = n - m ∧ mv = .int .i64 m ∧ (0 < n → 1 ≤ m) ∧ Hid (wr.heap[w.heap.size]? = some (.cells (repC v n m).toArray 3 (0, 0))) ∧ Below w.heap.size w wr)
  case atStart => exact ⟨m0, hm1, by omega, rfl, HM2.out, H2.out.1, H2.out.2⟩
  case round =>
    obtain ⟨m, hm, rfl, rfl, hp, hrow, hbl⟩ := hrel
    by_cases hlt : m < n
    · have hm1' : 1 ≤ m := hp (by omega)
      obtain ⟨q, hq⟩ : ∃ q, Nat.min m (n - m) = q := ⟨_, rfl⟩
      have hq1 : 1 ≤ q ∧ q ≤ m ∧ m + q ≤ n := by
        subst hq
        have h1 : Nat.min m (n - m) = min m (n - m) := rfl
        rw [h1]; omega
      have hnm : ¬ n = m := by omega
      have c0 : (0 : Int) ≤ (m : Int) := by omega
      have c1 : (m : Int) ≤ (n : Int) := by omega
      have c2 : m ≤ n := by omega
      have hwr : IntKind.i64.wrap ((m : Int) + (q : Int)) = ((m + q : Nat) : Int) := by rw [IntWalk.i64_in _ (by omega)]; omega
      obtain ⟨w3, hrun, hg3, hb3⟩ : ∃ w3, (Builtin.copy_ #[47, 47] 3 #[.slice (some ⟨w.heap.size, m, none⟩) (n - m) (n - m), .slice (some ⟨w.heap.size, 0, none⟩) m n]).run Try.prog wr.drew = .ok (.int .i64 (q : Int)) w3 ∧ w3.heap[w.heap.size]? = some (.cells (repC v n (m + q)).toArray 3 (0, 0)) ∧ Below w.heap.size w w3 := by
        have hr := run_copy_row (P := Try.prog) wr.drew 47 47 3 3 w.heap.size m (n - m) (n - m) ⟨w.heap.size, 0, none⟩ m n (repC v n m).toArray 3 (List.replicate q (.int .i64 v)) Try.underlying47 HSZ.out hrow.out (by simp [← hq]) (fun j u hj => by
          rw [List.getElem?_replicate] at hj
          split at hj
          · rename_i hlt2
            injection hj with hj
            subst hj
            rw [add_mk, Nat.zero_add]
            exact (Blk.cell (w := wr.drew) (t := 3) hrow.out j (by rw [List.getElem?_toArray]; exact repC_get v n m j (by omega)))
          · cases hj) (by simp [repC_length v n m c2]; omega) (fun u hu => by rw [(List.mem_replicate.1 hu).2]; rfl)
        refine ⟨_, by rw [hr, List.length_replicate]; rfl, ?_, bel_setRow (w := wr.drew) (below_drewN hbl 1) (Nat.le_refl _) _⟩
        have := repC_splice v n m q (by omega)
        unfold splice at this
        rw [setRow_heap wr.drew w.heap.size _ _ _ _ hrow.out]
        rw [← this]
        simp
      have H3 := Lib.hid (And.intro hg3 hb3); clear hg3 hb3 hq hp
      go_wp2_with fail
      go_region
      go_wp2_with fail
      go_roundg (n - (m + q))
      case measure => omega
      case rel => exact ⟨m + q, by omega, rfl, by first | rfl | go_num, fun _ => by omega, H3.out.1, H3.out.2⟩
    · obtain rfl : m = n := by omega
      have HR := Lib.hid (And.intro hrow.out hbl)
      clear hrow hp
      go_wp2_with fail
      go_ret
      refine ⟨rfl, ?_, HR.out.2⟩
      refine ⟨flat_length _, .inr ⟨w.heap.size, m, (repC v m m).toArray, by rw [List.length_replicate], Nat.le_refl _, HR.out.1, by simp, by simp only [maxLen]; omega, by simp [repC_length v m m (Nat.le_refl _), Flat.sz], ?_⟩⟩
      rw [repC_flat, List.length_replicate, List.take_of_length_le (by simp [flat_length, Flat.sz])]

end Go.Proofs.Ytpkccpegdpodoaa
