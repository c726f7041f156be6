/- RF: Mov1. -/
import Derived.Test.YtljdnadejmkaeaaRF10
import Derived.Test.YtljdnadejmkaeaaRF16
import Derived.Deep.LoopGhost
/- moves: the small functions: what is wrong with a list of moves; the first one that may be done. -/
namespace Go.Proofs.Ytljdnadejmkaeaa
open Go.RowKit

theorem At.take_ {α : Type} [Enc α] {w : World} {B : Nat} {A : Option Addr} {l : List α} (h : At w B A l) (k : Nat) : At w B A (l.take k) := fun i x hx => h i x (by
  rw [List.getElem?_take] at hx
  split at hx
  · exact hx
  · cases hx)

theorem containsRMove_n (A : Option Addr) (c B g n : Nat) (lb : Array Value) (p : Int × Int → Bool) (l : List (Int × Int)) (w : World) (hn : l.length = n) (h : At w B A l) (hB : B ≤ w.heap.size) (hl : n ≤ 9223372036854775807)
    (eg : ∀ args w, (callFunc g args).run Try.prog w = .ok (.enter g args) w) (hp : PredP Try.prog g lb p l w) :
    Calls Try.prog 102 #[.slice A n c, .func (.func g) #[] lb] w fun e w' => e = .returned (.bool (l.any p)) ∧ Below w.heap.size w w' := by
  subst hn; exact containsFuncRMove_any A c B g lb p l w h hB hl eg hp
theorem indexRMove_n (A : Option Addr) (c B g n : Nat) (lb : Array Value) (p : Int × Int → Bool) (l : List (Int × Int)) (w : World) (hn : l.length = n) (h : At w B A l) (hB : B ≤ w.heap.size) (hl : n ≤ 9223372036854775807)
    (eg : ∀ args w, (callFunc g args).run Try.prog w = .ok (.enter g args) w) (hp : PredP Try.prog g lb p l w) :
    Calls Try.prog 105 #[.slice A n c, .func (.func g) #[] lb] w fun e w' => e = .returned (.int .i64 (idxI p l)) ∧ Below w.heap.size w w' := by
  subst hn; exact indexFuncRMove_any A c B g lb p l w h hB hl eg hp

theorem ret_i64 {a b : Int} (h : a = b) : Ending.returned (.int .i64 a) = .returned (.int .i64 b) := by rw [h]

theorem predChk1 (M : Nat) (m : Int × Int) (l : List (Int × Int)) (w : World) (hM : Blk w M 62 #[.int .i64 m.1, .int .i64 m.2]) : PredP Try.prog 103 #[.pointer (some ⟨M, 0, none⟩)] (fun y => decide (y.1 = m.1)) l w := by
  rintro W ⟨x, y⟩ _ _ hb
  change Calls Try.prog 103 #[.agg #[.int .i64 x, .int .i64 y], .pointer (some ⟨M, 0, none⟩)] W _
  have c0 := (hM.fresh hb).cell 0 (v := .int .i64 m.1) rfl
  have hlt := hM.lt
  have hs := hb.size
  have hlt2 : M < W.heap.size := by omega
  go_enter Try.func103, Try.ntmps103
  go_wp2
  go_ret
  exact ⟨ret_bool (by rw [Bool.eq_iff_iff]; simp), (Below.refl _ _).alloc (Nat.le_refl _) _⟩

theorem predChk2 (M : Nat) (spare : Int) (l : List (Int × Int)) (w : World) (hM : Blk w M 3 #[.int .i64 spare]) : PredP Try.prog 104 #[.pointer (some ⟨M, 0, none⟩)] (fun m => decide (m.1 = spare) || decide (m.2 = spare)) l w := by
  rintro W ⟨x, y⟩ _ _ hb
  change Calls Try.prog 104 #[.agg #[.int .i64 x, .int .i64 y], .pointer (some ⟨M, 0, none⟩)] W _
  have c0 := (hM.fresh hb).cell 0 (v := .int .i64 spare) rfl
  have hlt := hM.lt
  have hs := hb.size
  have hlt2 : M < W.heap.size := by omega
  by_cases h1 : x = spare
  · have h1' : (x == spare) = true := by simpa using h1
    have H := Lib.hid h1; clear h1
    go_enter Try.func104, Try.ntmps104
    go_wp2
    go_ret
    exact ⟨ret_bool (by simp [H.out]), (Below.refl _ _).alloc (Nat.le_refl _) _⟩
  · have h1' : (x == spare) = false := by simpa using h1
    have H := Lib.hid h1; clear h1
    go_enter Try.func104, Try.ntmps104
    go_wp2
    go_ret
    exact ⟨ret_bool (by rw [Bool.eq_iff_iff]; simp [H.out]), (Below.refl _ _).alloc (Nat.le_refl _) _⟩

theorem egOf1 : ∀ args w, (callFunc 103 args).run Try.prog w = .ok (.enter 103 args) w := fun _ _ => by kernel_rfl
theorem egOf2 : ∀ args w, (callFunc 104 args).run Try.prog w = .ok (.enter 104 args) w := fun _ _ => by kernel_rfl

set_option maxHeartbeats 800000 in
set_option maxRecDepth 100000 in
theorem mcheck_any (A : Option Addr) (c B : Nat) (l : List (Int × Int)) (spare : Int) (w : World) (h : At w B A l) (hB : B ≤ w.heap.size) (hl : l.length ≤ 9223372036854775807) (hc : l.length ≤ c) :
    Calls Try.prog 51 #[.slice A l.length c, .int .i64 spare] w fun e w' => e = .returned (.int .i64 (mvErr l spare)) ∧ Below w.heap.size w w' := by
  by_cases h60 : 60 < l.length
  · have he : mvErr l spare = 2 := by unfold mvErr; rw [if_pos h60]
    rw [he]; clear he h
    go_enter Try.func51, Try.ntmps51
    go_wp2
    go_ret
    exact ⟨rfl, (Below.refl _ _).alloc (Nat.le_refl _) _⟩
  have H := Lib.hid h; clear h
  go_enter Try.func51, Try.ntmps51
  go_wp2
  refine wp_world (fun W => Blk W w.heap.size 3 #[.int .i64 spare] ∧ Below w.heap.size w W ∧ w.heap.size + 1 ≤ W.heap.size) ⟨Blk.new _ _ _, (Below.refl _ _).alloc (Nat.le_refl _) _, by simp⟩ ?_
  rintro W0 ⟨hS, hb0, hs0⟩
  go_loopw [12] (fun i wr => ∃ k : Nat, k ≤ l.length ∧ i = .int .i64 k ∧ Hid (noTwice (l.take k) = true ∧ Blk wr w.heap.size 3 #[.int .i64 spare]) ∧ Below w.heap.size w wr ∧ w.heap.size + 1 ≤ wr.heap.size) (fun i _ => l.length - (intOf i).toNat)
  case atStart => exact ⟨0, Nat.zero_le _, rfl, ⟨by simp [noTwice], hS⟩, hb0, hs0⟩
  case round =>
    obtain ⟨k, hk, rfl, hkeep, hbl, hsz⟩ := hrel
    clear hS hb0
    by_cases hlt : k < l.length
    · have hat := H.out.below (hbl.mono hB)
      obtain ⟨b, o, x, y, rfl, hb, hx, -, -, g0, g1⟩ := hat.pair hlt
      have HX := Lib.hid hx; clear hx
      have HA := Lib.hid hat; clear hat
      have hle : k ≤ l.length := hk
      have hkc : k ≤ c := by omega
      go_wp2_with fail
      refine calls_world (fun W => Blk W wr.heap.size 62 #[.int .i64 x, .int .i64 y] ∧ Below wr.heap.size wr W ∧ wr.heap.size + 1 ≤ W.heap.size) ⟨Blk.new _ _ _, (Below.refl _ _).alloc (Nat.le_refl _) _, by simp⟩ ?_
      rintro W1 ⟨hM, hb1, hs1⟩
      have hct := containsRMove_n (some ⟨b, o, none⟩) c B 103 k #[.pointer (some ⟨wr.heap.size, 0, none⟩)] _ (l.take k) W1 (by rw [List.length_take]; omega) ((HA.out.below (hb1.mono (by omega))).take_ k) (by omega) (by omega) egOf1 (predChk1 wr.heap.size (x, y) _ _ hM)
      cases hq : (l.take k).any (fun z => decide (z.1 = (x, y).1)) with
      | true =>
        rw [hq] at hct
        have HC := Lib.hid hct; clear hct
        have he : mvErr l spare = 6 := by unfold mvErr; rw [if_neg h60, if_pos (noTwice_stop l k _ HX.out hq)]
        have HE := Lib.hid he; clear he hq hM
        refine HC.out.mono ?_
        rintro e w1 ⟨rfl, hb2⟩
        go_wp2_with fail
        go_ret
        exact ⟨ret_i64 HE.out.symm, hbl.trans ((hb1.mono (by omega)).trans (hb2.mono (by omega)))⟩
      | false =>
        rw [hq] at hct
        have HC := Lib.hid hct; clear hct
        have HQ := Lib.hid hq; clear hq hM
        refine HC.out.mono ?_
        rintro e w1 ⟨rfl, hb2⟩
        go_wp2_with fail
        go_roundw
        case rel => exact ⟨k + 1, by omega, by go_num, ⟨noTwice_snoc l k _ HX.out hkeep.out.1 HQ.out, (hkeep.out.2.fresh hb1).fresh hb2⟩, hbl.trans ((hb1.mono (by omega)).trans (hb2.mono (by omega))), by have := hb2.size; omega⟩
        case measure => simp [intOf]; omega
    · have hat := H.out.below (hbl.mono hB)
      have hk2 := hkeep.out.1
      rw [List.take_of_length_le (by omega)] at hk2
      have HA := Lib.hid hat; clear hat
      have HN := Lib.hid hk2; clear hk2
      go_wp2_with fail
      have hct := containsRMove_n A c B 104 l.length #[.pointer (some ⟨w.heap.size, 0, none⟩)] _ l wr rfl HA.out (by omega) (by omega) egOf2 (predChk2 w.heap.size spare _ _ hkeep.out.2)
      cases hq : l.any (fun m => decide (m.1 = spare) || decide (m.2 = spare)) with
      | true =>
        rw [hq] at hct
        have HC := Lib.hid hct; clear hct
        have he : mvErr l spare = 1 := by unfold mvErr; rw [if_neg h60, if_neg (by simp [HN.out]), if_pos hq]
        have HE := Lib.hid he; clear he hq
        refine HC.out.mono ?_
        rintro e w1 ⟨rfl, hb2⟩
        go_wp2_with fail
        go_ret
        exact ⟨ret_i64 HE.out.symm, hbl.trans (hb2.mono (by omega))⟩
      | false =>
        rw [hq] at hct
        have HC := Lib.hid hct; clear hct
        have he : mvErr l spare = 0 := by unfold mvErr; rw [if_neg h60, if_neg (by simp [HN.out]), if_neg (by simp [hq])]
        have HE := Lib.hid he; clear he hq
        refine HC.out.mono ?_
        rintro e w1 ⟨rfl, hb2⟩
        go_wp2_with fail
        go_ret
        exact ⟨ret_i64 HE.out.symm, hbl.trans (hb2.mono (by omega))⟩

end Go.Proofs.Ytljdnadejmkaeaa
