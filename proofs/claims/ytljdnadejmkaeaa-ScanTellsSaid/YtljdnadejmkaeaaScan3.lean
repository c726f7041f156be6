/- scan: the order of spans. -/
import Derived.Test.YtljdnadejmkaeaaSort7
import Derived.Test.YtljdnadejmkaeaaScan2
import Derived.Deep.QuietTactic
namespace Go.Proofs.Ytljdnadejmkaeaa
open Go.RowKit

attribute [local go_sem ↓] Go.wp_at_zero Go.wp_at_succ

set_option maxRecDepth 100000 in
theorem compare_any (x y : Int) (w : World) : Calls Try.prog 80 #[.int .i64 x, .int .i64 y] w fun e w' => e = .returned (.int .i64 (Srt.cmpI x y)) ∧ w = w' := by
  obtain ⟨z, hz⟩ : ∃ z, Srt.cmpI x y = z := ⟨_, rfl⟩
  rw [hz]
  by_cases h0 : x < y
  · have hz1 : z = -1 := by rw [← hz]; unfold Srt.cmpI; rw [if_pos h0]
    subst hz1; clear hz
    go_enter Try.func80, Try.ntmps80
    go_wp2_with fail
    refine (isNaN_any x w).mono ?_
    rintro e w1 ⟨rfl, rfl⟩
    go_wp2_with fail
    refine (isNaN_any y w).mono ?_
    rintro e w1 ⟨rfl, rfl⟩
    go_wp2
    go_ret
    exact ⟨rfl, rfl⟩
  · by_cases h1 : y < x
    · have hz1 : z = 1 := by rw [← hz]; unfold Srt.cmpI; rw [if_neg h0, if_pos h1]
      subst hz1; clear hz
      go_enter Try.func80, Try.ntmps80
      go_wp2_with fail
      refine (isNaN_any x w).mono ?_
      rintro e w1 ⟨rfl, rfl⟩
      go_wp2_with fail
      refine (isNaN_any y w).mono ?_
      rintro e w1 ⟨rfl, rfl⟩
      go_wp2
      go_ret
      exact ⟨rfl, rfl⟩
    · have hz1 : z = 0 := by rw [← hz]; unfold Srt.cmpI; rw [if_neg h0, if_neg h1]
      subst hz1; clear hz
      go_enter Try.func80, Try.ntmps80
      go_wp2_with fail
      refine (isNaN_any x w).mono ?_
      rintro e w1 ⟨rfl, rfl⟩
      go_wp2_with fail
      refine (isNaN_any y w).mono ?_
      rintro e w1 ⟨rfl, rfl⟩
      go_wp2
      go_ret
      exact ⟨rfl, rfl⟩

/-- a span's begin, by its number -/
def frm (l : List (Int × Int)) (x : Int) : Int := (l.getD x.toNat (0, 0)).1

set_option maxRecDepth 100000 in
theorem assign1_any (B LB lc : Nat) (A : Option Addr) (l : List (Int × Int)) (x y : Nat) (w : World) (hc : w.cell? ⟨LB, 0, none⟩ = some (.slice A l.length lc)) (h : At w B A l) (hx : x < l.length) (hy : y < l.length) :
    Calls Try.prog 79 #[.int .i64 x, .int .i64 y, .pointer (some ⟨LB, 0, none⟩)] w fun e w' => e = .returned (.int .i64 (Srt.cmpI (frm l x) (frm l y))) ∧ Below w.heap.size w w' := by
  obtain ⟨b, o, rfl, -, -, -, x0, -⟩ := h.pairD hx
  obtain ⟨b', o', he, -, -, -, y0, -⟩ := h.pairD hy
  injection he with he; injection he with he1 he2; subst he1 he2
  obtain ⟨fx, hfx⟩ : ∃ z, (l.getD x (0, 0)).1 = z := ⟨_, rfl⟩
  obtain ⟨fy, hfy⟩ : ∃ z, (l.getD y (0, 0)).1 = z := ⟨_, rfl⟩
  have e1 : frm l x = fx := by unfold frm; rw [Int.toNat_natCast]; exact hfx
  have e2 : frm l y = fy := by unfold frm; rw [Int.toNat_natCast]; exact hfy
  rw [hfx] at x0
  rw [hfy] at y0
  rw [e1, e2]
  clear e1 e2 hfx hfy h
  go_enter Try.func79, Try.ntmps79
  go_wp2_with fail
  go_quiet ((go_at_call 80; exact Calls.quiet_of_same ((compare_any _ _ _).mono fun _ _ h => ⟨h.1, h.2.symm⟩)))
  go_wp2
  go_ret
  exact ⟨rfl, below_drewN (Below.refl _ _) _⟩

theorem cmpQ_assign1 {B LB lc g : Nat} {A : Option Addr} {l : List (Int × Int)} {order : List Nat} {w : World} (hLB : Blk w LB 74 #[.slice A l.length lc]) (h : At w B A l) (hB : B ≤ g) (hBw : B ≤ w.heap.size) (hne : LB ≠ g) (hb : ∀ k ∈ order, k < l.length) :
    CmpQ Try.prog 79 #[.pointer (some ⟨LB, 0, none⟩)] (frm l) (ints order) (some g) w := by
  intro W x y hx hy hW
  unfold ints at hx hy
  obtain ⟨x', hx', rfl⟩ := List.mem_map.1 hx
  obtain ⟨y', hy', rfl⟩ := List.mem_map.1 hy
  have hLB' := hLB.grown hW (fun e => by injection e with e; exact hne e.symm)
  have hbl : Below B w W := below_grown hW hB hBw
  exact assign1_any B LB lc A l x' y' W (hLB'.cell 0 rfl) (h.below hbl) (hb x' hx') (hb y' hy')

set_option maxRecDepth 100000 in
theorem insertion_nil (fv : Value) (w : World) : Calls Try.prog 143 #[.slice none 0 0, .int .i64 0, .int .i64 0, fv] w fun e w' => e = .returned (.tuple #[]) ∧ w = w' := by
  go_enter Try.func143, Try.ntmps143
  go_wp2_with fail
  go_loopg [8] 1 (fun gk iv wr => gk = 1 ∧ iv = .int .i64 1 ∧ wr = w)
  case atStart => exact ⟨rfl, rfl, rfl⟩
  case round =>
    obtain ⟨rfl, rfl, rfl⟩ := hrel
    go_wp2_with fail
    go_end0
    exact ⟨rfl, rfl⟩

set_option maxRecDepth 100000 in
theorem stable_nil (fv : Value) (w : World) : Calls Try.prog 118 #[.slice none 0 0, .int .i64 0, fv] w fun e w' => e = .returned (.tuple #[]) ∧ w = w' := by
  go_enter Try.func118, Try.ntmps118
  go_wp2_with fail
  go_loopg [7, 8] 1 (fun gk iv jv wr => gk = 1 ∧ iv = .int .i64 0 ∧ jv = .int .i64 20 ∧ Hid (wr = w))
  case atStart => exact ⟨rfl, rfl, rfl, rfl⟩
  case round =>
    obtain ⟨rfl, rfl, rfl, hw⟩ := hrel
    go_wp2_with fail
    refine (insertion_nil fv _).mono ?_
    rintro e w1 ⟨rfl, hw1⟩
    have hww := Lib.hid (hw1.symm.trans hw.out)
    clear hw hw1
    go_wp2_with fail
    go_loopg [6, 7, 8, 9] 1 (fun gk v6 v7 v8 v9 wr' => gk = 1 ∧ v6 = .int .i64 20 ∧ Hid (wr' = w1))
    case atStart => exact ⟨rfl, rfl, rfl⟩
    case round =>
      obtain ⟨rfl, rfl, hw2⟩ := hrel
      go_wp2_with fail
      go_end0
      exact ⟨rfl, (hw2.out.trans hww.out).symm⟩

set_option maxRecDepth 100000 in
theorem sortStable_nil (fv : Value) (w : World) : Calls Try.prog 78 #[.slice none 0 0, fv] w fun e w' => e = .returned (.tuple #[]) ∧ w = w' := by
  go_enter Try.func78, Try.ntmps78
  go_wp2_with fail
  refine (stable_nil fv _).mono ?_
  rintro e w1 ⟨rfl, rfl⟩
  go_wp2_with fail
  go_end0
  exact ⟨rfl, rfl⟩

set_option maxRecDepth 100000 in
theorem sortStable_any (base g c N gf : Nat) (lb : Array Value) (f : Int → Int) (l : List Int) (w : World) (h : Own w base 3 (some ⟨g, 0, none⟩) c l) (hN : l.length = N) (hN5 : N ≤ 1000) (hl : l.Pairwise (· < ·))
    (eg : ∀ args w, (callFunc gf args).run Try.prog w = .ok (.enter gf args) w) (hf : CmpQ Try.prog gf lb f l (some g) w) :
    Calls Try.prog 78 #[.slice (some ⟨g, 0, none⟩) N c, .func (.func gf) #[] lb] w fun e w' => e = .returned (.tuple #[]) ∧ (∃ Z, Z.Perm l ∧ Z.Pairwise (Srt.R f) ∧ Own w' base 3 (some ⟨g, 0, none⟩) c Z) ∧ w.grownBy w' (some g) := by
  have hc := stable_any base g c N gf lb f l w h hN hN5 hl eg hf
  have HC := Lib.hid hc; clear hc h hN hl hf
  go_enter Try.func78, Try.ntmps78
  go_wp2_with fail
  refine HC.out.mono ?_
  rintro e w1 ⟨rfl, hZ, hg⟩
  have HZ := Lib.hid hZ; clear hZ
  go_wp2_with fail
  go_end0
  exact ⟨rfl, HZ.out, hg⟩

end Go.Proofs.Ytljdnadejmkaeaa
