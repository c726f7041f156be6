/- KT: Weak8. -/
import Derived.Test.YtdlcooplllimeaaGreatDoorKT26
import Derived.Test.YtdlcooplllimeaaGreatDoorKT28
/- weak: needed things, live things, pairs that are kept; the closed fact 'paired'. -/
namespace Go.Proofs.YtdlcooplllimeaaGreatDoor
open Go.RowKit

theorem rising_ok (l : List Bool) (h : l.length ≤ 1000000) : ∀ x ∈ rising l, Flat.ok x := by
  intro x hx
  obtain ⟨n, rfl, hn⟩ := (mem_rising l x).1 hx
  have := (List.getElem?_eq_some_iff.1 hn).1
  exact (by unfold I64; omega : I64 (n : Int))
/-- the pairs that are kept -/
def keptL (seen : List Bool) (pairs : List (Int × Int)) : List (Int × Int) := pairs.filter fun p => seen.getD p.1.toNat false
theorem keptL_snoc (seen : List Bool) (pairs : List (Int × Int)) (k : Nat) (p : Nat) (y : Int) (h : pairs[k]? = some ((p : Int), y)) (b : Bool) (hb : seen[p]? = some b) : keptL seen (pairs.take (k + 1)) = keptL seen (pairs.take k) ++ if b = true then [((p : Int), y)] else [] := by
  unfold keptL
  rw [take_snoc _ _ _ h, List.filter_append]
  have : seen.getD p false = b := by rw [List.getD_eq_getElem?_getD, hb]; rfl
  cases b <;> simp [this, hb]
theorem keptL_length (seen : List Bool) (pairs : List (Int × Int)) : (keptL seen pairs).length ≤ pairs.length := List.length_filter_le _ _
theorem pair_one : ∀ x : Int × Int, ∀ u ∈ Flat.cells x, u.oneCell' = true := by
  intro x u hu; simp [Flat.cells] at hu; rcases hu with rfl | rfl <;> rfl
theorem infoRPair : (Tryz.prog.info? 50).map (fun i => (i.zero, i.size, i.bytes)) = some (some (.agg #[.int .i64 0, .int .i64 0]), 2, 16) := by kernel_rfl

def NeededPost (has : List (List Int)) (roots : List Int) (w : World) (e : Ending) (w' : World) : Prop :=
  Below w.heap.size w w' ∧ ((grErr has roots = 0 ∧ ∃ A c, e = .returned (.tuple #[.slice A (rising (fromL has roots [])).length c, .int .i64 0]) ∧ Own w' w.heap.size 3 A c (rising (fromL has roots []))) ∨
    (grErr has roots ≠ 0 ∧ e = .returned (.tuple #[.slice none 0 0, .int .i64 (grErr has roots)])))

def LivesPost (has : List (List Int)) (roots : List Int) (pairs : List (Int × Int)) (w : World) (e : Ending) (w' : World) : Prop :=
  Below w.heap.size w w' ∧ ((prErr has roots pairs = 0 ∧ ∃ A c, e = .returned (.tuple #[.slice A (rising (fromL has roots pairs)).length c, .int .i64 0]) ∧ Own w' w.heap.size 3 A c (rising (fromL has roots pairs))) ∨
    (prErr has roots pairs ≠ 0 ∧ ∃ A c, e = .returned (.tuple #[.slice A 0 c, .int .i64 (prErr has roots pairs)])))

theorem fromL_small {has : List (List Int)} {roots : List Int} {pairs : List (Int × Int)} (h : prErr has roots pairs = 0) : has.length ≤ 100 := (grErr_ok (prErr_ok h).1).1

set_option maxHeartbeats 800000 in
set_option maxRecDepth 100000 in
theorem lives_any (B hc rc pc : Nat) (HA RA PA : Option Addr) (has : List (List Int)) (roots : List Int) (pairs : List (Int × Int)) (w : World) (hh : At w B HA has) (hr : At w B RA roots) (hp : At w B PA pairs) (hB : B ≤ w.heap.size) (hl : has.length ≤ 9223372036854775807) (hrl : roots.length ≤ 9223372036854775807) (hpl : pairs.length ≤ 9223372036854775807) (hrc : roots.length ≤ rc ∧ rc ≤ maxLen) :
    Calls Tryz.prog 9 #[.agg #[.slice HA has.length hc, .slice RA roots.length rc], .slice PA pairs.length pc] w (LivesPost has roots pairs w) := by
  have HH := Lib.hid (And.intro hh (And.intro hr hp)); clear hh hr hp
  go_enter Tryz.func9, Tryz.ntmps9
  go_wp2_with fail
  refine calls_world (fun W => Below w.heap.size w W ∧ w.heap.size + 1 ≤ W.heap.size) ⟨(Below.refl _ _).alloc (Nat.le_refl _) _, by simp⟩ ?_
  rintro W ⟨hb0, hs0⟩
  refine (live_any B hc rc pc HA RA PA has roots pairs W (HH.out.1.below (hb0.mono hB)) (HH.out.2.1.below (hb0.mono hB)) (HH.out.2.2.below (hb0.mono hB)) (by omega) hl hrl hpl hrc).mono ?_
  rintro e w1 ⟨hb1, hp⟩
  have hbl1 := hb0.trans (hb1.mono (by omega))
  have hs1 := hb1.size
  rcases hp with ⟨h0, S, c, rfl, hown⟩ | ⟨h0, rfl⟩
  · have hsm := fromL_small h0
    have HO := Lib.hid (And.intro hown h0); clear hown h0
    go_wp2_with fail
    refine (wrising_any S c w1.heap.size has.length (fromL has roots pairs) w1 (fromL_length _ _ _) (HO.out.1.at_ (fun _ _ => trivial)) (Nat.le_refl _) (by omega)).mono ?_
    rintro e w3 ⟨A3, c3, rfl, hown3, hb3⟩
    have HO3 := Lib.hid hown3; clear hown3
    go_wp2_with fail
    go_ret2
    exact ⟨hbl1.trans (hb3.mono (by omega)), .inl ⟨HO.out.2, A3, c3, rfl, HO3.out.base_le (by omega)⟩⟩
  · obtain ⟨pe, hpe⟩ : ∃ pe, prErr has roots pairs = pe := ⟨_, rfl⟩
    rw [hpe] at h0 ⊢
    have HE := Lib.hid (And.intro hpe h0); clear hpe h0
    go_wp2_with fail
    refine (wrising_any none 0 0 0 [] w1 rfl At.nil_ (by omega) (by omega)).mono ?_
    rintro e w3 ⟨A3, c3, rfl, hown3, hb3⟩
    clear hown3
    go_wp2_with fail
    go_ret2
    exact ⟨hbl1.trans (hb3.mono (by omega)), .inr (by rw [HE.out.1]; exact ⟨HE.out.2, A3, c3, rfl⟩)⟩

def KeptPost (has : List (List Int)) (roots : List Int) (pairs : List (Int × Int)) (w : World) (e : Ending) (w' : World) : Prop :=
  Below w.heap.size w w' ∧ ((prErr has roots pairs = 0 ∧ ∃ A c, e = .returned (.tuple #[.slice A (keptL (fromL has roots pairs) pairs).length c, .int .i64 0]) ∧ Own w' w.heap.size 50 A c (keptL (fromL has roots pairs) pairs)) ∨
    (prErr has roots pairs ≠ 0 ∧ e = .returned (.tuple #[.slice none 0 0, .int .i64 (prErr has roots pairs)])))

end Go.Proofs.YtdlcooplllimeaaGreatDoor
