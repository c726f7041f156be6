/- KM: Haul1. -/
import Derived.Test.YtdlcooplllimeaaGreatDoorKM3
import Derived.Test.YtdlcooplllimeaaGreatDoorKT3
import Derived.Test.YtdlcooplllimeaaGreatDoorKT6
import Derived.Test.YtdlcooplllimeaaGreatDoorKT5
import Derived.Maps.OwnOps
import Derived.Deep.DeepMust
import Derived.Deep.LoopGhost
import Derived.Deep.DrawnRows
import Derived.BigQuiet
import Derived.Handy
/- haul: its small functions; the places of objects. -/
namespace Go.Proofs.YtdlcooplllimeaaGreatDoor
open Go.RowKit Go.Maps

attribute [local go_sem ↓] Go.wp_at_zero Go.wp_at_succ

theorem info_partsH {P : Program} {e : TypeId} {z : Value} {s b : Nat} (h : (P.info? e).map (fun i => (i.zero, i.size, i.bytes)) = some (some z, s, b)) : ∃ i, P.info? e = some i ∧ i.zero = some z ∧ i.size = s ∧ i.bytes = b := by
  obtain ⟨i, hi, hz⟩ := Option.map_eq_some_iff.1 h
  simp only [Prod.mk.injEq] at hz
  exact ⟨i, hi, hz.1, hz.2.1, hz.2.2⟩
theorem infoIntH : (Tryz.prog.info? 3).map (fun i => (i.zero, i.size, i.bytes)) = some (some (.int .i64 0), 1, 8) := by kernel_rfl
theorem infoU64H : (Tryz.prog.info? 73).map (fun i => (i.zero, i.size, i.bytes)) = some (some (.int .u64 0), 1, 8) := by kernel_rfl
theorem infoRMoveH : (Tryz.prog.info? 64).map (fun i => (i.zero, i.size, i.bytes)) = some (some (.agg #[.int .i64 0, .int .i64 0]), 2, 16) := by kernel_rfl
theorem int_oneH : ∀ x : Int, ∀ u ∈ Flat.cells x, u.oneCell' = true := by
  intro x u hu; simp [Flat.cells] at hu; subst hu; rfl
theorem u64_oneH : ∀ x : U64, ∀ u ∈ Flat.cells x, u.oneCell' = true := by
  intro x u hu; simp [Flat.cells] at hu; subst hu; rfl
theorem pair_oneH : ∀ x : Int × Int, ∀ u ∈ Flat.cells x, u.oneCell' = true := by
  intro x u hu; simp [Flat.cells] at hu; rcases hu with rfl | rfl <;> rfl
theorem At.u64H {w : World} {B : Nat} {A : Option Addr} {l : List U64} {k : Nat} (h : At w B A l) (hk : k < l.length) :
    ∃ b o, A = some ⟨b, o, none⟩ ∧ b < B ∧ Flat.ok (Hau.wat l k) ∧ w.cell? ⟨b, o + k, none⟩ = some (.int .u64 (Hau.wat l k).val) := by
  obtain ⟨x, hx⟩ : ∃ x, l[k]? = some x := ⟨_, List.getElem?_eq_getElem hk⟩
  obtain ⟨b, o, cs, rfl, hb, hc, rfl, hok⟩ := h k x hx
  have h0 := hc 0 _ rfl
  have e : Hau.wat l k = x := by unfold Hau.wat; rw [List.getD_eq_getElem?_getD, hx]; rfl
  rw [e]
  simp only [Enc.sz, Flat.sz, Nat.mul_one, Nat.add_zero] at h0
  exact ⟨b, o, rfl, hb, hok, h0⟩
theorem At.intH {w : World} {B : Nat} {A : Option Addr} {l : List Nat} {k j : Nat} (h : At w B A (ints l)) (hj : l[k]? = some j) :
    ∃ b o, A = some ⟨b, o, none⟩ ∧ b < B ∧ w.cell? ⟨b, o + k, none⟩ = some (.int .i64 j) := by
  have hx : (ints l)[k]? = some (j : Int) := by unfold ints; rw [List.getElem?_map, hj]; rfl
  obtain ⟨b, o, cs, rfl, hb, hc, rfl, hok⟩ := h k _ hx
  have h0 := hc 0 _ rfl
  simp only [Enc.sz, Flat.sz, Nat.mul_one, Nat.add_zero] at h0
  exact ⟨b, o, rfl, hb, h0⟩

theorem Hau.unb5 {x n : Int} (_hx : 0 ≤ x) (h : unbL x = some (5, n)) : 0 ≤ n ∧ n < 4294967296 := by
  unfold unbL at h
  split at h
  · split at h
    · cases h
    · injection h with h; injection h with h1 h2; omega
  · split at h
    · injection h with h; injection h with h1 h2
      unfold numL at h2
      rw [h1] at h2
      simp only [show ¬ (5 : Int) = 2 by decide, if_false] at h2
      omega
    · cases h

set_option maxRecDepth 100000 in
theorem hlong_any (x : U64) (w : World) (hx : Flat.ok x) : Calls Tryz.prog 29 #[.int .u64 x.val] w fun e w' => e = .returned (.int .i64 (Hau.lg x)) ∧ w' = w := by
  obtain ⟨h0, h1⟩ : 0 ≤ x.val ∧ x.val ≤ 18446744073709551615 := hx
  have e1 : IntKind.u32.wrap x.val = x.val % 4294967296 := by rw [IntKind.wrap_u32]
  have e2 : IntKind.i64.wrap (x.val % 4294967296) = x.val % 4294967296 := IntWalk.i64_in _ (by omega)
  have e3 : x.val % 4294967296 = ((Hau.lg x : Nat) : Int) := by unfold Hau.lg; omega
  rw [e3] at e1 e2
  go_enter Tryz.func29, Tryz.ntmps29
  go_wp2_with fail
  go_returns
  exact ⟨rfl, rfl⟩

set_option maxRecDepth 100000 in
theorem place_any (x : U64) (w : World) (hx : Flat.ok x) : Calls Tryz.prog 65 #[.int .u64 x.val] w fun e w' => ∃ n : Int, e = .returned (.tuple #[.int .i64 n, .bool (Hau.refOf x).isSome]) ∧ (∀ p, Hau.refOf x = some p → n = (p : Int)) ∧ Below w.heap.size w w' := by
  go_enter Tryz.func65, Tryz.ntmps65
  go_wp2_with fail
  refine (unbox_any x.val _ hx).mono ?_
  rintro e w1 ⟨hb, hp⟩
  have hs := hb.size
  rcases hp with ⟨k, n, hu, rfl⟩ | ⟨hu, rfl⟩
  · have hr : Hau.refOf x = if k = 5 then some n.toNat else none := by unfold Hau.refOf; rw [hu]
    obtain ⟨r, hrr⟩ : ∃ r, Hau.refOf x = r := ⟨_, rfl⟩
    have hn5 : k = 5 → 0 ≤ n := fun h => (Hau.unb5 hx.1 (by rw [hu, h])).1
    rw [hrr] at hr
    have HR := Lib.hid (And.intro hrr (And.intro hr hn5)); clear hrr hr hn5 hu
    go_wp2_with fail
    refine wp_world (fun W => Blk W w1.heap.size 48 #[.int .i64 k, .int .i64 n] ∧ Below w.heap.size w W) ⟨Blk.new _ _ _, hb.alloc hs _⟩ ?_
    rintro W ⟨hW1, hW2⟩
    have b0 := hW1.cell 0 (v := .int .i64 k) rfl
    have b1 := hW1.cell 1 (v := .int .i64 n) rfl
    clear hW1
    by_cases hk : k = 5
    · have hd : (k == 5) = true := by simpa using hk
      have hres : r = some n.toNat := by rw [HR.out.2.1, if_pos hk]
      have hn := HR.out.2.2 hk
      have HX := Lib.hid (And.intro hres hn); clear hres hn hk
      refine wp_region_held_drew (S := (fun w' => w'.cell? ⟨w1.heap.size, 0, none⟩ = some (.int .i64 k) ∧ w'.cell? ⟨w1.heap.size, 1, none⟩ = some (.int .i64 n))) (by kernel_rfl) ?_ (fun hHeld0 => ?_)
      · first | trivial | ((try dsimp only); (exact ⟨b0, b1⟩))
      refine htk 0 rfl ?_
      try go_frame
      refine htk 1 rfl ?_
      try go_frame
      refine htk 2 rfl ?_
      try go_frame
      refine htk 3 rfl ?_
      try go_frame
      refine htk 4 rfl ?_
      try go_frame
      refine htk 5 rfl ?_
      try go_frame
      refine htk 6 rfl ?_
      try go_frame
      refine htk 7 rfl ?_
      try go_frame
      refine htk 8 rfl ?_
      try go_frame
      refine htk 9 rfl ?_
      try go_frame
      refine htk 10 rfl ?_
      try go_frame
      refine wpAnyH_done (by kernel_rfl) ?_ _
      go_wp2_with fail
      go_returns
      exact ⟨n, by rw [HR.out.1, HX.out.1]; rfl, fun p hp => by rw [HR.out.1, HX.out.1] at hp; injection hp with hp; have := HX.out.2; omega, hW2.drew⟩
    · have hd : (k == 5) = false := by simpa using hk
      have hres : r = none := by rw [HR.out.2.1, if_neg hk]
      have HX := Lib.hid hres; clear hres hk
      refine wp_region_held_drew (S := (fun w' => w'.cell? ⟨w1.heap.size, 0, none⟩ = some (.int .i64 k) ∧ w'.cell? ⟨w1.heap.size, 1, none⟩ = some (.int .i64 n))) (by kernel_rfl) ?_ (fun hHeld0 => ?_)
      · first | trivial | ((try dsimp only); (exact ⟨b0, b1⟩))
      refine htk 0 rfl ?_
      try go_frame
      refine htk 1 rfl ?_
      try go_frame
      refine htk 2 rfl ?_
      try go_frame
      refine htk 3 rfl ?_
      try go_frame
      refine htk 4 rfl ?_
      try go_frame
      refine htk 5 rfl ?_
      try go_frame
      refine htk 6 rfl ?_
      try go_frame
      refine htk 7 rfl ?_
      try go_frame
      refine htk 8 rfl ?_
      try go_frame
      refine htk 9 rfl ?_
      try go_frame
      refine htk 10 rfl ?_
      try go_frame
      refine wpAnyH_done (by kernel_rfl) ?_ _
      go_wp2_with fail
      go_returns
      exact ⟨n, by rw [HR.out.1, HX.out]; rfl, (fun p hp => by rw [HR.out.1, HX.out] at hp; cases hp), hW2.drew⟩
  · have hr : Hau.refOf x = none := by unfold Hau.refOf; rw [hu]
    have HR := Lib.hid hr; clear hr hu
    go_wp2_with fail
    refine wp_world (fun W => Blk W w1.heap.size 48 #[.int .i64 0, .int .i64 0] ∧ Below w.heap.size w W) ⟨Blk.new _ _ _, hb.alloc hs _⟩ ?_
    rintro W ⟨hW1, hW2⟩
    have b1 := hW1.cell 1 (v := .int .i64 0) rfl
    clear hW1
    refine wp_region_held_drew (S := (fun w' => w'.cell? ⟨w1.heap.size, 1, none⟩ = some (.int .i64 0))) (by kernel_rfl) ?_ (fun hHeld0 => ?_)
    · first | trivial | ((try dsimp only); (exact b1))
    refine htk 0 rfl ?_
    try go_frame
    refine htk 1 rfl ?_
    try go_frame
    refine htk 2 rfl ?_
    try go_frame
    refine htk 3 rfl ?_
    try go_frame
    refine htk 4 rfl ?_
    try go_frame
    refine hsk 5 rfl ?_
    try go_frame
    refine hsk 6 rfl ?_
    try go_frame
    refine hsk 7 rfl ?_
    try go_frame
    refine htk 8 rfl ?_
    try go_frame
    refine htk 9 rfl ?_
    try go_frame
    refine htk 10 rfl ?_
    try go_frame
    refine wpAnyH_done (by kernel_rfl) ?_ _
    go_wp2_with fail
    go_returns
    exact ⟨0, by rw [HR.out]; rfl, (fun p hp => by rw [HR.out] at hp; cases hp), hW2.drew⟩

theorem lawIntH : Keyed Tryz.prog 3 := int_keyed Tryz.underlying3
theorem zeroUnitH (w : World) : (zeroValue 152).run Tryz.prog w = .ok (.agg #[]) w := by kernel_rfl
theorem zeroIntH (w : World) : (zeroValue 3).run Tryz.prog w = .ok (.int .i64 0) w := by kernel_rfl
theorem wf_i64H {x : Int} (h : I64 x) : (Lit.int .i64 x).wf = true := by
  obtain ⟨h1, h2⟩ := h
  simp [Lit.wf, IntKind.min, IntKind.max, IntKind.signed, IntKind.bits]; omega
theorem Hau.ref_lt {x : U64} (hx : Flat.ok x) {p : Nat} (h : Hau.refOf x = some p) : p < 4294967296 := by
  unfold Hau.refOf at h
  split at h
  · rename_i k n hu
    split at h
    · rename_i hk
      subst hk
      have := Hau.unb5 hx.1 hu
      injection h with h
      omega
    · cases h
  · cases h
theorem Hau.kind_nonneg {x : Int} {k n : Int} (hu : unbL x = some (k, n)) : ¬ k < 0 := by
  unfold unbL at hu
  split at hu
  · split at hu
    · cases hu
    · injection hu with hu; injection hu with h1 h2; omega
  · split at hu
    · injection hu with hu; injection hu with h1 h2
      unfold kindL at h1
      split at h1 <;> omega
    · cases hu
/-- fits, by what place and Kind tell -/
theorem Hau.fits_eq (pl : List Nat) (x : U64) : Hau.fits pl x = if kindOf x.val < 0 then false else match Hau.refOf x with | none => true | some p => pl.contains p := by
  unfold Hau.fits kindOf Hau.refOf
  cases hu : unbL x.val with
  | none => simp
  | some kn =>
    obtain ⟨k, n⟩ := kn
    have hk0 : ¬ k < 0 := Hau.kind_nonneg hu
    simp only
    rw [if_neg hk0]
    by_cases hk : k = 5
    · simp [hk]
    · simp [hk]

set_option maxHeartbeats 800000 in
set_option maxRecDepth 100000 in
theorem right_any (x : U64) (M N : Nat) (pl : List Nat) (w : World) (hx : Flat.ok x) (hown : w.ownsMap Tryz.prog 3 unitElem M N (setI (ints pl))) :
    Calls Tryz.prog 64 #[.int .u64 x.val, .map (some M)] w fun e w' => e = .returned (.bool (Hau.fits pl x)) ∧ Below w.heap.size w w' := by
  obtain ⟨q, hq⟩ : ∃ q, Hau.fits pl x = q := ⟨_, rfl⟩
  have hfe := Hau.fits_eq pl x
  rw [hq] at hfe
  rw [hq]
  have H := Lib.hid (And.intro hown (And.intro hfe hx)); clear hown hfe hq
  obtain ⟨kk, hkk⟩ : ∃ k, kindOf x.val = k := ⟨_, rfl⟩
  have hkc := fun W => kind_any x.val W H.out.2.2
  rw [hkk] at hkc
  have HK := Lib.hid (And.intro hkc hkk); clear hkc hkk hx
  go_enter Tryz.func64, Tryz.ntmps64
  go_wp2_with fail
  refine (HK.out.1 w).mono ?_
  rintro e w1 ⟨rfl, hb1⟩
  have hs1 := hb1.size
  by_cases hk0 : kk < 0
  · have hd : decide (kk < 0) = true := by simpa using hk0
    have hq : q = false := by rw [H.out.2.1, HK.out.2, if_pos hk0]
    subst hq
    go_wp2_with fail
    go_returns
    exact ⟨rfl, hb1⟩
  · have hd : decide (kk < 0) = false := by simpa using hk0
    have hq : q = match Hau.refOf x with | none => true | some p => pl.contains p := by rw [H.out.2.1, HK.out.2, if_neg hk0]
    have HQ := Lib.hid hq; clear hq hk0
    go_wp2_with fail
    refine (place_any x w1 H.out.2.2).mono ?_
    rintro e w2 ⟨n, rfl, hn, hb2⟩
    have hs2 := hb2.size
    have hb12 : Below w.heap.size w w2 := hb1.trans (hb2.mono hs1)
    cases hr : Hau.refOf x with
    | none =>
      have hq := HQ.out
      rw [hr] at hq
      have hq : q = true := hq
      subst hq
      rw [hr] at *
      have HN := Lib.hid hn; clear hn hr
      go_wp2_with fail
      go_returns
      exact ⟨rfl, hb12⟩
    | some p =>
      have hq := HQ.out
      rw [hr] at hq
      have hq : q = pl.contains p := hq
      have hnp := hn p hr
      subst hnp
      have hpl := Hau.ref_lt H.out.2.2 hr
      have hown2 := (H.out.1.kept (grownBy_below none hb1) (by simp)).kept (grownBy_below none hb2) (by simp)
      have hkey : keyOf Tryz.prog 3 (.int .i64 (p : Int)) = some (.int .i64 (p : Int)) := keyOf_int_mk Tryz.underlying3 (wf_i64H ⟨by omega, by omega⟩)
      have hh : Maps.has (setI (ints pl)) (.int .i64 (p : Int)) = q := by rw [has_setI, ints_contains, hq]
      have HO := Lib.hid (And.intro hown2 hkey); clear hown2 hkey hq
      simp only [Option.isSome_some]
      clear hn hr
      go_wp2_with (first | (at_lookup; refine wpList_lookup_own_unit _ rfl _ _ 151 rfl 3 152 lawIntH Tryz.underlying151 (zeroUnitH _) M N _ rfl HO.out.1 _ _ rfl HO.out.2 ?_) | fail)
      go_returns
      exact ⟨rfl, hb12.alloc (by omega) _⟩

end Go.Proofs.YtdlcooplllimeaaGreatDoor
