/- weak: needed things, live things, pairs that are kept; the closed fact 'paired'. -/
import Derived.Test.YtpkccpegdpodoaaWeak7
import Derived.Test.YtpkccpegdpodoaaWeak4
namespace Go.Proofs.Ytpkccpegdpodoaa
open Go.RowKit

theorem rising_ok (l : List Bool) (h : l.length ≤ 1000000) : ∀ x ∈ rising l, Flat.ok x := by
  intro x hx
  obtain ⟨n, rfl, hn⟩ := (mem_rising l x).1 hx
  have := (List.getElem?_eq_some_iff.1 hn).1
  exact (by unfold I64; omega : I64 (n : Int))
/-- the pairs that are kept -/
def keptL (seen : List Bool) (pairs : List (Int × Int)) : List (Int × Int) := pairs.filter fun p => seen.getD p.1.toNat false
theorem keptL_snoc (seen : List Bool) (pairs : List (Int × Int)) (k : Nat) (p : Nat) (y : Int) (h : pairs[k]? = some ((p : Int), y)) (b : Bool) (hb : seen[p]? = some b) : keptL seen (pairs.take (k + 1)) = keptL seen (pairs.take k) ++ if b = true then [((p : Int), y)] else [] := by
  unfold keptL
  rw [take_snoc _ _ _ h, List.filter_append]
  have : seen.getD p false = b := by rw [List.getD_eq_getElem?_getD, hb]; rfl
  cases b <;> simp [this, hb]
theorem keptL_length (seen : List Bool) (pairs : List (Int × Int)) : (keptL seen pairs).length ≤ pairs.length := List.length_filter_le _ _
theorem pair_one : ∀ x : Int × Int, ∀ u ∈ Flat.cells x, u.oneCell' = true := by
  intro x u hu; simp [Flat.cells] at hu; rcases hu with rfl | rfl <;> rfl
theorem infoRPair : (Try.prog.info? 63).map (fun i => (i.zero, i.size, i.bytes)) = some (some (.agg #[.int .i64 0, .int .i64 0]), 2, 16) := by kernel_rfl

def NeededPost (has : List (List Int)) (roots : List Int) (w : World) (e : Ending) (w' : World) : Prop :=
  Below w.heap.size w w' ∧ ((grErr has roots = 0 ∧ ∃ A c, e = .returned (.tuple #[.slice A (rising (fromL has roots [])).length c, .int .i64 0]) ∧ Own w' w.heap.size 3 A c (rising (fromL has roots []))) ∨
    (grErr has roots ≠ 0 ∧ e = .returned (.tuple #[.slice none 0 0, .int .i64 (grErr has roots)])))

set_option maxHeartbeats 800000 in
set_option maxRecDepth 100000 in
theorem needed_any (B hc rc : Nat) (HA RA : Option Addr) (has : List (List Int)) (roots : List Int) (w : World) (hh : At w B HA has) (hr : At w B RA roots) (hB : B ≤ w.heap.size) (hl : has.length ≤ 9223372036854775807) (hrl : roots.length ≤ 9223372036854775807) (hrc : roots.length ≤ rc ∧ rc ≤ maxLen) :
    Calls Try.prog 26 #[.agg #[.slice HA has.length hc, .slice RA roots.length rc]] w (NeededPost has roots w) := by
  have HH := Lib.hid (And.intro hh hr); clear hh hr
  go_enter Try.func26, Try.ntmps26
  go_wp2_with fail
  refine calls_world (fun W => Blk W w.heap.size 49 #[.slice HA has.length hc, .slice RA roots.length rc] ∧ Below w.heap.size w W ∧ w.heap.size + 1 ≤ W.heap.size) ⟨Blk.new _ _ _, (Below.refl _ _).alloc (Nat.le_refl _) _, by simp⟩ ?_
  rintro W ⟨hG, hb0, hs0⟩
  refine (wcheck_any B hc rc HA RA has roots W (HH.out.1.below (hb0.mono hB)) (HH.out.2.below (hb0.mono hB)) (by omega) hl hrl hrc).mono ?_
  rintro e w1 ⟨rfl, hb1⟩
  have hbl1 := hb0.trans (hb1.mono (by omega))
  have hs1 := hb1.size
  have hG1 := hG.fresh hb1
  have g0 := hG1.cell 0 (v := .slice HA has.length hc) rfl
  have g1 := hG1.cell 1 (v := .slice RA roots.length rc) rfl
  clear hG hG1
  obtain ⟨ge, hge⟩ : ∃ ge, grErr has roots = ge := ⟨_, rfl⟩
  rw [hge]
  by_cases h0 : ge = 0
  rotate_left
  · have hne : (ge != 0) = true := by simp [h0]
    have HE := Lib.hid (And.intro hge h0); clear hge h0
    go_wp2_with fail
    go_ret2
    exact ⟨hbl1, .inr (by rw [HE.out.1]; exact ⟨HE.out.2, rfl⟩)⟩
  subst h0
  obtain ⟨gl, grl, ghl, gright, gsrc⟩ := grErr_ok hge
  have HG := Lib.hid (And.intro gright (And.intro gsrc (And.intro ghl hge))); clear gright gsrc ghl hge
  go_wp2_with fail
  refine (wfrom_any B hc rc rc roots.length HA RA RA has roots w1 (HH.out.1.below (hbl1.mono hB)) (HH.out.2.below (hbl1.mono hB)) (by omega) HG.out.1 HG.out.2.1 gl (by omega) HG.out.2.2.1).mono ?_
  rintro e w2 ⟨S, c, rfl, hown2, hb2⟩
  have hs2 := hb2.size
  have HO := Lib.hid hown2; clear hown2 g0 g1
  go_wp2_with fail
  refine (wrising_any S c w2.heap.size has.length (fromL has roots []) w2 (fromL_length _ _ _) (HO.out.at_ (fun _ _ => trivial)) (Nat.le_refl _) (by omega)).mono ?_
  rintro e w3 ⟨A3, c3, rfl, hown3, hb3⟩
  have HO3 := Lib.hid hown3; clear hown3
  go_wp2_with fail
  go_ret2
  exact ⟨hbl1.trans ((hb2.mono (by omega)).trans (hb3.mono (by omega))), .inl ⟨HG.out.2.2.2, A3, c3, rfl, HO3.out.base_le (by omega)⟩⟩

def LivesPost (has : List (List Int)) (roots : List Int) (pairs : List (Int × Int)) (w : World) (e : Ending) (w' : World) : Prop :=
  Below w.heap.size w w' ∧ ((prErr has roots pairs = 0 ∧ ∃ A c, e = .returned (.tuple #[.slice A (rising (fromL has roots pairs)).length c, .int .i64 0]) ∧ Own w' w.heap.size 3 A c (rising (fromL has roots pairs))) ∨
    (prErr has roots pairs ≠ 0 ∧ ∃ A c, e = .returned (.tuple #[.slice A 0 c, .int .i64 (prErr has roots pairs)])))

theorem fromL_small {has : List (List Int)} {roots : List Int} {pairs : List (Int × Int)} (h : prErr has roots pairs = 0) : has.length ≤ 100 := (grErr_ok (prErr_ok h).1).1

set_option maxHeartbeats 800000 in
set_option maxRecDepth 100000 in
theorem lives_any (B hc rc pc : Nat) (HA RA PA : Option Addr) (has : List (List Int)) (roots : List Int) (pairs : List (Int × Int)) (w : World) (hh : At w B HA has) (hr : At w B RA roots) (hp : At w B PA pairs) (hB : B ≤ w.heap.size) (hl : has.length ≤ 9223372036854775807) (hrl : roots.length ≤ 9223372036854775807) (hpl : pairs.length ≤ 9223372036854775807) (hrc : roots.length ≤ rc ∧ rc ≤ maxLen) :
    Calls Try.prog 27 #[.agg #[.slice HA has.length hc, .slice RA roots.length rc], .slice PA pairs.length pc] w (LivesPost has roots pairs w) := by
  have HH := Lib.hid (And.intro hh (And.intro hr hp)); clear hh hr hp
  go_enter Try.func27, Try.ntmps27
  go_wp2_with fail
  refine calls_world (fun W => Below w.heap.size w W ∧ w.heap.size + 1 ≤ W.heap.size) ⟨(Below.refl _ _).alloc (Nat.le_refl _) _, by simp⟩ ?_
  rintro W ⟨hb0, hs0⟩
  refine (live_any B hc rc pc HA RA PA has roots pairs W (HH.out.1.below (hb0.mono hB)) (HH.out.2.1.below (hb0.mono hB)) (HH.out.2.2.below (hb0.mono hB)) (by omega) hl hrl hpl hrc).mono ?_
  rintro e w1 ⟨hb1, hp⟩
  have hbl1 := hb0.trans (hb1.mono (by omega))
  have hs1 := hb1.size
  rcases hp with ⟨h0, S, c, rfl, hown⟩ | ⟨h0, rfl⟩
  · have hsm := fromL_small h0
    have HO := Lib.hid (And.intro hown h0); clear hown h0
    go_wp2_with fail
    refine (wrising_any S c w1.heap.size has.length (fromL has roots pairs) w1 (fromL_length _ _ _) (HO.out.1.at_ (fun _ _ => trivial)) (Nat.le_refl _) (by omega)).mono ?_
    rintro e w3 ⟨A3, c3, rfl, hown3, hb3⟩
    have HO3 := Lib.hid hown3; clear hown3
    go_wp2_with fail
    go_ret2
    exact ⟨hbl1.trans (hb3.mono (by omega)), .inl ⟨HO.out.2, A3, c3, rfl, HO3.out.base_le (by omega)⟩⟩
  · obtain ⟨pe, hpe⟩ : ∃ pe, prErr has roots pairs = pe := ⟨_, rfl⟩
    rw [hpe] at h0 ⊢
    have HE := Lib.hid (And.intro hpe h0); clear hpe h0
    go_wp2_with fail
    refine (wrising_any none 0 0 0 [] w1 rfl At.nil_ (by omega) (by omega)).mono ?_
    rintro e w3 ⟨A3, c3, rfl, hown3, hb3⟩
    clear hown3
    go_wp2_with fail
    go_ret2
    exact ⟨hbl1.trans (hb3.mono (by omega)), .inr (by rw [HE.out.1]; exact ⟨HE.out.2, A3, c3, rfl⟩)⟩

def KeptPost (has : List (List Int)) (roots : List Int) (pairs : List (Int × Int)) (w : World) (e : Ending) (w' : World) : Prop :=
  Below w.heap.size w w' ∧ ((prErr has roots pairs = 0 ∧ ∃ A c, e = .returned (.tuple #[.slice A (keptL (fromL has roots pairs) pairs).length c, .int .i64 0]) ∧ Own w' w.heap.size 63 A c (keptL (fromL has roots pairs) pairs)) ∨
    (prErr has roots pairs ≠ 0 ∧ e = .returned (.tuple #[.slice none 0 0, .int .i64 (prErr has roots pairs)])))

set_option maxHeartbeats 1600000 in
set_option maxRecDepth 100000 in
theorem kept_any (B hc rc pc : Nat) (HA RA PA : Option Addr) (has : List (List Int)) (roots : List Int) (pairs : List (Int × Int)) (w : World) (hh : At w B HA has) (hr : At w B RA roots) (hp : At w B PA pairs) (hB : B ≤ w.heap.size) (hl : has.length ≤ 9223372036854775807) (hrl : roots.length ≤ 9223372036854775807) (hpl : pairs.length ≤ 9223372036854775807) (hrc : roots.length ≤ rc ∧ rc ≤ maxLen) :
    Calls Try.prog 28 #[.agg #[.slice HA has.length hc, .slice RA roots.length rc], .slice PA pairs.length pc] w (KeptPost has roots pairs w) := by
  obtain ⟨i0, hi, hz0, hz1, hz2⟩ := info_parts infoRPair
  have HH := Lib.hid (And.intro hh (And.intro hr hp)); clear hh hr hp
  go_enter Try.func28, Try.ntmps28
  go_wp2_with fail
  refine calls_world (fun W => Below w.heap.size w W ∧ w.heap.size + 1 ≤ W.heap.size) ⟨(Below.refl _ _).alloc (Nat.le_refl _) _, by simp⟩ ?_
  rintro W ⟨hb0, hs0⟩
  refine (live_any B hc rc pc HA RA PA has roots pairs W (HH.out.1.below (hb0.mono hB)) (HH.out.2.1.below (hb0.mono hB)) (HH.out.2.2.below (hb0.mono hB)) (by omega) hl hrl hpl hrc).mono ?_
  rintro e w1 ⟨hb1, hp⟩
  have hbl1 := hb0.trans (hb1.mono (by omega))
  have hs1 := hb1.size
  rcases hp with ⟨h0, S, c, rfl, hown⟩ | ⟨h0, rfl⟩
  rotate_left
  · obtain ⟨pe, hpe⟩ : ∃ pe, prErr has roots pairs = pe := ⟨_, rfl⟩
    rw [hpe] at h0 ⊢
    have hne : (pe != 0) = true := by simp [h0]
    have HE := Lib.hid (And.intro hpe h0); clear hpe h0
    go_wp2_with fail
    go_ret2
    exact ⟨hbl1, .inr (by rw [HE.out.1]; exact ⟨HE.out.2, rfl⟩)⟩
  have hsm := fromL_small h0
  have hp50 := (prErr_ok h0).2.1
  have hfl := fromL_length has roots pairs
  have HO := Lib.hid (And.intro hown (And.intro h0 (And.intro (prErr_ok h0).2.2 hfl))); clear hown h0 hfl
  generalize hseen : fromL has roots pairs = seen at HO
  have HSEEN := Lib.hid hseen; clear hseen
  go_wp2_with fail
  go_loopg [8, 22] (pairs.length) (fun gk ov iv wr => ∃ (k : Nat) (A1 : Option Addr) (c1 : Nat), k ≤ pairs.length ∧ gk = pairs.length - k ∧ iv = .int .i64 k ∧ ov = .slice A1 (keptL seen (pairs.take k)).length c1 ∧ Hid (Own wr w.heap.size 63 A1 c1 (keptL seen (pairs.take k)) ∧ Own wr W.heap.size 4 S c seen) ∧ Below w.heap.size w wr)
  case atStart => exact ⟨0, none, 0, Nat.zero_le _, rfl, rfl, rfl, ⟨Own.nil_, HO.out.1⟩, hbl1⟩
  case round =>
    obtain ⟨k, A1, c1, hk, rfl, rfl, rfl, hkeep, hbl⟩ := hrel
    have hsz := hbl.size
    have hkl := keptL_length seen (pairs.take k)
    rw [List.length_take] at hkl
    by_cases hlt : k < pairs.length
    · obtain ⟨b, o, x, y, rfl, hb, hx, hox, hoy, c0, c1'⟩ := (HH.out.2.2.below (hbl.mono hB)).pair hlt
      obtain ⟨p, q, hpq, hp, hq⟩ := HO.out.2.2.1 _ (List.mem_of_getElem? hx)
      injection hpq with e1 e2; subst e1 e2
      have hsl := HO.out.2.2.2
      obtain ⟨u, hu⟩ : ∃ v, seen[p]? = some v := ⟨_, List.getElem?_eq_getElem (by omega)⟩
      obtain ⟨g, rfl, hg1, hg2⟩ := hkeep.out.2.some_ (by omega)
      have v1 := hkeep.out.2.cell_bool hu
      have p0 : (0 : Int) ≤ (p : Int) := by omega
      have p1 : (p : Int) < (has.length : Int) := by omega
      have hsn := keptL_snoc seen pairs k p q hx u hu
      have hal := hkeep.out.2.alloc (.cells #[.int .i64 p, .int .i64 q] 63)
      have hal1 := hkeep.out.1.alloc (.cells #[.int .i64 p, .int .i64 q] 63)
      cases u with
      | false =>
        rw [if_neg (by simp), List.append_nil] at hsn
        have HS := Lib.hid (And.intro hsn (And.intro hal1 hal)); clear hsn hx hu hal hal1 hkeep hsl
        go_wp2_with fail
        go_roundg (pairs.length - (k + 1))
        case measure => omega
        case rel => exact ⟨k + 1, A1, c1, by omega, rfl, by go_num, by rw [HS.out.1], by unfold Hid; rw [HS.out.1]; exact HS.out.2, hbl.alloc hsz _⟩
      | true =>
        rw [if_pos rfl] at hsn
        have HS := Lib.hid (And.intro hsn (And.intro hal1 (And.intro hal (And.intro hox hoy)))); clear hsn hx hu hal hal1 hkeep hsl hox hoy
        go_wp2_with (at_builtin; go_must (refine wpList_app (α := Int × Int) (m := 1) (B := wr.heap.size + 1 + 1) (r := [((p : Int), (q : Int))]) rfl (.tmp 31) (.tmp 33) _ rfl w.heap.size 63 i0 _ 16 Try.underlying50 hi hz0 hz1 hz2 rfl (by decide) pair_one (by rfl) rfl (HS.out.2.1.alloc _) (by rfl) ?_ rfl (by omega) (by simp only [maxLen]; omega) (by simp; omega) ?_))
        · have := At.built (wr.alloc (.cells #[.int .i64 p, .int .i64 q] 63)) #[.int .i64 p, .int .i64 q] 63 [((p : Int), (q : Int))] rfl (by intro z hz; simp at hz; subst hz; exact HS.out.2.2.2)
          simpa using this
        intro A2 c2 w2 hown2 hgr2 hat2
        have hbl2 : Below w.heap.size w w2 := ((hbl.alloc hsz _).alloc (by simp; omega) _).grown hgr2 (by simp; omega) (fun g hg => (HS.out.2.1.lt g hg).1)
        have hS2 : Own w2 W.heap.size 4 (some ⟨g, 0, none⟩) c seen := (HS.out.2.2.1.alloc _).grown hgr2 (fun h hh e => own_own_ty HS.out.2.2.1 HS.out.2.1 (by decide) h hh e)
        have HO2 := Lib.hid (And.intro hown2 hS2); clear hown2 hS2
        go_wp2_with fail
        go_roundg (pairs.length - (k + 1))
        case measure => omega
        case rel => exact ⟨k + 1, A2, c2, by omega, rfl, by go_num, by rw [HS.out.1, List.length_append]; rfl, by unfold Hid; rw [HS.out.1]; exact HO2.out, hbl2⟩
    · have hk2 : pairs.take k = pairs := List.take_of_length_le (by omega)
      rw [hk2] at hkeep ⊢
      clear hk2
      go_wp2_with fail
      go_ret2
      exact ⟨hbl, .inl (by rw [HSEEN.out]; exact ⟨HO.out.2.1, A1, c1, rfl, hkeep.out.1⟩)⟩

end Go.Proofs.Ytpkccpegdpodoaa
