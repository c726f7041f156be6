/- KT: Weak2. -/
import Derived.Test.YtdlcooplllimeaaGreatDoorKT12
import Derived.Deep.DrawnRows
import Derived.StillTailTactics
import Derived.IntWalk
/- weak: all that is reached; numbers of those that are so; what is wrong with a graph. -/
namespace Go.Proofs.YtdlcooplllimeaaGreatDoor
open Go.RowKit

attribute [local go_sem ↓] Go.wp_at_zero Go.wp_at_succ

theorem At.get_ {α : Type} [Enc α] {w : World} {B : Nat} {A : Option Addr} {l : List α} {k : Nat} {x : α} (h : At w B A l) (hx : l[k]? = some x) : ∃ b o cs, A = some ⟨b, o, none⟩ ∧ b < B ∧ CellsAt w b (o + k * Enc.sz α) cs ∧ Enc.rd w B cs x := h k x hx

set_option maxHeartbeats 1600000 in
set_option maxRecDepth 100000 in
theorem reachAll_any (R base B hc rc _hn rn : Nat) (HA RA : Option Addr) (has : List (List Int)) (src : List Int) (pairs : List (Int × Int)) (seen : List Bool) (todo : List Int) (w : World) (h : Rch w base R (.slice HA has.length hc) (.slice RA rn rc) seen todo) (hh : At w B HA has) (hB : B ≤ base)
    (hright : Right has) (hinv : Inv has src pairs [] seen todo) (hlen : has.length ≤ 1000) (htl : todo.length ≤ 10000) (hhl : ∀ l ∈ has, l.length ≤ 1000) :
    Calls Tryz.prog 62 #[.pointer (some ⟨R, 0, none⟩)] w fun e w' => e = .returned (.tuple #[]) ∧ (∃ seen', Rch w' base R (.slice HA has.length hc) (.slice RA rn rc) seen' [] ∧ Inv has src pairs [] seen' [] ∧ Grows seen seen') ∧ Below base w w' := by
  have HH := Lib.hid hh; clear hh
  have HR := Lib.hid hright; clear hright
  have HHL := Lib.hid hhl; clear hhl
  have hun := unseen_le seen
  have hsl := hinv.len
  have HST := Lib.hid (And.intro h hinv); clear h hinv
  go_enter Tryz.func62, Tryz.ntmps62
  go_wp2_with fail
  go_loopg [] (2 * unseen seen + todo.length) (fun gk wr => ∃ (s1 : List Bool) (t1 : List Int), gk = 2 * unseen s1 + t1.length ∧ 2 * unseen s1 + t1.length ≤ 2 * unseen seen + todo.length ∧ Hid (Rch wr base R (.slice HA has.length hc) (.slice RA rn rc) s1 t1 ∧ Inv has src pairs [] s1 t1 ∧ Grows seen s1) ∧ Below base w wr)
  case atStart => exact ⟨seen, todo, rfl, Nat.le_refl _, ⟨HST.out.1, HST.out.2, Grows.refl _⟩, Below.refl _ _⟩
  case round =>
    obtain ⟨s1, t1, rfl, hle, hkeep, hbl⟩ := hrel
    obtain ⟨k1, k2, k3⟩ := hkeep.out
    obtain ⟨S, T, c, d, r1, r2, r3, r4⟩ := k1
    have hRlt := r1.lt
    have q3 := r1.cell 3 rfl
    have z3 := r1.frozen 3
    by_cases hlt : 0 < t1.length
    · obtain ⟨t0, x, rfl⟩ : ∃ t0 x, t1 = t0 ++ [x] := ⟨t1.dropLast, t1.getLast (List.ne_nil_of_length_pos hlt), (List.dropLast_concat_getLast _).symm⟩
      obtain ⟨n, rfl, hn⟩ := k2.todo_ x (by simp)
      have hnl : n < has.length := by rw [← k2.len]; exact (List.getElem?_eq_some_iff.1 hn).1
      obtain ⟨l, hl⟩ : ∃ l, has[n]? = some l := ⟨_, List.getElem?_eq_getElem hnl⟩
      have hstep := k2.step HR.out (l := l) (by simpa using hl)
      have htlen : (t0 ++ [(n : Int)]).length = t0.length + 1 := by simp
      rw [htlen] at q3 hle hstep
      obtain ⟨g, rfl, hg1, hg2⟩ := r3.some_ (by omega)
      have ct := r3.cell_int (i := t0.length) (b := (n : Int)) (by simp)
      have hcap := r3.le_cap.1
      rw [htlen] at hcap
      have r3' := r3.take_ t0.length (by omega)
      rw [List.take_left' rfl] at r3'
      have hll := HHL.out l (List.mem_of_getElem? hl)
      have hrl : RightL s1.length l := fun y hy => by obtain ⟨k, h1, h2⟩ := HR.out l (List.mem_of_getElem? hl) y hy; exact ⟨k, h1, by rw [k2.len]; exact h2⟩
      have hs1l := k2.len
      have HK := Lib.hid (And.intro r1 (And.intro r2 (And.intro r3' (And.intro hstep (And.intro k3 (And.intro hl (And.intro hrl hs1l)))))))
      have htl0 : t0.length + 1 ≤ d := hcap
      have w1 : (0 : Int) ≤ ((t0.length : Int) + 1) - 1 := by omega
      clear r1 r2 r3 r3' hstep k3 k2 hrl htlen hn hl hkeep
      go_wp2_with fail
      have hwr : IntKind.i64.wrap ((t0.length : Int) + 1 - 1) = (t0.length : Int) := by rw [IntWalk.i64_in _ (by omega)]; omega
      have w2 : (0 : Int) ≤ (t0.length : Int) := by omega
      have w3 : (t0.length : Int) < (t0.length : Int) + 1 := by omega
      have w4 : (t0.length : Int) ≤ (t0.length : Int) + 1 := by omega
      go_quiet (fail)
      go_wp2_with fail
      have w5 : t0.length ≤ d := by omega
      refine wp_world (fun W => Blk W R 147 #[.slice HA has.length hc, .slice RA rn rc, .slice S s1.length c, .slice (some ⟨g, 0, none⟩) (t0.length + 1) d] ∧ Own W base 4 S c s1 ∧ Own W base 3 (some ⟨g, 0, none⟩) d t0 ∧ Below base w W) ⟨by have := HK.out.1.drewN; simp only [List.length_append, List.length_singleton] at this; exact this _, HK.out.2.1.drewN _, HK.out.2.2.1.drewN _, below_drewN hbl _⟩ ?_
      rintro W ⟨m1, m2, m3, m4⟩
      have p3 := m1.cell 3 rfl
      have p0 := m1.cell 0 rfl
      obtain ⟨b, o, l', A', c', rfl, hb, hl2, hcell, hat', hlc, hmx⟩ := (HH.out.below (m4.mono hB)).slice_ hnl
      rw [HK.out.2.2.2.2.2.1] at hl2; injection hl2 with hl2; subst hl2
      have hbR : b < R := by omega
      have hbR2 : b ≠ R := by omega
      have pz := m1.frozen 3
      have n1 := own_ne_ty m2 m1 (by decide)
      have n2 := own_ne_ty m3 m1 (by decide)
      have HW := Lib.hid (And.intro (m1.set_ 3 (.slice (some ⟨g, 0, none⟩) t0.length d)) (And.intro (m2.setCell ⟨R, 3, none⟩ (.slice (some ⟨g, 0, none⟩) t0.length d) n1) (And.intro (m3.setCell ⟨R, 3, none⟩ (.slice (some ⟨g, 0, none⟩) t0.length d) n2) (m4.setCell (p := ⟨R, 3, none⟩) r4 (.slice (some ⟨g, 0, none⟩) t0.length d)))))
      have hnl0 : (0 : Int) ≤ (n : Int) := by omega
      have hnl1 : (n : Int) < (has.length : Int) := by omega
      have hcap2 : b ≠ R := by omega
      clear m1 m2 m3 m4 n1 n2 q3 z3
      have hwr2 : IntKind.i64.wrap (t0.length : Int) = (t0.length : Int) := IntWalk.i64_in _ (by clear hwr; omega)
      go_still_tail 14, (by kernel_rfl)
      clear hwr hwr2
      change wpList _ _ _ _ _ (World.drew _)
      go_wp2_with fail
      have hRch : Rch (W.setCell ⟨R, 3, none⟩ (.slice (some ⟨g, 0, none⟩) t0.length d)).drew base R (.slice (some ⟨b, o, none⟩) has.length hc) (.slice RA rn rc) s1 t0 := ⟨S, some ⟨g, 0, none⟩, c, d, by have := HW.out.1.drew; simpa using this, HW.out.2.1.drew, HW.out.2.2.1.drew, r4⟩
      have hat2 : At (W.setCell ⟨R, 3, none⟩ (.slice (some ⟨g, 0, none⟩) t0.length d)).drew B A' l := (hat'.setCell (p := ⟨R, 3, none⟩) (by simp; omega) _).drew
      have hll := HHL.out l (List.mem_of_getElem? HK.out.2.2.2.2.2.1)
      refine (reach_old R base B c' A' _ _ s1 t0 l _ hRch hat2 hB HK.out.2.2.2.2.2.2.1 (by omega) (by omega)).mono ?_
      rintro e w8 ⟨rfl, hr8, hb8⟩
      have hb8' : Below base W w8 := (((Below.refl _ _).setCell (p := ⟨R, 3, none⟩) r4 _).drew).trans hb8
      have HR8 := Lib.hid (And.intro hr8 (HW.out.2.2.2.trans (undrew hb8))); clear hr8 hRch hat2 hat' hb8 hb8'
      obtain ⟨s2, t2, hst⟩ : ∃ s2 t2, reachL l (s1, t0) = (s2, t2) := ⟨_, _, rfl⟩
      rw [hst] at HR8
      have HSS := HK.out.2.2.2.1
      rw [hst] at HSS
      have hms : 2 * unseen s2 + t2.length < 2 * unseen s1 + (t0.length + 1) := HSS.2.2
      have HS2 := Lib.hid HSS; clear HSS hst
      go_wp2_with fail
      go_roundg (2 * unseen s2 + t2.length)
      case measure => first | omega | (rw [List.length_append, List.length_singleton]; omega)
      case rel => exact ⟨s2, t2, rfl, by omega, ⟨HR8.out.1, HS2.out.1, HK.out.2.2.2.2.1.trans HS2.out.2.1⟩, HR8.out.2⟩
    · obtain rfl : t1 = [] := List.eq_nil_of_length_eq_zero (by omega)
      have HK := Lib.hid (And.intro r1 (And.intro r2 (And.intro r3 (And.intro k2 k3)))); clear r1 r2 r3 k2 k3 hkeep
      go_wp2_with fail
      go_end0
      obtain ⟨f1, f2, f3, f4, f5⟩ := HK.out
      exact ⟨rfl, ⟨s1, ⟨S, T, c, d, f1, f2, f3, r4⟩, f4, f5⟩, hbl⟩

end Go.Proofs.YtdlcooplllimeaaGreatDoor
