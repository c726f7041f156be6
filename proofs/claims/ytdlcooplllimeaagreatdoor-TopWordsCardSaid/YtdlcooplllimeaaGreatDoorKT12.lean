/- KT: Weak1. -/
import Derived.Test.YtdlcooplllimeaaGreatDoorKT1
import Derived.Test.YtdlcooplllimeaaGreatDoorKT9
import Derived.Test.YtdlcooplllimeaaGreatDoorRows
import Derived.BigQuiet
import Derived.Deep.QuietTactic
import Derived.Deep.DeepMust
import Derived.Deep.LoopGhost
/- weak: a reacher of things: one list reached. -/
namespace Go.Proofs.YtdlcooplllimeaaGreatDoor
open Go.RowKit

theorem infoInt : (Tryz.prog.info? 3).map (fun i => (i.zero, i.size, i.bytes)) = some (some (.int .i64 0), 1, 8) := by kernel_rfl
theorem int_one : ∀ x : Int, ∀ u ∈ Flat.cells x, u.oneCell' = true := by
  intro x u hu; simp [Flat.cells] at hu; subst hu; rfl
theorem At.int_ {w : World} {B : Nat} {A : Option Addr} {l : List Int} {k : Nat} (h : At w B A l) (hk : k < l.length) :
    ∃ b o x, A = some ⟨b, o, none⟩ ∧ b < B ∧ l[k]? = some x ∧ I64 x ∧ w.cell? ⟨b, o + k, none⟩ = some (.int .i64 x) := by
  obtain ⟨x, hx⟩ : ∃ x, l[k]? = some x := ⟨l[k], List.getElem?_eq_getElem hk⟩
  obtain ⟨b, o, cs, rfl, hb, hc, rfl, hok⟩ := h k x hx
  have h0 := hc 0 _ rfl
  simp only [Flat.sz, Enc.sz, Nat.mul_one, Nat.add_zero] at h0
  exact ⟨b, o, x, rfl, hb, hx, hok, h0⟩

theorem At.pair {w : World} {B : Nat} {A : Option Addr} {l : List (Int × Int)} {k : Nat} (h : At w B A l) (hk : k < l.length) :
    ∃ b o x y, A = some ⟨b, o, none⟩ ∧ b < B ∧ l[k]? = some (x, y) ∧ I64 x ∧ I64 y ∧ w.cell? ⟨b, o + k * 2, none⟩ = some (.int .i64 x) ∧ w.cell? ⟨b, o + k * 2 + 1, none⟩ = some (.int .i64 y) := by
  obtain ⟨x, hx⟩ : ∃ x, l[k]? = some x := ⟨l[k], List.getElem?_eq_getElem hk⟩
  obtain ⟨b, o, cs, rfl, hb, hc, rfl, hok⟩ := h k x hx
  exact ⟨b, o, x.1, x.2, rfl, hb, hx, hok.1, hok.2, hc 0 _ rfl, hc 1 _ rfl⟩
/-- a reacher at block R: what it has seen, what is still to be gone on from -/
def Rch (w : World) (base R : Nat) (hv rv : Value) (seen : List Bool) (todo : List Int) : Prop :=
  ∃ (S T : Option Addr) (c d : Nat), Blk w R 147 #[hv, rv, .slice S seen.length c, .slice T todo.length d] ∧ Own w base 4 S c seen ∧ Own w base 3 T d todo ∧ base ≤ R

set_option maxHeartbeats 800000 in
set_option maxRecDepth 100000 in
theorem reach_core (R base B c d lc : Nat) (L S T : Option Addr) (hv rv : Value) (seen : List Bool) (todo l : List Int) (w : World) (hR : Blk w R 147 #[hv, rv, .slice S seen.length c, .slice T todo.length d]) (hS : Own w base 4 S c seen) (hT : Own w base 3 T d todo) (hbR : base ≤ R) (hbase : base ≤ w.heap.size)
    (hl : At w B L l) (hB : B ≤ w.heap.size) (hL : l ≠ [] → ∀ g, rowOf L = some g → g ≠ R ∧ rowOf S ≠ some g ∧ rowOf T ≠ some g) (hin : RightL seen.length l) (hll : todo.length + l.length ≤ 1000000) (hsl : seen.length ≤ 9223372036854775807) :
    Calls Tryz.prog 61 #[.pointer (some ⟨R, 0, none⟩), .slice L l.length lc] w fun e w' => e = .returned (.tuple #[]) ∧ Rch w' base R hv rv (reachL l (seen, todo)).1 (reachL l (seen, todo)).2 ∧ Below base w w' := by
  obtain ⟨i0, hi, hz0, hz1, hz2⟩ := info_parts infoInt
  have HL0 := Lib.hid hL; clear hL
  have HIN := Lib.hid hin; clear hin
  go_enter Tryz.func61, Tryz.ntmps61
  go_wp2
  go_loopg [8] (l.length) (fun gk i wr => ∃ (k : Nat) (T1 : Option Addr) (d1 : Nat), k ≤ l.length ∧ gk = l.length - k ∧ i = .int .i64 k ∧ Hid (Blk wr R 147 #[hv, rv, .slice S seen.length c, .slice T1 (reachL (l.take k) (seen, todo)).2.length d1] ∧ Own wr base 4 S c (reachL (l.take k) (seen, todo)).1 ∧ Own wr base 3 T1 d1 (reachL (l.take k) (seen, todo)).2 ∧ At wr B L l ∧ (l ≠ [] → ∀ g, rowOf L = some g → rowOf T1 ≠ some g) ∧ (reachL (l.take k) (seen, todo)).2.length ≤ todo.length + k) ∧ Below base w wr ∧ B ≤ wr.heap.size)
  case atStart => exact ⟨0, T, d, Nat.zero_le _, rfl, rfl, ⟨hR, hS, hT, hl, fun hn g hg => (HL0.out hn g hg).2.2, Nat.le_refl _⟩, Below.refl _ _, hB⟩
  case round =>
    obtain ⟨k, T1, d1, hk, rfl, rfl, hkeep, hbl, hBw⟩ := hrel
    have hsz := hbl.size
    by_cases hlt : k < l.length
    · obtain ⟨k1, k2, k3, k4, k5, k6⟩ := hkeep.out
      have hnl : l ≠ [] := List.ne_nil_of_length_pos (by omega)
      have HNL := Lib.hid hnl; clear hnl
      obtain ⟨b, o, x, rfl, hb, hx, hok, h0⟩ := k4.int_ hlt
      obtain ⟨n, rfl, hn⟩ := HIN.out x (List.mem_of_getElem? hx)
      have hlen : (reachL (l.take k) (seen, todo)).1.length = seen.length := reachL_len _ _
      have hsn := reachL_snoc l k _ (seen, todo) hx
      obtain ⟨g, rfl, hg1, hg2⟩ := k2.some_ (by omega)
      obtain ⟨s, hs⟩ : ∃ s, (reachL (l.take k) (seen, todo)).1[n]? = some s := ⟨_, List.getElem?_eq_getElem (by omega)⟩
      have c1 := k2.cell_bool hs
      have r2 := k1.cell 2 rfl
      have r3 := k1.cell 3 rfl
      have z3 := k1.frozen 3
      have zg := k2.frozen (g := g) rfl n
      have n0 : (0 : Int) ≤ (n : Int) := by omega
      have n1 : (n : Int) < (seen.length : Int) := by omega
      have hne := own_ne_ty k2 k1 (by decide)
      have hgR : g ≠ R := fun e => hne (by rw [e]; rfl)
      have HNE := Lib.hid hne; clear hne
      cases s with
      | true =>
        have e1 : reach1 (reachL (l.take k) (seen, todo)) (n : Int) = reachL (l.take k) (seen, todo) := by unfold reach1; rw [if_pos (by rw [Int.toNat_natCast]; exact getD_true.2 hs)]
        rw [e1] at hsn
        have HS := Lib.hid hsn; clear hsn e1 hs
        have HK := Lib.hid (And.intro k1 (And.intro k2 (And.intro k3 (And.intro k4 (And.intro k5 k6))))); clear k1 k2 k3 k4 k5 k6 hkeep hx hlen
        go_wp2
        go_roundg (l.length - (k + 1))
        case measure => omega
        case rel => exact ⟨k + 1, T1, d1, by omega, rfl, by go_num, by unfold Hid; rw [HS.out]; obtain ⟨k1, k2, k3, k4, k5, k6⟩ := HK.out; exact ⟨k1, k2, k3, k4, k5, by omega⟩, hbl, hBw⟩
      | false =>
        have e1 : reach1 (reachL (l.take k) (seen, todo)) (n : Int) = ((reachL (l.take k) (seen, todo)).1.set n true, (reachL (l.take k) (seen, todo)).2 ++ [(n : Int)]) := by
          unfold reach1; rw [if_neg (by rw [Int.toNat_natCast, getD_true, hs]; simp), Int.toNat_natCast]
        rw [e1] at hsn
        have hR2 := k1.far (p := ⟨g, n, none⟩) (fun e => hgR e.symm) (.bool true)
        have hS2 := k2.set_bool true (i := n) (by omega)
        have hT2 := k3.setCell ⟨g, n, none⟩ (.bool true) (fun e => own_own_ty k2 k3 (by decide) g rfl e)
        have hl2 := k4.far_ (p := ⟨g, n, none⟩) (fun e => (HL0.out HNL.out g e).2.1 rfl) (.bool true)
        have r3' := hR2.cell 3 rfl
        have z3' := hR2.frozen 3
        have hb2 := hbl.setCell (p := ⟨g, n, none⟩) hg1 (.bool true)
        have k6' := k6
        have HS := Lib.hid hsn; clear hsn e1 hs
        have HK := Lib.hid (And.intro hR2 (And.intro hS2 (And.intro hT2 (And.intro hl2 (And.intro k5 k6))))); clear k1 k2 k3 k4 k5 k6 hkeep hx hlen hR2 hS2 hT2 hl2
        go_wp2_with (at_builtin; go_must (refine wpList_app (α := Int) (m := 1) (B := wr.heap.size + 1) (r := [(n : Int)]) rfl (.tmp 30) (.tmp 32) _ rfl base 3 i0 _ 8 Tryz.underlying34 hi hz0 hz1 hz2 rfl (by decide) int_one (by rfl) rfl (HK.out.2.2.1.alloc _) (by rfl) ?_ rfl (by omega) (by simp only [maxLen]; omega) (by simp; omega) ?_))
        · have := At.built (wr.setCell ⟨g, n, none⟩ (.bool true)) #[.int .i64 n] 3 [(n : Int)] rfl (by intro z hz; simp at hz; subst hz; exact (by unfold I64; omega : I64 n))
          simpa using this
        intro A2 c2 w2 hown2 hgr2 hat2
        have hs2 := hgr2.size
        simp only [World.size_alloc, World.size_setCell] at hs2
        obtain ⟨m1, m2, m3, m4, m5, m6⟩ := HK.out
        have hbl2 : Below base w w2 := (hb2.alloc (by simp; omega) _).grown hgr2 (by simp; omega) (fun g hg => (m3.lt g hg).1)
        have r1 : Blk w2 R 147 _ := (m1.alloc _).grown hgr2 (fun e => own_ne_ty m3 m1 (by decide) e)
        have r2' : Own w2 base 4 (some ⟨g, 0, none⟩) c _ := (m2.alloc _).grown hgr2 (fun h hg e => own_own_ty m2 m3 (by decide) h hg e)
        have r4 : At w2 B (some ⟨b, o, none⟩) l := (m4.alloc (by simp; omega) _).grown_ (by simp; omega) hgr2 (fun h hg e => m5 HNL.out h hg e)
        have hA2 : ∀ h, rowOf (some (⟨b, o, none⟩ : Addr)) = some h → rowOf A2 ≠ some h := by
          intro h hg e
          rcases hat2 with h1 | h1
          · exact m5 HNL.out h hg (by rw [← h1]; exact e)
          · rw [h1] at e; injection e with e; injection hg with hg; simp at e hg; omega
        have r3'' := r1.cell 3 rfl
        have z3'' := r1.frozen 3
        have HF := Lib.hid (And.intro r1 (And.intro r2' (And.intro hown2 (And.intro r4 hA2)))); clear m1 m2 m3 m4 r1 r2' hown2 r4 hA2 r3 r3' z3 z3' hgr2
        go_wp2
        go_roundg (l.length - (k + 1))
        case measure => omega
        case rel =>
          obtain ⟨f1, f2, f3, f4, f5⟩ := HF.out
          refine ⟨k + 1, A2, c2, by omega, rfl, by go_num, ?_, hbl2.setCell hbR _, by simp [World.setCell]; omega⟩
          unfold Hid
          rw [HS.out]
          refine ⟨?_, f2.setCell _ _ (own_ne_ty f2 f1 (by decide)), f3.setCell _ _ (own_ne_ty f3 f1 (by decide)), f4.far_ (fun e => (HL0.out HNL.out _ e).1 rfl) _, fun _ => f5, by simp; omega⟩
          have := f1.set_ 3 (.slice A2 ((reachL (l.take k) (seen, todo)).2.length + 1) c2)
          simpa using this
    · obtain ⟨k1, k2, k3, k4, k5, k6⟩ := hkeep.out
      have hk2 : l.take k = l := List.take_of_length_le (by omega)
      rw [hk2] at k1 k2 k3
      have hlen : (reachL l (seen, todo)).1.length = seen.length := reachL_len _ _
      have HK := Lib.hid (And.intro k1 (And.intro k2 (And.intro k3 hlen))); clear k1 k2 k3 k4 k5 k6 hk2 hlen hkeep
      go_wp2
      go_end0
      exact ⟨rfl, ⟨S, T1, c, d1, by rw [HK.out.2.2.2]; exact HK.out.1, HK.out.2.1, HK.out.2.2.1, hbR⟩, hbl⟩

theorem Rch.lt {w : World} {base R : Nat} {hv rv : Value} {seen : List Bool} {todo : List Int} (h : Rch w base R hv rv seen todo) : base < w.heap.size := by
  obtain ⟨S, T, c, d, h1, -, -, h4⟩ := h
  have := h1.lt
  omega
/-- what is reached was there ahead of the reacher -/
theorem reach_old (R base B lc : Nat) (L : Option Addr) (hv rv : Value) (seen : List Bool) (todo l : List Int) (w : World) (h : Rch w base R hv rv seen todo) (hl : At w B L l) (hB : B ≤ base) (hin : RightL seen.length l) (hll : todo.length + l.length ≤ 1000000) (hsl : seen.length ≤ 9223372036854775807) :
    Calls Tryz.prog 61 #[.pointer (some ⟨R, 0, none⟩), .slice L l.length lc] w fun e w' => e = .returned (.tuple #[]) ∧ Rch w' base R hv rv (reachL l (seen, todo)).1 (reachL l (seen, todo)).2 ∧ Below base w w' := by
  have hlt := h.lt
  obtain ⟨S, T, c, d, h1, h2, h3, h4⟩ := h
  by_cases hl0 : l = []
  · subst hl0
    exact reach_core R base 0 c d lc L S T hv rv seen todo [] w h1 h2 h3 h4 (by omega) At.nil_ (by omega) (fun hn => absurd rfl hn) hin hll hsl
  · obtain ⟨x0, hx0⟩ : ∃ x, l[0]? = some x := ⟨_, List.getElem?_eq_getElem (List.length_pos_iff.2 hl0)⟩
    obtain ⟨b, o, cs, rfl, hb, -, -⟩ := hl 0 x0 hx0
    refine reach_core R base B c d lc _ S T hv rv seen todo l w h1 h2 h3 h4 (by omega) hl (by omega) (fun _ g hg => ?_) hin hll hsl
    injection hg with hg
    subst hg
    exact ⟨by simp; omega, fun e => by have := (h2.lt _ e).1; simp at this; omega, fun e => by have := (h3.lt _ e).1; simp at this; omega⟩

end Go.Proofs.YtdlcooplllimeaaGreatDoor
