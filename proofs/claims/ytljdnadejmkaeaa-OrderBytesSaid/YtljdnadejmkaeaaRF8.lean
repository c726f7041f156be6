/- RF: Ord4. -/
import Derived.Test.YtljdnadejmkaeaaRF7
/- order: the fields that an order leaves idle. -/
namespace Go.Proofs.Ytljdnadejmkaeaa
open Go.RowKit

namespace Ord
def idleK (f : Form) (x : RO) (k : Nat) : List Int := ((List.range k).filter fun i => !used f i).map (fld x)
theorem idleK_three (f : Form) (x : RO) : idleK f x 3 = idle f x := rfl
theorem idleK_succ (f : Form) (x : RO) (k : Nat) : idleK f x (k + 1) = idleK f x k ++ (if used f k then [] else [fld x k]) := by
  unfold idleK
  rw [List.range_succ, List.filter_append, List.map_append]
  congr 1
  cases h : used f k <;> simp [h]
theorem idleK_len (f : Form) (x : RO) (k : Nat) : (idleK f x k).length ≤ k := by
  unfold idleK
  rw [List.length_map]
  exact Nat.le_trans (List.length_filter_le _ _) (by simp)
/-- is a field used, as far as letters were looked at? -/
def usedJ (fr : List Nat) (fw fn : Bool) (i j : Nat) : Bool := (fw && i == 0 || fn && i == 1) || (fr.take j).contains i
theorem usedJ_end {fr : List Nat} {fw fn : Bool} {i j : Nat} (h : fr.length ≤ j) (fl fh fe : Int) (fk : Bool) : usedJ fr fw fn i j = used ⟨fr, fw, fl, fh, fn, fk, fe⟩ i := by
  unfold usedJ used; rw [List.take_of_length_le h]
theorem usedJ_succ {fr : List Nat} {fw fn : Bool} {i j l : Nat} (h : fr[j]? = some l) : usedJ fr fw fn i (j + 1) = (usedJ fr fw fn i j || l == i) := by
  unfold usedJ
  rw [List.take_add_one, h, Option.toList_some]
  simp only [List.contains_eq_any_beq, List.any_append, List.any_cons, List.any_nil, Bool.or_false, Bool.or_assoc]
  rw [show (i == l) = (l == i) from BEq.comm]
end Ord

theorem fld_idx64 (x : RO) (i : Nat) (hi : i < 3) (w : World) : (Instr.index 175 (.agg #[.int .i64 x.a, .int .i64 x.b, .int .i64 x.c]) (.int .i64 (i : Int))).run Try.prog w = .ok (.int .i64 (Ord.fld x i)) w := by
  rcases (by omega : i = 0 ∨ i = 1 ∨ i = 2) with rfl | rfl | rfl <;> kernel_rfl

set_option maxHeartbeats 6400000 in
set_option maxRecDepth 100000 in
theorem idle_any (fr : List Nat) (fw : Bool) (fl fh : Int) (fn fk : Bool) (fe : Int) (x : RO) (w : World) (hro : ∀ i ∈ fr, i < 3) (hxi : I64 x.a ∧ I64 x.b ∧ I64 x.c) : Calls Try.prog 149 #[.agg #[.string (Ord.lets fr), .bool fw, .int .i64 fl, .int .i64 fh, .bool fn, .bool fk, .int .i64 fe], .agg #[.int .i64 x.op, .int .i64 x.a, .int .i64 x.b, .int .i64 x.c, .int .i64 x.n, .int .i64 x.exit, .int .i64 x.k.1, .int .i64 x.k.2]] w fun e w' => ∃ (A : Option Addr) (c m : Nat), e = .returned (.slice A m c) ∧ (Ord.idle ⟨fr, fw, fl, fh, fn, fk, fe⟩ x).length = m ∧ Own w' w.heap.size 3 A c (Ord.idle ⟨fr, fw, fl, fh, fn, fk, fe⟩ x) ∧ Below w.heap.size w w' := by
  obtain ⟨F, hF⟩ : ∃ F : Ord.Form, ⟨fr, fw, fl, fh, fn, fk, fe⟩ = F := ⟨_, rfl⟩
  rw [hF]
  have HFF := Lib.hid hF; clear hF
  obtain ⟨i0, hi, hz0, hz1, hz2⟩ := info_parts infoInt
  have HI := Lib.hid (And.intro (fld_ok x hxi) hro); clear hxi hro
  have HS := Lib.hid (Ord.lets_size fr)
  go_enter Try.func149, Try.ntmps149
  go_wp2_with fail
  go_loopg [5, 18] 3 (fun gk ov iv wr => ∃ (k m : Nat) (A : Option Addr) (c : Nat), k ≤ 3 ∧ gk = 3 - k ∧ iv = .int .i64 k ∧ ov = .slice A m c ∧ m ≤ k ∧ Hid (Own wr w.heap.size 3 A c (Ord.idleK F x k) ∧ (Ord.idleK F x k).length = m ∧ Blk wr w.heap.size 197 #[.string (Ord.lets fr), .bool fw, .int .i64 fl, .int .i64 fh, .bool fn, .bool fk, .int .i64 fe]) ∧ Below w.heap.size w wr ∧ w.heap.size < wr.heap.size)
  case atStart => exact ⟨0, 0, none, 0, by omega, rfl, rfl, rfl, Nat.le_refl _, ⟨Own.nil_, rfl, (Blk.new w _ _).alloc _⟩, ((Below.refl _ _).alloc (Nat.le_refl _) _).alloc (by simp) _, by simp; omega⟩
  case round =>
    obtain ⟨k, m, A, c, hk, rfl, rfl, rfl, hmk, hkeep, hbl, hs⟩ := hrel
    by_cases hlt : k < 3
    · have hix := fld_idx64 x k hlt wr
      have hyi : I64 (Ord.fld x k) := HI.out.1 k
      obtain ⟨y, hy⟩ : ∃ y, Ord.fld x k = y := ⟨_, rfl⟩
      rw [hy] at hix hyi
      have q0 := hkeep.out.2.2.cell 0 (v := .string (Ord.lets fr)) rfl
      have q1 := hkeep.out.2.2.cell 1 (v := .bool fw) rfl
      have q4 := hkeep.out.2.2.cell 4 (v := .bool fn) rfl
      have hk0 : (0 : Int) ≤ (k : Int) := by omega
      have hk1 : (k : Int) < 3 := by omega
      have HK := Lib.hid (And.intro hkeep.out (And.intro hyi hy)); clear hkeep hyi hy
      obtain ⟨b0, hb0⟩ : ∃ b : Bool, ((k : Int) == 0) = b := ⟨_, rfl⟩
      obtain ⟨b1, hb1⟩ : ∃ b : Bool, ((k : Int) == 1) = b := ⟨_, rfl⟩
      obtain ⟨bs, hbs⟩ : ∃ bs : Bool, (fw && b0 || fn && b1) = bs := ⟨_, rfl⟩
      have hbase : Ord.usedJ fr fw fn k 0 = bs := by
        rw [← hbs, ← hb0, ← hb1]
        simp only [Ord.usedJ, List.take_zero, List.contains_nil, Bool.or_false]
        rw [show ((k : Int) == 0) = (k == 0) from by rw [Bool.eq_iff_iff]; simp, show ((k : Int) == 1) = (k == 1) from by rw [Bool.eq_iff_iff]; simp; omega]
      obtain ⟨U, hU⟩ : ∃ U : Nat → Bool, Ord.usedJ fr fw fn k = U := ⟨_, rfl⟩
      have hsuc : ∀ j l, fr[j]? = some l → U (j + 1) = (U j || l == k) := fun j l h => by rw [← hU]; exact Ord.usedJ_succ h
      have hend : U fr.length = Ord.used F k := by rw [← hU, ← HFF.out]; exact Ord.usedJ_end (Nat.le_refl _) fl fh fe fk
      have hnext := Ord.idleK_succ F x k
      rw [← hend] at hnext
      rw [hU] at hbase
      have HB := Lib.hid (And.intro hbase (And.intro hsuc hnext)); clear hbase hsuc hnext hend hU
      cases fw <;> cases fn <;> cases b0 <;> cases b1 <;> simp only [Bool.and_true, Bool.and_false, Bool.true_and, Bool.false_and, Bool.or_true, Bool.or_false, Bool.true_or, Bool.false_or] at hbs <;>
      · subst hbs
        obtain ⟨wo, hwo⟩ : ∃ wo : World, wo = wr := ⟨_, rfl⟩
        rw [← hwo] at HK hbl hs hix q0 q1 q4 ⊢
        clear hwo
        go_wp2_with fail
        clear hix q0 q1 q4
        go_loopg [8] fr.length (fun gj uv wj => ∃ (j : Nat) (u : Bool), j ≤ fr.length ∧ gj = fr.length - j ∧ uv = .bool u ∧ Hid (U j = u ∧ wj.heap[wo.heap.size]? = some (.stringIter (Ord.lets fr) j)) ∧ Below wo.heap.size wo wj ∧ wo.heap.size < wj.heap.size)
        case atStart => exact ⟨0, _, Nat.zero_le _, rfl, rfl, ⟨HB.out.1, World.iter_heap wo _ 0⟩, (Below.refl _ _).alloc (Nat.le_refl _) _, by simp [World.iter]⟩
        case round =>
          obtain ⟨j, u, hj, rfl, rfl, hkeep, hblj, hsj⟩ := hrel
          have hss := HS.out
          by_cases hjt : j < fr.length
          · obtain ⟨i, hi3⟩ : ∃ i, fr[j]? = some i := ⟨_, List.getElem?_eq_getElem hjt⟩
            have hi4 := HI.out.2 i (List.mem_of_getElem? hi3)
            have hnx := fun ty => Lib.run_next_ascii_at (P := Try.prog) wr wo.heap.size (Ord.lets fr) j ty hkeep.out.2 (by omega) (by rw [Ord.lets_get hi3 hi4]; omega)
            rw [Ord.lets_get hi3 hi4] at hnx
            have j4 := Lib.iterAt_heap wr wo.heap.size (Ord.lets fr) j (j + 1) hkeep.out.2
            have j5 := Lib.below_iterAt hblj (k := wo.heap.size) (Nat.le_refl _) (Ord.lets fr) (j + 1)
            have j6 : wo.heap.size < (wr.iterAt wo.heap.size (Ord.lets fr) (j + 1)).heap.size := by rw [Lib.iterAt_size]; exact hsj
            obtain ⟨V, hV⟩ : ∃ V, wr.iterAt wo.heap.size (Ord.lets fr) (j + 1) = V := ⟨_, rfl⟩
            rw [hV] at hnx j4 j5 j6
            have hsu := HB.out.2.1 j i hi3
            rw [hkeep.out.1] at hsu
            have HJ := Lib.hid (And.intro j4 hsu); clear hkeep j4 hsu hi3 hV hss
            cases u with
            | true =>
              go_wp2_with fail
              go_roundg (fr.length - (j + 1))
              case measure => omega
              case rel => exact ⟨j + 1, true, by omega, rfl, rfl, ⟨by rw [HJ.out.2]; rfl, HJ.out.1⟩, j5, j6⟩
            | false =>
              go_wp2_with fail
              go_roundg (fr.length - (j + 1))
              case measure => omega
              case rel => exact ⟨j + 1, i == k, by omega, rfl, by congr 1; rw [Bool.eq_iff_iff]; simp; omega, ⟨by rw [HJ.out.2]; rfl, HJ.out.1⟩, j5, j6⟩
          · have hnx := fun ty => Lib.run_next_end_at (P := Try.prog) wr wo.heap.size (Ord.lets fr) j ty hkeep.out.2 (by omega)
            obtain rfl : fr.length = j := by omega
            have hbw : Below w.heap.size w wr := hbl.trans (hblj.mono (by omega))
            have hkk := HB.out.2.2
            rw [hkeep.out.1] at hkk
            have HE := Lib.hid (And.intro hkk (And.intro (HK.out.1.1.fresh hblj) (HK.out.1.2.2.fresh hblj))); clear hkk hkeep hss
            have hsz := hblj.size
            cases u with
            | true =>
              go_wp2_with fail
              go_roundg (3 - (k + 1))
              case measure => omega
              case rel => exact ⟨k + 1, m, A, c, by omega, rfl, by go_num, rfl, by omega, ⟨by rw [HE.out.1]; simpa using HE.out.2.1, by rw [HE.out.1]; simpa using HK.out.1.2.1, HE.out.2.2⟩, hbw, by omega⟩
            | false =>
              go_wp2_with (at_builtin; go_must (refine wpList_app (α := Int) (n := m) (m := 1) (B := wr.heap.size + 1) (r := [y]) rfl (.tmp 52) (.tmp 54) _ rfl w.heap.size 3 i0 _ 8 Try.underlying40 hi hz0 hz1 hz2 rfl (by decide) int_one (by rfl) HK.out.1.2.1 (HE.out.2.1.alloc _) (by rfl) (At.built wr _ _ [y] rfl (by intro u hu; simp at hu; subst hu; exact HK.out.2.1)) rfl (by omega) (by simp only [maxLen]; omega) (by simp; omega) ?_))
              intro A5 c5 w5 ho5 hgr5 hat5
              have hs5 := hgr5.size
              simp only [World.size_alloc] at hs5
              have hb5 : Below w.heap.size w w5 := (hbw.alloc (by omega) _).grown hgr5 (by simp; omega) (fun g hg => (HE.out.2.1.lt g hg).1)
              have l5 := ((HE.out.2.2).alloc (.cells #[.int .i64 y] 3)).grown hgr5 (own_ne_ty (HE.out.2.1.alloc (.cells #[.int .i64 y] 3)) (HE.out.2.2.alloc (.cells #[.int .i64 y] 3)) (by decide))
              have H5 := Lib.hid (And.intro ho5 l5); clear ho5 l5 hgr5 hat5
              go_wp2_with fail
              go_roundg (3 - (k + 1))
              case measure => omega
              case rel => exact ⟨k + 1, m + 1, A5, c5, by omega, rfl, by go_num, rfl, by omega, ⟨by rw [HE.out.1]; simpa [HK.out.2.2] using H5.out.1, by rw [HE.out.1]; simpa using HK.out.1.2.1, H5.out.2⟩, hb5, by omega⟩
    · obtain rfl : k = 3 := by omega
      have hk2 := hkeep.out
      rw [Ord.idleK_three] at hk2
      have HK := Lib.hid hk2; clear hk2 hkeep
      go_wp2_with fail
      go_ret
      exact ⟨A, c, m, rfl, HK.out.2.1, HK.out.1, hbl⟩

end Go.Proofs.Ytljdnadejmkaeaa
