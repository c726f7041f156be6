/- RF: Ord3. -/
import Derived.Test.YtljdnadejmkaeaaRF6
/- order: what an order reads, writes; registers. -/
namespace Go.Proofs.Ytljdnadejmkaeaa
open Go.RowKit

theorem own_iter {α : Type} [Flat α] {w : World} {base : Nat} {E : TypeId} {A : Option Addr} {c : Nat} {l : List α} {k : Nat} {s : ByteArray} {pos : Nat} (h : Own w base E A c l) (hk : w.heap[k]? = some (.stringIter s pos)) (pos' : Nat) : Own (w.iterAt k s pos') base E A c l ∧ rowOf A ≠ some k := by
  have hne : rowOf A ≠ some k := by
    intro hA
    rcases h.2 with ⟨h1, _⟩ | ⟨g', cap, cur, hv, _, hh, _⟩
    · injection h1 with h3; rw [h3] at hA; cases hA
    · injection hv with h3; rw [h3] at hA; injection hA with hA; simp only at hA; subst hA
      rw [hk] at hh; cases hh
  exact ⟨h.block_ fun g hg => Lib.iterAt_other _ _ _ _ _ (fun e => hne (by rw [hg, e])), hne⟩
theorem blk_iter {w : World} {g k : Nat} {t : TypeId} {cs : Array Value} {s : ByteArray} (h : Blk w g t cs) (hk : g ≠ k) (pos' : Nat) : Blk (w.iterAt k s pos') g t cs := (Lib.iterAt_other _ _ _ _ _ hk).trans h

theorem isReg_any (n : Int) (w : World) : Calls Try.prog 133 #[.int .i64 n] w fun e w' => e = .returned (.bool (Ord.isReg n)) ∧ w' = w := by
  by_cases h0 : 0 ≤ n
  · by_cases h1 : n < 8
    · have hr : Ord.isReg n = true := by simp [Ord.isReg, h0, h1]
      rw [hr]; clear hr
      go_enter Try.func133, Try.ntmps133
      go_wp2
      go_ret
      exact ⟨rfl, rfl⟩
    · have hr : Ord.isReg n = false := by simp [Ord.isReg]; omega
      rw [hr]; clear hr
      go_enter Try.func133, Try.ntmps133
      go_wp2
      go_ret
      exact ⟨ret_bool (by simp; try omega), rfl⟩
  · have hr : Ord.isReg n = false := by simp [Ord.isReg]; omega
    rw [hr]; clear hr
    go_enter Try.func133, Try.ntmps133
    go_wp2
    go_ret
    exact ⟨ret_bool (by simp), rfl⟩

theorem form_call (op : Int) (w : World) : Calls Try.prog 130 #[.int .i64 op] w fun e w' => ∃ (fr : List Nat) (fw : Bool) (fl fh : Int) (fn fk : Bool) (fe : Int) (b : Bool), Hid (Ord.theForm op = ⟨fr, fw, fl, fh, fn, fk, fe⟩ ∧ (Ord.form op).isSome = b) ∧ e = .returned (.tuple #[.agg #[.string (Ord.lets fr), .bool fw, .int .i64 fl, .int .i64 fh, .bool fn, .bool fk, .int .i64 fe], .bool b]) ∧ Below w.heap.size w w' := by
  refine (of_any op w).mono ?_
  rintro e w' ⟨rfl, hb⟩
  exact ⟨_, _, _, _, _, _, _, _, ⟨rfl, rfl⟩, rfl, hb⟩

set_option maxHeartbeats 800000 in
set_option maxRecDepth 100000 in
theorem writes_any (x : RO) (w : World) : Calls Try.prog 134 #[.agg #[.int .i64 x.op, .int .i64 x.a, .int .i64 x.b, .int .i64 x.c, .int .i64 x.n, .int .i64 x.exit, .int .i64 x.k.1, .int .i64 x.k.2]] w fun e w' => e = .returned (.int .i64 (Ord.writes x)) ∧ Below w.heap.size w w' := by
  obtain ⟨q, hq⟩ : ∃ q, Ord.writes x = q := ⟨_, rfl⟩
  have hQ := Lib.hid hq
  rw [hq]; clear hq
  go_enter Try.func134, Try.ntmps134
  go_wp2_with fail
  refine calls_world (fun W => Blk W w.heap.size 146 #[.int .i64 x.op, .int .i64 x.a, .int .i64 x.b, .int .i64 x.c, .int .i64 x.n, .int .i64 x.exit, .int .i64 x.k.1, .int .i64 x.k.2] ∧ Below w.heap.size w W ∧ w.heap.size + 1 ≤ W.heap.size) ⟨Blk.new _ _ _, (Below.refl _ _).alloc (Nat.le_refl _) _, by simp⟩ ?_
  rintro W ⟨hX, hb0, hs0⟩
  refine (form_call x.op W).mono ?_
  rintro e w1 ⟨fr, fw, fl, fh, fn, fk, fe, b, hf, rfl, hb1⟩
  have hs1 := hb1.size
  have hX1 := hX.fresh hb1
  have q0 := hX1.cell 1 (v := .int .i64 x.a) rfl
  have lt0 : w.heap.size < w1.heap.size := by omega
  have hbl := hb0.trans (hb1.mono (by omega))
  have hw : Ord.writes x = if fw then x.a else -1 := by unfold Ord.writes; rw [hf.out.1]
  have HW := Lib.hid (hQ.out.symm.trans hw)
  clear hw hf hX hX1
  cases fw with
  | true =>
    go_wp2_with fail
    go_ret
    exact ⟨by rw [HW.out] <;> rfl, (hbl.alloc (by omega) _)⟩
  | false =>
    go_wp2_with fail
    go_ret
    exact ⟨by rw [HW.out] <;> rfl, (hbl.alloc (by omega) _)⟩

theorem rd_cases (P : List Nat → Prop) (h0 : P []) (h1 : P [0]) (h2 : P [1]) (h3 : P [0, 1]) (h4 : P [1, 2]) (h5 : P [0, 1, 2]) (op : Int) : P (Ord.theForm op).rd := by
  by_cases hop : 1 ≤ op ∧ op ≤ 22
  · rcases (by omega : op = 1 ∨ op = 2 ∨ op = 3 ∨ op = 4 ∨ op = 5 ∨ op = 6 ∨ op = 7 ∨ op = 8 ∨ op = 9 ∨ op = 10 ∨ op = 11 ∨ op = 12 ∨ op = 13 ∨ op = 14 ∨ op = 15 ∨ op = 16 ∨ op = 17 ∨ op = 18 ∨ op = 19 ∨ op = 20 ∨ op = 21 ∨ op = 22) with rfl | rfl | rfl | rfl | rfl | rfl | rfl | rfl | rfl | rfl | rfl | rfl | rfl | rfl | rfl | rfl | rfl | rfl | rfl | rfl | rfl | rfl <;> assumption
  · have hn : Ord.form op = none := by
      unfold Ord.form Ord.formHeap
      repeat rw [if_neg (by omega)]
    unfold Ord.theForm; rw [hn]; exact h0
theorem rd_ok (op : Int) : ∀ i ∈ (Ord.theForm op).rd, i < 3 := rd_cases (fun l => ∀ i ∈ l, i < 3) (by decide) (by decide) (by decide) (by decide) (by decide) (by decide) op
theorem rd_len (op : Int) : (Ord.theForm op).rd.length ≤ 3 := rd_cases (fun l => l.length ≤ 3) (by decide) (by decide) (by decide) (by decide) (by decide) (by decide) op
theorem fld_idx (x : RO) (i : Nat) (hi : i < 3) (w : World) : (Instr.index 175 (.agg #[.int .i64 x.a, .int .i64 x.b, .int .i64 x.c]) (.int .i32 (i : Int))).run Try.prog w = .ok (.int .i64 (Ord.fld x i)) w := by
  rcases (by omega : i = 0 ∨ i = 1 ∨ i = 2) with rfl | rfl | rfl <;> kernel_rfl

theorem fld_ok (x : RO) (h : I64 x.a ∧ I64 x.b ∧ I64 x.c) : ∀ i, I64 (Ord.fld x i)
  | 0 => h.1
  | 1 => h.2.1
  | _ + 2 => h.2.2

set_option maxHeartbeats 1600000 in
set_option maxRecDepth 100000 in
theorem reads_any (x : RO) (w : World) (hxi : I64 x.a ∧ I64 x.b ∧ I64 x.c) : Calls Try.prog 132 #[.agg #[.int .i64 x.op, .int .i64 x.a, .int .i64 x.b, .int .i64 x.c, .int .i64 x.n, .int .i64 x.exit, .int .i64 x.k.1, .int .i64 x.k.2]] w fun e w' => ∃ (A : Option Addr) (c m : Nat), e = .returned (.slice A m c) ∧ (Ord.reads x).length = m ∧ Own w' w.heap.size 3 A c (Ord.reads x) ∧ Below w.heap.size w w' := by
  obtain ⟨i0, hi, hz0, hz1, hz2⟩ := info_parts infoInt
  have HI := Lib.hid (fld_ok x hxi)
  clear hxi
  have hro := rd_ok x.op
  have hrl := rd_len x.op
  obtain ⟨F, hF⟩ : ∃ F, Ord.theForm x.op = F := ⟨_, rfl⟩
  rw [hF] at hro hrl
  have HF := Lib.hid (And.intro hF hro); clear hF hro
  go_enter Try.func132, Try.ntmps132
  go_wp2_with fail
  refine calls_world (fun W => Blk W w.heap.size 146 #[.int .i64 x.op, .int .i64 x.a, .int .i64 x.b, .int .i64 x.c, .int .i64 x.n, .int .i64 x.exit, .int .i64 x.k.1, .int .i64 x.k.2] ∧ Below w.heap.size w W ∧ w.heap.size + 1 ≤ W.heap.size) ⟨Blk.new _ _ _, (Below.refl _ _).alloc (Nat.le_refl _) _, by simp⟩ ?_
  rintro W ⟨hX, hb0, hs0⟩
  refine (form_call x.op W).mono ?_
  rintro e w1 ⟨fr, fw, fl, fh, fn, fk, fe, b, hf, rfl, hb1⟩
  have hs1 := hb1.size
  have hbl := hb0.trans (hb1.mono (by omega))
  have hX1 := Lib.hid (hX.fresh hb1)
  have hFr : F.rd = fr := by rw [← HF.out.1, hf.out.1]
  have hro := HF.out.2
  rw [hFr] at hrl hro
  have HR := Lib.hid (And.intro hro (show Ord.reads x = fr.map (Ord.fld x) by unfold Ord.reads; rw [hf.out.1])); clear hro hf hFr HF hX
  have hsz := Ord.lets_size fr
  have HS := Lib.hid hsz; clear hsz
  go_wp2_with fail
  go_loopg [5] fr.length (fun gk ov wr => ∃ (k m : Nat) (A : Option Addr) (c : Nat), k ≤ fr.length ∧ gk = fr.length - k ∧ ov = .slice A m c ∧ m ≤ k ∧ Hid (Own wr w.heap.size 3 A c ((fr.take k).map (Ord.fld x)) ∧ ((fr.take k).map (Ord.fld x)).length = m ∧ wr.heap[w1.heap.size + 1]? = some (.stringIter (Ord.lets fr) k) ∧ Blk wr w.heap.size 146 #[.int .i64 x.op, .int .i64 x.a, .int .i64 x.b, .int .i64 x.c, .int .i64 x.n, .int .i64 x.exit, .int .i64 x.k.1, .int .i64 x.k.2]) ∧ Below w.heap.size w wr ∧ w1.heap.size + 1 < wr.heap.size)
  case atStart => exact ⟨0, 0, none, 0, Nat.zero_le _, rfl, rfl, Nat.le_refl _, ⟨Own.nil_, rfl, (by have h := World.iter_heap (w1.alloc (.cells #[.string (Ord.lets fr), .bool fw, .int .i64 fl, .int .i64 fh, .bool fn, .bool fk, .int .i64 fe] 197)) (Ord.lets fr) 0; rw [World.size_alloc] at h; exact h), (hX1.out.alloc _).alloc _⟩, (hbl.alloc (by omega) _).alloc (by simp; omega) _, by simp [World.iter]⟩
  case round =>
    obtain ⟨k, m, A, c, hk, rfl, rfl, hmk, hkeep, hbl2, hs2⟩ := hrel
    obtain ⟨k1, k2, k3, k4⟩ := hkeep.out
    have hss := HS.out
    by_cases hlt : k < fr.length
    · obtain ⟨i, hi3⟩ : ∃ i, fr[k]? = some i := ⟨_, List.getElem?_eq_getElem hlt⟩
      have hi4 := HR.out.1 i (List.mem_of_getElem? hi3)
      have hnx := fun ty => Lib.run_next_ascii_at (P := Try.prog) wr (w1.heap.size + 1) (Ord.lets fr) k ty k3 (by omega) (by rw [Ord.lets_get hi3 hi4]; omega)
      rw [Ord.lets_get hi3 hi4] at hnx
      obtain ⟨j1, j2⟩ := own_iter k1 k3 (k + 1)
      have j3 := blk_iter k4 (k := w1.heap.size + 1) (s := Ord.lets fr) (by omega) (k + 1)
      have j4 := Lib.iterAt_heap wr (w1.heap.size + 1) (Ord.lets fr) k (k + 1) k3
      have j5 := Lib.below_iterAt hbl2 (k := w1.heap.size + 1) (by omega) (Ord.lets fr) (k + 1)
      have j6 : w1.heap.size + 1 < (wr.iterAt (w1.heap.size + 1) (Ord.lets fr) (k + 1)).heap.size := by rw [Lib.iterAt_size]; exact hs2
      obtain ⟨V, hV⟩ : ∃ V, wr.iterAt (w1.heap.size + 1) (Ord.lets fr) (k + 1) = V := ⟨_, rfl⟩
      rw [hV] at hnx j1 j3 j4 j5 j6
      have q1 := j3.cell 1 (v := .int .i64 x.a) rfl
      have q2 := j3.cell 2 (v := .int .i64 x.b) rfl
      have q3 := j3.cell 3 (v := .int .i64 x.c) rfl
      have hfx : (Instr.index 175 (.agg #[.int .i64 x.a, .int .i64 x.b, .int .i64 x.c]) (.int .i32 (65 + (i : Int) - 65))).run Try.prog V = .ok (.int .i64 (Ord.fld x i)) V := by rw [show 65 + (i : Int) - 65 = (i : Int) by omega]; exact fld_idx x i hi4 V
      have hmt : (fr.take (k + 1)).map (Ord.fld x) = (fr.take k).map (Ord.fld x) ++ [Ord.fld x i] := by rw [List.take_add_one, hi3]; simp
      have hyi : I64 (Ord.fld x i) := HI.out i
      obtain ⟨y, hy⟩ : ∃ y, Ord.fld x i = y := ⟨_, rfl⟩
      rw [hy] at hfx hmt hyi
      have HK := Lib.hid (And.intro j1 (And.intro k2 (And.intro j3 (And.intro j4 (And.intro hmt hyi))))); clear hyi k1 k2 k3 k4 hkeep hi3 hV j1 j2 j3 j4 hmt hy hss
      go_wp2_with (at_builtin; go_must (refine wpList_app (α := Int) (n := m) (m := 1) (B := V.heap.size + 1) (r := [y]) rfl (.tmp 20) (.tmp 31) _ rfl w.heap.size 3 i0 _ 8 Try.underlying40 hi hz0 hz1 hz2 rfl (by decide) int_one (by rfl) HK.out.2.1 (HK.out.1.alloc _) (by rfl) (At.built V _ _ [y] rfl (by intro u hu; simp at hu; subst hu; exact HK.out.2.2.2.2.2)) rfl (by omega) (by simp only [maxLen]; omega) (by simp; omega) ?_))
      intro A5 c5 w5 ho5 hgr5 hat5
      have hs5 := hgr5.size
      simp only [World.size_alloc] at hs5
      have hb5 : Below w.heap.size w w5 := (j5.alloc (by omega) _).grown hgr5 (by simp; omega) (fun g hg => (HK.out.1.lt g hg).1)
      have l5 := ((HK.out.2.2.1).alloc (.cells #[.int .i64 y] 3)).grown hgr5 (own_ne_ty (HK.out.1.alloc (.cells #[.int .i64 y] 3)) (HK.out.2.2.1.alloc (.cells #[.int .i64 y] 3)) (by decide))
      have i5 : w5.heap[w1.heap.size + 1]? = some (.stringIter (Ord.lets fr) (k + 1)) := (hgr5.block (w1.heap.size + 1) (by simp; omega) (fun e => (own_iter HK.out.1 HK.out.2.2.2.1 0).2 e.symm)).trans ((Below.heap_alloc _ _ _ (by omega)).trans HK.out.2.2.2.1)
      have H5 := Lib.hid (And.intro ho5 (And.intro l5 i5)); clear ho5 l5 i5 hgr5 hat5
      go_wp2_with fail
      go_roundg (fr.length - (k + 1))
      case measure => omega
      case rel => exact ⟨k + 1, m + 1, A5, c5, by omega, rfl, rfl, by omega, ⟨by have h5 := H5.out.1; rw [← List.map_take] at h5; rw [HK.out.2.2.2.2.1]; exact h5, by rw [HK.out.2.2.2.2.1, List.length_append, HK.out.2.1]; rfl, H5.out.2.2, H5.out.2.1⟩, hb5, by omega⟩
    · have hss := HS.out
      have hnx := fun ty => Lib.run_next_end_at (P := Try.prog) wr (w1.heap.size + 1) (Ord.lets fr) k ty k3 (by omega)
      rw [List.take_of_length_le (by omega)] at k1 k2
      have HK := Lib.hid (And.intro k1 k2); clear k1 k2 k3 k4 hkeep hss
      go_wp2_with fail
      go_ret
      exact ⟨A, c, m, rfl, by rw [HR.out.2]; exact HK.out.2, by rw [HR.out.2]; exact HK.out.1, hbl2⟩

end Go.Proofs.Ytljdnadejmkaeaa
