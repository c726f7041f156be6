/- KW: KwE, CpA, CpB. -/
import Derived.Test.YtdlcooplllimeaaGreatDoorKW3
import Derived.Test.YtdlcooplllimeaaGreatDoorKW7
import Derived.Test.YtdlcooplllimeaaGreatDoorKW10
import Derived.Deep.RegionHeld3
import Derived.Deep.DeepCutAuto
/- words: cells from words. -/
namespace Go.Proofs.YtdlcooplllimeaaGreatDoor
open Go.RowKit

attribute [local go_sem ↓] Go.wp_at_zero Go.wp_at_succ

namespace Top
theorem infoCeT : (Tryz.prog.info? 46).map (fun i => (i.zero, i.size, i.bytes)) = some (some (.agg #[.int .i64 0, .int .i64 0, .slice none 0 0, .slice none 0 0]), 4, 64) := by kernel_rfl
def raw4 (x : Ce) (VA : Option Addr) (vc : Nat) (FA : Option Addr) (fc : Nat) : Raw 4 := ⟨[.int .i64 x.kind, .int .i64 x.num, .slice VA x.vals.length vc, .slice FA x.frames.length fc], rfl, by simp [Value.oneCell']⟩
def MY (t : TypeId) : Prop := t ≠ 48 ∧ t ≠ 200 ∧ t ≠ 141
instance (t : TypeId) : Decidable (MY t) := by unfold MY; infer_instance
def CeR (m : World) (base : Nat) (r : Raw 4) (x : Ce) : Prop :=
  ∃ VA vc FA fc rows, r = raw4 x VA vc FA fc ∧ Own m base 48 VA vc x.vals ∧ Own (α := Raw 8) m base 141 FA fc rows ∧ rows.length = x.frames.length ∧ ∀ (k : Nat) r f, rows[k]? = some r → x.frames[k]? = some f → FrR m base r f
theorem CeR.kept {m m' : World} {base : Nat} {r : Raw 4} {x : Ce} (h : CeR m base r x) (hk : Kept MY m m') : CeR m' base r x := by
  obtain ⟨VA, vc, FA, fc, rows, e, h1, h2, h3, h4⟩ := h
  exact ⟨VA, vc, FA, fc, rows, e, hk.own h1 (by decide), hk.own h2 (by decide), h3, fun k r f a b => (h4 k r f a b).kept (hk.more fun t ht => ⟨ht.1, ht.2.1⟩)⟩
theorem FrR.base_le {m : World} {base base' : Nat} {r : Raw 8} {f : Fr} (h : FrR m base r f) (hb : base' ≤ base) : FrR m base' r f := by
  obtain ⟨RA, rc, TA, tc, e, h1, h2⟩ := h
  exact ⟨RA, rc, TA, tc, e, h1.base_le hb, h2.base_le hb⟩
theorem CeR.base_le {m : World} {base base' : Nat} {r : Raw 4} {x : Ce} (h : CeR m base r x) (hb : base' ≤ base) : CeR m base' r x := by
  obtain ⟨VA, vc, FA, fc, rows, e, h1, h2, h3, h4⟩ := h
  exact ⟨VA, vc, FA, fc, rows, e, h1.base_le hb, h2.base_le hb, h3, fun k r f a b => (h4 k r f a b).base_le hb⟩
theorem Tr.keptY {R : Nat} {m m' : World} (h : Tr R m m') {cs : Array Value} (hR : Blk m R 110 cs) : Kept MY m m' := fun g cs' t st ht hx => h.block g (Array.getElem?_eq_some_iff.1 hx).1 (fun e => by
  subst e
  unfold Blk at hR
  rw [hR] at hx
  injection hx with hx
  injection hx with _ hx _
  exact ht (by rw [← hx]; decide))
theorem nil_capT {α : Type} [Flat α] {w : World} {base : Nat} {e : TypeId} {c : Nat} {l : List α} (h : Own w base e none c l) : c = 0 := by
  rcases h.2 with ⟨h1, _⟩ | ⟨g, cap, cur, h1, _⟩
  · injection h1
  · injection h1 with h1; cases h1
theorem own_rd {α : Type} [Flat α] {w : World} {base : Nat} {e : TypeId} {A : Option Addr} {c : Nat} {l : List α} (h : Own w base e A c l) (hok : ∀ x ∈ l, Flat.ok x) : Enc.rd w w.heap.size [.slice A l.length c] l :=
  ⟨A, c, rfl, h.le_cap.1, h.le_cap.2, fun hA => by subst hA; exact nil_capT h, h.at_ hok⟩
theorem FrR.rd {m : World} {base : Nat} {r : Raw 8} {f : Fr} (h : FrR m base r f) (hf : FrI f) (hs : I64 f.self.1 ∧ I64 f.self.2) : Enc.rd m m.heap.size r.cs f := by
  obtain ⟨RA, rc, TA, tc, rfl, h1, h2⟩ := h
  exact ⟨_, _, rfl, hf.i.1, hf.i.2.1, hf.i.2.2.1, hf.i.2.2.2, hs.1, hs.2, own_rd h1 (fun v hv => (hf.regs v hv).2), own_rd h2 hf.tries⟩
theorem CeR.rd {m : World} {base : Nat} {r : Raw 4} {x : Ce} (h : CeR m base r x) (hx : CeI x) : Enc.rd m m.heap.size r.cs x := by
  obtain ⟨VA, vc, FA, fc, rows, rfl, h1, h2, h3, h4⟩ := h
  exact ⟨_, _, rfl, hx.i.1, hx.i.2, own_rd h1 (fun v hv => (hx.vals v hv).2), FA, fc, rfl, by rw [← h3]; exact h2.le_cap.1, h2.le_cap.2, fun hA => by subst hA; exact nil_capT h2,
    Own.at_raw rfl h2 h3 fun k r f a b => (h4 k r f a b).rd (hx.frames f (List.mem_of_getElem? b)) (hx.frames f (List.mem_of_getElem? b)).self.2⟩
structure CeO (m : World) (base : Nat) (A : Option Addr) (c : Nat) (rows : List (Raw 4)) (xs : List Ce) : Prop where
  o : Own (α := Raw 4) m base 46 A c rows
  n : rows.length = xs.length
  r : ∀ (k : Nat) r x, rows[k]? = some r → xs[k]? = some x → CeR m base r x
theorem CeO.rd {m : World} {base : Nat} {A : Option Addr} {c : Nat} {rows : List (Raw 4)} {xs : List Ce} (h : CeO m base A c rows xs) (hx : ∀ x ∈ xs, CeI x) : Enc.rd m m.heap.size [.slice A xs.length c] xs :=
  ⟨A, c, rfl, by rw [← h.n]; exact h.o.le_cap.1, h.o.le_cap.2, fun hA => by have := h.o; subst hA; exact nil_capT this, Own.at_raw rfl h.o h.n fun k r x a b => (h.r k r x a b).rd (hx x (List.mem_of_getElem? b))⟩
def CsPost (xs : List Ce) (w : World) (e : Ending) (w' : World) : Prop :=
  ∃ LA lc rows, e = .returned (.tuple #[.slice LA xs.length lc, .int .i64 0]) ∧ CeO w' w.heap.size LA lc rows xs ∧ Below w.heap.size w w'
structure CL (w : World) (R B : Nat) (A : Option Addr) (n c : Nat) (ws : List U64) (xs : List Ce) (i : Nat) (LA : Option Addr) (lc : Nat) (rows : List (Raw 4)) (m : World) : Prop where
  rd : RdS m R B A n c (1 + ((xs.take i).flatMap (cellW bxT)).length) ws
  t : Below w.heap.size w m
  o : Own (α := Raw 4) m w.heap.size 46 LA lc rows
  n : rows.length = i
  r : ∀ (k : Nat) r x, rows[k]? = some r → xs[k]? = some x → CeR m w.heap.size r x
set_option maxHeartbeats 1600000 in
set_option maxRecDepth 100000 in
theorem cells_read (B n c : Nat) (A : Option Addr) (ws : List U64) (xs : List Ce) (w : World) (hA : At w B A ws) (hB : B ≤ w.heap.size) (hws : ws = wd xs.length :: xs.flatMap (cellW bxT)) (hl : ws.length = n) (hn : n ≤ 1073741824) (hx : ∀ x ∈ xs, CeI x) (hm : xs.length ≤ 300) :
    Calls Tryz.prog 16 #[.slice A n c] w (CsPost xs w) := by
  obtain ⟨P, hP⟩ : ∃ P, CsPost xs w = P := ⟨_, rfl⟩
  have HP := Lib.hid hP; rw [hP]; clear hP
  obtain ⟨i0, hi, hz0, hz1, hz2⟩ := info_parts infoCeT
  have hsg : Sg ws 0 (wd xs.length :: xs.flatMap (cellW bxT)) := by rw [hws]; exact List.prefix_rfl
  have hlen : n = 1 + (xs.flatMap (cellW bxT)).length := by rw [← hl, hws]; simp; omega
  obtain ⟨ln, hln⟩ : ∃ ln, xs.length = ln := ⟨_, rfl⟩
  have hl3 : ln ≤ 300 := by omega
  have H := Lib.hid (And.intro (hA) (And.intro (hB) (And.intro (hsg) (And.intro (hl) (And.intro (hlen) (And.intro (hx) (hln)))))))
  clear hA hsg hl hlen hx hln hws hm
  go_enter Tryz.func16, Tryz.ntmps16
  go_upto_region 3 with fail
  refine wp_world (fun W => RdS W w.heap.size B A n c 0 ws ∧ Below w.heap.size w W ∧ w.heap.size + 1 ≤ W.heap.size) ⟨⟨Blk.new _ _ _, H.out.1.alloc H.out.2.1 _, H.out.2.2.2.1, H.out.2.1⟩, (Below.refl _ _).alloc (Nat.le_refl _) _, by simp⟩ ?_
  rintro W ⟨hR, hbW, hsW⟩
  have hc := many_any w.heap.size B n c 0 A ws ln 300 W hR (by rw [← H.out.2.2.2.2.2.2]; exact H.out.2.2.1.head) (by omega) (by omega) hn
  have HW := Lib.hid (And.intro (hc) (And.intro (hR) (hbW)))
  clear hc hR hbW
  go_wp2_with fail
  refine HW.out.1.mono ?_
  rintro e w1 ⟨rfl, r1, t1⟩
  have hs1 := t1.size
  have b1 : Below w.heap.size w w1 := HW.out.2.2.trans (t1.below (Nat.le_refl _) (by omega))
  have H1 := Lib.hid (And.intro (r1) (b1))
  clear r1 b1 t1
  go_wp2_with fail
  go_loopg [5, 6] (ln) (fun gk ov nv wr => ∃ (i j : Nat) (LA : Option Addr) (lc : Nat), i ≤ ln ∧ gk = ln - i ∧ j ≤ ln ∧ nv = .int .i64 j ∧ ov = .slice LA i lc ∧ Hid (i + j = ln ∧ ∃ rows, CL w w.heap.size B A n c ws xs i LA lc rows wr) ∧ w1.heap.size ≤ wr.heap.size)
  case atStart => exact ⟨0, ln, none, 0, Nat.zero_le _, by omega, Nat.le_refl _, rfl, rfl, ⟨by omega, [], ⟨H1.out.1, H1.out.2, Own.nil_, rfl, fun k r x a _ => by simp at a⟩⟩, Nat.le_refl _⟩
  case round =>
    obtain ⟨i, j, LA, lc, hil, rfl, hjl, rfl, rfl, hkeep, hsz⟩ := hrel
    obtain ⟨hij, rows, hC⟩ := hkeep.out
    have q2 := hC.rd.r.cell 2 (v := .bool false) rfl
    by_cases hj : 0 < j
    · obtain ⟨j', rfl⟩ : ∃ j', j = j' + 1 := ⟨j - 1, by omega⟩
      have hit : i < xs.length := by have := H.out.2.2.2.2.2.2; omega
      obtain ⟨x, hxv⟩ : ∃ x, xs[i]? = some x := ⟨_, List.getElem?_eq_getElem hit⟩
      have hci := H.out.2.2.2.2.2.1 x (List.mem_of_getElem? hxv)
      have htk : 1 + ((xs.take (i + 1)).flatMap (cellW bxT)).length = 1 + ((xs.take i).flatMap (cellW bxT)).length + (cellW bxT x).length := by
        rw [flatMap_snoc (cellW bxT) xs i x hxv, List.length_append]; omega
      have hsg : Sg ws (1 + ((xs.take i).flatMap (cellW bxT)).length) (cellW bxT x) := by
        have h1 := (Sg.tail H.out.2.2.1)
        have e : xs.flatMap (cellW bxT) = (xs.take i).flatMap (cellW bxT) ++ (cellW bxT x ++ (xs.drop (i + 1)).flatMap (cellW bxT)) := by
          have h2 := (List.take_append_drop i xs).symm
          have h3 : xs.drop i = x :: xs.drop (i + 1) := by rw [List.drop_eq_getElem_cons hit]; congr 1; rw [List.getElem?_eq_getElem hit] at hxv; injection hxv
          conv => lhs; rw [h2]
          rw [List.flatMap_append, h3, List.flatMap_cons]
        rw [e] at h1
        have h4 := h1.right.left
        rwa [Nat.zero_add] at h4
      have hc := cell_read w.heap.size B n c _ A ws x wr hC.rd hsg hci hn
      have d0 : decide ((0 : Int) < (j' : Int) + 1) = true := decide_eq_true (by omega)
      have d1 : (0 : Int) < (j' : Int) + 1 := by omega
      have HX := Lib.hid (And.intro (hc) (And.intro (hC) (And.intro (hij) (And.intro (hxv) (htk)))))
      clear hc hC hij hxv htk hci hsg hit hkeep
      go_wp2_with fail
      refine HX.out.1.mono ?_
      rintro e w2 ⟨VA, vc, FA, fc, frs, rfl, r2, t2, oV, oF, hfl, hfr⟩
      have hs2 := t2.size
      have hR2 := HX.out.2.1.rd.r
      have oC := (t2.own hR2 HX.out.2.1.o (by decide)).alloc (.cells #[.int .i64 x.kind, .int .i64 x.num, .slice VA x.vals.length vc, .slice FA x.frames.length fc] 46)
      have hat := At.built w2 #[.int .i64 x.kind, .int .i64 x.num, .slice VA x.vals.length vc, .slice FA x.frames.length fc] 46 [raw4 x VA vc FA fc] rfl (fun _ _ => trivial)
      have hRa := r2.fresh ((Below.refl _ _).alloc (Nat.le_refl _) (.cells #[.int .i64 x.kind, .int .i64 x.num, .slice VA x.vals.length vc, .slice FA x.frames.length fc] 46))
      have hsw : w.heap.size ≤ wr.heap.size := by omega
      have hba : Below w.heap.size w (w2.alloc (.cells #[.int .i64 x.kind, .int .i64 x.num, .slice VA x.vals.length vc, .slice FA x.frames.length fc] 46)) := (HX.out.2.1.t.trans (t2.below (Nat.le_refl _) hsw)).alloc (by omega) _
      have hcr : CeR w2 w.heap.size (raw4 x VA vc FA fc) x := ⟨VA, vc, FA, fc, frs, rfl, oV.base_le hsw, oF.base_le hsw, hfl, fun k r f a b => (hfr k r f a b).base_le hsw⟩
      have H2 := Lib.hid (And.intro (oC) (And.intro (hat) (And.intro (hRa) (And.intro (hba) (And.intro (hcr) (t2))))))
      clear oC hat hRa hba hcr t2 r2 oV oF hfl hfr q2 hR2
      go_wp2_with (at_builtin; go_must (refine wpList_app (α := Raw 4) (n := i) (m := 1) (B := w2.heap.size + 1) (r := [raw4 x VA vc FA fc]) rfl (.tmp 23) (.tmp 26) _ rfl w.heap.size 46 i0 _ 64 Tryz.underlying27 hi hz0 hz1 hz2 rfl (by decide) raw_one (by rfl) HX.out.2.1.n H2.out.1 (by rfl) H2.out.2.1 rfl (by omega) (by simp only [maxLen]; omega) (by simp; omega) ?_))
      intro A3 c3 w3 hown3 hgr3 hat3
      have hs3 := hgr3.size
      rw [World.size_alloc] at hs3
      have hne := own_ne_ty H2.out.1 H2.out.2.2.1.r (by decide)
      have r3 : RdS w3 w.heap.size B A n c (1 + ((xs.take (i + 1)).flatMap (cellW bxT)).length) ws := by
        rw [HX.out.2.2.2.2]
        exact ⟨H2.out.2.2.1.r.grown hgr3 hne, H2.out.2.2.1.a.below ((Below.refl B _).grown hgr3 (by have := H2.out.2.2.1.hB; simp; omega) (fun g hg => by have h1 := (H2.out.1.lt g hg).1; have h2 := H2.out.2.2.1.hB; omega)), H2.out.2.2.1.n, H2.out.2.2.1.hB⟩
      have b3 : Below w.heap.size w w3 := H2.out.2.2.2.1.grown hgr3 (by simp; omega) (fun g hg => (H2.out.1.lt g hg).1)
      have k3 : Kept MY w2 w3 := ((Kept.refl w2).alloc _).grown H2.out.1 (by decide) hgr3
      have hr3 : ∀ (k : Nat) r y, (rows ++ [raw4 x VA vc FA fc])[k]? = some r → xs[k]? = some y → CeR w3 w.heap.size r y :=
        snoc_rel HX.out.2.1.n (P := fun y r => CeR w3 w.heap.size r y) (fun k r y a b => ((HX.out.2.1.r k r y a b).kept (H2.out.2.2.2.2.2.keptY HX.out.2.1.rd.r)).kept k3) HX.out.2.2.2.1 (H2.out.2.2.2.2.1.kept k3)
      have hC3 : CL w w.heap.size B A n c ws xs (i + 1) A3 c3 (rows ++ [raw4 x VA vc FA fc]) w3 := ⟨r3, b3, hown3, by simp [HX.out.2.1.n], hr3⟩
      have H3 := Lib.hid (hC3)
      clear r3 b3 hown3 hgr3 hat3 hne k3 hr3 hC3
      go_wp2_with fail
      go_roundg (ln - (i + 1))
      case measure => have := HX.out.2.2.1; omega
      case rel => exact ⟨i + 1, j', A3, c3, by have := HX.out.2.2.1; omega, rfl, by omega, by go_num, rfl, ⟨by have := HX.out.2.2.1; omega, _, H3.out⟩, by omega⟩
    · obtain rfl : j = 0 := by omega
      have hin : i = ln := by omega
      subst hin
      have hlx := H.out.2.2.2.2.2.2
      have htk : xs.take i = xs := List.take_of_length_le (by omega)
      have hk := hC.rd
      rw [htk, ← H.out.2.2.2.2.1] at hk
      have q1 := hk.r.cell 1 (v := .int .i64 (n : Int)) rfl
      have hfin : P (.returned (.tuple #[.slice LA i lc, .int .i64 0])) wr := by
        rw [← HP.out, ← hlx]
        exact ⟨LA, lc, rows, rfl, ⟨hC.o, by rw [hC.n, hlx], hC.r⟩, hC.t⟩
      have HK := Lib.hid (hfin)
      clear hC hkeep hk htk hlx
      go_wp2_with fail
      exact HK.out
end Top
end Go.Proofs.YtdlcooplllimeaaGreatDoor

/- slices.Clone over cells, frames, threads, ends, strings: rows of their own with the same contents. -/
namespace Go.Proofs.YtdlcooplllimeaaGreatDoor
open Go.RowKit

namespace Top
theorem infoThT : (Tryz.prog.info? 98).map (fun i => (i.zero, i.size, i.bytes)) = some (some (.agg #[.slice none 0 0, .int .i64 0, .int .i64 0, .int .i64 0, .int .i64 0]), 5, 56) := by kernel_rfl
theorem infoEnT : (Tryz.prog.info? 127).map (fun i => (i.zero, i.size, i.bytes)) = some (some (.agg #[.int .i64 0, .int .i64 0, .int .i64 0]), 3, 24) := by kernel_rfl
theorem infoStT : (Tryz.prog.info? 9).map (fun i => (i.zero, i.size, i.bytes)) = some (some (.string ByteArray.empty), 1, 16) := by kernel_rfl
set_option maxRecDepth 100000 in
theorem cloneRCeT_any (A : Option Addr) (c B : Nat) (l : List (Raw 4)) (w : World) (h : At w B A l) (hB : B ≤ w.heap.size) (hl : l.length * 64 ≤ 140737488355328) :
    Calls Tryz.prog 99 #[.slice A l.length c] w (Copied 46 l w) := by
  obtain ⟨i0, hi, hz0, hz1, hz2⟩ := info_parts infoCeT
  cases A with
  | none =>
    have hnil : l = [] := by
      rcases l with _ | ⟨x, l⟩
      · rfl
      · obtain ⟨b, o, cs, hA, -⟩ := h 0 x rfl
        cases hA
    subst hnil
    have heq := fun w => run_eql_nil_slice w 27 46 none 0 c 0 0 Tryz.underlying27
    have heq2 := fun w => Lib.run_eql_slice_nil w 27 46 none 0 c 0 0 Tryz.underlying27
    go_enter Tryz.func99, Tryz.ntmps99
    go_wp2
    go_ret
    exact ⟨none, 0, rfl, Own.nil_, Below.refl _ _⟩
  | some a =>
    have heq2 := fun w => Lib.run_eql_slice_nil w 27 46 (some a) l.length c 0 0 Tryz.underlying27
    have H := Lib.hid h; clear h
    go_enter Tryz.func99, Tryz.ntmps99
    go_wp2_with (at_builtin; go_must (refine wpList_app (α := Raw 4) (n := 0) rfl (.tmp 5) (.tmp 6) _ rfl w.heap.size 46 i0 _ 64 Tryz.underlying27 hi hz0 hz1 hz2 rfl (by decide) raw_one (by rfl) rfl (own_new0 w _ _ _ rfl (Nat.le_refl _)) (by rfl) ((H.out).keep (fun p hp => World.cell?_alloc_lt w _ p (by omega))) rfl (by omega) (by simp only [maxLen]; omega) (by simp) ?_); intro A1 c1 w1 hown hgr hat)
    go_ret
    exact ⟨A1, c1, by simp, by simpa using hown, ((Below.refl _ _).alloc (Nat.le_refl _) _).grown hgr (by simp) (by simp [rowOf])⟩
set_option maxRecDepth 100000 in
theorem cloneRFrT_any (A : Option Addr) (c B : Nat) (l : List (Raw 8)) (w : World) (h : At w B A l) (hB : B ≤ w.heap.size) (hl : l.length * 96 ≤ 140737488355328) :
    Calls Tryz.prog 144 #[.slice A l.length c] w (Copied 141 l w) := by
  obtain ⟨i0, hi, hz0, hz1, hz2⟩ := info_parts infoFrT
  cases A with
  | none =>
    have hnil : l = [] := by
      rcases l with _ | ⟨x, l⟩
      · rfl
      · obtain ⟨b, o, cs, hA, -⟩ := h 0 x rfl
        cases hA
    subst hnil
    have heq := fun w => run_eql_nil_slice w 44 141 none 0 c 0 0 Tryz.underlying44
    have heq2 := fun w => Lib.run_eql_slice_nil w 44 141 none 0 c 0 0 Tryz.underlying44
    go_enter Tryz.func144, Tryz.ntmps144
    go_wp2
    go_ret
    exact ⟨none, 0, rfl, Own.nil_, Below.refl _ _⟩
  | some a =>
    have heq2 := fun w => Lib.run_eql_slice_nil w 44 141 (some a) l.length c 0 0 Tryz.underlying44
    have H := Lib.hid h; clear h
    go_enter Tryz.func144, Tryz.ntmps144
    go_wp2_with (at_builtin; go_must (refine wpList_app (α := Raw 8) (n := 0) rfl (.tmp 5) (.tmp 6) _ rfl w.heap.size 141 i0 _ 96 Tryz.underlying44 hi hz0 hz1 hz2 rfl (by decide) raw_one (by rfl) rfl (own_new0 w _ _ _ rfl (Nat.le_refl _)) (by rfl) ((H.out).keep (fun p hp => World.cell?_alloc_lt w _ p (by omega))) rfl (by omega) (by simp only [maxLen]; omega) (by simp) ?_); intro A1 c1 w1 hown hgr hat)
    go_ret
    exact ⟨A1, c1, by simp, by simpa using hown, ((Below.refl _ _).alloc (Nat.le_refl _) _).grown hgr (by simp) (by simp [rowOf])⟩
set_option maxRecDepth 100000 in
theorem cloneRThT_any (A : Option Addr) (c B : Nat) (l : List (Raw 5)) (w : World) (h : At w B A l) (hB : B ≤ w.heap.size) (hl : l.length * 56 ≤ 140737488355328) :
    Calls Tryz.prog 102 #[.slice A l.length c] w (Copied 98 l w) := by
  obtain ⟨i0, hi, hz0, hz1, hz2⟩ := info_parts infoThT
  cases A with
  | none =>
    have hnil : l = [] := by
      rcases l with _ | ⟨x, l⟩
      · rfl
      · obtain ⟨b, o, cs, hA, -⟩ := h 0 x rfl
        cases hA
    subst hnil
    have heq := fun w => run_eql_nil_slice w 29 98 none 0 c 0 0 Tryz.underlying29
    have heq2 := fun w => Lib.run_eql_slice_nil w 29 98 none 0 c 0 0 Tryz.underlying29
    go_enter Tryz.func102, Tryz.ntmps102
    go_wp2
    go_ret
    exact ⟨none, 0, rfl, Own.nil_, Below.refl _ _⟩
  | some a =>
    have heq2 := fun w => Lib.run_eql_slice_nil w 29 98 (some a) l.length c 0 0 Tryz.underlying29
    have H := Lib.hid h; clear h
    go_enter Tryz.func102, Tryz.ntmps102
    go_wp2_with (at_builtin; go_must (refine wpList_app (α := Raw 5) (n := 0) rfl (.tmp 5) (.tmp 6) _ rfl w.heap.size 98 i0 _ 56 Tryz.underlying29 hi hz0 hz1 hz2 rfl (by decide) raw_one (by rfl) rfl (own_new0 w _ _ _ rfl (Nat.le_refl _)) (by rfl) ((H.out).keep (fun p hp => World.cell?_alloc_lt w _ p (by omega))) rfl (by omega) (by simp only [maxLen]; omega) (by simp) ?_); intro A1 c1 w1 hown hgr hat)
    go_ret
    exact ⟨A1, c1, by simp, by simpa using hown, ((Below.refl _ _).alloc (Nat.le_refl _) _).grown hgr (by simp) (by simp [rowOf])⟩
set_option maxRecDepth 100000 in
theorem cloneREnT_any (A : Option Addr) (c B : Nat) (l : List (Raw 3)) (w : World) (h : At w B A l) (hB : B ≤ w.heap.size) (hl : l.length * 24 ≤ 140737488355328) :
    Calls Tryz.prog 103 #[.slice A l.length c] w (Copied 127 l w) := by
  obtain ⟨i0, hi, hz0, hz1, hz2⟩ := info_parts infoEnT
  cases A with
  | none =>
    have hnil : l = [] := by
      rcases l with _ | ⟨x, l⟩
      · rfl
      · obtain ⟨b, o, cs, hA, -⟩ := h 0 x rfl
        cases hA
    subst hnil
    have heq := fun w => run_eql_nil_slice w 30 127 none 0 c 0 0 Tryz.underlying30
    have heq2 := fun w => Lib.run_eql_slice_nil w 30 127 none 0 c 0 0 Tryz.underlying30
    go_enter Tryz.func103, Tryz.ntmps103
    go_wp2
    go_ret
    exact ⟨none, 0, rfl, Own.nil_, Below.refl _ _⟩
  | some a =>
    have heq2 := fun w => Lib.run_eql_slice_nil w 30 127 (some a) l.length c 0 0 Tryz.underlying30
    have H := Lib.hid h; clear h
    go_enter Tryz.func103, Tryz.ntmps103
    go_wp2_with (at_builtin; go_must (refine wpList_app (α := Raw 3) (n := 0) rfl (.tmp 5) (.tmp 6) _ rfl w.heap.size 127 i0 _ 24 Tryz.underlying30 hi hz0 hz1 hz2 rfl (by decide) raw_one (by rfl) rfl (own_new0 w _ _ _ rfl (Nat.le_refl _)) (by rfl) ((H.out).keep (fun p hp => World.cell?_alloc_lt w _ p (by omega))) rfl (by omega) (by simp only [maxLen]; omega) (by simp) ?_); intro A1 c1 w1 hown hgr hat)
    go_ret
    exact ⟨A1, c1, by simp, by simpa using hown, ((Below.refl _ _).alloc (Nat.le_refl _) _).grown hgr (by simp) (by simp [rowOf])⟩
set_option maxRecDepth 100000 in
theorem cloneRStT_any (A : Option Addr) (c B : Nat) (l : List (Raw 1)) (w : World) (h : At w B A l) (hB : B ≤ w.heap.size) (hl : l.length * 16 ≤ 140737488355328) :
    Calls Tryz.prog 101 #[.slice A l.length c] w (Copied 9 l w) := by
  obtain ⟨i0, hi, hz0, hz1, hz2⟩ := info_parts infoStT
  cases A with
  | none =>
    have hnil : l = [] := by
      rcases l with _ | ⟨x, l⟩
      · rfl
      · obtain ⟨b, o, cs, hA, -⟩ := h 0 x rfl
        cases hA
    subst hnil
    have heq := fun w => run_eql_nil_slice w 24 9 none 0 c 0 0 Tryz.underlying24
    have heq2 := fun w => Lib.run_eql_slice_nil w 24 9 none 0 c 0 0 Tryz.underlying24
    go_enter Tryz.func101, Tryz.ntmps101
    go_wp2
    go_ret
    exact ⟨none, 0, rfl, Own.nil_, Below.refl _ _⟩
  | some a =>
    have heq2 := fun w => Lib.run_eql_slice_nil w 24 9 (some a) l.length c 0 0 Tryz.underlying24
    have H := Lib.hid h; clear h
    go_enter Tryz.func101, Tryz.ntmps101
    go_wp2_with (at_builtin; go_must (refine wpList_app (α := Raw 1) (n := 0) rfl (.tmp 5) (.tmp 6) _ rfl w.heap.size 9 i0 _ 16 Tryz.underlying24 hi hz0 hz1 hz2 rfl (by decide) raw_one (by rfl) rfl (own_new0 w _ _ _ rfl (Nat.le_refl _)) (by rfl) ((H.out).keep (fun p hp => World.cell?_alloc_lt w _ p (by omega))) rfl (by omega) (by simp only [maxLen]; omega) (by simp) ?_); intro A1 c1 w1 hown hgr hat)
    go_ret
    exact ⟨A1, c1, by simp, by simpa using hown, ((Below.refl _ _).alloc (Nat.le_refl _) _).grown hgr (by simp) (by simp [rowOf])⟩
end Top
end Go.Proofs.YtdlcooplllimeaaGreatDoor

/- cells.Frames: frames of its own. -/
namespace Go.Proofs.YtdlcooplllimeaaGreatDoor
open Go.RowKit

attribute [local go_sem ↓] Go.wp_at_zero Go.wp_at_succ

namespace Top
theorem fr_one {w : World} {B : Nat} : ∀ cs (x : Fr), Enc.rd w B cs x → ∀ u ∈ cs, u.oneCell' = true := by
  rintro cs x ⟨c6, c7, rfl, -, -, -, -, -, -, ⟨A6, d6, e6, -⟩, ⟨A7, d7, e7, -⟩⟩ u hu
  injection e6 with e6; injection e7 with e7; subst e6 e7
  simp at hu
  rcases hu with rfl | rfl | rfl | rfl | rfl | rfl | rfl | rfl <;> rfl
theorem ce_one {w : World} {B : Nat} : ∀ cs (x : Ce), Enc.rd w B cs x → ∀ u ∈ cs, u.oneCell' = true := by
  rintro cs x ⟨c6, c7, rfl, -, -, ⟨A6, d6, e6, -⟩, ⟨A7, d7, e7, -⟩⟩ u hu
  injection e6 with e6; injection e7 with e7; subst e6 e7
  simp at hu
  rcases hu with rfl | rfl | rfl | rfl <;> rfl
def FcPost (l : List Fr) (w : World) (e : Ending) (w' : World) : Prop :=
  ∃ FA fc rows, e = .returned (.slice FA l.length fc) ∧ Own (α := Raw 8) w' w.heap.size 141 FA fc rows ∧ rows.length = l.length ∧ (∀ (k : Nat) r f, rows[k]? = some r → l[k]? = some f → FrR w' w.heap.size r f) ∧ Below w.heap.size w w'
structure FL (w : World) (l : List Fr) (rs : List (Raw 8)) (k : Nat) (A : Option Addr) (c : Nat) (rows : List (Raw 8)) (m : World) : Prop where
  o : Own (α := Raw 8) m w.heap.size 141 A c rows
  n : rows.length = l.length
  f : ∀ (j : Nat) r f, j < k → rows[j]? = some r → l[j]? = some f → FrR m w.heap.size r f
  r : ∀ j, k ≤ j → rows[j]? = rs[j]?
  t : Below w.heap.size w m
theorem FL.step {w m m' m2 : World} {l : List Fr} {rs rows : List (Raw 8)} {k c rc tc c2 c3 B : Nat} {g : Nat} {RA TA A2 A3 : Option Addr} {x : Fr} (h : FL w l rs k (some ⟨g, 0, none⟩) c rows m) (_hB : B ≤ w.heap.size) (hx : l[k]? = some x) (hb : Below m.heap.size m m') (hr : rows[k]? = some (raw8 x RA rc TA tc)) (hs : w.heap.size ≤ m.heap.size)
    {hb3 : Below m2.heap.size m2 m'} (o2 : Own m2 m.heap.size 48 A2 c2 x.regs) (o3 : Own m' m2.heap.size 200 A3 c3 x.tries) (hm2 : m.heap.size ≤ m2.heap.size) :
    FL w l rs (k + 1) (some ⟨g, 0, none⟩) c (rows.set k (raw8 x A2 c2 A3 c3)) ((m'.setCell ⟨g, k * 8 + 6, none⟩ (.slice A2 x.regs.length c2)).setCell ⟨g, k * 8 + 7, none⟩ (.slice A3 x.tries.length c3)) := by
  have O := h.o.fresh hb
  have hg := h.o.lt g rfl
  have O2 := O.set_raw2 (i := k) (j := 6) (k := 7) (u := .slice A2 x.regs.length c2) (v := .slice A3 x.tries.length c3) hr (by decide) (by decide) rfl rfl
  have er : ((raw8 x RA rc TA tc).set 6 (.slice A2 x.regs.length c2) rfl).set 7 (.slice A3 x.tries.length c3) rfl = raw8 x A2 c2 A3 c3 := raw_ext rfl
  rw [er] at O2
  have k1 : Kept MX m m' := Kept.fresh hb
  have k2 : Kept MX m' ((m'.setCell ⟨g, k * 8 + 6, none⟩ (.slice A2 x.regs.length c2)).setCell ⟨g, k * 8 + 7, none⟩ (.slice A3 x.tries.length c3)) := by
    have a1 := (Kept.refl (M := MX) m').setOwn O (by decide) (g := g) (i := k * 8 + 6) rfl (.slice A2 x.regs.length c2)
    exact a1.setOwn (O.set_raw hr (j := 6) (u := .slice A2 x.regs.length c2) (by decide) rfl) (by decide) (g := g) (i := k * 8 + 7) rfl (.slice A3 x.tries.length c3)
  have hkl : k < rows.length := (List.getElem?_eq_some_iff.1 hr).1
  refine ⟨O2, by rw [List.length_set]; exact h.n, fun j r f hj hjr hjf => ?_, fun j hj => ?_, ?_⟩
  · by_cases hjk : j = k
    · subst hjk
      rw [List.getElem?_set_self hkl] at hjr
      rw [hx] at hjf
      obtain rfl := Option.some.inj hjr
      obtain rfl := Option.some.inj hjf
      exact ⟨A2, c2, A3, c3, rfl, k2.own ((o2.fresh hb3).base_le hs) (by decide), k2.own (o3.base_le (by omega)) (by decide)⟩
    · rw [List.getElem?_set_ne (by omega)] at hjr
      exact ((h.f j r f (by omega) hjr hjf).kept k1).kept k2
  · rw [List.getElem?_set_ne (by omega)]
    exact h.r j (by omega)
  · exact ((h.t.trans (hb.mono hs)).setCell (p := ⟨g, k * 8 + 6, none⟩) hg.1 _).setCell (p := ⟨g, k * 8 + 7, none⟩) hg.1 _
set_option maxHeartbeats 1600000 in
set_option maxRecDepth 100000 in
theorem framesCopy_any (A : Option Addr) (c B n : Nat) (l : List Fr) (w : World) (hn : l.length = n) (h : At w B A l) (hB : B ≤ w.heap.size) (hl : n ≤ 100000) (hsm : ∀ f ∈ l, f.regs.length ≤ 100000 ∧ f.tries.length ≤ 100000) :
    Calls Tryz.prog 105 #[.slice A n c] w (FcPost l w) := by
  obtain ⟨P, hP⟩ : ∃ P, FcPost l w = P := ⟨_, rfl⟩
  have HP := Lib.hid hP; rw [hP]; clear hP
  obtain ⟨rs, hrl, hra, hrd⟩ := At.raws (n := 8) rfl h fr_one
  have hc := cloneRFrT_any A c B rs w hra hB (by omega)
  rw [hrl, hn] at hc
  have H := Lib.hid (And.intro (hc) (And.intro (hn) (And.intro (hrl) (And.intro (hrd) (hsm)))))
  clear hc hn hrl hrd hsm hra h
  go_enter Tryz.func105, Tryz.ntmps105
  go_wp2_with fail
  refine H.out.1.mono ?_
  rintro e w1 ⟨A1, c1, rfl, o1, hb1⟩
  have hFL : FL w l rs 0 A1 c1 rs w1 := ⟨o1, H.out.2.2.1, fun j r f hj => by omega, fun _ _ => rfl, hb1⟩
  rw [H.out.2.2.1, H.out.2.1]
  have H1 := Lib.hid (hFL)
  clear hFL o1 hb1
  go_wp2_with fail
  go_loopg [8] n (fun gk i wr => ∃ k : Nat, k ≤ n ∧ gk = n - k ∧ i = .int .i64 k ∧ Hid (∃ rows, FL w l rs k A1 c1 rows wr))
  case atStart => exact ⟨0, Nat.zero_le _, rfl, rfl, ⟨rs, H1.out⟩⟩
  case round =>
    obtain ⟨k, hk, rfl, rfl, hkeep⟩ := hrel
    by_cases hlt : k < n
    · obtain ⟨rows, hF⟩ := hkeep.out
      have hsz := hF.t.size
      have hll := H.out.2.1
      obtain ⟨g, rfl, hg1, hg2⟩ := hF.o.some_ (by have := hF.n; omega)
      obtain ⟨x, hx⟩ : ∃ x, l[k]? = some x := ⟨_, List.getElem?_eq_getElem (by omega)⟩
      obtain ⟨r, hr⟩ : ∃ r, rs[k]? = some r := ⟨_, List.getElem?_eq_getElem (by have := H.out.2.2.1; omega)⟩
      have hrows := (hF.r k (Nat.le_refl _)).trans hr
      have hrd := H.out.2.2.2.1 k r x hr hx
      obtain ⟨RA, rc, TA, tc, hreq, hra, hta⟩ : ∃ RA rc TA tc, r = raw8 x RA rc TA tc ∧ At w B RA x.regs ∧ At w B TA x.tries := by
        obtain ⟨v6, v7, e, -, -, -, -, -, -, ⟨RA, rc, e6, -, -, -, h6⟩, ⟨TA, tc, e7, -, -, -, h7⟩⟩ := hrd
        injection e6 with e6; injection e7 with e7; subst e6 e7
        exact ⟨RA, rc, TA, tc, raw_ext e, h6, h7⟩
      subst hreq
      have x6 := hF.o.raw_cell (i := k) (j := 6) (u := .slice RA x.regs.length rc) hrows rfl
      have x7 := hF.o.raw_cell (i := k) (j := 7) (u := .slice TA x.tries.length tc) hrows rfl
      have hsmx := H.out.2.2.2.2 x (List.mem_of_getElem? hx)
      have hsz2 : x.tries.length * 16 ≤ 140737488355328 := by omega
      have hc := cloneVal_any RA rc B x.regs wr.drew (hra.below (hF.t.mono hB)).drew (show B ≤ wr.heap.size by omega) (by omega)
      have hta' := hta.below (hF.t.mono hB)
      have hgl : (⟨g, 0, none⟩ : Addr).block < wr.heap.size := hg2
      have hgl : g < wr.heap.size := hg2
      have k0 : (0 : Int) ≤ (k : Int) := by omega
      have k1 : (k : Int) < (n : Int) := by omega
      have HX := Lib.hid (And.intro (hc) (And.intro (hF) (And.intro (hta') (And.intro (hx) (And.intro (hrows) (hsz))))))
      clear hc hF hta' hx hrows hta hra hrd hr hsmx hkeep hll
      go_upto_region 5 with fail
      refine wp_region_T (S := (fun w' => w'.cell? ⟨g, k * 8 + 6, none⟩ = some (.slice RA x.regs.length rc) ∧ w'.cell? ⟨g, k * 8 + 7, none⟩ = some (.slice TA x.tries.length tc))) (Z := (fun _ => True)) 18 (by kernel_rfl) ?_ (fun hHeld0 => ?_)
      · first | trivial | ((try dsimp only); (first | exact ⟨x6, x7⟩ | exact ⟨x6c, x7c⟩ | exact ⟨x6b, x7b⟩))
      refine ttk 0 rfl ?_
      try go_frame
      refine ttk 1 rfl ?_
      try go_frame
      refine ztk 2 rfl ?_
      try go_frame
      refine ztk 3 rfl ?_
      try go_frame
      refine ttk 4 rfl ?_
      try go_frame
      refine ttk 5 rfl ?_
      try go_frame
      refine ttk 6 rfl ?_
      try go_frame
      refine ttk 7 rfl ?_
      try go_frame
      refine ttk 8 rfl ?_
      try go_frame
      refine ztk 10 rfl ?_
      try go_frame
      refine ztk 11 rfl ?_
      try go_frame
      refine ztk 12 rfl ?_
      try go_frame
      refine ztk 13 rfl ?_
      try go_frame
      refine ttk 14 rfl ?_
      try go_frame
      refine callT 9 (by kernel_rfl) (by decide) rfl (fun K hK => ?_)
      go_simp
      go_at_call 104; refine HX.out.1.mono ?_; rintro e w2 ⟨A2, c2, rfl, o2, hb2⟩; have hb2 : Below wr.heap.size wr w2 := undrew hb2; have hs2 := hb2.size; have x6b := (hb2.cell (p := ⟨g, k * 8 + 6, none⟩) hgl).trans x6; have x7b := (hb2.cell (p := ⟨g, k * 8 + 7, none⟩) hgl).trans x7; have HT := Lib.hid (cloneTry_any TA tc B x.tries w2 (HX.out.2.2.1.below (hb2.mono (by omega))) (by omega) hsz2)
      try (go_wp2_with fail)
      refine hK.out _ _ ?_ (fun hHeld1 => ?_)
      · first | trivial | ((try dsimp only); (first | exact ⟨x6, x7⟩ | exact ⟨x6c, x7c⟩ | exact ⟨x6b, x7b⟩))
      clear hK K hHeld0
      try go_frame
      refine callT 15 (by kernel_rfl) (by decide) rfl (fun K hK => ?_)
      go_simp
      go_at_call 145; refine HT.out.mono ?_; rintro e w3 ⟨A3, c3, rfl, o3, hb3⟩; have hs3 := hb3.size; have h23 := hb2.trans (hb3.mono hs2); have O3 := (HX.out.2.1.o.fresh h23); have x6c := (h23.cell (p := ⟨g, k * 8 + 6, none⟩) hgl).trans x6; have x7c := (h23.cell (p := ⟨g, k * 8 + 7, none⟩) hgl).trans x7; have z6 := O3.frozen (g := g) rfl (k * 8 + 6); have z7 := O3.frozen (g := g) rfl (k * 8 + 7)
      try (go_wp2_with fail)
      refine hK.out _ _ ?_ (fun hHeld2 => ?_)
      · first | trivial | ((try dsimp only); (first | exact ⟨x6, x7⟩ | exact ⟨x6c, x7c⟩ | exact ⟨x6b, x7b⟩))
      clear hK K hHeld1
      try go_frame
      refine ztk 16 rfl ?_
      try go_frame
      refine ttk 17 rfl ?_
      try go_frame
      refine lastT (by kernel_rfl) rfl (fun K hK => ?_)
      go_simp
      refine hK.out _ _ ?_ (fun hHeld3 => ?_)
      · trivial
      clear hK K hHeld2
      try go_frame
      refine htk 19 rfl ?_
      try go_frame
      refine htk 20 rfl ?_
      try go_frame
      refine held_call 21 (by kernel_rfl) rfl (fun K hK => ?_)
      go_simp
      refine hK.out _ _ ?_ (fun hHeld4 => ?_)
      · trivial
      clear hK K hHeld3
      try go_frame
      refine wpAnyH_done (by kernel_rfl) ?_ _
      have HE := Lib.hid (HX.out.2.1.step hB HX.out.2.2.2.1 h23 HX.out.2.2.2.2.1 HX.out.2.2.2.2.2 (hb3 := hb3) o2 o3); clear o2 o3 O3 hb2 hb3 h23 x6c x7c z6 z7 x6b x7b HT
      go_wp2_with fail
      go_roundg (n - (k + 1))
      case measure => omega
      case rel => exact ⟨k + 1, by omega, rfl, by go_num, ⟨_, HE.out hs2⟩⟩
    · obtain rfl : k = n := by omega
      obtain ⟨rows, hF⟩ := hkeep.out
      have hfin : P (.returned (.slice A1 k c1)) wr := by
        rw [← HP.out, ← H.out.2.1]
        exact ⟨A1, c1, rows, rfl, hF.o, hF.n, fun j r f a b => hF.f j r f (by have := (List.getElem?_eq_some_iff.1 b).1; have := H.out.2.1; omega) a b, hF.t⟩
      have HK := Lib.hid (hfin)
      clear hF hkeep hfin
      go_wp2_with fail
      exact HK.out
end Top
end Go.Proofs.YtdlcooplllimeaaGreatDoor
