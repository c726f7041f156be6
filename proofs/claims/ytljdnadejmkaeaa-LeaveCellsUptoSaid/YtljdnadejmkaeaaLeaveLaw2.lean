/- The law LeaveFrames walked: it answers true and turns nothing that was there. -/
import Derived.Test.YtljdnadejmkaeaaLeaveLaw
import Derived.StillTailTactics
namespace Go.Proofs.Ytljdnadejmkaeaa
open Go.RowKit
attribute [local go_sem ↓] Go.wp_at_zero Go.wp_at_succ

theorem valuesIn_one (y : Int) (g c : Nat) (many : Nat) (w : World) (hc : w.cell? ⟨g, 0, none⟩ = some (.int .i64 y)) (hy : I64 y) :
    Calls Try.prog 15 #[.slice (some ⟨g, 0, none⟩) 1 c, .int .i64 (many : Int)] w fun e w' => e = .returned (.bool (okv many y)) ∧ w = w' := by
  have hat : At w (g + 1) (some ⟨g, 0, none⟩) [y] := by
    intro i x hx
    cases i with
    | zero =>
      simp only [List.getElem?_cons_zero, Option.some.injEq] at hx
      subst hx
      refine ⟨g, 0, [.int .i64 y], rfl, by omega, fun j u hu => ?_, rfl, hy⟩
      cases j with
      | zero => simp only [List.getElem?_cons_zero, Option.some.injEq] at hu; subst hu; simpa using hc
      | succ j => simp at hu
    | succ i => simp at hx
  refine (valuesIn_any _ c (g + 1) [y] many w hat (by simp)).mono ?_
  rintro e w' ⟨rfl, rfl⟩
  exact ⟨by simp [okv], rfl⟩

theorem setRegs_ok (vals sets regs : List (Int × Int)) (hv : ∀ x ∈ vals, Flat.ok x) (hr : ∀ x ∈ regs, Flat.ok x) : ∀ x ∈ setRegs vals sets regs, Flat.ok x := by
  unfold setRegs
  induction sets generalizing regs with
  | nil => exact hr
  | cons s sets ih =>
    rw [List.foldl_cons]
    refine ih _ fun x hx => ?_
    rcases List.mem_or_eq_of_mem_set hx with h | h
    · exact hr x h
    · subst h
      unfold getv
      rw [List.getD_eq_getElem?_getD]
      cases h2 : vals[s.2.toNat]? with
      | none => simp [Flat.ok, I64]
      | some y => exact hv _ (List.mem_of_getElem? h2)

theorem eqVal_same (A A' : Option Addr) (c c' B n m : Nat) (l : List (Int × Int)) (w : World) (h : At w B A l) (h' : At w B A' l) (hB : B ≤ w.heap.size) (hl : l.length ≤ 9223372036854775807) (hn : l.length = n) (hm : l.length = m) :
    Calls Try.prog 16 #[.slice A n c, .slice A' m c'] w fun e w' => e = .returned (.bool true) ∧ Below w.heap.size w w' := by
  subst hn; subst hm
  refine (eqVal_any A A' c c' B l l w h h' hB hl hl).mono ?_
  rintro e w' ⟨rfl, hb⟩; exact ⟨by simp, hb⟩
theorem eqTry_same (A A' : Option Addr) (c c' B n m : Nat) (l : List (Int × Int)) (w : World) (h : At w B A l) (h' : At w B A' l) (hB : B ≤ w.heap.size) (hl : l.length ≤ 9223372036854775807) (hn : l.length = n) (hm : l.length = m) :
    Calls Try.prog 17 #[.slice A n c, .slice A' m c'] w fun e w' => e = .returned (.bool true) ∧ Below w.heap.size w w' := by
  subst hn; subst hm
  refine (eqTry_any A A' c c' B l l w h h' hB hl hl).mono ?_
  rintro e w' ⟨rfl, hb⟩; exact ⟨by simp, hb⟩

set_option maxHeartbeats 1600000 in
set_option maxRecDepth 100000 in
theorem leaveFrames_any (fn fat fto gen sk sn xat steps : Int) (R T S M V : Option Addr) (rc tc sc mn mc d : Nat) (regs tries sets vals : List (Int × Int)) (w : World) (hr : At w w.heap.size R regs) (ht : At w w.heap.size T tries) (hs : At w w.heap.size S sets) (hv : At w w.heap.size V vals)
    (hrl : regs.length * 16 ≤ 140737488355328) (htl : tries.length * 16 ≤ 140737488355328) (hvl : vals.length ≤ 9223372036854775807) (hsl : sets.length ≤ 9223372036854775807) (hro : ∀ x ∈ regs, Flat.ok x) (hto : ∀ x ∈ tries, Flat.ok x) :
    Calls Try.prog 3 #[.agg #[.int .i64 fn, .int .i64 fat, .int .i64 fto, .int .i64 gen, .int .i64 sk, .int .i64 sn, .slice R regs.length rc, .slice T tries.length tc], .agg #[.int .i64 xat, .int .i64 steps, .slice S sets.length sc, .slice M mn mc], .slice V vals.length d] w fun e w' => e = .returned (.bool true) ∧ Below w.heap.size w w' := by
  have HR := Lib.hid hr; clear hr
  have HT := Lib.hid ht; clear ht
  have HS := Lib.hid hs; clear hs
  have HV := Lib.hid hv; clear hv
  go_enter Try.func3, Try.ntmps3
  go_wp2_with fail
  refine calls_world (fun W => Blk W w.heap.size 27 #[.int .i64 fn, .int .i64 fat, .int .i64 fto, .int .i64 gen, .int .i64 sk, .int .i64 sn, .slice R regs.length rc, .slice T tries.length tc] ∧
    Blk W (w.heap.size + 1) 31 #[.int .i64 xat, .int .i64 steps, .slice S sets.length sc, .slice M mn mc] ∧ Below w.heap.size w W ∧ w.heap.size + 2 ≤ W.heap.size) ⟨?_, ?_, ?_, ?_⟩ ?_
  · exact (Blk.new _ _ _).alloc _
  · exact Blk.at_ (w.alloc _) _ _ (by simp)
  · exact ((Below.refl _ _).alloc (Nat.le_refl _) _).alloc (by simp) _
  · simp
  rintro W ⟨hF, hX, hbl, hsz⟩
  refine (leftBy_any W).mono ?_
  rintro e w1 ⟨rfl, hb1⟩
  have hF1 := hF.fresh hb1
  have hX1 := hX.fresh hb1
  have hbl1 := hbl.trans (hb1.mono (by omega))
  have hsz1 : w.heap.size + 2 ≤ w1.heap.size := by have := hb1.size; omega
  have HF1 := Lib.hid hF1
  have HX1 := Lib.hid hX1
  clear hF hX hbl hsz hb1 hF1 hX1
  go_wp2_with (first | (refine wpList_ld rfl 27 (.tmp 3) rfl w.heap.size rfl HF1.out Try.underlying27 rfl (by kernel_rfl) ?_) | (refine wpList_ld rfl 31 (.tmp 4) rfl (w.heap.size + 1) rfl HX1.out Try.underlying31 rfl (by kernel_rfl) ?_))
  refine (leaveFrame_any fn fat fto gen sk sn xat steps R T S M V rc tc sc mn mc d w.heap.size regs tries sets vals w1 (HR.out.below hbl1) (HT.out.below hbl1) (HS.out.below hbl1) (HV.out.below hbl1) (by omega) hrl htl hvl hsl hro).mono ?_
  rintro e w2 ⟨hb2, hpost⟩
  have HF2 := Lib.hid (HF1.out.fresh hb2)
  have HX2 := Lib.hid (HX1.out.fresh hb2)
  have hbl2 := hbl1.trans (hb2.mono (by omega))
  have hsz2 : w.heap.size + 2 ≤ w2.heap.size := by have := hb2.size; omega
  have hs12 := hb2.size
  clear HF1 HX1 hbl1 hsz1 hb2
  have f6 := HF2.out.cell 6 (v := .slice R regs.length rc) rfl
  have lt0 : w.heap.size < w2.heap.size := by omega
  have lt1 : w.heap.size + 1 < w2.heap.size := by omega
  rcases hpost with ⟨hall, A1, A2, c1, c2, rfl, ho1, ho2⟩ | ⟨hbad, rfl⟩
  · have HALL := Lib.hid hall
    have HN12 := Lib.hid (And.intro (fun g h => (ho1.lt g h).2) (fun g h => (ho2.lt g h).2) : (∀ g, rowOf A1 = some g → g < w2.heap.size) ∧ (∀ g, rowOf A2 = some g → g < w2.heap.size))
    have HO1 := Lib.hid ho1
    have HO2 := Lib.hid ho2
    clear hall ho1 ho2
    go_wp2_with fail
    refine (copyVal_any R rc w.heap.size regs _ ((HR.out.below hbl2).alloc (by omega) _) hrl).mono ?_
    rintro e w3 ⟨A3, c3, rfl, ho3, hb3⟩
    have hs3 := hb3.size
    simp only [World.size_alloc] at hs3
    have hG := (Blk.new w2 27 #[.int .i64 fn, .int .i64 xat, .int .i64 fto, .int .i64 gen, .int .i64 sk, .int .i64 sn, .slice A1 regs.length c1, .slice A2 tries.length c2]).fresh hb3
    have hF3 := (HF2.out.alloc _).fresh hb3
    have hX3 := (HX2.out.alloc _).fresh hb3
    have ho1' := (HO1.out.alloc _).fresh hb3
    have ho2' := (HO2.out.alloc _).fresh hb3
    have hbl3 := (hbl2.alloc (by omega) _).trans (hb3.mono (by simp; omega))
    have x2 := hX3.cell 2 (v := .slice S sets.length sc) rfl
    have HG := Lib.hid (And.intro hG (And.intro hF3 (And.intro hX3 (And.intro ho1' ho2'))))
    clear hG hF3 hX3 ho1' ho2' HF2 HX2 HO1 HO2 hbl2 hsz2 f6 hb3
    have HO3 := Lib.hid (ho3.base_le (by simp : w2.heap.size + 1 ≤ _)); clear ho3
    have hne1 : (∀ g, rowOf A3 = some g → rowOf A1 ≠ some g) ∧ (∀ g, rowOf A3 = some g → rowOf A2 ≠ some g) := ⟨fun g h1 h2 => by have := (HO3.out.lt g h1).1; have := (HN12.out.1 g h2); omega, fun g h1 h2 => by have := (HO3.out.lt g h1).1; have := (HN12.out.2 g h2); omega⟩
    have HNE := Lib.hid hne1; clear hne1
    go_wp2_with fail
    go_loopw [27] (fun i wr => ∃ (k : Nat), k ≤ sets.length ∧ i = .int .i64 k ∧ Hid ((sets.take k).all (setOk vals.length regs.length) = true ∧ Own wr (w2.heap.size + 1) 23 A3 c3 (setRegs vals (sets.take k) regs) ∧
        Blk wr w2.heap.size 27 #[.int .i64 fn, .int .i64 xat, .int .i64 fto, .int .i64 gen, .int .i64 sk, .int .i64 sn, .slice A1 regs.length c1, .slice A2 tries.length c2] ∧
        Blk wr w.heap.size 27 #[.int .i64 fn, .int .i64 fat, .int .i64 fto, .int .i64 gen, .int .i64 sk, .int .i64 sn, .slice R regs.length rc, .slice T tries.length tc] ∧
        Blk wr (w.heap.size + 1) 31 #[.int .i64 xat, .int .i64 steps, .slice S sets.length sc, .slice M mn mc] ∧ Own wr w1.heap.size 23 A1 c1 (setRegs vals sets regs) ∧ Own wr w1.heap.size 44 A2 c2 tries) ∧
        Below w.heap.size w wr ∧ w2.heap.size + 1 ≤ wr.heap.size) (fun i _ => sets.length - (intOf i).toNat)
    case atStart => exact ⟨0, Nat.zero_le _, rfl, ⟨rfl, HO3.out, HG.out.1, HG.out.2.1, HG.out.2.2⟩, hbl3, hs3⟩
    case round =>
      obtain ⟨k, hk, rfl, hkeep, hbl, hsz⟩ := hrel
      clear x2 HO3 HG hbl3 hs3
      by_cases hlt : k < sets.length
      · obtain ⟨b, o, x, y, rfl, hb, hx, hox, hoy, h0, h1⟩ := (HS.out.below hbl).pair hlt
        have HXs := Lib.hid hx; clear hx
        have HB := Lib.hid ((Blk.new wr 38 #[.int .i64 x, .int .i64 y]).alloc (.cells #[.int .i64 y] 3))
        have r6 := hkeep.out.2.2.1.cell 6 (v := .slice A1 regs.length c1) rfl
        have r7 := hkeep.out.2.2.1.cell 7 (v := .slice A2 tries.length c2) rfl
        have r1 := hkeep.out.2.2.1.cell 1 (v := .int .i64 xat) rfl
        have lt2 : w2.heap.size < wr.heap.size := by omega
        have lt3 : w.heap.size < wr.heap.size := by omega
        have lt4 : w.heap.size + 1 < wr.heap.size := by omega
        have lt5 : b < wr.heap.size := by omega
        have hgood : setOk vals.length regs.length (x, y) = true := List.all_eq_true.1 HALL.out _ (List.mem_of_getElem? HXs.out)
        have hx1 : 0 ≤ x ∧ x < (regs.length : Int) ∧ okv vals.length y = true ∧ 0 ≤ y ∧ y < (vals.length : Int) := by
          simp [setOk, okv] at hgood ⊢; omega
        obtain ⟨hx1, hx2, hy1, hy2, hy3⟩ := hx1
        obtain ⟨n, rfl⟩ := Int.eq_ofNat_of_zero_le hx1
        obtain ⟨m, rfl⟩ := Int.eq_ofNat_of_zero_le hy2
        obtain ⟨b', o', p, q, rfl, hb', hpq, -, -, v0, v1⟩ := (HV.out.below hbl).pair (by omega : m < vals.length)
        have hgv : getv vals (m : Int) = (p, q) := by simp [getv, hpq]
        have HGV := Lib.hid hgv; clear hgv hpq
        have hlen := setRegs_length vals (sets.take k) regs
        obtain ⟨g1, rfl, hg1, hg1'⟩ := hkeep.out.2.1.some_ (by omega)
        obtain ⟨old, hold⟩ : ∃ u, (setRegs vals (sets.take k) regs)[n]? = some u := ⟨_, List.getElem?_eq_getElem (by omega)⟩
        have hc1 := hkeep.out.2.1.cells_ rfl
        have e0 := hc1 (n * 2) (.int .i64 old.1) (by have := flat_get _ n 0 old hold (by decide); simpa [Flat.sz, Flat.cells] using this)
        have e1 := hc1 (n * 2 + 1) (.int .i64 old.2) (by have := flat_get _ n 1 old hold (by decide); simpa [Flat.sz, Flat.cells] using this)
        have fz0 := hkeep.out.2.1.frozen (g := g1) rfl (n * 2)
        have fz1 := hkeep.out.2.1.frozen (g := g1) rfl (n * 2 + 1)
        have HO := Lib.hid hold
        simp only [Nat.zero_add] at e0 e1
        have HY := Lib.hid hy1
        have lt6 : b' < wr.heap.size := by omega
        clear hgood hy1 hold hc1 hlen
        go_wp2_with (go_at_call 15; refine (valuesIn_one m (wr.heap.size + 1) 1 vals.length _ (by have := (Blk.at_ (wr.alloc (.cells #[.int .i64 (n : Int), .int .i64 (m : Int)] 38)) 3 #[.int .i64 (m : Int)] (g := wr.heap.size + 1) (by simp)).cell 0 (v := .int .i64 (m : Int)) rfl; exact this) hoy).mono ?_; rintro e w5 ⟨rfl, rfl⟩; rw [HY.out])
        have hq := hkeep.out
        have hgne : ∀ q, q < w2.heap.size + 1 → q ≠ g1 := fun q hq => by omega
        have hA1 : rowOf A1 ≠ some g1 := HNE.out.1 g1 rfl
        have hA2 : rowOf A2 ≠ some g1 := HNE.out.2 g1 rfl
        have HQ := Lib.hid (And.intro hq (And.intro hgne (And.intro hA1 hA2)))
        clear hq hgne hA1 hA2
        refine wp_world (fun W5 => Blk W5 wr.heap.size 38 #[.int .i64 (n : Int), .int .i64 (m : Int)] ∧ Below wr.heap.size wr W5 ∧ wr.heap.size + 2 ≤ W5.heap.size) ⟨(Blk.new _ _ _).alloc _, (((Below.refl _ _).alloc (Nat.le_refl _) _).alloc (by simp) _), by simp⟩ ?_
        rintro W5 ⟨hB5, hb5, hs5⟩
        have s0 := hB5.cell 0 (v := .int .i64 (n : Int)) rfl
        have s1 := hB5.cell 1 (v := .int .i64 (m : Int)) rfl
        have v0' := (hb5.cell (p := ⟨b', o' + m * 2, none⟩) lt6).trans v0
        have v1' := (hb5.cell (p := ⟨b', o' + m * 2 + 1, none⟩) lt6).trans v1
        have e0' := (hb5.cell (p := ⟨g1, n * 2, none⟩) hg1').trans e0
        have e1' := (hb5.cell (p := ⟨g1, n * 2 + 1, none⟩) hg1').trans e1
        have fz0' := (hb5.frozen (p := ⟨g1, n * 2, none⟩) hg1').trans fz0
        have fz1' := (hb5.frozen (p := ⟨g1, n * 2 + 1, none⟩) hg1').trans fz1
        have hm1 : m < vals.length := by omega
        have hm2 : n < regs.length := by omega
        have HB5 := Lib.hid hb5
        clear v0 v1 e0 e1 fz0 fz1 hB5 hb5 HB r6 r7 r1 h0 h1
        go_still_tail 9, (by kernel_rfl)
        change wpList _ _ _ _ _ (World.drew _)
        go_wp2
        obtain ⟨hq, hgne, hA1, hA2⟩ := HQ.out
        have hb5 := HB5.out
        have o1 := (hq.2.1.fresh hb5).drew
        go_roundw
        case rel => exact ⟨k + 1, by omega, by go_num, ⟨by rw [all_snoc _ _ _ _ HXs.out, hq.1]; simp [setOk, okv, HY.out]; omega,
          by rw [setRegs_snoc _ _ _ _ _ HXs.out, HGV.out]; exact Own.set_two rfl (fun _ => rfl) o1 HO.out,
          ((hq.2.2.1.fresh hb5).far (hgne _ (by omega)) _).far (hgne _ (by omega)) _, ((hq.2.2.2.1.fresh hb5).far (hgne _ (by omega)) _).far (hgne _ (by omega)) _, ((hq.2.2.2.2.1.fresh hb5).far (hgne _ (by omega)) _).far (hgne _ (by omega)) _,
          ((hq.2.2.2.2.2.1.fresh hb5).setCell _ _ hA1).setCell _ _ hA1, ((hq.2.2.2.2.2.2.fresh hb5).setCell _ _ hA2).setCell _ _ hA2⟩,
          (((hbl.trans (hb5.mono (by omega))).setCell (by simp; omega) _).setCell (by simp; omega) _).drew, by simp [World.setCell]; omega⟩
        case measure => simp [intOf]; omega
      · obtain rfl : k = sets.length := by omega
        have hq := hkeep.out
        rw [List.take_length] at hq
        obtain ⟨-, qo, qg, qf, qx, q1, q2⟩ := hq
        obtain ⟨g0, g1, g2, g3, g4, g5, g6, g7⟩ := qg.cells8
        have x0 := qx.cell 0 (v := .int .i64 xat) rfl
        have hro' := setRegs_ok vals sets regs (HV.out.ok_) (HR.out.ok_)
        have at1 := q1.at_ hro'
        have at2 := qo.at_ hro'
        have at3 := q2.at_ (HT.out.ok_)
        have QF := Lib.hid (And.intro qg (And.intro qf (And.intro qx (And.intro at1 (And.intro at2 at3)))))
        have hlenr := setRegs_length vals sets regs
        have HL := Lib.hid hlenr
        clear qo qg qf qx q1 q2 hro' at1 at2 at3 hlenr hkeep
        go_wp2_with fail
        refine (eqVal_same A1 A3 c1 c3 wr.heap.size _ _ (setRegs vals sets regs) wr QF.out.2.2.2.1 QF.out.2.2.2.2.1 (Nat.le_refl _) (by have := HL.out; omega) HL.out HL.out).mono ?_
        rintro e w5 ⟨rfl, hb5⟩
        have hs5 := hb5.size
        clear g0 g1 g2 g3 g4 g5 g6 g7 x0
        obtain ⟨g0, g1, g2, g3, g4, g5, g6, g7⟩ := (QF.out.1.fresh hb5).cells8
        obtain ⟨f0, f1, f2, f3, f4, f5, f6, f7⟩ := (QF.out.2.1.fresh hb5).cells8
        go_wp2_with fail
        refine (eqTry_same A2 T c2 tc wr.heap.size _ _ tries w5 (QF.out.2.2.2.2.2.below hb5) (((HT.out.below hbl).below (hb5.mono (by omega))).more (by omega)) (by omega) (by omega) rfl rfl).mono ?_
        rintro e w6 ⟨rfl, hb6⟩
        clear g0 g1 g2 g3 g4 g5 g6 g7 f0 f1 f2 f3 f4 f5 f6 f7
        obtain ⟨g0, g1, g2, g3, g4, g5, g6, g7⟩ := ((QF.out.1.fresh hb5).fresh hb6).cells8
        obtain ⟨f0, f1, f2, f3, f4, f5, f6, f7⟩ := ((QF.out.2.1.fresh hb5).fresh hb6).cells8
        have x0 := ((QF.out.2.2.1.fresh hb5).fresh hb6).cell 0 (v := .int .i64 xat) rfl
        go_wp2_with fail
        go_ret
        exact ⟨ret_bool (by simp), hbl.trans ((hb5.mono (by omega)).trans (hb6.mono (by omega)))⟩
  · go_wp2_with fail
    refine (copyVal_any R rc w.heap.size regs _ ((HR.out.below hbl2).alloc (by omega) _) hrl).mono ?_
    rintro e w3 ⟨A3, c3, rfl, ho3, hb3⟩
    have hs3 := hb3.size
    simp only [World.size_alloc] at hs3
    have hG := (Blk.new w2 27 #[.int .i64 0, .int .i64 0, .int .i64 0, .int .i64 0, .int .i64 0, .int .i64 0, .slice none 0 0, .slice none 0 0]).fresh hb3
    have hF3 := (HF2.out.alloc _).fresh hb3
    have hX3 := (HX2.out.alloc _).fresh hb3
    have hbl3 := (hbl2.alloc (by omega) _).trans (hb3.mono (by simp; omega))
    have x2 := hX3.cell 2 (v := .slice S sets.length sc) rfl
    have HG := Lib.hid (And.intro hG (And.intro hF3 hX3))
    clear hG hF3 hX3 HF2 HX2 hbl2 hsz2 f6 hb3
    have HO3 := Lib.hid (ho3.base_le (by simp : w2.heap.size + 1 ≤ _)); clear ho3
    go_wp2_with fail
    go_loopw [27] (fun i wr => ∃ (k : Nat), k ≤ sets.length ∧ i = .int .i64 k ∧ Hid ((sets.take k).all (setOk vals.length regs.length) = true ∧ Own wr (w2.heap.size + 1) 23 A3 c3 (setRegs vals (sets.take k) regs) ∧
        Blk wr w2.heap.size 27 #[.int .i64 0, .int .i64 0, .int .i64 0, .int .i64 0, .int .i64 0, .int .i64 0, .slice none 0 0, .slice none 0 0] ∧
        Blk wr w.heap.size 27 #[.int .i64 fn, .int .i64 fat, .int .i64 fto, .int .i64 gen, .int .i64 sk, .int .i64 sn, .slice R regs.length rc, .slice T tries.length tc] ∧
        Blk wr (w.heap.size + 1) 31 #[.int .i64 xat, .int .i64 steps, .slice S sets.length sc, .slice M mn mc]) ∧
        Below w.heap.size w wr ∧ w2.heap.size + 1 ≤ wr.heap.size) (fun i _ => sets.length - (intOf i).toNat)
    case atStart => exact ⟨0, Nat.zero_le _, rfl, ⟨rfl, HO3.out, HG.out.1, HG.out.2.1, HG.out.2.2⟩, hbl3, hs3⟩
    case round =>
      obtain ⟨k, hk, rfl, hkeep, hbl, hsz⟩ := hrel
      clear x2 HO3 HG hbl3 hs3
      by_cases hlt : k < sets.length
      · obtain ⟨b, o, x, y, rfl, hb, hx, hox, hoy, h0, h1⟩ := (HS.out.below hbl).pair hlt
        have HXs := Lib.hid hx; clear hx
        have HB := Lib.hid ((Blk.new wr 38 #[.int .i64 x, .int .i64 y]).alloc (.cells #[.int .i64 y] 3))
        have r6 := hkeep.out.2.2.1.cell 6 (v := .slice none 0 0) rfl
        have r7 := hkeep.out.2.2.1.cell 7 (v := .slice none 0 0) rfl
        have r1 := hkeep.out.2.2.1.cell 1 (v := .int .i64 0) rfl
        have lt2 : w2.heap.size < wr.heap.size := by omega
        have lt3 : w.heap.size < wr.heap.size := by omega
        have lt4 : w.heap.size + 1 < wr.heap.size := by omega
        have lt5 : b < wr.heap.size := by omega
        by_cases hgood : setOk vals.length regs.length (x, y) = true
        rotate_left
        · clear HV
          simp only [setOk, okv, Bool.and_eq_true, decide_eq_true_eq] at hgood
          have e5 := (Blk.at_ (wr.alloc (.cells #[.int .i64 x, .int .i64 y] 38)) 3 #[.int .i64 y] (g := wr.heap.size + 1) (by simp)).cell 0 (v := .int .i64 y) rfl
          by_cases hy : okv vals.length y = true
          · have HY := Lib.hid hy
            have hx : x < 0 ∨ (regs.length : Int) ≤ x := by simp [okv] at hy; omega
            clear hgood hy
            rcases hx with hx | hx
            · go_wp2_with (go_at_call 15; refine (valuesIn_one y (wr.heap.size + 1) 1 vals.length _ e5 hoy).mono ?_; rintro e w5 ⟨rfl, rfl⟩; rw [HY.out])
              go_ret
              exact ⟨ret_bool (by simp), (hbl.alloc (by omega) _).alloc (by simp; omega) _⟩
            · have hx' : ¬ x < 0 := by omega
              go_wp2_with (go_at_call 15; refine (valuesIn_one y (wr.heap.size + 1) 1 vals.length _ e5 hoy).mono ?_; rintro e w5 ⟨rfl, rfl⟩; rw [HY.out])
              go_ret
              exact ⟨ret_bool (by simp), (hbl.alloc (by omega) _).alloc (by simp; omega) _⟩
          · have HY := Lib.hid (by simpa using hy : okv vals.length y = false)
            clear hgood hy
            go_wp2_with (go_at_call 15; refine (valuesIn_one y (wr.heap.size + 1) 1 vals.length _ e5 hoy).mono ?_; rintro e w5 ⟨rfl, rfl⟩; rw [HY.out])
            go_ret
            exact ⟨ret_bool (by simp), (hbl.alloc (by omega) _).alloc (by simp; omega) _⟩
        have hx1 : 0 ≤ x ∧ x < (regs.length : Int) ∧ okv vals.length y = true ∧ 0 ≤ y ∧ y < (vals.length : Int) := by
          simp [setOk, okv] at hgood ⊢; omega
        obtain ⟨hx1, hx2, hy1, hy2, hy3⟩ := hx1
        obtain ⟨n, rfl⟩ := Int.eq_ofNat_of_zero_le hx1
        obtain ⟨m, rfl⟩ := Int.eq_ofNat_of_zero_le hy2
        obtain ⟨b', o', p, q, rfl, hb', hpq, -, -, v0, v1⟩ := (HV.out.below hbl).pair (by omega : m < vals.length)
        have hgv : getv vals (m : Int) = (p, q) := by simp [getv, hpq]
        have HGV := Lib.hid hgv; clear hgv hpq
        have hlen := setRegs_length vals (sets.take k) regs
        obtain ⟨g1, rfl, hg1, hg1'⟩ := hkeep.out.2.1.some_ (by omega)
        obtain ⟨old, hold⟩ : ∃ u, (setRegs vals (sets.take k) regs)[n]? = some u := ⟨_, List.getElem?_eq_getElem (by omega)⟩
        have hc1 := hkeep.out.2.1.cells_ rfl
        have e0 := hc1 (n * 2) (.int .i64 old.1) (by have := flat_get _ n 0 old hold (by decide); simpa [Flat.sz, Flat.cells] using this)
        have e1 := hc1 (n * 2 + 1) (.int .i64 old.2) (by have := flat_get _ n 1 old hold (by decide); simpa [Flat.sz, Flat.cells] using this)
        have fz0 := hkeep.out.2.1.frozen (g := g1) rfl (n * 2)
        have fz1 := hkeep.out.2.1.frozen (g := g1) rfl (n * 2 + 1)
        have HO := Lib.hid hold
        simp only [Nat.zero_add] at e0 e1
        have HY := Lib.hid hy1
        have lt6 : b' < wr.heap.size := by omega
        clear hgood hy1 hold hc1 hlen
        go_wp2_with (go_at_call 15; refine (valuesIn_one m (wr.heap.size + 1) 1 vals.length _ (by have := (Blk.at_ (wr.alloc (.cells #[.int .i64 (n : Int), .int .i64 (m : Int)] 38)) 3 #[.int .i64 (m : Int)] (g := wr.heap.size + 1) (by simp)).cell 0 (v := .int .i64 (m : Int)) rfl; exact this) hoy).mono ?_; rintro e w5 ⟨rfl, rfl⟩; rw [HY.out])
        have hq := hkeep.out
        have hgne : ∀ q, q < w2.heap.size + 1 → q ≠ g1 := fun q hq => by omega
        have HQ := Lib.hid (And.intro hq hgne)
        clear hq hgne
        refine wp_world (fun W5 => Blk W5 wr.heap.size 38 #[.int .i64 (n : Int), .int .i64 (m : Int)] ∧ Below wr.heap.size wr W5 ∧ wr.heap.size + 2 ≤ W5.heap.size) ⟨(Blk.new _ _ _).alloc _, (((Below.refl _ _).alloc (Nat.le_refl _) _).alloc (by simp) _), by simp⟩ ?_
        rintro W5 ⟨hB5, hb5, hs5⟩
        have s0 := hB5.cell 0 (v := .int .i64 (n : Int)) rfl
        have s1 := hB5.cell 1 (v := .int .i64 (m : Int)) rfl
        have v0' := (hb5.cell (p := ⟨b', o' + m * 2, none⟩) lt6).trans v0
        have v1' := (hb5.cell (p := ⟨b', o' + m * 2 + 1, none⟩) lt6).trans v1
        have e0' := (hb5.cell (p := ⟨g1, n * 2, none⟩) hg1').trans e0
        have e1' := (hb5.cell (p := ⟨g1, n * 2 + 1, none⟩) hg1').trans e1
        have fz0' := (hb5.frozen (p := ⟨g1, n * 2, none⟩) hg1').trans fz0
        have fz1' := (hb5.frozen (p := ⟨g1, n * 2 + 1, none⟩) hg1').trans fz1
        have hm1 : m < vals.length := by omega
        have hm2 : n < regs.length := by omega
        have HB5 := Lib.hid hb5
        clear v0 v1 e0 e1 fz0 fz1 hB5 hb5 HB r6 r7 r1 h0 h1
        go_still_tail 9, (by kernel_rfl)
        change wpList _ _ _ _ _ (World.drew _)
        go_wp2
        obtain ⟨hq, hgne⟩ := HQ.out
        have hb5 := HB5.out
        have o1 := (hq.2.1.fresh hb5).drew
        go_roundw
        case rel => exact ⟨k + 1, by omega, by go_num, ⟨by rw [all_snoc _ _ _ _ HXs.out, hq.1]; simp [setOk, okv, HY.out]; omega,
          by rw [setRegs_snoc _ _ _ _ _ HXs.out, HGV.out]; exact Own.set_two rfl (fun _ => rfl) o1 HO.out,
          ((hq.2.2.1.fresh hb5).far (hgne _ (by omega)) _).far (hgne _ (by omega)) _, ((hq.2.2.2.1.fresh hb5).far (hgne _ (by omega)) _).far (hgne _ (by omega)) _, ((hq.2.2.2.2.fresh hb5).far (hgne _ (by omega)) _).far (hgne _ (by omega)) _⟩,
          (((hbl.trans (hb5.mono (by omega))).setCell (by simp; omega) _).setCell (by simp; omega) _).drew, by simp [World.setCell]; omega⟩
        case measure => simp [intOf]; omega
      · obtain rfl : k = sets.length := by omega
        exact absurd hkeep.out.1 (by rw [List.take_length, hbad]; simp)

end Go.Proofs.Ytljdnadejmkaeaa
