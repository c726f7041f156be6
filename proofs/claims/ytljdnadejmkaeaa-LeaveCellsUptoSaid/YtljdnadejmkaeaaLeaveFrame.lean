/- leave.Frame: the frame behind an exit, or that the exit is out of form. -/
import Derived.Test.YtljdnadejmkaeaaTold
import Derived.Deep.RegionHeld3
import Derived.Deep.DeepCutAuto
import Derived.Deep.DrawnRows
import Derived.StillTailTactics
namespace Go.Proofs.Ytljdnadejmkaeaa
open Go.RowKit

attribute [local go_sem ↓] Go.wp_at_zero Go.wp_at_succ

/-- may a register be set so? -/
def setOk (many rlen : Nat) (s : Int × Int) : Bool := okv many s.2 && okv rlen s.1
/-- the registers behind an exit's sets -/
def setRegs (vals : List (Int × Int)) (sets regs : List (Int × Int)) : List (Int × Int) := sets.foldl (fun r s => r.set s.1.toNat (getv vals s.2)) regs
theorem setRegs_length (vals sets regs : List (Int × Int)) : (setRegs vals sets regs).length = regs.length := by
  unfold setRegs
  induction sets generalizing regs with
  | nil => rfl
  | cons s sets ih => rw [List.foldl_cons, ih, List.length_set]
theorem setRegs_snoc (vals : List (Int × Int)) (sets regs : List (Int × Int)) (k : Nat) (s : Int × Int) (h : sets[k]? = some s) : setRegs vals (sets.take (k + 1)) regs = (setRegs vals (sets.take k) regs).set s.1.toNat (getv vals s.2) := by
  rw [take_snoc _ _ _ h]; simp [setRegs]

def FramePost (fn fat fto gen sk sn xat : Int) (regs tries sets vals : List (Int × Int)) (w : World) (e : Ending) (w' : World) : Prop :=
  Below w.heap.size w w' ∧ ((sets.all (setOk vals.length regs.length) = true ∧ ∃ A1 A2 c1 c2, e = .returned (.tuple #[.agg #[.int .i64 fn, .int .i64 xat, .int .i64 fto, .int .i64 gen, .int .i64 sk, .int .i64 sn, .slice A1 regs.length c1, .slice A2 tries.length c2], .int .i64 0]) ∧
      Own w' w.heap.size 23 A1 c1 (setRegs vals sets regs) ∧ Own w' w.heap.size 44 A2 c2 tries) ∨
    (sets.all (setOk vals.length regs.length) = false ∧ e = .returned (.tuple #[.agg #[.int .i64 0, .int .i64 0, .int .i64 0, .int .i64 0, .int .i64 0, .int .i64 0, .slice none 0 0, .slice none 0 0], .int .i64 3])))

set_option maxHeartbeats 1600000 in
set_option maxRecDepth 100000 in
theorem leaveFrame_any (fn fat fto gen sk sn xat steps : Int) (R T S M V : Option Addr) (rc tc sc mn mc d B : Nat) (regs tries sets vals : List (Int × Int)) (w : World) (hr : At w B R regs) (ht : At w B T tries) (hs : At w B S sets) (hv : At w B V vals) (hB : B ≤ w.heap.size)
    (hrl : regs.length * 16 ≤ 140737488355328) (htl : tries.length * 16 ≤ 140737488355328) (hvl : vals.length ≤ 9223372036854775807) (hsl : sets.length ≤ 9223372036854775807) (hro : ∀ x ∈ regs, Flat.ok x) :
    Calls Try.prog 13 #[.agg #[.int .i64 fn, .int .i64 fat, .int .i64 fto, .int .i64 gen, .int .i64 sk, .int .i64 sn, .slice R regs.length rc, .slice T tries.length tc], .agg #[.int .i64 xat, .int .i64 steps, .slice S sets.length sc, .slice M mn mc], .slice V vals.length d] w (FramePost fn fat fto gen sk sn xat regs tries sets vals w) := by
  have HR := Lib.hid hr; clear hr
  have HT := Lib.hid ht; clear ht
  have HS := Lib.hid hs; clear hs
  have HV := Lib.hid hv; clear hv
  go_enter Try.func13, Try.ntmps13
  go_wp2_with fail
  refine wp_world (fun W => Blk W w.heap.size 27 #[.int .i64 fn, .int .i64 fat, .int .i64 fto, .int .i64 gen, .int .i64 sk, .int .i64 sn, .slice R regs.length rc, .slice T tries.length tc] ∧
    Blk W (w.heap.size + 1) 31 #[.int .i64 xat, .int .i64 steps, .slice S sets.length sc, .slice M mn mc] ∧
    Blk W (w.heap.size + 1 + 1) 27 #[.int .i64 0, .int .i64 0, .int .i64 0, .int .i64 0, .int .i64 0, .int .i64 0, .slice none 0 0, .slice none 0 0] ∧
    Below w.heap.size w W ∧ w.heap.size + 3 ≤ W.heap.size) ⟨?_, ?_, ?_, ?_, ?_⟩ ?_
  · exact ((Blk.new _ _ _).alloc _).alloc _
  · exact (Blk.at_ (w.alloc _) _ _ (by simp)).alloc _
  · exact Blk.at_ ((w.alloc _).alloc _) _ _ (by simp)
  · exact (((Below.refl _ _).alloc (Nat.le_refl _) _).alloc (by simp) _).alloc (by simp; omega) _
  · simp
  rintro W ⟨hF, hX, hO, hbl, hsz⟩
  go_cut [] (fun W2 => ∃ (A1 A2 : Option Addr) (c1 c2 : Nat), Blk W2 w.heap.size 27 #[.int .i64 fn, .int .i64 fat, .int .i64 fto, .int .i64 gen, .int .i64 sk, .int .i64 sn, .slice A1 regs.length c1, .slice A2 tries.length c2] ∧
    Own W2 (w.heap.size + 3) 23 A1 c1 regs ∧ Own W2 (w.heap.size + 3) 44 A2 c2 tries ∧ (∀ g, rowOf A1 = some g → rowOf A2 ≠ some g) ∧
    Blk W2 (w.heap.size + 1) 31 #[.int .i64 xat, .int .i64 steps, .slice S sets.length sc, .slice M mn mc] ∧
    Blk W2 (w.heap.size + 1 + 1) 27 #[.int .i64 0, .int .i64 0, .int .i64 0, .int .i64 0, .int .i64 0, .int .i64 0, .slice none 0 0, .slice none 0 0] ∧
    Below w.heap.size w W2 ∧ w.heap.size + 3 ≤ W2.heap.size)
  case first =>
    have HF := Lib.hid hF
    have HX := Lib.hid hX
    have HO := Lib.hid hO
    have f5 := hF.cell 7 rfl
    have f6 := hF.cell 6 rfl
    have z5 := hF.frozen 7
    have z6 := hF.frozen 6
    clear hF hX hO
    go_region_with (first | (go_at_call 47; refine (cloneVal_any R rc B regs _ (by exact (HR.out.below (hbl.mono hB)).drew) (by simp; omega) hrl).mono ?_; rintro e w1 ⟨A1, c1, rfl, hown1, hb1⟩; have hb1' : Below W.heap.size W w1 := undrew hb1; clear hb1; have HF1 := Lib.hid (HF.out.fresh hb1'); have g5 := HF1.out.cell 7 rfl; have g6 := HF1.out.cell 6 rfl; have y5 := HF1.out.frozen 7; have y6 := HF1.out.frozen 6) | (go_at_call 48; refine (cloneTry_any T tc B tries _ (by exact ((HT.out.below (hbl.mono hB)).below (hb1'.mono (by omega)))) (by have := hb1'.size; omega) htl).mono ?_; rintro e w2 ⟨A2, c2, rfl, hown2, hb2⟩; have HF2 := Lib.hid (HF1.out.fresh hb2);  have g5 := HF2.out.cell 7 rfl; have g6 := HF2.out.cell 6 rfl; have y5 := HF2.out.frozen 7; have y6 := HF2.out.frozen 6))
    all_goals (go_wp2_with fail; go_meet)
    all_goals
      have hs1 := hb1'.size
      have hs2 := hb2.size
      have q1 := ((hown1.fresh hb2).base_le (by simp; omega : w.heap.size + 3 ≤ _))
      have q2 := (hown2.base_le (by omega : w.heap.size + 3 ≤ _))
      have n1 : rowOf A1 ≠ some w.heap.size := own_ne_blk q1 (by omega)
      have n2 : rowOf A2 ≠ some w.heap.size := own_ne_blk q2 (by omega)
      refine ⟨A1, A2, c1, c2, ?_, (q1.setCell _ _ n1).setCell _ _ n1, (q2.setCell _ _ n2).setCell _ _ n2, ?_, ?_, ?_, ?_, ?_⟩
      · first | exact (HF2.out.set_ 6 _).set_ 7 _ | exact (HF2.out.set_ 7 _).set_ 6 _
      · intro g h1 h2
        have := (hown1.lt g h1).2
        have := (hown2.lt g h2).1
        omega
      · exact (((HX.out.fresh hb1').fresh hb2).far (by simp) _).far (by simp) _
      · exact (((HO.out.fresh hb1').fresh hb2).far (by simp; omega) _).far (by simp; omega) _
      · exact ((hbl.trans ((hb1'.mono (by omega)).trans (hb2.mono (by omega)))).setCell (by simp) _).setCell (by simp) _
      · simp [World.setCell]; omega
  case rest =>
    obtain ⟨A1, A2, c1, c2, hF2, ho1, ho2, hne, hX2, hO2, hb2, hsz2⟩ := hcut
    have HF2 := Lib.hid hF2; clear hF2
    have HX2 := Lib.hid hX2; clear hX2
    have HO2 := Lib.hid hO2; clear hO2
    have x2 := HX2.out.cell 2 rfl
    have HN := Lib.hid hne; clear hne
    clear hF hX hO hbl hsz
    go_wp2
    go_loopw [23] (fun i wr => ∃ (k : Nat), k ≤ sets.length ∧ i = .int .i64 k ∧ Hid ((sets.take k).all (setOk vals.length regs.length) = true ∧ Own wr (w.heap.size + 3) 23 A1 c1 (setRegs vals (sets.take k) regs) ∧ Own wr (w.heap.size + 3) 44 A2 c2 tries ∧
        Blk wr w.heap.size 27 #[.int .i64 fn, .int .i64 fat, .int .i64 fto, .int .i64 gen, .int .i64 sk, .int .i64 sn, .slice A1 regs.length c1, .slice A2 tries.length c2] ∧
        Blk wr (w.heap.size + 1) 31 #[.int .i64 xat, .int .i64 steps, .slice S sets.length sc, .slice M mn mc] ∧
        Blk wr (w.heap.size + 1 + 1) 27 #[.int .i64 0, .int .i64 0, .int .i64 0, .int .i64 0, .int .i64 0, .int .i64 0, .slice none 0 0, .slice none 0 0]) ∧
        Below w.heap.size w wr ∧ w.heap.size + 3 ≤ wr.heap.size) (fun i _ => sets.length - (intOf i).toNat)
    case atStart => exact ⟨0, Nat.zero_le _, rfl, ⟨rfl, ho1, ho2, HF2.out, HX2.out, HO2.out⟩, hb2, hsz2⟩
    case round =>
      obtain ⟨k, hk, rfl, hkeep, hbl, hsz⟩ := hrel
      clear x2 ho1 ho2 hb2 hsz2 HF2 HX2 HO2
      by_cases hlt : k < sets.length
      · obtain ⟨b, o, x, y, rfl, hb, hx, hox, hoy, h0, h1⟩ := (HS.out.below (hbl.mono hB)).pair hlt
        have HXs := Lib.hid hx; clear hx
        have HB := Lib.hid ((Blk.new wr 38 #[.int .i64 x, .int .i64 y]).alloc (.cells #[.int .i64 y] 3))
        go_wp2_with fail
        refine (told_any (some ⟨wr.heap.size + 1, 0, none⟩) V 1 d (wr.heap.size + 1 + 1) [y] vals _ (by have := At.built (wr.alloc (.cells #[.int .i64 x, .int .i64 y] 38)) #[.int .i64 y] 3 [y] rfl (by simpa [Flat.ok] using hoy); simpa using this) (by exact (((HV.out.below (hbl.mono hB)).alloc (by omega) _).alloc (by simp; omega) _).more (by omega)) (by simp) (by simp) hvl).mono ?_
        rintro e w1 ⟨hb1, hto⟩
        have hs1 := hb1.size
        have hB1 := HB.out.fresh hb1
        have s0 := hB1.cell 0 rfl
        have s1 := hB1.cell 1 rfl
        have k0 := ((hkeep.out.2.2.2.1.alloc _).alloc _).fresh hb1
        have k1 := ((hkeep.out.2.2.2.2.1.alloc _).alloc _).fresh hb1
        have k2 := ((hkeep.out.2.2.2.2.2.alloc _).alloc _).fresh hb1
        have o1 := ((hkeep.out.2.1.alloc _).alloc _).fresh hb1
        have o2 := ((hkeep.out.2.2.1.alloc _).alloc _).fresh hb1
        have r6 := k0.cell 6 rfl
        have KK := Lib.hid (And.intro k0 (And.intro k1 (And.intro k2 (And.intro o1 o2))))
        clear k0 k1 k2 o1 o2 hB1
        have hbl1 : Below w.heap.size w w1 := ((hbl.alloc (by omega) _).alloc (by simp; omega) _).trans (hb1.mono (by simp; omega))
        simp only [World.size_alloc] at hs1
        have hoks : ∀ z : Bool, okv vals.length y = z → [y].all (okv vals.length) = z := fun z hz => by simp [hz]
        by_cases hgood : setOk vals.length regs.length (x, y) = true
        · have hx1 : 0 ≤ x ∧ x < (regs.length : Int) ∧ okv vals.length y = true := by
            simp [setOk, okv] at hgood ⊢; omega
          obtain ⟨hx1, hx2, hy1⟩ := hx1
          rcases hto with ⟨hall, A3, c3, rfl, hown3⟩ | ⟨hall, -⟩
          rotate_left
          · exact absurd hall (by simp [hy1])
          obtain ⟨n, rfl⟩ := Int.eq_ofNat_of_zero_le hx1
          obtain ⟨g3, rfl, hg3, hg3'⟩ := hown3.some_ (by simp)
          have hc3 := hown3.cells_ rfl
          have v0 := hc3 0 (.int .i64 (getv vals y).1) rfl
          have v1 := hc3 1 (.int .i64 (getv vals y).2) rfl
          have hlen := setRegs_length vals (sets.take k) regs
          obtain ⟨g1, rfl, hg1, hg1'⟩ := KK.out.2.2.2.1.some_ (by omega)
          obtain ⟨old, hold⟩ : ∃ u, (setRegs vals (sets.take k) regs)[n]? = some u := ⟨_, List.getElem?_eq_getElem (by omega)⟩
          have hc1 := KK.out.2.2.2.1.cells_ rfl
          have e0 := hc1 (n * 2) (.int .i64 old.1) (by have := flat_get _ n 0 old hold (by decide); simpa [Flat.sz, Flat.cells] using this)
          have e1 := hc1 (n * 2 + 1) (.int .i64 old.2) (by have := flat_get _ n 1 old hold (by decide); simpa [Flat.sz, Flat.cells] using this)
          have fz0 := KK.out.2.2.2.1.frozen (g := g1) rfl (n * 2)
          have fz1 := KK.out.2.2.2.1.frozen (g := g1) rfl (n * 2 + 1)
          have HO := Lib.hid hold
          have i0 : (0 : Int) ≤ (n : Int) := hx1
          simp only [Nat.zero_add] at v0 v1 e0 e1
          clear hoks hall hgood hold hc1 hc3 hlen
          go_wp2_with fail
          go_still_tail 8, (by kernel_rfl)
          change wpList _ _ _ _ _ w1.drew
          go_wp2
          have hgne : ∀ q, q < w.heap.size + 3 → q ≠ g1 := fun q hq => by omega
          have hA2 : rowOf A2 ≠ some g1 := HN.out g1 rfl
          go_roundw
          case rel => exact ⟨k + 1, by omega, by go_num, ⟨by rw [all_snoc _ _ _ _ HXs.out, hkeep.out.1]; simp [setOk, okv] at hy1 ⊢; omega,
            by rw [setRegs_snoc _ _ _ _ _ HXs.out]; exact Own.set_two rfl (fun _ => rfl) KK.out.2.2.2.1 HO.out,
            (KK.out.2.2.2.2.setCell _ _ hA2).setCell _ _ hA2, (KK.out.1.far (hgne _ (by omega)) _).far (hgne _ (by omega)) _, (KK.out.2.1.far (hgne _ (by omega)) _).far (hgne _ (by omega)) _, (KK.out.2.2.1.far (hgne _ (by omega)) _).far (hgne _ (by omega)) _⟩,
            ((hbl1.setCell (by simp; omega) _).setCell (by simp; omega) _).drew, by simp [World.setCell]; omega⟩
          case measure => simp [intOf]; omega
        · have hbad : sets.all (setOk vals.length regs.length) = false := all_stop _ _ _ _ HXs.out (by simpa using hgood)
          have HBAD := Lib.hid hbad; clear hbad
          have hpost : FramePost fn fat fto gen sk sn xat regs tries sets vals w (.returned (.tuple #[.agg #[.int .i64 0, .int .i64 0, .int .i64 0, .int .i64 0, .int .i64 0, .int .i64 0, .slice none 0 0, .slice none 0 0], .int .i64 3])) (w1.setRow (w.heap.size + 1 + 1) #[.int .i64 0, .int .i64 0, .int .i64 0, .int .i64 0, .int .i64 0, .int .i64 0, .slice none 0 0, .slice none 0 0]) :=
            ⟨bel_setRow hbl1 (by omega) _, .inr ⟨HBAD.out, rfl⟩⟩
          have HP := Lib.hid hpost; clear hpost
          rcases hto with ⟨hall, A3, c3, rfl, hown3⟩ | ⟨hall, rfl⟩
          · have hy1 : okv vals.length y = true := by simpa using hall
            have hx : x < 0 ∨ (regs.length : Int) ≤ x := by simp [setOk, okv] at hgood hy1 ⊢; omega
            clear hall hoks hgood hy1
            rcases hx with hx | hx
            · go_wp2_with (refine wpList_st rfl 27 (.tmp 6) (.tmp 50) rfl (w.heap.size + 1 + 1) rfl rfl KK.out.2.2.1 (by kernel_rfl) rfl rfl ?_)
              refine bodyPost_ret (results_cell_tmp rfl _ _ (w.heap.size + 1 + 1) _ _ _ rfl KK.out.2.2.1.setRow Try.underlying27 rfl (by kernel_rfl)) rfl ?_
              exact HP.out
            · have hx' : ¬ x < 0 := by omega
              go_wp2_with (refine wpList_st rfl 27 (.tmp 6) (.tmp 50) rfl (w.heap.size + 1 + 1) rfl rfl KK.out.2.2.1 (by kernel_rfl) rfl rfl ?_)
              refine bodyPost_ret (results_cell_tmp rfl _ _ (w.heap.size + 1 + 1) _ _ _ rfl KK.out.2.2.1.setRow Try.underlying27 rfl (by kernel_rfl)) rfl ?_
              exact HP.out
          · clear hall hoks hgood
            go_wp2_with (refine wpList_st rfl 27 (.tmp 6) (.tmp 50) rfl (w.heap.size + 1 + 1) rfl rfl KK.out.2.2.1 (by kernel_rfl) rfl rfl ?_)
            refine bodyPost_ret (results_cell_tmp rfl _ _ (w.heap.size + 1 + 1) _ _ _ rfl KK.out.2.2.1.setRow Try.underlying27 rfl (by kernel_rfl)) rfl ?_
            exact HP.out
      · have x0 := hkeep.out.2.2.2.2.1.cell 0 rfl
        have q1 := hkeep.out.2.2.2.1.cell 1 rfl
        have q2 := hkeep.out.2.2.2.1.frozen 1
        obtain rfl : k = sets.length := by omega
        go_wp2_with (first | (refine wpList_ld rfl 27 (.tmp 3) rfl w.heap.size rfl (hkeep.out.2.2.2.1.set_ 1 _) Try.underlying27 rfl (by kernel_rfl) ?_) | (refine wpList_st rfl 27 (.tmp 6) (.tmp 63) rfl (w.heap.size + 1 + 1) rfl rfl (hkeep.out.2.2.2.2.2.far (by simp; omega) _) (by kernel_rfl) rfl rfl ?_))
        refine bodyPost_ret (results_cell_tmp rfl _ _ (w.heap.size + 1 + 1) _ _ _ rfl (hkeep.out.2.2.2.2.2.far (by simp; omega) _).setRow Try.underlying27 rfl (by kernel_rfl)) rfl ?_
        have hk2 := hkeep.out
        rw [List.take_length] at hk2
        have n1 : rowOf A1 ≠ some w.heap.size := own_ne_blk hk2.2.1 (by omega)
        have n2 : rowOf A2 ≠ some w.heap.size := own_ne_blk hk2.2.2.1 (by omega)
        have n3 : rowOf A1 ≠ some (w.heap.size + 1 + 1) := own_ne_blk hk2.2.1 (by omega)
        have n4 : rowOf A2 ≠ some (w.heap.size + 1 + 1) := own_ne_blk hk2.2.2.1 (by omega)
        exact ⟨bel_setRow (hbl.setCell (by simp) _) (by omega) _, .inl ⟨hk2.1, A1, A2, c1, c2, rfl, ((by have := hk2.2.1; exact (this.setCell _ _ n1).setRow n3) : Own _ (w.heap.size + 3) _ _ _ _).base_le (by omega), ((hk2.2.2.1.setCell _ _ n2).setRow n4).base_le (by omega)⟩⟩
end Go.Proofs.Ytljdnadejmkaeaa
