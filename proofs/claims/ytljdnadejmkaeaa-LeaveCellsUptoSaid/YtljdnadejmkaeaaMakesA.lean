/- leave.Cells: cells behind an exit's makes. -/
import Derived.Test.YtljdnadejmkaeaaOwnA
import Derived.StillTailTactics
namespace Go.Proofs.Ytljdnadejmkaeaa
open Go.RowKit

attribute [local go_sem ↓] Go.wp_at_zero Go.wp_at_succ

theorem getv_ok {vals : List (Int × Int)} (h : ∀ x ∈ vals, Flat.ok x) (n : Int) : Flat.ok (getv vals n) := by
  unfold getv
  rw [List.getD_eq_getElem?_getD]
  rcases hx : vals[n.toNat]? with _ | x
  · simp [Flat.ok, I64]
  · exact h x (List.mem_of_getElem? hx)

def mkForm (vals : List (Int × Int)) (m : Mk) : Bool := okv vals.length m.cell && m.vals.all (okv vals.length)
def mkState (vals : List (Int × Int)) (xs : List Lite) (m : Mk) : Bool :=
  decide ((getv vals m.cell).1 = 5) && decide (0 ≤ (getv vals m.cell).2) && decide ((getv vals m.cell).2 < (xs.length : Int)) && decide ((xs[(getv vals m.cell).2.toNat]?.map (·.kind)) = some 0)
def mkNew (vals : List (Int × Int)) (m : Mk) : Lite := ⟨m.kind, m.num, m.vals.map (getv vals), 0⟩
/-- one make: an error's number, or the cells behind it -/
def mk1 (vals : List (Int × Int)) (xs : List Lite) (m : Mk) : Except Int (List Lite) :=
  if mkForm vals m then if mkState vals xs m then .ok (xs.set (getv vals m.cell).2.toNat (mkNew vals m)) else .error 8 else .error 3
def mks (vals : List (Int × Int)) (ms : List Mk) (xs : List Lite) : Except Int (List Lite) := ms.foldlM (mk1 vals) xs

theorem mks_snoc (vals : List (Int × Int)) (ms : List Mk) (xs : List Lite) (k : Nat) (m : Mk) (h : ms[k]? = some m) : mks vals (ms.take (k + 1)) xs = (mks vals (ms.take k) xs >>= fun ys => mk1 vals ys m) := by
  unfold mks
  rw [take_snoc _ _ _ h, List.foldlM_append]
  rcases List.foldlM (mk1 vals) xs (ms.take k) with e | ys
  · rfl
  · simp only [List.foldlM_cons, List.foldlM_nil]
    show (mk1 vals ys m >>= pure) = mk1 vals ys m
    rcases mk1 vals ys m with e | zs <;> rfl
theorem mks_stop (vals : List (Int × Int)) (ms : List Mk) (xs ys : List Lite) (k : Nat) (m : Mk) (e : Int) (h : ms[k]? = some m) (h1 : mks vals (ms.take k) xs = .ok ys) (h2 : mk1 vals ys m = .error e) : mks vals ms xs = .error e := by
  have h3 : mks vals (ms.take (k + 1)) xs = .error e := by rw [mks_snoc _ _ _ _ _ h, h1]; exact h2
  unfold mks at h3 ⊢
  rw [← List.take_append_drop (k + 1) ms, List.foldlM_append, h3]
  rfl

def MakesPost (l : List Ce) (ms : List Mk) (vals : List (Int × Int)) (w : World) (e : Ending) (w' : World) : Prop :=
  Below w.heap.size w w' ∧ ((∃ xs, mks vals ms (l.map lite) = .ok xs ∧ ∃ A' c' rs, e = .returned (.tuple #[.slice A' l.length c', .int .i64 0]) ∧ rs.length = l.length ∧ Own w' w.heap.size 52 A' c' rs ∧ Lites w' A' rs xs) ∨
    ∃ er, mks vals ms (l.map lite) = .error er ∧ e = .returned (.tuple #[.slice none 0 0, .int .i64 er]))


set_option maxHeartbeats 1600000 in
set_option maxRecDepth 100000 in
theorem leaveCells_any (xat steps : Int) (A S M V : Option Addr) (c sn sc mc d B : Nat) (l : List Ce) (ms : List Mk) (vals : List (Int × Int)) (w : World) (h : At w B A l) (hm : At w B M ms) (hv : At w B V vals) (hB : B ≤ w.heap.size) (hf : CellsFit l)
    (hvl : vals.length ≤ 9223372036854775807) (hml : ms.length ≤ 9223372036854775807) (hmf : ∀ m ∈ ms, m.vals.length * 16 ≤ 140737488355328) :
    Calls Try.prog 18 #[.slice A l.length c, .agg #[.int .i64 xat, .int .i64 steps, .slice S sn sc, .slice M ms.length mc], .slice V vals.length d] w (MakesPost l ms vals w) := by
  have H := Lib.hid h; clear h
  have HM := Lib.hid hm; clear hm
  have HV := Lib.hid hv; clear hv
  have HMF := Lib.hid hmf; clear hmf
  have hll : l.length ≤ 9223372036854775807 := by have := hf.1; omega
  go_enter Try.func18, Try.ntmps18
  go_wp2_with fail
  refine (own_any A c B l _ ((H.out).alloc (by omega) _) (by simp; omega) hf).mono ?_
  rintro e w1 ⟨A1, c1, rs, rfl, ho1, hL1, hb1⟩
  have hX1 := (Blk.new w 31 #[.int .i64 xat, .int .i64 steps, .slice S sn sc, .slice M ms.length mc]).fresh hb1
  have x3 := hX1.cell 3 (v := .slice M ms.length mc) rfl
  have hbl1 : Below w.heap.size w w1 := ((Below.refl _ _).alloc (Nat.le_refl _) _).trans (hb1.mono (by simp))
  have hs1 := hb1.size
  simp only [World.size_alloc] at hs1
  have HO1 := Lib.hid (And.intro (ho1.base_le (by simp : w.heap.size + 1 ≤ _)) hL1)
  clear ho1 hL1 hX1 hb1
  have hrl : rs.length = l.length := by have := HO1.out.2.1; simpa using this
  have HRL := Lib.hid hrl; clear hrl
  go_wp2
  go_loopw [21] (fun i wr => ∃ (k : Nat), k ≤ ms.length ∧ i = .int .i64 k ∧ Hid (∃ rs' xs, mks vals (ms.take k) (l.map lite) = .ok xs ∧ rs'.length = l.length ∧ Own wr (w.heap.size + 1) 52 A1 c1 rs' ∧ Lites wr A1 rs' xs) ∧ Below w.heap.size w wr ∧ w.heap.size + 1 ≤ wr.heap.size) (fun i _ => ms.length - (intOf i).toNat)
  case atStart => exact ⟨0, Nat.zero_le _, rfl, ⟨rs, _, rfl, HRL.out, HO1.out.1, HO1.out.2⟩, hbl1, hs1⟩
  case round =>
    obtain ⟨k, hk, rfl, hkeep, hbl, hsz⟩ := hrel
    clear x3 HO1 hbl1 hs1 HRL rs
    by_cases hlt : k < ms.length
    · obtain ⟨b, o, m, A3, c3, rfl, hb, hx, e0, e1, e2, e3, at3, hc3, ok0, ok1, ok2⟩ := (HM.out.below (hbl.mono hB)).mk_ hlt
      have HX := Lib.hid hx
      have hmf := HMF.out m (List.mem_of_getElem? hx)
      clear hx
      have h3 := Lib.hid at3; clear at3
      have lt5 : b < wr.heap.size := by omega
      obtain ⟨cell, kind, num, mv⟩ := m
      have HB := Lib.hid ((Blk.new wr 54 #[.int .i64 cell, .int .i64 kind, .int .i64 num, .slice A3 mv.length c3]).alloc (.cells #[.int .i64 cell] 3))
      go_wp2_with fail
      refine (told_any (some ⟨wr.heap.size + 1, 0, none⟩) V 1 d (wr.heap.size + 1 + 1) [cell] vals _ (by have := At.built (wr.alloc (.cells #[.int .i64 cell, .int .i64 kind, .int .i64 num, .slice A3 mv.length c3] 54)) #[.int .i64 cell] 3 [cell] rfl (by simpa [Flat.ok] using ok0); simpa using this) (by exact (((HV.out.below (hbl.mono hB)).alloc (by omega) _).alloc (by simp; omega) _).more (by omega)) (by simp) (by simp) hvl).mono ?_
      rintro e w1 ⟨hb1, hto1⟩
      have hs1 := hb1.size
      have hB1 := Lib.hid (HB.out.fresh hb1); clear HB
      have hbW1 : Below wr.heap.size wr w1 := (((Below.refl _ _).alloc (Nat.le_refl _) _).alloc (by simp) _).trans (hb1.mono (by simp; omega))
      simp only [World.size_alloc] at hs1
      clear hb1
      have s3 := hB1.out.cell 3 (v := .slice A3 mv.length c3) rfl
      have hstop : ∀ e : Int, (∀ ys, mks vals (ms.take k) (l.map lite) = .ok ys → mk1 vals ys ⟨cell, kind, num, mv⟩ = .error e) → mks vals ms (l.map lite) = .error e := fun e he => by
        obtain ⟨rs', ys, h1, -⟩ := hkeep.out
        exact mks_stop _ _ _ _ _ _ _ HX.out h1 (he ys h1)
      have HS := Lib.hid hstop; clear hstop
      have hVb : At w1 B V vals := (HV.out.below (hbl.mono hB)).below (hbW1.mono (by omega))
      have hMb : At w1 B A3 mv := h3.out.below (hbW1.mono (by omega))
      have HVM := Lib.hid (And.intro hVb hMb); clear hVb hMb h3
      have ltB : B ≤ w1.heap.size := by omega
      have hblw1 : Below w.heap.size w w1 := hbl.trans (hbW1.mono (by omega))
      rcases hto1 with ⟨hall1, A4, c4, rfl, hown4⟩ | ⟨hall1, rfl⟩
      rotate_left
      · go_wp2_with fail
        refine (told_any A3 V c3 d B mv vals _ HVM.out.2 HVM.out.1 ltB hmf hvl).mono ?_
        rintro e w2 ⟨hb2, hto2⟩
        have HE := Lib.hid (HS.out 3 (fun ys _ => by unfold mk1 mkForm; rw [if_neg]; simp at hall1 ⊢; simp [hall1]))
        clear hall1
        have hbl2 := hblw1.trans (hb2.mono (by omega))
        rcases hto2 with ⟨hall2, A5, c5, rfl, hown5⟩ | ⟨hall2, rfl⟩
        · clear hall2
          go_wp2_with fail
          go_ret2
          exact ⟨hbl2, .inr ⟨3, HE.out, rfl⟩⟩
        · clear hall2
          go_wp2_with fail
          go_ret2
          exact ⟨hbl2, .inr ⟨3, HE.out, rfl⟩⟩
      go_wp2_with fail
      refine (told_any A3 V c3 d B mv vals _ HVM.out.2 HVM.out.1 ltB hmf hvl).mono ?_
      rintro e w2 ⟨hb2, hto2⟩
      have hbl2 := hblw1.trans (hb2.mono (by omega))
      have hs2 := hb2.size
      rcases hto2 with ⟨hall2, A5, c5, rfl, hown5⟩ | ⟨hall2, rfl⟩
      rotate_left
      · have HE := Lib.hid (HS.out 3 (fun ys _ => by unfold mk1 mkForm; rw [if_neg]; simp [hall2]))
        clear hall1 hall2
        go_wp2_with fail
        go_ret2
        exact ⟨hbl2, .inr ⟨3, HE.out, rfl⟩⟩
      have hform : mkForm vals ⟨cell, kind, num, mv⟩ = true := by unfold mkForm; simp at hall1 hall2 ⊢; exact ⟨hall1, hall2⟩
      have HF := Lib.hid hform; clear hform hall1 hall2
      obtain ⟨g4, rfl, hg4, hg4'⟩ := hown4.some_ (by simp)
      obtain ⟨p, q, hpq⟩ : ∃ p q, getv vals cell = (p, q) := ⟨_, _, rfl⟩
      have HP := Lib.hid hpq
      have ho4 := hown4.fresh hb2
      have v0 := ho4.cells_ (g := g4) (o := 0) rfl 0 (.int .i64 p) (by simp [flat, hpq, Flat.cells])
      have v1 := ho4.cells_ (g := g4) (o := 0) rfl 1 (.int .i64 q) (by simp [flat, hpq, Flat.cells])
      clear ho4 hown4 hpq
      simp only [Nat.zero_add] at v0 v1
      obtain ⟨rs', xs, hmk, hrl, hown, hL⟩ := hkeep.out
      have hxl : xs.length = l.length := by have := hL.1; omega
      have HMK := Lib.hid hmk; clear hmk
      have hbad : mkState vals xs ⟨cell, kind, num, mv⟩ = false → mks vals ms (l.map lite) = .error 8 := fun hst => HS.out 8 (fun ys hys => by
          rw [HMK.out] at hys; injection hys with hys; subst hys
          unfold mk1; rw [if_pos HF.out, if_neg (by simp [hst])])
      have hst : mkState vals xs ⟨cell, kind, num, mv⟩ = (decide (p = 5) && decide (0 ≤ q) && decide (q < (xs.length : Int)) && decide ((xs[q.toNat]?.map (·.kind)) = some 0)) := by simp only [mkState, HP.out]
      have HBAD := Lib.hid hbad; clear hbad
      have HST := Lib.hid hst; clear hst
      clear hkeep
      have HOW := Lib.hid (And.intro hown hL); clear hown hL
      by_cases h1 : p = 5
      · by_cases h2 : 0 ≤ q
        · by_cases h3 : q < (l.length : Int)
          · obtain ⟨n, rfl⟩ := Int.eq_ofNat_of_zero_le h2
            obtain ⟨g1, rfl, hg1, hg1'⟩ := HOW.out.1.some_ (by omega)
            obtain ⟨r, hr⟩ : ∃ u, rs'[n]? = some u := ⟨_, List.getElem?_eq_getElem (by omega)⟩
            obtain ⟨y, hy⟩ : ∃ u, xs[n]? = some u := ⟨_, List.getElem?_eq_getElem (by omega)⟩
            obtain ⟨yk, yn, yv, yf⟩ := y
            obtain ⟨va, vc, fa, fc, hcs, -, -⟩ := HOW.out.2.2 n r _ hr hy
            have hoW := (HOW.out.1.fresh hbW1).fresh hb2
            have c0 := hoW.raw_cell (i := n) (j := 0) hr (u := .int .i64 yk) (by rw [hcs]; rfl)
            rw [Nat.add_zero] at c0
            have hg1w : g1 < w2.heap.size := by omega
            have hwrw : wr.heap.size < w2.heap.size := by omega
            have h3n : n < l.length := by omega
            by_cases h4 : yk = 0
            · obtain ⟨u1, hu1⟩ := r.has 1 (by decide)
              obtain ⟨u2, hu2⟩ := r.has 2 (by decide)
              obtain ⟨u3, hu3⟩ := r.has 3 (by decide)
              have c1' := hoW.raw_cell (i := n) (j := 1) hr hu1
              have c2' := hoW.raw_cell (i := n) (j := 2) hr hu2
              have c3' := hoW.raw_cell (i := n) (j := 3) hr hu3
              have z0 := hoW.frozen (g := g1) rfl (n * 4)
              have z1 := hoW.frozen (g := g1) rfl (n * 4 + 1)
              have z2 := hoW.frozen (g := g1) rfl (n * 4 + 2)
              have z3 := hoW.frozen (g := g1) rfl (n * 4 + 3)
              have HOW2 := Lib.hid (And.intro hoW (And.intro hr hy)); clear hoW hr hy
              have hB2 := hB1.out.fresh hb2
              have s1 := hB2.cell 1 (v := .int .i64 kind) rfl
              have s2 := hB2.cell 2 (v := .int .i64 num) rfl
              have HN := Lib.hid hown5; clear hown5 hB2
              rw [h4] at c0
              subst h1
              clear hcs hu1 hu2 hu3
              go_wp2_with fail
              have hL2 := (HOW.out.2.fresh hbW1).fresh hb2
              have hone : ∀ u ∈ [Value.int .i64 kind, .int .i64 num, .slice A5 mv.length c5, .slice none 0 0], u.oneCell' = true := by
                intro u hu; simp at hu; rcases hu with rfl | rfl | rfl | rfl <;> rfl
              have hgo := getv_ok (HV.out.ok_)
              have hat := HN.out.at_ (fun x hx => by obtain ⟨z, -, rfl⟩ := List.mem_map.1 hx; exact hgo z)
              have hA5 : ∀ g, rowOf A5 = some g → w1.heap.size ≤ g := fun g hg => (HN.out.lt g hg).1
              have hnew : LiteIs w2 (some ⟨g1, 0, none⟩) ⟨[.int .i64 kind, .int .i64 num, .slice A5 mv.length c5, .slice none 0 0], rfl, hone⟩ (mkNew vals ⟨cell, kind, num, mv⟩) :=
                ⟨A5, c5, none, 0, by simp [mkNew], hat, .inr fun g hg e => by have := hA5 g e; simp [rowOf] at hg; omega, by simp [mkNew]; omega⟩
              have hgs : w.heap.size ≤ g1 := by omega
              refine ⟨⟨k + 1, by omega, by go_num, ⟨_, xs.set n (mkNew vals ⟨cell, kind, num, mv⟩), ?_, ?_, ((HOW2.out.1.set_raw4 HOW2.out.2.1 _ rfl).alloc _), ((((((hL2.set_ n hnew).setCell _ _).setCell _ _).setCell _ _).setCell _ _).fresh ((Below.refl _ _).alloc (Nat.le_refl _) _))⟩, ((((hbl2.setCell hgs _).setCell hgs _).setCell hgs _).setCell hgs _).alloc (by simp [World.setCell]; omega) _, by simp [World.setCell]; omega⟩, by simp [intOf]; omega⟩
              · rw [mks_snoc _ _ _ _ _ HX.out, HMK.out]
                show mk1 _ _ _ = _
                unfold mk1
                rw [if_pos HF.out, if_pos (by rw [HST.out]; simp [HOW2.out.2.2, h4, hxl]; omega), HP.out]
                rfl
              · rw [List.length_set]; exact hrl
            · have HE := Lib.hid (HBAD.out (by rw [HST.out]; simp [hy, h4]))
              clear hcs hr hy hoW
              subst h1
              have h4b : (yk != 0) = true := by simp [h4]
              have h3c : ¬ l.length ≤ n := by omega
              go_wp2_with fail
              go_ret2
              exact ⟨hbl2.alloc (by omega) _, .inr ⟨8, HE.out, rfl⟩⟩
          · have HE := Lib.hid (HBAD.out (by rw [HST.out]; simp; omega))
            subst h1
            have h2' : ¬ q < 0 := by omega
            have h3' : (l.length : Int) ≤ q := by omega
            go_wp2_with fail
            go_ret2
            exact ⟨hbl2.alloc (by omega) _, .inr ⟨8, HE.out, rfl⟩⟩
        · have HE := Lib.hid (HBAD.out (by rw [HST.out]; simp [h2]))
          subst h1
          have h2' : q < 0 := by omega
          go_wp2_with fail
          go_ret2
          exact ⟨hbl2.alloc (by omega) _, .inr ⟨8, HE.out, rfl⟩⟩
      · have HE := Lib.hid (HBAD.out (by rw [HST.out]; simp [h1]))
        go_wp2_with fail
        go_ret2
        exact ⟨hbl2.alloc (by omega) _, .inr ⟨8, HE.out, rfl⟩⟩
    · obtain rfl : k = ms.length := by omega
      have hk2 := hkeep.out
      rw [List.take_length] at hk2
      have HK := Lib.hid hk2
      clear hkeep hk2
      go_wp2_with fail
      go_ret2
      obtain ⟨rs', xs, h1, h2, h3, h4⟩ := HK.out
      exact ⟨hbl, .inl ⟨xs, h1, A1, c1, rs', rfl, h2, h3.base_le (by omega), h4⟩⟩

end Go.Proofs.Ytljdnadejmkaeaa
