/- KM: KmC. -/
import Derived.Test.YtdlcooplllimeaaGreatDoorKM12
/- TopMoved. -/
namespace Go.Proofs.YtdlcooplllimeaaGreatDoor
open Go.RowKit

attribute [local go_sem ↓] Go.wp_at_zero Go.wp_at_succ

namespace Top
def TrueM (w : World) (e : Ending) (w' : World) : Prop := e = .returned (.bool true) ∧ Below w.heap.size w w'
theorem mv_mem {ws : List U64} {m : Int × Int} : ∀ {F : List Nat} {a : Nat}, m ∈ (Hau.cum ws a F).map (fun m => ((m.1 : Int), (m.2 : Int))) → ∃ p ∈ F, m.2 = (p : Int)
  | [], a, h => by simp [Hau.cum] at h
  | p :: F, a, h => by
    rw [Hau.cum, List.map_cons, List.mem_cons] at h
    rcases h with rfl | h
    · exact ⟨p, by simp, rfl⟩
    · obtain ⟨q, hq, e⟩ := mv_mem h
      exact ⟨q, by simp [hq], e⟩
/-- some of the places is just this -/
def fnd (pl : List Int) (of : List Int) (x : Int) : Bool := of.any fun n => pl.getD n.toNat 0 == x
theorem fnd_snoc {pl of : List Int} {k : Nat} {n x : Int} (h : of[k]? = some n) : fnd pl (of.take (k + 1)) x = (fnd pl (of.take k) x || (pl.getD n.toNat 0 == x)) := by
  unfold fnd
  rw [List.take_add_one, h, List.any_append]
  simp
theorem own_pair {w : World} {base : Nat} {e : TypeId} {c g k : Nat} {l : List (Int × Int)} {m : Int × Int} (h : Own w base e (some ⟨g, 0, none⟩) c l) (hk : l[k]? = some m) : w.cell? ⟨g, k * 2, none⟩ = some (.int .i64 m.1) ∧ w.cell? ⟨g, k * 2 + 1, none⟩ = some (.int .i64 m.2) := by
  have h0 := h.cells_ (g := g) (o := 0) rfl (k * 2 + 0) (.int .i64 m.1) (flat_get l k 0 m hk (by decide))
  have h1 := h.cells_ (g := g) (o := 0) rfl (k * 2 + 1) (.int .i64 m.2) (flat_get l k 1 m hk (by decide))
  simp only [Nat.zero_add, Nat.add_zero] at h0 h1
  exact ⟨h0, h1⟩
theorem fnd_true {pl of : List Int} {x : Int} {n : Nat} (h : (n : Int) ∈ of) (hx : x = pl.getD n 0) : fnd pl of x = true := by
  unfold fnd
  rw [List.any_eq_true]
  exact ⟨_, h, by rw [Int.toNat_natCast, hx]; simp⟩
set_option maxHeartbeats 6400000 in
set_option maxRecDepth 100000 in
theorem topMoved_any (w : World) (B : Nat) (pg : Pg) (s : Stt) (FA KA XA CA SA TA HA EA DA : Option Addr) (fc kc xc cc sc tc hc ec dc : Nat) (hF : At w B FA pg.fns) (hK : At w B KA pg.consts) (hX : At w B XA pg.texts) (hxc : pg.texts.length ≤ xc ∧ xc ≤ maxLen) (h : StP w B s CA SA TA HA EA DA cc sc tc hc ec dc) (hB : B ≤ w.heap.size) (hT : Tabs w)
    (hl1 : ∀ t ∈ s.threads, (frVals t.frames).length + 1 ≤ 1073741824) (hl2 : (roots s).length ≤ 1073741824) (hl3 : s.threads.length ≤ 1073741824 ∧ s.ends.length ≤ 1073741824) (hl4 : s.cells.length ≤ 1073741824) (hl5 : ∀ c ∈ s.cells, c.vals.length + (frVals c.frames).length ≤ 1073741824) (hl6 : (obsT s).flatten.length ≤ 1073741824) :
    Calls Tryz.prog 4 #[.agg #[.slice FA pg.fns.length fc, .slice KA pg.consts.length kc, .slice XA pg.texts.length xc], .agg #[.slice CA s.cells.length cc, .slice SA s.shapes.length sc, .slice TA s.texts.length tc, .slice HA s.threads.length hc, .slice EA s.ends.length ec, .slice DA s.said.length dc, .int .i64 s.asked, .int .i64 s.steps]] w (TrueM w) := by
  obtain ⟨P, hP⟩ : ∃ P, TrueM w = P := ⟨_, rfl⟩
  have HP := Lib.hid hP; rw [hP]; clear hP
  have hdone : ∀ w', Below w.heap.size w w' → P (.returned (.bool true)) w' := fun w' hb => by rw [← HP.out]; exact ⟨rfl, hb⟩
  have HD := Lib.hid hdone; clear hdone
  have H := Lib.hid (And.intro (hF) (And.intro (hK) (And.intro (hX) (And.intro (hxc) (And.intro (h) (hT))))))
  have HL := Lib.hid (And.intro (hl1) (And.intro (hl2) (And.intro (hl3) (And.intro (hl4) (And.intro (hl5) (hl6))))))
  clear hF hK hX hxc h hT hl1 hl2 hl3 hl5 hl6
  go_enter Tryz.func4, Tryz.ntmps4
  go_upto_region 1 with fail
  refine wp_world (fun W => Blk W w.heap.size 26 #[.slice FA pg.fns.length fc, .slice KA pg.consts.length kc, .slice XA pg.texts.length xc] ∧ Blk W (w.heap.size + 1) 32 #[.slice CA s.cells.length cc, .slice SA s.shapes.length sc, .slice TA s.texts.length tc, .slice HA s.threads.length hc, .slice EA s.ends.length ec, .slice DA s.said.length dc, .int .i64 s.asked, .int .i64 s.steps] ∧ Below w.heap.size w W ∧ w.heap.size + 2 ≤ W.heap.size) ⟨?_, ?_, ?_, ?_⟩ ?_
  · exact (Blk.new w _ _).fresh ((Below.refl _ _).alloc (Nat.le_refl _) _)
  · have := Blk.new (w.alloc (.cells #[.slice FA pg.fns.length fc, .slice KA pg.consts.length kc, .slice XA pg.texts.length xc] 26)) 32 #[.slice CA s.cells.length cc, .slice SA s.shapes.length sc, .slice TA s.texts.length tc, .slice HA s.threads.length hc, .slice EA s.ends.length ec, .slice DA s.said.length dc, .int .i64 s.asked, .int .i64 s.steps]
    simpa using this
  · exact ((Below.refl _ _).alloc (Nat.le_refl _) _).alloc (by simp) _
  · simp
  rintro W ⟨hPr, hSt, hbW, hsW⟩
  have hrb := rBoxed_any W
  have HW := Lib.hid (And.intro (hrb) (And.intro (hPr) (And.intro (hSt) (hbW))))
  clear hrb hPr hSt hbW
  go_wp2_with fail
  refine HW.out.1.mono ?_
  rintro e w1 ⟨rfl, hb1⟩
  have hPr := HW.out.2.1.fresh hb1
  have hSt := HW.out.2.2.1.fresh hb1
  have hbw := HW.out.2.2.2.trans (hb1.mono (by omega))
  have hs1 := hb1.size
  have p0 := hPr.cell 0 (v := .slice FA pg.fns.length fc) rfl
  have p1 := hPr.cell 1 (v := .slice KA pg.consts.length kc) rfl
  have p2 := hPr.cell 2 (v := .slice XA pg.texts.length xc) rfl
  obtain ⟨s0, s1, s2, s3, s4, s5, s6, s7⟩ := hSt.cells8
  have hof := of_any w1 B pg s FA KA XA CA SA TA HA EA DA fc kc xc cc sc tc hc ec dc (H.out.1.below (hbw.mono hB)) (H.out.2.1.below (hbw.mono hB)) (H.out.2.2.1.below (hbw.mono hB)) H.out.2.2.2.1 (H.out.2.2.2.2.1.below (hbw.mono hB)) (by omega) (H.out.2.2.2.2.2.fresh hbw)
  have H1 := Lib.hid (And.intro (hof) (And.intro (hSt) (hbw)))
  clear hof hPr hSt hbw hb1
  go_wp2_with fail
  refine H1.out.1.mono ?_
  rintro e w2 ⟨hb2, hcase⟩
  have hSt := H1.out.2.1.fresh hb2
  have hbw := H1.out.2.2.trans (hb2.mono (by omega))
  have hs2 := hb2.size
  have hrg := rHeap_any B cc sc tc hc ec dc CA SA TA HA EA DA s w2 (H.out.2.2.2.2.1.below (hbw.mono hB)) (by omega) HL.out.1 HL.out.2.1 HL.out.2.2.1 HL.out.2.2.2.1 HL.out.2.2.2.2.1 HL.out.2.2.2.2.2
  clear p0 p1 p2 s0 s1 s2 s3 s4 s5 s6 s7
  obtain ⟨s0, s1, s2, s3, s4, s5, s6, s7⟩ := hSt.cells8
  have H2 := Lib.hid (And.intro (hrg) (And.intro (hSt) (hbw)))
  clear hrg hSt hbw hb2
  have hrb := fun V => rBoxed_any V
  have HB := Lib.hid hrb; clear hrb
  rcases hcase with ⟨r, hr, rfl⟩ | ⟨hsc, hso, OA, oc, rfl, hown⟩
  · have dr : (r != 0) = true := by simpa using hr
    clear hr
    go_wp2_with fail
    refine H2.out.1.mono ?_
    rintro e w3 ⟨hb3, hcase⟩
    have hbw := H2.out.2.2.trans (hb3.mono (by omega))
    have hs3 := hb3.size
    clear s0 s1 s2 s3 s4 s5 s6 s7 hb3
    have HC := Lib.hid (hbw)
    clear hbw
    rcases hcase with ⟨GA, gn, gc, GB, gm, gd, PA, pn, pd, rfl⟩ | ⟨-, -, -, GA, gc, GB, gd, PA, pd, rfl, -, -, -, -⟩
    · go_wp2_with fail
      refine (HB.out _).mono ?_
      rintro e w4 ⟨rfl, hb4⟩
      have H4 := Lib.hid hb4; clear hb4
      go_wp2_with fail
      exact HD.out _ ((HC.out.alloc (by omega) _).trans (H4.out.mono (by simp; omega)))
    · go_wp2_with fail
      refine (HB.out _).mono ?_
      rintro e w4 ⟨rfl, hb4⟩
      have H4 := Lib.hid hb4; clear hb4
      go_wp2_with fail
      exact HD.out _ ((HC.out.alloc (by omega) _).trans (H4.out.mono (by simp; omega)))
  have hok := hso.okr
  obtain ⟨of, hofe⟩ : ∃ of, rising (rcB s) = of := ⟨_, rfl⟩
  rw [hofe] at hown ⊢
  have hofr : ∀ x ∈ of, ∃ n : Nat, x = (n : Int) ∧ n < s.cells.length := fun x hx => by
    rw [← hofe] at hx
    obtain ⟨n, e, hn⟩ := (mem_of hok).1 hx
    exact ⟨n, e, hn.lt hok⟩
  have hofl : of.length ≤ 300 := by
    rw [← hofe]
    have h1 := rising_length (rcB s)
    rw [rcB_length] at h1
    have := hso.many.1; omega
  have hofi : ∀ x ∈ of, I64 x := fun x hx => by
    obtain ⟨n, rfl, hn⟩ := hofr x hx
    have := hso.many.1
    unfold I64; omega
  have HO := Lib.hid (And.intro (hok) (And.intro (hofe) (And.intro (hofr) (And.intro (hofi) (And.intro (hown) (hso))))))
  clear hok hofe hofr hofi hown hsc hso
  go_wp2_with fail
  refine H2.out.1.mono ?_
  rintro e w3 ⟨hb3, hcase⟩
  have hbw := H2.out.2.2.trans (hb3.mono (by omega))
  have hs3 := hb3.size
  have hSt := H2.out.2.1.fresh hb3
  have hO3 := HO.out.2.2.2.2.1.fresh hb3
  clear s0 s1 s2 s3 s4 s5 s6 s7
  have H3 := Lib.hid (And.intro (hbw) (And.intro (hSt) (hO3)))
  clear hb3 hbw hSt hO3
  rcases hcase with ⟨GA, gn, gc, GB, gm, gd, PA, pn, pd, rfl⟩ | ⟨kok, k2, k3, GA, gc, GB, gd, PA, pd, rfl, hga, hgb, hgp, hgc⟩
  · go_wp2_with fail
    refine (HB.out _).mono ?_
    rintro e w4 ⟨rfl, hb4⟩
    have H4 := Lib.hid hb4; clear hb4
    go_wp2_with fail
    exact HD.out _ ((H3.out.1.alloc (by omega) _).trans (H4.out.mono (by simp; omega)))
  obtain ⟨nW, hnW⟩ : ∃ nW, (obsT s).flatten.length = nW := ⟨_, rfl⟩
  rw [hnW] at hgc ⊢
  have HNW := Lib.hid (And.intro hnW k2); clear hnW k2
  go_upto_region 5 with fail
  refine wp_world (fun U => Blk U w3.heap.size 56 #[.slice GA nW gc, .slice GB (roots s).length gd] ∧ Below w3.heap.size w3 U ∧ w3.heap.size + 1 ≤ U.heap.size) ⟨Blk.new _ _ _, (Below.refl _ _).alloc (Nat.le_refl _) _, by simp⟩ ?_
  rintro U ⟨hG, hbU, hsU⟩
  have hbwU := H3.out.1.trans (hbU.mono (by omega))
  have hStU := H3.out.2.1.fresh hbU
  obtain ⟨s0, s1, s2, s3, s4, s5, s6, s7⟩ := hStU.cells8
  have hatO : At U U.heap.size OA of := (H3.out.2.2.fresh hbU).at_ HO.out.2.2.2.1
  have hGa : At U U.heap.size GA (obsT s).flatten := (hga.below hbU).more (by omega)
  have hGb : At U U.heap.size GB (rootsT s) := (hgb.below hbU).more (by omega)
  have hGp : At U U.heap.size PA (plI (plcs s)) := (hgp.below hbU).more (by omega)
  have hrw := rWeak_any B cc sc tc hc ec dc CA SA TA HA EA DA s U (H.out.2.2.2.2.1.a1.below (hbwU.mono hB)) (by omega) hl4
  have HU := Lib.hid (And.intro (hG) (And.intro (hbwU) (And.intro (hatO) (And.intro (hGa) (And.intro (hGb) (And.intro (hGp) (And.intro (hrw) (kok))))))))
  clear hG hbU hbwU hatO hGa hGb hGp hga hgb hgp hrw hStU kok
  have hUw := HU.out.2.1.size
  go_wp2_with fail
  refine HU.out.2.2.2.2.2.2.1.mono ?_
  rintro e w4 ⟨wb, rfl, hwk, hb4⟩
  have hbw4 := HU.out.2.1.trans (hb4.mono (by omega))
  have hs4 := hb4.size
  clear s0 s1 s2 s3 s4 s5 s6 s7
  cases wb with
  | true =>
    have HC := Lib.hid (hbw4)
    clear hbw4 hwk hb4
    go_wp2_with fail
    refine (HB.out _).mono ?_
    rintro e w5 ⟨rfl, hb5⟩
    have H5 := Lib.hid hb5; clear hb5
    go_wp2_with fail
    exact HD.out _ (HC.out.trans (H5.out.mono (by omega)))
  | false =>
  have hfit : Fitw s := ⟨HO.out.1, hwk rfl, fun c hc v hv h5 => (HU.out.2.2.2.2.2.2.2 c hc v hv).2 h5, HNW.out.2, k3⟩
  have hG4 := HU.out.1.fresh hb4
  have g0 := hG4.cell 0 (v := .slice GA nW gc) rfl
  have g1 := hG4.cell 1 (v := .slice GB (roots s).length gd) rfl
  have hrl : (rootsT s).length = (roots s).length := by unfold rootsT; rw [List.length_map]
  have hco := hcollect_any w4.heap.size gc gd GA GB (obsT s).flatten (rootsT s) w4 ⟨(HU.out.2.2.2.1.below hb4).more hs4, (HU.out.2.2.2.2.1.below hb4).more hs4⟩ (Nat.le_refl _) (by rw [HNW.out.1]; exact hgc)
  rw [hrl, hfit.heapOk.2.2.2, HNW.out.1] at hco
  have hatO := (HU.out.2.2.1.below hb4).more hs4
  have hatP := (HU.out.2.2.2.2.2.1.below hb4).more hs4
  have H4 := Lib.hid (And.intro (hco) (And.intro (hbw4) (And.intro (hfit) (And.intro (hatO) (hatP)))))
  clear hco hbw4 hfit hatO hatP hwk hb4 hG4 hrl
  go_wp2_with fail
  refine H4.out.1.mono ?_
  rintro e w5 ⟨hb5, hcase⟩
  rcases hcase with ⟨-, TA2, tc2, RA2, rc2, LA, lc, rfl, -, -, hown5⟩ | ⟨hne, -⟩
  rotate_left
  · exact absurd rfl hne
  have hbw5 := H4.out.2.1.trans (hb5.mono (by omega))
  have hs5 := hb5.size
  have hlen : (Hau.told (obsT s).flatten (rootsT s)).length = of.length := by rw [H4.out.2.2.1.told_len, HO.out.2.1]
  obtain ⟨G, hG⟩ : ∃ G, Hau.told (obsT s).flatten (rootsT s) = G := ⟨_, rfl⟩
  obtain ⟨nw, hnw⟩ : ∃ nw, Hau.newWords (obsT s).flatten (rootsT s) = nw := ⟨_, rfl⟩
  obtain ⟨nr, hnr⟩ : ∃ nr, Hau.newRoots (obsT s).flatten (rootsT s) = nr := ⟨_, rfl⟩
  rw [hG] at hlen hown5
  rw [hG, hnw, hnr, hlen]
  obtain ⟨mv, hmv⟩ : ∃ mv, Hau.mv (obsT s).flatten G = mv := ⟨_, rfl⟩
  have hmvl : mv.length = of.length := by rw [← hmv, Hau.mv_length, hlen]
  rw [hmv] at hown5
  have hmvf : ∀ m ∈ mv, ∃ n : Nat, n < s.cells.length ∧ (n : Int) ∈ of ∧ m.2 = ((plcs s).getD n 0 : Nat) := fun m hm => by
    rw [← hmv] at hm
    obtain ⟨p, hp, e⟩ := mv_mem hm
    rw [← hG] at hp
    obtain ⟨n, hn, e2⟩ := (H4.out.2.2.1.told_iff p).1 hp
    have hnl := hn.lt HO.out.1
    refine ⟨n, hnl, by rw [← HO.out.2.1]; exact (mem_of HO.out.1).2 ⟨n, rfl, hn⟩, ?_⟩
    rw [e, e2, List.getD_eq_getElem?_getD, plcs_get hnl]; rfl
  have hmvt : ∀ m ∈ mv, fnd (plI (plcs s)) of m.2 = true := fun m hm => by
    obtain ⟨n, hn, hm1, e⟩ := hmvf m hm
    refine fnd_true hm1 ?_
    rw [e]
    unfold plI
    rw [List.getD_eq_getElem?_getD, List.getD_eq_getElem?_getD, List.getElem?_map]
    cases (plcs s)[n]? <;> rfl
  have hatO := H4.out.2.2.2.1.below hb5
  have hatP := H4.out.2.2.2.2.below hb5
  have H5 := Lib.hid (And.intro (hown5) (And.intro (hbw5) (And.intro (hmvt) (And.intro (hatO) (And.intro (hatP) (hmvl))))))
  clear hown5 hbw5 hmvt hatO hatP hmvl hmvf hb5 hG hnw hnr hmv hlen g0 g1
  go_upto_region 10 with fail
  refine wp_world (fun V => Below w5.heap.size w5 V ∧ w5.heap.size + 1 ≤ V.heap.size) ⟨(Below.refl _ _).alloc (Nat.le_refl _) _, by simp⟩ ?_
  rintro V ⟨hbV, hsV⟩
  have HV := Lib.hid (And.intro ((H5.out.1.fresh hbV)) (And.intro ((H5.out.2.1.trans (hbV.mono (by omega)))) (And.intro ((H5.out.2.2.2.1.below (hbV.mono (by omega)))) ((H5.out.2.2.2.2.1.below (hbV.mono (by omega)))))))
  clear hbV
  go_wp2_with fail
  go_loopg [60] (of.length) (fun gk iv wr => ∃ (k : Nat), k ≤ of.length ∧ gk = of.length - k ∧ iv = .int .i64 k ∧ Below V.heap.size V wr)
  case atStart => exact ⟨0, Nat.zero_le _, rfl, rfl, Below.refl _ _⟩
  case round =>
    obtain ⟨k, hk, rfl, rfl, hbl⟩ := hrel
    have hsz := hbl.size
    by_cases hlt : k < of.length
    · have hkm : k < mv.length := by have := H5.out.2.2.2.2.2; omega
      obtain ⟨m, hm⟩ : ∃ m, mv[k]? = some m := ⟨_, List.getElem?_eq_getElem hkm⟩
      obtain ⟨g, rfl, hg1, hg2⟩ := HV.out.1.some_ (by omega)
      obtain ⟨m0, m1⟩ := own_pair (HV.out.1.fresh hbl) hm
      have hfm := H5.out.2.2.1 m (List.mem_of_getElem? hm)
      have hk0 : (0 : Int) ≤ (k : Int) := by omega
      have hk1 : (k : Int) < (of.length : Int) := by omega
      have HX := Lib.hid (And.intro (hfm) (hbl))
      clear hm hfm hbl hkm
      go_upto_region 13 with fail
      refine wp_world (fun U => Blk U wr.heap.size 64 #[.int .i64 m.1, .int .i64 m.2] ∧ Below wr.heap.size wr U ∧ wr.heap.size + 1 ≤ U.heap.size) ⟨Blk.new _ _ _, (Below.refl _ _).alloc (Nat.le_refl _) _, by simp⟩ ?_
      rintro U ⟨hC, hbU, hsU⟩
      clear m0 m1
      obtain ⟨cb, hcb⟩ : ∃ cb, wr.heap.size = cb := ⟨_, rfl⟩
      rw [hcb] at hC ⊢
      have hcV : V.heap.size ≤ cb := by omega
      have HU := Lib.hid (And.intro (hC) ((HX.out.2.trans (hbU.mono hsz))))
      clear hC hbU hcb
      go_wp2_with fail
      go_loopg [15, 66] (of.length) (fun gj fv jv wj => ∃ (j : Nat) (b : Bool), j ≤ of.length ∧ gj = of.length - j ∧ jv = .int .i64 j ∧ fv = .bool b ∧ Hid (b = fnd (plI (plcs s)) (of.take j) m.2 ∧ Blk wj cb 64 #[.int .i64 m.1, .int .i64 m.2]) ∧ Below V.heap.size V wj)
      case atStart => exact ⟨0, false, Nat.zero_le _, rfl, rfl, rfl, ⟨by simp [fnd], HU.out.1⟩, HU.out.2⟩
      case round =>
        obtain ⟨j, fb, hj, rfl, rfl, rfl, hkeep, hbl⟩ := hrel
        have hszj := hbl.size
        by_cases hjt : j < of.length
        · obtain ⟨b5, o5, xi, rfl, hb5, hx, q0⟩ := (HV.out.2.2.1.below (hbl.mono (by omega))).int_ hjt
          obtain ⟨n, rfl, hnl⟩ := HO.out.2.2.1 xi (List.mem_of_getElem? hx)
          have hpl : (plI (plcs s)).length = s.cells.length := by rw [plI_len, plcs_len]
          obtain ⟨b6, o6, p, rfl, hb6, hp, ip, q1⟩ := (HV.out.2.2.2.below (hbl.mono (by omega))).int_ (by rw [hpl]; exact hnl : n < (plI (plcs s)).length)
          have hsn := fnd_snoc (pl := plI (plcs s)) (x := m.2) hx
          rw [Int.toNat_natCast, List.getD_eq_getElem?_getD, hp, Option.getD_some, ← hkeep.out.1] at hsn
          have v1 := hkeep.out.2.cell 1 (v := .int .i64 m.2) rfl
          have hj0 : (0 : Int) ≤ (j : Int) := by omega
          have hj1 : (j : Int) < (of.length : Int) := by omega
          have n0 : (0 : Int) ≤ (n : Int) := by omega
          have n1 : (n : Int) < (s.cells.length : Int) := by omega
          have q0' := q0.2
          have HY := Lib.hid (And.intro (hsn) (hkeep.out.2))
          clear hsn hkeep hx hp ip hpl q0
          cases fb with
          | true =>
            go_wp2_with fail
            go_quiet (fail)
            go_wp2_with fail
            go_roundg (of.length - (j + 1))
            case measure => omega
            case rel => exact ⟨j + 1, true, by omega, rfl, by go_num, rfl, ⟨by rw [HY.out.1]; rfl, HY.out.2.drewN _⟩, below_drewN hbl _⟩
          | false =>
            cases hpm : (p == m.2) with
            | true =>
              go_wp2_with fail
              go_quiet (fail)
              go_wp2_with fail
              go_roundg (of.length - (j + 1))
              case measure => omega
              case rel => exact ⟨j + 1, true, by omega, rfl, by go_num, rfl, ⟨by rw [HY.out.1, hpm]; rfl, HY.out.2.drewN _⟩, below_drewN hbl _⟩
            | false =>
              go_wp2_with fail
              go_quiet (fail)
              go_wp2_with fail
              go_roundg (of.length - (j + 1))
              case measure => omega
              case rel => exact ⟨j + 1, false, by omega, rfl, by go_num, rfl, ⟨by rw [HY.out.1, hpm]; rfl, HY.out.2.drewN _⟩, below_drewN hbl _⟩
        · have h1 := hkeep.out.1
          rw [List.take_of_length_le (by omega), HX.out.1] at h1
          subst h1
          clear hkeep
          go_wp2_with fail
          go_roundg (of.length - (k + 1))
          case measure => omega
          case rel => exact ⟨k + 1, by omega, rfl, by go_num, hbl⟩
    · have hb := HV.out.2.1.trans (hbl.mono (by omega))
      have HK := Lib.hid (hb)
      clear hb hbl
      go_wp2_with fail
      refine (HB.out _).mono ?_
      rintro e w9 ⟨rfl, hb9⟩
      have H9 := Lib.hid hb9; clear hb9
      go_wp2_with fail
      exact HD.out _ (HK.out.trans (H9.out.mono (by omega)))
end Top
end Go.Proofs.YtdlcooplllimeaaGreatDoor
