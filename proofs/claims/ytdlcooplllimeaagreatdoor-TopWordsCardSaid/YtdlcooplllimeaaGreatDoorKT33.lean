/- KT: KpD. -/
import Derived.Test.YtdlcooplllimeaaGreatDoorKT16
import Derived.Test.YtdlcooplllimeaaGreatDoorKT32
/- The top laws' own words: the graph of a state. -/
namespace Go.Proofs.YtdlcooplllimeaaGreatDoor
open Go.RowKit

attribute [local go_sem ↓] Go.wp_at_zero Go.wp_at_succ

namespace Top
theorem infoIntsT : (Tryz.prog.info? 34).map (fun i => (i.zero, i.size, i.bytes)) = some (some (.slice none 0 0), 1, 24) := by kernel_rfl
def MG (t : TypeId) : Prop := t = 34 ∨ t = 40
instance (t : TypeId) : Decidable (MG t) := by unfold MG; infer_instance
def HasR (m : World) (base : Nat) (r : Raw 1) (l : List Int) : Prop := ∃ A c, r.cs = [.slice A l.length c] ∧ Own m base 3 A c l ∧ ∀ x ∈ l, I64 x
theorem HasR.kept {m m' : World} {base : Nat} {r : Raw 1} {l : List Int} (h : HasR m base r l) (hk : Kept MG m m') : HasR m' base r l := by
  obtain ⟨A, c, h1, h2, h3⟩ := h
  exact ⟨A, c, h1, hk.own h2 (by decide), h3⟩
structure GSt (s : Stt) (w0 : World) (R0 G k : Nat) (A1 : Option Addr) (c1 : Nat) (out : List (Raw 1)) (RA : Option Addr) (rc : Nat) (m : World) : Prop where
  g : Blk m G 40 #[.slice A1 out.length c1, .slice RA (roots s).length rc]
  r : Blk m R0 40 #[.slice none 0 0, .slice none 0 0]
  o : Own m w0.heap.size 34 A1 c1 out
  ro : Own m w0.heap.size 3 RA rc (roots s)
  n : out.length = k
  row : ∀ (i : Nat) r c, out[i]? = some r → s.cells[i]? = some c → HasR m w0.heap.size r (rfs (cHas c))
  le : ∀ (i : Nat) c, i < k → s.cells[i]? = some c → (rfs (cHas c)).length ≤ 10
  b : Below w0.heap.size w0 m
section
variable {s : Stt} {w0 m m' : World} {R0 G k : Nat} {A1 : Option Addr} {c1 : Nat} {out : List (Raw 1)} {RA : Option Addr} {rc : Nat}
theorem GSt.fresh (h : GSt s w0 R0 G k A1 c1 out RA rc m) (hb : Below m.heap.size m m') : GSt s w0 R0 G k A1 c1 out RA rc m' :=
  ⟨h.g.fresh hb, h.r.fresh hb, h.o.fresh hb, h.ro.fresh hb, h.n, fun i r c a b => (h.row i r c a b).kept (Kept.fresh hb), h.le, h.b.trans (hb.mono h.b.size)⟩
theorem has_at (h : Own m w0.heap.size 34 A1 c1 out) (hn : out.length = s.cells.length) (hrow : ∀ (i : Nat) r c, out[i]? = some r → s.cells[i]? = some c → HasR m w0.heap.size r (rfs (cHas c))) : At m m.heap.size A1 (Top.has s) := by
  refine Own.at_raw (α := List Int) (n := 1) rfl h (by rw [hn, has_length]) fun i r x hr hx => ?_
  have hi := (List.getElem?_eq_some_iff.1 hx).1
  rw [has_length] at hi
  obtain ⟨c, hc⟩ : ∃ c, s.cells[i]? = some c := ⟨_, List.getElem?_eq_getElem hi⟩
  unfold Top.has at hx
  rw [List.getElem?_map, hc] at hx
  injection hx with hx
  subst hx
  obtain ⟨A, cc, e, ho, hz⟩ := hrow i r c hr hc
  refine ⟨A, cc, e, ho.le_cap.1, ho.le_cap.2, fun hA => ?_, ho.at_ hz⟩
  rcases ho.2 with ⟨h1, h2⟩ | ⟨g, cap, cur, hv, _⟩
  · injection h1
  · rw [hA] at hv; injection hv with hv; cases hv
end
def GraphPost (s : Stt) (w : World) (e : Ending) (w' : World) : Prop := Below w.heap.size w w' ∧ ((∃ A n c A' n' c', e = .returned (.tuple #[.agg #[.slice A n c, .slice A' n' c'], .bool false])) ∨
  (s.cells.length ≤ 100 ∧ (roots s).length ≤ 100 ∧ (∀ c ∈ s.cells, (rfs (cHas c)).length ≤ 10) ∧ ∃ A c RA rc, e = .returned (.tuple #[.agg #[.slice A s.cells.length c, .slice RA (roots s).length rc], .bool true]) ∧ At w' w'.heap.size A (has s) ∧ At w' w'.heap.size RA (roots s) ∧ (roots s).length ≤ rc ∧ rc ≤ maxLen))
set_option maxHeartbeats 3200000 in
set_option maxRecDepth 100000 in
theorem rGraph_any (B cc sc tc hc ec dc : Nat) (CA SA TA HA EA DA : Option Addr) (s : Stt) (w : World) (h : StP w B s CA SA TA HA EA DA cc sc tc hc ec dc) (hB : B ≤ w.heap.size)
    (hl1 : ∀ t ∈ s.threads, (frVals t.frames).length + 1 ≤ 1073741824) (hl2 : (roots s).length ≤ 1073741824) (hl3 : s.threads.length ≤ 1073741824 ∧ s.ends.length ≤ 1073741824) (hl4 : s.cells.length ≤ 1073741824) (hl5 : ∀ c ∈ s.cells, c.vals.length + (frVals c.frames).length ≤ 1073741824) :
    Calls Tryz.prog 8 #[.agg #[.slice CA s.cells.length cc, .slice SA s.shapes.length sc, .slice TA s.texts.length tc, .slice HA s.threads.length hc, .slice EA s.ends.length ec, .slice DA s.said.length dc, .int .i64 s.asked, .int .i64 s.steps]] w (GraphPost s w) := by
  obtain ⟨P, hP⟩ : ∃ P, GraphPost s w = P := ⟨_, rfl⟩
  have HP := Lib.hid hP; rw [hP]; clear hP
  obtain ⟨i0, hi, hz0, hz1, hz2⟩ := info_parts infoIntsT
  have H := Lib.hid (And.intro (h) (And.intro (hl1) (And.intro (hl2) (And.intro (hl3) (hl5)))))
  clear h hl1 hl2 hl3 hl5
  go_enter Tryz.func8, Tryz.ntmps8
  go_upto_region 1 with fail
  refine wp_world (fun W => Blk W w.heap.size 32 #[.slice CA s.cells.length cc, .slice SA s.shapes.length sc, .slice TA s.texts.length tc, .slice HA s.threads.length hc, .slice EA s.ends.length ec, .slice DA s.said.length dc, .int .i64 s.asked, .int .i64 s.steps] ∧ Blk W (w.heap.size + 1) 40 #[.slice none 0 0, .slice none 0 0] ∧ Below w.heap.size w W ∧ w.heap.size + 2 ≤ W.heap.size) ⟨?_, ?_, ?_, ?_⟩ ?_
  · exact (Blk.new w _ _).fresh ((Below.refl _ _).alloc (Nat.le_refl _) _)
  · have := Blk.new (w.alloc (.cells #[.slice CA s.cells.length cc, .slice SA s.shapes.length sc, .slice TA s.texts.length tc, .slice HA s.threads.length hc, .slice EA s.ends.length ec, .slice DA s.said.length dc, .int .i64 s.asked, .int .i64 s.steps] 32)) 40 #[.slice none 0 0, .slice none 0 0]
    simpa using this
  · exact ((Below.refl _ _).alloc (Nat.le_refl _) _).alloc (by simp) _
  · simp
  rintro W ⟨hSt, hRs, hbW, hsW⟩
  have s0 := hSt.cell 0 (v := .slice CA s.cells.length cc) rfl
  have s1 := hSt.cell 1 (v := .slice SA s.shapes.length sc) rfl
  have s2 := hSt.cell 2 (v := .slice TA s.texts.length tc) rfl
  have s3 := hSt.cell 3 (v := .slice HA s.threads.length hc) rfl
  have s4 := hSt.cell 4 (v := .slice EA s.ends.length ec) rfl
  have s5 := hSt.cell 5 (v := .slice DA s.said.length dc) rfl
  have s6 := hSt.cell 6 (v := .int .i64 s.asked) rfl
  have s7 := hSt.cell 7 (v := .int .i64 s.steps) rfl
  have hrr := rRoots_any B cc sc tc hc ec dc CA SA TA HA EA DA s W (H.out.1.below (hbW.mono hB)) (by omega) H.out.2.1 H.out.2.2.1 H.out.2.2.2.1
  have HW := Lib.hid (And.intro (hrr) (And.intro (hSt) (And.intro (hRs) (hbW))))
  clear hrr hSt hRs hbW
  go_wp2_with fail
  refine HW.out.1.mono ?_
  rintro e w1 ⟨RA, rc, rfl, hro, hri, hb1⟩
  have hs1 := hb1.size
  have hbw1 : Below w.heap.size w w1 := HW.out.2.2.2.trans (hb1.mono (by omega))
  have hSt1 := HW.out.2.1.fresh hb1
  have hRs1 := HW.out.2.2.1.fresh hb1
  have H1 := Lib.hid (And.intro (hro) (And.intro (hri) (And.intro (hbw1) (And.intro (hSt1) (hRs1)))))
  clear hro hri hbw1 hSt1 hRs1 hb1 s0 s1 s2 s3 s4 s5 s6 s7
  go_upto_region 2 with fail
  refine wp_world (fun V => GSt s w (w.heap.size + 1) w1.heap.size 0 none 0 [] RA rc V ∧ Blk V w.heap.size 32 #[.slice CA s.cells.length cc, .slice SA s.shapes.length sc, .slice TA s.texts.length tc, .slice HA s.threads.length hc, .slice EA s.ends.length ec, .slice DA s.said.length dc, .int .i64 s.asked, .int .i64 s.steps] ∧ w1.heap.size + 1 ≤ V.heap.size) ⟨⟨Blk.new _ _ _, H1.out.2.2.2.2.alloc _, Own.nil_, (H1.out.1.base_le (by omega)).alloc _, rfl, (fun i r c h => by simp at h), (fun i c h => absurd h (Nat.not_lt_zero _)), H1.out.2.2.1.alloc (by omega) _⟩, H1.out.2.2.2.1.alloc _, by simp⟩ ?_
  rintro V ⟨hG, hSV, hsV⟩
  have s0 := hSV.cell 0 (v := .slice CA s.cells.length cc) rfl
  have HV := Lib.hid (hG)
  clear hG hSV
  go_wp2_with fail
  clear s0
  obtain ⟨G, hGd⟩ : ∃ G, w1.heap.size = G := ⟨_, rfl⟩
  rw [hGd] at HV hsV ⊢
  have hG0 : w.heap.size + 2 ≤ G := by omega
  clear hGd
  go_loopg [14] (s.cells.length) (fun gk iv wr => ∃ (k : Nat) (A1 : Option Addr) (c1 : Nat) (out : List (Raw 1)), k ≤ s.cells.length ∧ gk = s.cells.length - k ∧ iv = .int .i64 k ∧ out.length ≤ k ∧ Hid (GSt s w (w.heap.size + 1) G k A1 c1 out RA rc wr) ∧ G + 1 ≤ wr.heap.size)
  case atStart => exact ⟨0, none, 0, [], Nat.zero_le _, rfl, rfl, Nat.le_refl _, HV.out, by omega⟩
  case round =>
    obtain ⟨k, A1, c1, out, hk, rfl, rfl, hol, hkeep, hsz⟩ := hrel
    by_cases hlt : k < s.cells.length
    · obtain ⟨b, o, x, VA, vc, FA, fc, rfl, hb, hx, q0, q1, q2, q3, aV, lV, aF, lF, j0, j1⟩ := (H.out.1.a1.below (hkeep.out.b.mono hB)).ce_ hlt
      have hxm := List.mem_of_getElem? hx
      have hk0 : (0 : Int) ≤ (k : Int) := by omega
      have hk1 : (k : Int) < (s.cells.length : Int) := by omega
      have hxl := H.out.2.2.2.2 x hxm
      have hbs := hkeep.out.b.size
      go_upto_region 5 with fail
      refine wp_world (fun U => Blk U wr.heap.size 46 #[.int .i64 x.kind, .int .i64 x.num, .slice VA x.vals.length vc, .slice FA x.frames.length fc] ∧ Below wr.heap.size wr U ∧ wr.heap.size + 1 ≤ U.heap.size) ⟨Blk.new _ _ _, (Below.refl _ _).alloc (Nat.le_refl _) _, by simp⟩ ?_
      rintro U ⟨hC, hbU, hsU⟩
      have e0 := hC.cell 0 (v := .int .i64 x.kind) rfl
      have e1 := hC.cell 1 (v := .int .i64 x.num) rfl
      have e2 := hC.cell 2 (v := .slice VA x.vals.length vc) rfl
      have e3 := hC.cell 3 (v := .slice FA x.frames.length fc) rfl
      have hGU := hkeep.out.fresh hbU
      have hha := rHas_any B vc fc VA FA x U (aV.below (hbU.mono (by omega))) (aF.below (hbU.mono (by omega))) (by omega) hxl
      have hcl : (cHas x).length ≤ 1073741824 := by
        unfold cHas; split
        · simp
        · rw [List.length_append]; omega
      have HU := Lib.hid (And.intro (hha) (And.intro (hGU) (hx)))
      clear hha hGU hC hbU hkeep aV aF hx hxm q0 q1 q2 q3 j0 j1
      go_wp2_with fail
      refine HU.out.1.mono ?_
      rintro e w2 ⟨A2, c2, rfl, ho2, hok2, hb2⟩
      have hG2 := HU.out.2.1.fresh hb2
      have hs2 := hb2.size
      have hrf := rRefs_any A2 c2 w2.heap.size (cHas x).length (cHas x) w2 rfl (ho2.at_ hok2) (Nat.le_refl _) hcl
      have hi64 := rfs_i64 hok2
      have H2 := Lib.hid (And.intro (hrf) (And.intro (hG2) (hi64)))
      clear hrf hG2 hi64 ho2 hok2 hb2 e0 e1 e2 e3
      go_wp2_with fail
      refine H2.out.1.mono ?_
      rintro e w3 ⟨A3, c3, rfl, ho3, hb3⟩
      have hG3 := H2.out.2.1.fresh hb3
      have hs3 := hb3.size
      have hcap := ho3.le_cap
      obtain ⟨n3, hn3⟩ : ∃ n3, (rfs (cHas x)).length = n3 := ⟨_, rfl⟩
      rw [hn3] at hcap ⊢
      have hb3s := hG3.b.size
      have H3 := Lib.hid (And.intro (ho3) (And.intro (hG3) (hn3)))
      clear ho3 hG3 hb3 hn3
      by_cases h10 : 10 < n3
      · have d10 : decide ((10 : Int) < (n3 : Int)) = true := decide_eq_true (by omega)
        have r0 := H3.out.2.1.r
        have rb := bel_setRow H3.out.2.1.b (show w.heap.size ≤ w.heap.size + 1 by omega) #[.slice none 0 0, .slice none 0 0]
        have HR := Lib.hid (And.intro (r0) (rb))
        clear r0 rb
        go_wp2_with (refine wpList_st rfl 40 (.tmp 2) (.tmp 24) rfl (w.heap.size + 1) rfl rfl HR.out.1 (by kernel_rfl) rfl rfl ?_)
        refine bodyPost_ret (results_cell_tmp rfl _ _ (w.heap.size + 1) _ _ _ rfl HR.out.1.setRow Tryz.underlying40 rfl (by kernel_rfl)) rfl ?_
        rw [← HP.out]
        exact ⟨HR.out.2, .inl ⟨_, _, _, _, _, _, rfl⟩⟩
      · have d10 : decide ((10 : Int) < (n3 : Int)) = false := decide_eq_false (by omega)
        have g0 := H3.out.2.1.g.cell 0 (v := .slice A1 out.length c1) rfl
        have hoa := H3.out.2.1.o.alloc (.cells #[.slice A3 n3 c3] 34)
        have hga := H3.out.2.1.g.alloc (.cells #[.slice A3 n3 c3] 34)
        have hat := at_raw1 w3 A3 n3 c3 34
        have HA2 := Lib.hid (And.intro (hoa) (And.intro (hat) (hga)))
        clear hoa hat hga
        go_wp2_with (at_builtin; go_must (refine wpList_app (α := Raw 1) (n := out.length) (m := 1) (B := w3.heap.size + 1) (r := [raw1 A3 n3 c3]) rfl (.tmp 26) (.tmp 28) _ rfl w.heap.size 34 i0 _ 24 Tryz.underlying38 hi hz0 hz1 hz2 rfl (by decide) raw_one (by rfl) rfl HA2.out.1 (by rfl) HA2.out.2.1 rfl (by omega) (by simp only [maxLen]; omega) (by simp; omega) ?_))
        intro A4 c4 w4 ho4 hg4 hat4
        have hK4 : Kept MG w3 w4 := ((Kept.refl w3).alloc _).grown HA2.out.1 (by decide) hg4
        have hG4 : Blk w4 G 40 #[.slice A1 out.length c1, .slice RA (roots s).length rc] := HA2.out.2.2.grown hg4 (own_ne_ty HA2.out.1 HA2.out.2.2 (by decide))
        have hR4 : Blk w4 (w.heap.size + 1) 40 #[.slice none 0 0, .slice none 0 0] := (H3.out.2.1.r.alloc _).grown hg4 (own_ne_ty HA2.out.1 (H3.out.2.1.r.alloc _) (by decide))
        have hb4 : Below w.heap.size w w4 := (H3.out.2.1.b.alloc (by omega) _).grown hg4 (by simp; omega) (fun g hg => (HA2.out.1.lt g hg).1)
        have hs4 := hb4.size
        have hs44 := hg4.size
        simp only [World.size_alloc] at hs44
        have hK5 : Kept MG w3 (w4.setCell ⟨G, 0, none⟩ (.slice A4 (out.length + 1) c4)) := hK4.setBlk hG4 (by decide) 0 _
        have hrow : HasR (w4.setCell ⟨G, 0, none⟩ (.slice A4 (out.length + 1) c4)) w.heap.size (raw1 A3 n3 c3) (rfs (cHas x)) := by
          refine HasR.kept ⟨A3, c3, by rw [H3.out.2.2]; rfl, H3.out.1.base_le (by omega), H2.out.2.2⟩ hK5
        have hnew : GSt s w (w.heap.size + 1) G (k + 1) A4 c4 (out ++ [raw1 A3 n3 c3]) RA rc (w4.setCell ⟨G, 0, none⟩ (.slice A4 (out.length + 1) c4)) := by
          refine ⟨?_, hR4.far (show w.heap.size + 1 ≠ G by omega) _, ho4.setCell _ _ (own_ne_ty ho4 hG4 (by decide)), hK5.own H3.out.2.1.ro (by decide), by simp [H3.out.2.1.n], snoc_rel H3.out.2.1.n (P := fun c r => HasR (w4.setCell ⟨G, 0, none⟩ (.slice A4 (out.length + 1) c4)) w.heap.size r (rfs (cHas c))) (fun i r c a b => (H3.out.2.1.row i r c a b).kept hK5) HU.out.2.2 hrow, fun i c hi hc => ?_, hb4.setCell (p := ⟨G, 0, none⟩) (show w.heap.size ≤ G by omega) _⟩
          · have := hG4.set_ 0 (.slice A4 (out.length + 1) c4)
            simpa using this
          · by_cases e : i = k
            · subst e
              rw [HU.out.2.2] at hc; injection hc with hc; subst hc
              have := H3.out.2.2; omega
            · exact H3.out.2.1.le i c (by omega) hc
        have g4 := hG4.cell 0 (v := .slice A1 out.length c1) rfl
        have z4 := hG4.frozen 0
        have H4 := Lib.hid (hnew)
        clear hnew hrow hK5 hK4 hG4 hR4 hb4 ho4 hg4 hat4
        go_wp2_with fail
        go_roundg (s.cells.length - (k + 1))
        case measure => omega
        case rel => exact ⟨k + 1, A4, c4, _, by omega, rfl, by go_num, by simp; omega, H4.out, by simp; omega⟩
    · have hke : k = s.cells.length := by omega
      have hkd : GSt s w (w.heap.size + 1) G k A1 c1 out RA rc wr.drew := ⟨hkeep.out.g, hkeep.out.r, hkeep.out.o, hkeep.out.ro, hkeep.out.n, fun i r c a b => (hkeep.out.row i r c a b).kept ((Kept.refl wr).drew), hkeep.out.le, hkeep.out.b.drew⟩
      have g0 := hkd.g.cell 0 (v := .slice A1 out.length c1) rfl
      have g1 := hkd.g.cell 1 (v := .slice RA (roots s).length rc) rfl
      have r0 := hkd.r.cell 0 (v := .slice none 0 0) rfl
      have r1 := hkd.r.cell 1 (v := .slice none 0 0) rfl
      have z0 := hkd.r.frozen 0
      have z1 := hkd.r.frozen 1
      have r1' : wr.cell? ⟨w.heap.size + 1, 1, none⟩ = some (.slice none 0 0) := r1
      have z1' : wr.frozen? ⟨w.heap.size + 1, 1, none⟩ = false := z1
      have hGR : G ≠ w.heap.size + 1 := by omega
      have hRG : w.heap.size + 1 ≠ G := by omega
      have hrn : Blk ((wr.drew.setCell ⟨w.heap.size + 1, 0, none⟩ (.slice A1 out.length c1)).setCell ⟨w.heap.size + 1, 1, none⟩ (.slice RA (roots s).length rc)) (w.heap.size + 1) 40 #[.slice A1 out.length c1, .slice RA (roots s).length rc] := by
        have := (hkd.r.set_ 0 (.slice A1 out.length c1)).set_ 1 (.slice RA (roots s).length rc)
        simpa using this
      have hgn := (hkd.g.far (p := ⟨w.heap.size + 1, 0, none⟩) hGR (.slice A1 out.length c1)).far (p := ⟨w.heap.size + 1, 1, none⟩) hGR (.slice RA (roots s).length rc)
      have hbn : Below w.heap.size w ((wr.drew.setCell ⟨w.heap.size + 1, 0, none⟩ (.slice A1 out.length c1)).setCell ⟨w.heap.size + 1, 1, none⟩ (.slice RA (roots s).length rc)) := (hkd.b.setCell (p := ⟨w.heap.size + 1, 0, none⟩) (show w.heap.size ≤ w.heap.size + 1 by omega) _).setCell (p := ⟨w.heap.size + 1, 1, none⟩) (show w.heap.size ≤ w.heap.size + 1 by omega) _
      have hkn : Kept MG wr.drew ((wr.drew.setCell ⟨w.heap.size + 1, 0, none⟩ (.slice A1 out.length c1)).setCell ⟨w.heap.size + 1, 1, none⟩ (.slice RA (roots s).length rc)) := ((Kept.refl wr.drew).setBlk hkd.r (by decide) 0 _).setBlk (hkd.r.set_ 0 _) (by decide) 1 _
      have hon : out.length = s.cells.length := by rw [hkeep.out.n, hke]
      have hhas := has_at (((hkd.o.setCell ⟨w.heap.size + 1, 0, none⟩ (.slice A1 out.length c1) (own_ne_ty hkd.o hkd.r (by decide))).setCell ⟨w.heap.size + 1, 1, none⟩ (.slice RA (roots s).length rc) (own_ne_ty hkd.o hkd.r (by decide)))) hon (fun i r c a b => (hkd.row i r c a b).kept hkn)
      have hroo : At ((wr.drew.setCell ⟨w.heap.size + 1, 0, none⟩ (.slice A1 out.length c1)).setCell ⟨w.heap.size + 1, 1, none⟩ (.slice RA (roots s).length rc)) ((wr.drew.setCell ⟨w.heap.size + 1, 0, none⟩ (.slice A1 out.length c1)).setCell ⟨w.heap.size + 1, 1, none⟩ (.slice RA (roots s).length rc)).heap.size RA (roots s) := (hkn.own hkd.ro (by decide)).at_ H1.out.2.1
      have hle : ∀ c ∈ s.cells, (rfs (cHas c)).length ≤ 10 := fun c hc => by
        obtain ⟨i, hi⟩ := List.getElem?_of_mem hc
        have := (List.getElem?_eq_some_iff.1 hi).1
        exact hkd.le i c (by omega) hi
      have hcap := hkd.ro.le_cap
      have HM := Lib.hid (And.intro (hhas) (And.intro (hroo) (And.intro (hle) (hcap))))
      clear hhas hroo hle hcap
      have HN := Lib.hid (And.intro (hrn) (And.intro (hgn) (And.intro (hbn) (And.intro (hkn) (And.intro (hkd) (And.intro (hon) (hke)))))))
      clear hrn hgn hbn hkn hkd hon hke hkeep hol
      by_cases q1 : (out.length : Int) ≤ 100
      · have d1 : decide ((out.length : Int) ≤ 100) = true := decide_eq_true q1
        by_cases q2 : ((roots s).length : Int) ≤ 100
        · have d2 : decide (((roots s).length : Int) ≤ 100) = true := decide_eq_true q2
          have HQ := Lib.hid (And.intro q1 q2); clear q1 q2
          go_upto_region 10 with fail
          refine wp_region_held_drew (S := (fun w' => w'.cell? ⟨G, 0, none⟩ = some (.slice A1 out.length c1) ∧ w'.cell? ⟨G, 1, none⟩ = some (.slice RA (roots s).length rc))) (by kernel_rfl) ?_ (fun hHeld0 => ?_)
          · first | trivial | ((try dsimp only); (exact ⟨g0, g1⟩))
          refine htk 0 rfl ?_
          try go_frame
          refine htk 1 rfl ?_
          try go_frame
          refine htk 2 rfl ?_
          try go_frame
          refine htk 3 rfl ?_
          try go_frame
          refine htk 4 rfl ?_
          try go_frame
          refine htk 5 rfl ?_
          try go_frame
          refine htk 6 rfl ?_
          try go_frame
          refine htk 7 rfl ?_
          try go_frame
          refine htk 8 rfl ?_
          try go_frame
          refine htk 9 rfl ?_
          try go_frame
          refine htk 10 rfl ?_
          try go_frame
          refine held_call 11 (by kernel_rfl) rfl (fun K hK => ?_)
          go_simp
          refine hK.out _ _ ?_ (fun hHeld1 => ?_)
          · first | trivial | ((try dsimp only); (exact ⟨(HN.out.2.1).cell 0 rfl, (HN.out.2.1).cell 1 rfl⟩))
          clear hK K hHeld0
          try go_frame
          refine htk 12 rfl ?_
          try go_frame
          refine wpAnyH_done (by kernel_rfl) ?_ _
          go_wp2_with fail
          refine bodyPost_ret (results_cell_tmp rfl _ _ (w.heap.size + 1) _ _ _ rfl HN.out.1 Tryz.underlying40 rfl (by kernel_rfl)) rfl ?_
          rw [← HP.out]
          exact ⟨HN.out.2.2.1, .inr ⟨by have h1 := HQ.out.1; have h2 := HN.out.2.2.2.2.2.1; omega, by have h1 := HQ.out.2; omega, HM.out.2.2.1, A1, c1, RA, rc, by rw [← HN.out.2.2.2.2.2.1]; rfl, HM.out.1, HM.out.2.1, HM.out.2.2.2.1, HM.out.2.2.2.2⟩⟩
        · have d2 : decide (((roots s).length : Int) ≤ 100) = false := decide_eq_false q2
          have HQ := Lib.hid (And.intro q1 q2); clear q1 q2
          go_upto_region 10 with fail
          refine wp_region_held_drew (S := (fun w' => w'.cell? ⟨G, 0, none⟩ = some (.slice A1 out.length c1) ∧ w'.cell? ⟨G, 1, none⟩ = some (.slice RA (roots s).length rc))) (by kernel_rfl) ?_ (fun hHeld0 => ?_)
          · first | trivial | ((try dsimp only); (exact ⟨g0, g1⟩))
          refine htk 0 rfl ?_
          try go_frame
          refine htk 1 rfl ?_
          try go_frame
          refine htk 2 rfl ?_
          try go_frame
          refine htk 3 rfl ?_
          try go_frame
          refine htk 4 rfl ?_
          try go_frame
          refine htk 5 rfl ?_
          try go_frame
          refine htk 6 rfl ?_
          try go_frame
          refine htk 7 rfl ?_
          try go_frame
          refine htk 8 rfl ?_
          try go_frame
          refine htk 9 rfl ?_
          try go_frame
          refine htk 10 rfl ?_
          try go_frame
          refine held_call 11 (by kernel_rfl) rfl (fun K hK => ?_)
          go_simp
          refine hK.out _ _ ?_ (fun hHeld1 => ?_)
          · first | trivial | ((try dsimp only); (exact ⟨(HN.out.2.1).cell 0 rfl, (HN.out.2.1).cell 1 rfl⟩))
          clear hK K hHeld0
          try go_frame
          refine htk 12 rfl ?_
          try go_frame
          refine wpAnyH_done (by kernel_rfl) ?_ _
          go_wp2_with fail
          refine bodyPost_ret (results_cell_tmp rfl _ _ (w.heap.size + 1) _ _ _ rfl HN.out.1 Tryz.underlying40 rfl (by kernel_rfl)) rfl ?_
          rw [← HP.out]
          exact ⟨HN.out.2.2.1, .inl ⟨_, _, _, _, _, _, rfl⟩⟩
      · have d1 : decide ((out.length : Int) ≤ 100) = false := decide_eq_false q1
        have HQ := Lib.hid q1; clear q1
        go_upto_region 10 with fail
        refine wp_region_held_drew (S := (fun w' => w'.cell? ⟨G, 0, none⟩ = some (.slice A1 out.length c1) ∧ w'.cell? ⟨G, 1, none⟩ = some (.slice RA (roots s).length rc))) (by kernel_rfl) ?_ (fun hHeld0 => ?_)
        · first | trivial | ((try dsimp only); (exact ⟨g0, g1⟩))
        refine htk 0 rfl ?_
        try go_frame
        refine htk 1 rfl ?_
        try go_frame
        refine htk 2 rfl ?_
        try go_frame
        refine htk 3 rfl ?_
        try go_frame
        refine htk 4 rfl ?_
        try go_frame
        refine htk 5 rfl ?_
        try go_frame
        refine hsk 6 rfl ?_
        try go_frame
        refine hsk 7 rfl ?_
        try go_frame
        refine hsk 8 rfl ?_
        try go_frame
        refine hsk 9 rfl ?_
        try go_frame
        refine htk 10 rfl ?_
        try go_frame
        refine held_call 11 (by kernel_rfl) rfl (fun K hK => ?_)
        go_simp
        refine hK.out _ _ ?_ (fun hHeld1 => ?_)
        · first | trivial | ((try dsimp only); (exact ⟨(HN.out.2.1).cell 0 rfl, (HN.out.2.1).cell 1 rfl⟩))
        clear hK K hHeld0
        try go_frame
        refine htk 12 rfl ?_
        try go_frame
        refine wpAnyH_done (by kernel_rfl) ?_ _
        go_wp2_with fail
        refine bodyPost_ret (results_cell_tmp rfl _ _ (w.heap.size + 1) _ _ _ rfl HN.out.1 Tryz.underlying40 rfl (by kernel_rfl)) rfl ?_
        rw [← HP.out]
        exact ⟨HN.out.2.2.1, .inl ⟨_, _, _, _, _, _, rfl⟩⟩
end Top
end Go.Proofs.YtdlcooplllimeaaGreatDoor
