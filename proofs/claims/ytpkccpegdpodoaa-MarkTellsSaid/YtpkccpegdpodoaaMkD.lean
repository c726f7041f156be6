/- The graph of a model's things. -/
import Derived.Test.YtpkccpegdpodoaaMkC
namespace Go.Proofs.Ytpkccpegdpodoaa
open Go.RowKit

attribute [local go_sem ↓] Go.wp_at_zero Go.wp_at_succ

theorem filter_snocM (l : List Int) (p : Int → Bool) (k : Nat) (x : Int) (h : l[k]? = some x) : (l.take (k + 1)).filter p = (l.take k).filter p ++ if p x = true then [x] else [] := by
  rw [List.take_add_one, h]
  simp only [Option.toList_some, List.filter_append]
  by_cases hp : p x = true <;> simp [hp]

set_option maxHeartbeats 1600000 in
set_option maxRecDepth 100000 in
theorem rgraph_any (w : World) (base p : Nat) (F : Nat → Prop) (nu kind : Int) (mk : Bool) (s : List It) (h : Mdl w base F p nu kind mk s) (hs : s.length ≤ 100) (hx : ∀ x ∈ s, x.has.length ≤ 10) (hneg : ∀ x ∈ s, ∀ k ∈ x.has, k = -1 ∨ 0 ≤ k) :
    Calls Try.prog 58 #[.pointer (some ⟨p, 0, none⟩)] w (GrPost s w) := by
  obtain ⟨i0, hi, hz0, hz1, hz2⟩ := info_parts infoInt
  obtain ⟨j0, hj, hy0, hy1, hy2⟩ := info_parts infoIntsG
  obtain ⟨A, c, l, h1, h2, h3, h4, h5⟩ := h
  have hl : s.length = l.length := by rw [← h5, its_length]
  obtain ⟨N, hN⟩ : ∃ N, l.length = N := ⟨_, rfl⟩
  rw [hN] at h1 hl
  rw [hl] at hs
  have c2 := h1.cell 0 (v := .slice A N c) rfl
  have hplt := h1.lt
  have H := Lib.hid (And.intro h1 (And.intro h2 (And.intro h5 (And.intro hx (And.intro hl (And.intro hN hneg)))))); clear h1 h2 h5 hl hx hN hneg
  go_enter Try.func58, Try.ntmps58
  go_wp2_with fail
  clear c2
  go_loopg [14] N (fun gk iv wr => ∃ (k m : Nat), k ≤ N ∧ gk = N - k ∧ iv = .int .i64 k ∧ m ≤ k ∧ Hid (GrB wr w.heap.size (w.heap.size + 1) k m s ∧ Blk wr w.heap.size 49 #[.slice none 0 0, .slice none 0 0]) ∧ Below w.heap.size w wr)
  case atStart =>
    refine ⟨0, 0, Nat.zero_le _, rfl, rfl, Nat.le_refl _, ⟨⟨none, none, 0, 0, [], Blk.at_ _ _ _ (by simp), GrS.start _ _, by simp [gHas], rfl, by simp [gRoots, rising, risingFrom]⟩, (Blk.new w _ _).alloc _⟩, ((Below.refl _ _).alloc (Nat.le_refl _) _).alloc (by simp) _⟩
  case round =>
    obtain ⟨k, m, hk, rfl, rfl, hm, hkeep, hbl⟩ := hrel
    obtain ⟨wo, rfl⟩ : ∃ wo : World, wo = wr := ⟨_, rfl⟩
    have hsz := hbl.size
    by_cases hlt : k < N
    · obtain ⟨x, hx⟩ : ∃ x, l[k]? = some x := ⟨_, List.getElem?_eq_getElem (by have := H.out.2.2.2.2.2.1; omega)⟩
      have hits := H.out.2.1.fresh hbl
      obtain ⟨g, rfl, hg1, hg2, q0, q1, q2⟩ := hits.cells hx
      obtain ⟨hxo, -, hxi, hxs⟩ := hits.sub k x hx
      obtain ⟨XA, xc, xh, xs, xb⟩ := x
      simp only at q0 q1 q2 hxo hxi hxs
      have hsx : s[k]? = some ⟨xh, xs, xb⟩ := by have := its_get hx; rw [H.out.2.2.1] at this; exact this
      have hx10 : xh.length ≤ 10 := H.out.2.2.2.1 _ (List.mem_of_getElem? hsx)
      have hxn : ∀ k ∈ xh, k = -1 ∨ 0 ≤ k := H.out.2.2.2.2.2.2 _ (List.mem_of_getElem? hsx)
      have b0 : (0 : Int) ≤ (k : Int) := by omega
      have b1 : (k : Int) < (N : Int) := by omega
      have ht1 := gHas_take s k _ hsx
      have ht2 := gRoots_take s k _ hsx
      simp only at ht1 ht2
      obtain ⟨XN, hXN⟩ : ∃ n, xh.length = n := ⟨_, rfl⟩
      rw [hXN] at q0 hx10
      have HX := Lib.hid (And.intro ht1 (And.intro ht2 (And.intro hXN (And.intro hxn (And.intro hxi hkeep.out)))))
      have HO := Lib.hid hxo
      clear ht1 ht2 hxn hxi hxo hsx hx hits hkeep hXN
      go_wp2_with fail
      refine wp_world (fun W => GrB W w.heap.size (w.heap.size + 1) k m s ∧ Blk W w.heap.size 49 #[.slice none 0 0, .slice none 0 0] ∧ Blk W wo.heap.size 104 #[.slice XA XN xc, .int .i64 xs, .bool xb] ∧ Below wo.heap.size wo W ∧ wo.heap.size < W.heap.size) ⟨?_, HX.out.2.2.2.2.2.2.alloc _, Blk.new _ _ _, (Below.refl _ _).alloc (Nat.le_refl _) _, by simp⟩ ?_
      · obtain ⟨HA, RA, hc, rc, hs', d1, d2, d3⟩ := HX.out.2.2.2.2.2.1
        exact ⟨HA, RA, hc, rc, hs', d1.alloc _, d2.alloc _, d3⟩
      rintro W ⟨⟨HA, RA, hc, rc, hs', d1, d2, d3, d4, d5⟩, d6, d7, d8, d9⟩
      have hGX : w.heap.size + 1 ≠ wo.heap.size := fun e => by have := d7; rw [← e] at this; have h0 := d1; unfold Blk at this h0; rw [h0] at this; injection this with this; injection this with _ this _; exact absurd this (by decide)
      have hGW := d1.lt
      have HW := Lib.hid (And.intro d1 (And.intro d2 (And.intro d3 (And.intro d4 (And.intro d5 (And.intro d6 (And.intro d7 (And.intro d8 ((HO.out.fresh d8).at_ HX.out.2.2.2.2.1)))))))))
      clear d1 d2 d3 d4 d5 d6 d7 d8 q0 q1 q2
      go_loopg [6, 22] XN (fun gk lv jv wj => ∃ (j q : Nat) (LA : Option Addr) (lc : Nat), j ≤ XN ∧ gk = XN - j ∧ jv = .int .i64 j ∧ lv = .slice LA q lc ∧ q ≤ j ∧ Hid (Own wj W.heap.size 3 LA lc ((xh.take j).filter fun k => decide (0 ≤ k)) ∧ ((xh.take j).filter fun k => decide (0 ≤ k)).length = q) ∧ Below W.heap.size W wj)
      case atStart => exact ⟨0, 0, none, 0, Nat.zero_le _, rfl, rfl, rfl, Nat.le_refl _, ⟨Own.nil_, rfl⟩, Below.refl _ _⟩
      case round =>
        obtain ⟨j, q, LA, lc, hjl, rfl, rfl, rfl, hq, hkeep, hbj⟩ := hrel
        have hsj := hbj.size
        by_cases hltj : j < XN
        · obtain ⟨b, o, z, rfl, hbB, hz, hzi, q0⟩ := (HW.out.2.2.2.2.2.2.2.2.below hbj).int_ (k := j) (by have := HX.out.2.2.1; omega)
          have hzn := HX.out.2.2.2.1 z (List.mem_of_getElem? hz)
          have hsn := filter_snocM xh (fun k => decide (0 ≤ k)) j z hz
          have c0 : (0 : Int) ≤ (j : Int) := by omega
          have c1 : (j : Int) < (XN : Int) := by omega
          by_cases hz1 : z = -1
          · subst hz1
            rw [if_neg (by simp), List.append_nil] at hsn
            have HS := Lib.hid hsn; clear hsn hz hzn
            go_wp2_with fail
            go_roundg (XN - (j + 1))
            case measure => omega
            case rel => exact ⟨j + 1, q, LA, lc, by omega, rfl, by go_num, rfl, by omega, by unfold Hid; rw [HS.out]; exact hkeep.out, hbj⟩
          · have hz0' : 0 ≤ z := by omega
            rw [if_pos (by simpa using hz0')] at hsn
            have d0 : (z != -1) = true := by simpa using hz1
            have HS := Lib.hid (And.intro hsn hkeep.out); clear hsn hz hzn hz1 hz0' hkeep
            go_wp2_with (at_builtin; go_must (refine wpList_app (α := Int) (n := q) (m := 1) (B := wr.heap.size + 1) (r := [z]) rfl (.tmp 28) (.tmp 30) _ rfl W.heap.size 3 i0 _ 8 Try.underlying47 hi hz0 hz1 hz2 rfl (by decide) int_one (by rfl) HS.out.2.2 (HS.out.2.1.alloc _) (by rfl) (At.built wr _ _ [z] rfl (by intro u hu; simp at hu; subst hu; exact hzi)) rfl (by omega) (by simp only [maxLen]; omega) (by simp; omega) ?_); intro A2 c2 w2 hown2 hgr2 hat2; have hb2 : Below W.heap.size W w2 := (hbj.alloc hsj _).grown hgr2 (by simp; omega) (fun g hg => (HS.out.2.1.lt g hg).1); have HO2 := Lib.hid hown2; clear hown2 hgr2 hat2)
            go_roundg (XN - (j + 1))
            case measure => omega
            case rel => exact ⟨j + 1, q + 1, A2, c2, by omega, rfl, by go_num, rfl, by omega, ⟨by rw [HS.out.1]; exact HO2.out, by rw [HS.out.1, List.length_append, HS.out.2.2]; rfl⟩, hb2⟩
        · obtain rfl : j = XN := by omega
          obtain ⟨f1, f2⟩ := hkeep.out
          rw [List.take_of_length_le (by have := HX.out.2.2.1; omega)] at f1 f2
          obtain ⟨y, hy⟩ : ∃ y, (xh.filter fun k => decide (0 ≤ k)) = y := ⟨_, rfl⟩
          rw [hy] at f1 f2
          have hyi : ∀ k ∈ y, I64 k := fun k hk => by rw [← hy] at hk; exact HX.out.2.2.2.2.1 k (List.mem_filter.1 hk).1
          have hbw : Below w.heap.size w wr := hbl.trans ((HW.out.2.2.2.2.2.2.2.1.mono hsz).trans (hbj.mono (by omega)))
          have e1 := HW.out.1.fresh hbj
          have e2 := HW.out.2.1.fresh hbj
          have e6 := HW.out.2.2.2.2.2.1.fresh hbj
          have e7 := HW.out.2.2.2.2.2.2.1.fresh hbj
          have hap : ∀ g, rowOf LA = some g → rowOf RA ≠ some g := fun g hg e => by have h1 := (f1.lt g hg).1; have h2 := (HW.out.2.1.roots.lt g e).2; omega
          have hcs : (#[Value.slice LA q lc] : Array Value).toList = flat [(⟨LA, lc, y⟩ : SlR)] := by simp [flat, Flat.cells, f2]
          have g0 := e1.cell 0 (v := .slice HA k hc) rfl
          have x2 := e7.cell 2 (v := .bool xb) rfl
          have hXlt := e7.lt
          have hGlt := e1.lt
          have ht1 := HX.out.1
          have ht1' : gHas (s.take (k + 1)) = gHas (s.take k) ++ [y] := by rw [HX.out.1, hy]
          have HV := Lib.hid (And.intro e1 (And.intro e2 (And.intro e6 (And.intro e7 (And.intro (f1.base_le (by omega : w.heap.size ≤ W.heap.size)) (And.intro hyi (And.intro hap (And.intro hcs (And.intro ht1' (And.intro HX.out.2.1 (And.intro HW.out.2.2.1 (And.intro HW.out.2.2.2.1 HW.out.2.2.2.2.1))))))))))))
          clear e1 e2 e6 e7 f1 f2 hy hyi hap hcs ht1 ht1' hkeep hbj HW
          go_upto_region 13 with (at_builtin; go_must (refine wpList_app (α := SlR) (n := k) (m := 1) (B := wr.heap.size + 1) (r := [⟨LA, lc, y⟩]) rfl (.tmp 34) (.tmp 36) _ rfl w.heap.size 47 j0 _ 24 Try.underlying46 hj hy0 hy1 hy2 rfl (by decide) slr_one (by rfl) HV.out.2.2.2.2.2.2.2.2.2.2.2.1 (HV.out.2.1.row.alloc _) (by rfl) (At.built wr _ _ [(⟨LA, lc, y⟩ : SlR)] HV.out.2.2.2.2.2.2.2.1 (fun _ _ => trivial)) rfl (by omega) (by simp only [maxLen]; omega) (by simp; omega) ?_); intro A3 c3 w3 ho3 hgr3 hat3; have s3 := hgr3.size; simp only [World.size_alloc] at s3; have n1 := (HV.out.1.alloc (.cells #[.slice LA q lc] 47)).grown hgr3 (fun e => own_ne_ty (HV.out.2.1.row.alloc (.cells #[.slice LA q lc] 47)) (HV.out.1.alloc (.cells #[.slice LA q lc] 47)) (by decide) e); have n3 := (HV.out.2.2.2.1.alloc (.cells #[.slice LA q lc] 47)).grown hgr3 (fun e => own_ne_ty (HV.out.2.1.row.alloc (.cells #[.slice LA q lc] 47)) (HV.out.2.2.2.1.alloc (.cells #[.slice LA q lc] 47)) (by decide) e); have n5 := (HV.out.2.2.1.alloc (.cells #[.slice LA q lc] 47)).grown hgr3 (fun e => own_ne_ty (HV.out.2.1.row.alloc (.cells #[.slice LA q lc] 47)) (HV.out.2.2.1.alloc (.cells #[.slice LA q lc] 47)) (by decide) e); have n6 := (HV.out.2.1.alloc (.cells #[.slice LA q lc] 47)).push ho3 hgr3 (HV.out.2.2.2.2.1.alloc _) HV.out.2.2.2.2.2.1 HV.out.2.2.2.2.2.2.1; have hb3 : Below w.heap.size w w3 := (hbw.alloc (by omega) _).grown hgr3 (by simp; omega) (fun g hg => (HV.out.2.1.row.lt g hg).1); have z0 := n1.frozen 0; have g0' := n1.cell 0 (v := .slice HA k hc) rfl; have g1 := (n1.set_ 0 (.slice A3 (k + 1) c3)).cell 1 (v := .slice RA m rc) rfl; have x2' := (n3.far (p := ⟨w.heap.size + 1, 0, none⟩) (fun e => hGX e.symm) (.slice A3 (k + 1) c3)).cell 2 (v := .bool xb) rfl; have HZ := Lib.hid (And.intro n1 (And.intro n3 (And.intro n5 (And.intro n6 hb3)))); clear n1 n3 n5 n6 hb3 ho3 hgr3 hat3 g0 x2)
          refine wp_world (fun V => Hid (Blk V (w.heap.size + 1) 49 #[.slice A3 (k + 1) c3, .slice RA m rc] ∧ GrS V w.heap.size A3 c3 RA rc (hs' ++ [⟨LA, lc, y⟩]) (gRoots (s.take k)) ∧ Blk V wo.heap.size 104 #[.slice XA j xc, .int .i64 xs, .bool xb] ∧ Blk V w.heap.size 49 #[.slice none 0 0, .slice none 0 0]) ∧ Below w.heap.size w V) ⟨⟨HZ.out.1.set_ 0 _, HZ.out.2.2.2.1.blk HZ.out.1 (by decide) (by decide) _ _, HZ.out.2.1.far (fun e => hGX e.symm) _, HZ.out.2.2.1.far (by simp) _⟩, HZ.out.2.2.2.2.setCell (by simp) _⟩ ?_
          rintro V ⟨hV, hbV⟩
          clear HZ g0' g1 x2' z0
          have hsV := hbV.size
          have hVX := hV.out.2.2.1.lt
          have hVG := hV.out.1.lt
          have g1 := hV.out.1.cell 1 (v := .slice RA m rc) rfl
          have x2 := hV.out.2.2.1.cell 2 (v := .bool xb) rfl
          obtain ⟨-, -, -, -, -, -, -, -, ht1, ht2, hm1, hm2, hm3⟩ := HV.out
          have hhl : (hs' ++ [(⟨LA, lc, y⟩ : SlR)]).length = k + 1 := by rw [List.length_append, hm2]; rfl
          have hhm : (hs' ++ [(⟨LA, lc, y⟩ : SlR)]).map SlR.l = gHas (s.take (k + 1)) := by rw [List.map_append, hm1, ht1]; rfl
          have HR := Lib.hid (And.intro hm3 (And.intro hhl (And.intro hhm ht2))); clear hm1 hm2 hm3 hhl hhm ht1 ht2 HV
          cases xb with
          | false =>
            go_wp2_with fail
            go_roundg (N - (k + 1))
            case measure => omega
            case rel => exact ⟨k + 1, m, by omega, rfl, by go_num, by omega, ⟨⟨A3, RA, c3, rc, _, hV.out.1, by rw [HR.out.2.2.2]; simpa using hV.out.2.1, HR.out.2.2.1, HR.out.2.1, by rw [HR.out.2.2.2]; simpa using HR.out.1⟩, hV.out.2.2.2⟩, hbV⟩
          | true =>
            go_wp2_with (at_builtin; go_must (refine wpList_app (α := Int) (n := m) (m := 1) (B := V.heap.size + 1) (r := [(k : Int)]) rfl (.tmp 42) (.tmp 44) _ rfl w.heap.size 3 i0 _ 8 Try.underlying47 hi hz0 hz1 hz2 rfl (by decide) int_one (by rfl) HR.out.1 (hV.out.2.1.roots.alloc _) (by rfl) (At.built V _ _ [(k : Int)] rfl (by intro z hz; simp at hz; subst hz; exact (by unfold I64; omega : I64 (k : Int)))) rfl (by omega) (by simp only [maxLen]; omega) (by simp; omega) ?_); intro A5 c5 w5 ho5 hgr5 hat5; have p1 := (hV.out.1.alloc (.cells #[.int .i64 (k : Int)] 3)).grown hgr5 (fun e => own_ne_ty (hV.out.2.1.roots.alloc (.cells #[.int .i64 (k : Int)] 3)) (hV.out.1.alloc (.cells #[.int .i64 (k : Int)] 3)) (by decide) e); have p2 := (hV.out.2.2.2.alloc (.cells #[.int .i64 (k : Int)] 3)).grown hgr5 (fun e => own_ne_ty (hV.out.2.1.roots.alloc (.cells #[.int .i64 (k : Int)] 3)) (hV.out.2.2.2.alloc (.cells #[.int .i64 (k : Int)] 3)) (by decide) e); have p3 := (hV.out.2.1.alloc (.cells #[.int .i64 (k : Int)] 3)).root ho5 hgr5 hat5; have p4 : Below w.heap.size w w5 := (hbV.alloc (by omega) _).grown hgr5 (by simp; omega) (fun g hg => (hV.out.2.1.roots.lt g hg).1); have s5 := hgr5.size; have q1 := p1.cell 1 (v := .slice RA m rc) rfl; have z1 := p1.frozen 1; have HP := Lib.hid (And.intro p1 (And.intro p2 (And.intro p3 p4))); clear p1 p2 p3 p4 ho5 hgr5 hat5)
            go_roundg (N - (k + 1))
            case measure => omega
            case rel =>
              refine ⟨k + 1, m + 1, by omega, rfl, by go_num, by omega, ⟨⟨A3, A5, c3, c5, _, HP.out.1.set_ 1 _, ?_, HR.out.2.2.1, HR.out.2.1, by rw [HR.out.2.2.2]; simpa using HR.out.1⟩, HP.out.2.1.far (by simp) _⟩, HP.out.2.2.2.setCell (by simp) _⟩
              rw [HR.out.2.2.2]
              simpa using HP.out.2.2.1.blk HP.out.1 (by decide) (by decide) 1 _
    · obtain rfl : k = N := by omega
      have hkk := hkeep.out
      have HKK := Lib.hid hkk; clear hkk hkeep
      obtain ⟨⟨HA, RA, hc, rc, hs', b1, b2, b3, b4, b5⟩, b6⟩ := HKK.out
      have g0 := b1.cell 0 (v := .slice HA k hc) rfl
      have g1 := b1.cell 1 (v := .slice RA m rc) rfl
      have r0 := b6.cell 0 (v := .slice none 0 0) rfl
      have r1 := b6.cell 1 (v := .slice none 0 0) rfl
      have z0 := b6.frozen 0
      have z1 := b6.frozen 1
      have HB := Lib.hid (And.intro b2 (And.intro b3 (And.intro b4 (And.intro b5 b6)))); clear b1 b2 b3 b4 b5 b6 HKK
      go_wp2_with fail
      refine bodyPost_ret (results_cell1 rfl _ _ w.heap.size _ _ _ rfl ((HB.out.2.2.2.2.set_ 0 (.slice HA k hc)).set_ 1 (.slice RA m rc)) Try.underlying49 rfl (by kernel_rfl)) rfl ?_
      obtain ⟨e1, e2, e3, e4, e5⟩ := HB.out
      have hsl : s.take k = s := List.take_of_length_le (by have := H.out.2.2.2.2.1; omega)
      rw [hsl] at e1 e2 e4
      have e1' : GrS ((wo.setCell ⟨w.heap.size, 0, none⟩ (.slice HA k hc)).setCell ⟨w.heap.size, 1, none⟩ (.slice RA m rc)) w.heap.size HA hc RA rc hs' (gRoots s) := (e1.blk e5 (by decide) (by decide) _ _).blk (e5.set_ 0 _) (by decide) (by decide) _ _
      have e6 := e1'.at_
      rw [e2] at e6
      exact ⟨HA, RA, hc, rc, m, by rw [H.out.2.2.2.2.1]; rfl, e6, e1'.roots, e4, (hbl.setCell (Nat.le_refl _) _).setCell (Nat.le_refl _) _⟩

end Go.Proofs.Ytpkccpegdpodoaa
