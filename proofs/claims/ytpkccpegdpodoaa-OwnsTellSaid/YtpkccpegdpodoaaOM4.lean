/-
  Who keeps whom, how many each keeps, and what a thing keeps are as the document says: any graph, any thing. No condition beyond the form's own.
-/
import Derived.Test.YtpkccpegdpodoaaOM1
import Derived.Test.YtpkccpegdpodoaaOM2
import Derived.Test.YtpkccpegdpodoaaOM3
import Derived.Test.YtpkccpegdpodoaaRows
import Derived.ProofKit
import Derived.OpenShut
import Derived.JoinedCond
import Derived.Deep.CondSized
/- May things be named? A marker's and a model's. -/
namespace Go.Proofs.Ytpkccpegdpodoaa
open Go.RowKit

attribute [local go_sem ↓] Go.wp_at_zero Go.wp_at_succ

theorem fromW_any (hc rc n m : Nat) (HA RA : Option Addr) (has : List (List Int)) (roots : List Int) (w : World) (hn : has.length = n) (hm : roots.length = m) (hh : At w w.heap.size HA has) (hr : At w w.heap.size RA roots)
    (hright : Right has) (hsrc : RightL has.length roots) (hlen : n ≤ 100) (hml : m ≤ 1000) (hhl : ∀ l ∈ has, l.length ≤ 10) :
    Calls Try.prog 105 #[.agg #[.slice HA n hc, .slice RA m rc], .slice RA m rc] w fun e w' => ∃ S c, e = .returned (.slice S n c) ∧ Own w' w.heap.size 4 S c (fromL has roots []) ∧ Below w.heap.size w w' := by
  subst hn hm
  exact wfrom_any w.heap.size hc rc rc roots.length HA RA RA has roots w hh hr (Nat.le_refl _) hright hsrc hlen hml hhl
theorem fromR_any (hc rc n m : Nat) (HA RA : Option Addr) (has : List (List Int)) (roots : List Int) (w : World) (hn : has.length = n) (hm : roots.length = m) (hh : At w w.heap.size HA has) (hr : At w w.heap.size RA roots)
    (hright : Right has) (hsrc : RightL has.length roots) (hlen : n ≤ 100) (hml : m ≤ 1000) (hhl : ∀ l ∈ has, l.length ≤ 10) :
    Calls Try.prog 33 #[.agg #[.slice HA n hc, .slice RA m rc], .slice RA m rc, .slice none 0 0] w fun e w' => ∃ S c, e = .returned (.slice S n c) ∧ Own w' w.heap.size 4 S c (fromL has roots []) ∧ Below w.heap.size w w' := by
  subst hn hm
  exact rfrom_any w.heap.size hc rc rc 0 roots.length HA RA RA none has roots [] w hh hr At.nil_ (Nat.le_refl _) hright hsrc (fun p hp => by simp at hp) hlen hml (by simp) hhl

theorem all_snocM {α : Type} (p : α → Bool) (l : List α) (k : Nat) (x : α) (h : l[k]? = some x) : (l.take (k + 1)).all p = ((l.take k).all p && p x) := by
  rw [List.take_add_one, h]; simp [List.all_append]
theorem all_stopM {α : Type} (p : α → Bool) (l : List α) (k : Nat) (x : α) (h : l[k]? = some x) (hp : p x = false) : l.all p = false := by
  rw [List.all_eq_false]; exact ⟨x, List.mem_of_getElem? h, by simp [hp]⟩
theorem namedE_none {s : List It} {l : List Int} {k : Nat} {x : Int} (h : l[k]? = some x) (hx : inN s.length x = false) : namedE s l = 5 := by
  unfold namedE; rw [all_stopM _ l k x h hx]; rfl
theorem namedE_state {s : List It} {l : List Int} {k : Nat} {x : Int} (h1 : l.all (inN s.length) = true) (h : l[k]? = some x) (hx : (needed s).getD x.toNat false = false) : namedE s l = 8 := by
  unfold namedE; rw [if_pos h1, all_stopM _ l k x h hx]; rfl
theorem namedE_ok {s : List It} {l : List Int} (h1 : l.all (inN s.length) = true) (h2 : l.all (fun n => (needed s).getD n.toNat false) = true) : namedE s l = 0 := by
  unfold namedE; rw [if_pos h1, if_pos h2]

/-- things whose graph is right -/
structure Fine (s : List It) : Prop where
  small : s.length ≤ 100
  long : ∀ x ∈ s, x.has.length ≤ 10
  neg : ∀ x ∈ s, ∀ k ∈ x.has, k = -1 ∨ 0 ≤ k
  right : Right (gHas s)
  rightL : RightL (gHas s).length (gRoots s)
theorem MInv.fine {kind : Int} {mk : Bool} {s : List It} (h : MInv kind mk s) : Fine s := ⟨h.small, h.long, fun x hx k hk => (h.refs x hx k hk).imp id (fun ⟨n, e, _⟩ => by omega), h.right, h.rightL⟩
theorem Fine.glen {s : List It} (h : Fine s) : ∀ l ∈ gHas s, l.length ≤ 10 := by
  intro l hl
  unfold gHas at hl
  obtain ⟨x, hx, rfl⟩ := List.mem_map.1 hl
  exact Nat.le_trans (List.length_filter_le _ _) (h.long x hx)
theorem rising_I64 (l : List Bool) (h : l.length ≤ 1000000) : ∀ x ∈ rising l, I64 x := by
  intro x hx
  obtain ⟨n, rfl, hn⟩ := (mem_rising l x).1 hx
  have := (List.getElem?_eq_some_iff.1 hn).1
  unfold I64; omega


end Go.Proofs.Ytpkccpegdpodoaa

/- The graph of a model's things. -/
namespace Go.Proofs.Ytpkccpegdpodoaa
open Go.RowKit

attribute [local go_sem ↓] Go.wp_at_zero Go.wp_at_succ

theorem filter_snocM (l : List Int) (p : Int → Bool) (k : Nat) (x : Int) (h : l[k]? = some x) : (l.take (k + 1)).filter p = (l.take k).filter p ++ if p x = true then [x] else [] := by
  rw [List.take_add_one, h]
  simp only [Option.toList_some, List.filter_append]
  by_cases hp : p x = true <;> simp [hp]

set_option maxHeartbeats 1600000 in
set_option maxRecDepth 100000 in
theorem rgraph_any (w : World) (base p : Nat) (F : Nat → Prop) (nu kind : Int) (mk : Bool) (s : List It) (h : Mdl w base F p nu kind mk s) (hs : s.length ≤ 100) (hx : ∀ x ∈ s, x.has.length ≤ 10) (hneg : ∀ x ∈ s, ∀ k ∈ x.has, k = -1 ∨ 0 ≤ k) :
    Calls Try.prog 58 #[.pointer (some ⟨p, 0, none⟩)] w (GrPost s w) := by
  obtain ⟨i0, hi, hz0, hz1, hz2⟩ := info_parts infoInt
  obtain ⟨j0, hj, hy0, hy1, hy2⟩ := info_parts infoIntsG
  obtain ⟨A, c, l, h1, h2, h3, h4, h5⟩ := h
  have hl : s.length = l.length := by rw [← h5, its_length]
  obtain ⟨N, hN⟩ : ∃ N, l.length = N := ⟨_, rfl⟩
  rw [hN] at h1 hl
  rw [hl] at hs
  have c2 := h1.cell 0 (v := .slice A N c) rfl
  have hplt := h1.lt
  have H := Lib.hid (And.intro h1 (And.intro h2 (And.intro h5 (And.intro hx (And.intro hl (And.intro hN hneg)))))); clear h1 h2 h5 hl hx hN hneg
  go_enter Try.func58, Try.ntmps58
  go_wp2_with fail
  clear c2
  go_loopg [14] N (fun gk iv wr => ∃ (k m : Nat), k ≤ N ∧ gk = N - k ∧ iv = .int .i64 k ∧ m ≤ k ∧ Hid (GrB wr w.heap.size (w.heap.size + 1) k m s ∧ Blk wr w.heap.size 49 #[.slice none 0 0, .slice none 0 0]) ∧ Below w.heap.size w wr)
  case atStart =>
    refine ⟨0, 0, Nat.zero_le _, rfl, rfl, Nat.le_refl _, ⟨⟨none, none, 0, 0, [], Blk.at_ _ _ _ (by simp), GrS.start _ _, by simp [gHas], rfl, by simp [gRoots, rising, risingFrom]⟩, (Blk.new w _ _).alloc _⟩, ((Below.refl _ _).alloc (Nat.le_refl _) _).alloc (by simp) _⟩
  case round =>
    obtain ⟨k, m, hk, rfl, rfl, hm, hkeep, hbl⟩ := hrel
    obtain ⟨wo, rfl⟩ : ∃ wo : World, wo = wr := ⟨_, rfl⟩
    have hsz := hbl.size
    by_cases hlt : k < N
    · obtain ⟨x, hx⟩ : ∃ x, l[k]? = some x := ⟨_, List.getElem?_eq_getElem (by have := H.out.2.2.2.2.2.1; omega)⟩
      have hits := H.out.2.1.fresh hbl
      obtain ⟨g, rfl, hg1, hg2, q0, q1, q2⟩ := hits.cells hx
      obtain ⟨hxo, -, hxi, hxs⟩ := hits.sub k x hx
      obtain ⟨XA, xc, xh, xs, xb⟩ := x
      simp only at q0 q1 q2 hxo hxi hxs
      have hsx : s[k]? = some ⟨xh, xs, xb⟩ := by have := its_get hx; rw [H.out.2.2.1] at this; exact this
      have hx10 : xh.length ≤ 10 := H.out.2.2.2.1 _ (List.mem_of_getElem? hsx)
      have hxn : ∀ k ∈ xh, k = -1 ∨ 0 ≤ k := H.out.2.2.2.2.2.2 _ (List.mem_of_getElem? hsx)
      have b0 : (0 : Int) ≤ (k : Int) := by omega
      have b1 : (k : Int) < (N : Int) := by omega
      have ht1 := gHas_take s k _ hsx
      have ht2 := gRoots_take s k _ hsx
      simp only at ht1 ht2
      obtain ⟨XN, hXN⟩ : ∃ n, xh.length = n := ⟨_, rfl⟩
      rw [hXN] at q0 hx10
      have HX := Lib.hid (And.intro ht1 (And.intro ht2 (And.intro hXN (And.intro hxn (And.intro hxi hkeep.out)))))
      have HO := Lib.hid hxo
      clear ht1 ht2 hxn hxi hxo hsx hx hits hkeep hXN
      go_wp2_with fail
      refine wp_world (fun W => GrB W w.heap.size (w.heap.size + 1) k m s ∧ Blk W w.heap.size 49 #[.slice none 0 0, .slice none 0 0] ∧ Blk W wo.heap.size 104 #[.slice XA XN xc, .int .i64 xs, .bool xb] ∧ Below wo.heap.size wo W ∧ wo.heap.size < W.heap.size) ⟨?_, HX.out.2.2.2.2.2.2.alloc _, Blk.new _ _ _, (Below.refl _ _).alloc (Nat.le_refl _) _, by simp⟩ ?_
      · obtain ⟨HA, RA, hc, rc, hs', d1, d2, d3⟩ := HX.out.2.2.2.2.2.1
        exact ⟨HA, RA, hc, rc, hs', d1.alloc _, d2.alloc _, d3⟩
      rintro W ⟨⟨HA, RA, hc, rc, hs', d1, d2, d3, d4, d5⟩, d6, d7, d8, d9⟩
      have hGX : w.heap.size + 1 ≠ wo.heap.size := fun e => by have := d7; rw [← e] at this; have h0 := d1; unfold Blk at this h0; rw [h0] at this; injection this with this; injection this with _ this _; exact absurd this (by decide)
      have hGW := d1.lt
      have HW := Lib.hid (And.intro d1 (And.intro d2 (And.intro d3 (And.intro d4 (And.intro d5 (And.intro d6 (And.intro d7 (And.intro d8 ((HO.out.fresh d8).at_ HX.out.2.2.2.2.1)))))))))
      clear d1 d2 d3 d4 d5 d6 d7 d8 q0 q1 q2
      go_loopg [6, 22] XN (fun gk lv jv wj => ∃ (j q : Nat) (LA : Option Addr) (lc : Nat), j ≤ XN ∧ gk = XN - j ∧ jv = .int .i64 j ∧ lv = .slice LA q lc ∧ q ≤ j ∧ Hid (Own wj W.heap.size 3 LA lc ((xh.take j).filter fun k => decide (0 ≤ k)) ∧ ((xh.take j).filter fun k => decide (0 ≤ k)).length = q) ∧ Below W.heap.size W wj)
      case atStart => exact ⟨0, 0, none, 0, Nat.zero_le _, rfl, rfl, rfl, Nat.le_refl _, ⟨Own.nil_, rfl⟩, Below.refl _ _⟩
      case round =>
        obtain ⟨j, q, LA, lc, hjl, rfl, rfl, rfl, hq, hkeep, hbj⟩ := hrel
        have hsj := hbj.size
        by_cases hltj : j < XN
        · obtain ⟨b, o, z, rfl, hbB, hz, hzi, q0⟩ := (HW.out.2.2.2.2.2.2.2.2.below hbj).int_ (k := j) (by have := HX.out.2.2.1; omega)
          have hzn := HX.out.2.2.2.1 z (List.mem_of_getElem? hz)
          have hsn := filter_snocM xh (fun k => decide (0 ≤ k)) j z hz
          have c0 : (0 : Int) ≤ (j : Int) := by omega
          have c1 : (j : Int) < (XN : Int) := by omega
          by_cases hz1 : z = -1
          · subst hz1
            rw [if_neg (by simp), List.append_nil] at hsn
            have HS := Lib.hid hsn; clear hsn hz hzn
            go_wp2_with fail
            go_roundg (XN - (j + 1))
            case measure => omega
            case rel => exact ⟨j + 1, q, LA, lc, by omega, rfl, by go_num, rfl, by omega, by unfold Hid; rw [HS.out]; exact hkeep.out, hbj⟩
          · have hz0' : 0 ≤ z := by omega
            rw [if_pos (by simpa using hz0')] at hsn
            have d0 : (z != -1) = true := by simpa using hz1
            have HS := Lib.hid (And.intro hsn hkeep.out); clear hsn hz hzn hz1 hz0' hkeep
            go_wp2_with (at_builtin; go_must (refine wpList_app (α := Int) (n := q) (m := 1) (B := wr.heap.size + 1) (r := [z]) rfl (.tmp 28) (.tmp 30) _ rfl W.heap.size 3 i0 _ 8 Try.underlying47 hi hz0 hz1 hz2 rfl (by decide) int_one (by rfl) HS.out.2.2 (HS.out.2.1.alloc _) (by rfl) (At.built wr _ _ [z] rfl (by intro u hu; simp at hu; subst hu; exact hzi)) rfl (by omega) (by simp only [maxLen]; omega) (by simp; omega) ?_); intro A2 c2 w2 hown2 hgr2 hat2; have hb2 : Below W.heap.size W w2 := (hbj.alloc hsj _).grown hgr2 (by simp; omega) (fun g hg => (HS.out.2.1.lt g hg).1); have HO2 := Lib.hid hown2; clear hown2 hgr2 hat2)
            go_roundg (XN - (j + 1))
            case measure => omega
            case rel => exact ⟨j + 1, q + 1, A2, c2, by omega, rfl, by go_num, rfl, by omega, ⟨by rw [HS.out.1]; exact HO2.out, by rw [HS.out.1, List.length_append, HS.out.2.2]; rfl⟩, hb2⟩
        · obtain rfl : j = XN := by omega
          obtain ⟨f1, f2⟩ := hkeep.out
          rw [List.take_of_length_le (by have := HX.out.2.2.1; omega)] at f1 f2
          obtain ⟨y, hy⟩ : ∃ y, (xh.filter fun k => decide (0 ≤ k)) = y := ⟨_, rfl⟩
          rw [hy] at f1 f2
          have hyi : ∀ k ∈ y, I64 k := fun k hk => by rw [← hy] at hk; exact HX.out.2.2.2.2.1 k (List.mem_filter.1 hk).1
          have hbw : Below w.heap.size w wr := hbl.trans ((HW.out.2.2.2.2.2.2.2.1.mono hsz).trans (hbj.mono (by omega)))
          have e1 := HW.out.1.fresh hbj
          have e2 := HW.out.2.1.fresh hbj
          have e6 := HW.out.2.2.2.2.2.1.fresh hbj
          have e7 := HW.out.2.2.2.2.2.2.1.fresh hbj
          have hap : ∀ g, rowOf LA = some g → rowOf RA ≠ some g := fun g hg e => by have h1 := (f1.lt g hg).1; have h2 := (HW.out.2.1.roots.lt g e).2; omega
          have hcs : (#[Value.slice LA q lc] : Array Value).toList = flat [(⟨LA, lc, y⟩ : SlR)] := by simp [flat, Flat.cells, f2]
          have g0 := e1.cell 0 (v := .slice HA k hc) rfl
          have x2 := e7.cell 2 (v := .bool xb) rfl
          have hXlt := e7.lt
          have hGlt := e1.lt
          have ht1 := HX.out.1
          have ht1' : gHas (s.take (k + 1)) = gHas (s.take k) ++ [y] := by rw [HX.out.1, hy]
          have HV := Lib.hid (And.intro e1 (And.intro e2 (And.intro e6 (And.intro e7 (And.intro (f1.base_le (by omega : w.heap.size ≤ W.heap.size)) (And.intro hyi (And.intro hap (And.intro hcs (And.intro ht1' (And.intro HX.out.2.1 (And.intro HW.out.2.2.1 (And.intro HW.out.2.2.2.1 HW.out.2.2.2.2.1))))))))))))
          clear e1 e2 e6 e7 f1 f2 hy hyi hap hcs ht1 ht1' hkeep hbj HW
          go_upto_region 13 with (at_builtin; go_must (refine wpList_app (α := SlR) (n := k) (m := 1) (B := wr.heap.size + 1) (r := [⟨LA, lc, y⟩]) rfl (.tmp 34) (.tmp 36) _ rfl w.heap.size 47 j0 _ 24 Try.underlying46 hj hy0 hy1 hy2 rfl (by decide) slr_one (by rfl) HV.out.2.2.2.2.2.2.2.2.2.2.2.1 (HV.out.2.1.row.alloc _) (by rfl) (At.built wr _ _ [(⟨LA, lc, y⟩ : SlR)] HV.out.2.2.2.2.2.2.2.1 (fun _ _ => trivial)) rfl (by omega) (by simp only [maxLen]; omega) (by simp; omega) ?_); intro A3 c3 w3 ho3 hgr3 hat3; have s3 := hgr3.size; simp only [World.size_alloc] at s3; have n1 := (HV.out.1.alloc (.cells #[.slice LA q lc] 47)).grown hgr3 (fun e => own_ne_ty (HV.out.2.1.row.alloc (.cells #[.slice LA q lc] 47)) (HV.out.1.alloc (.cells #[.slice LA q lc] 47)) (by decide) e); have n3 := (HV.out.2.2.2.1.alloc (.cells #[.slice LA q lc] 47)).grown hgr3 (fun e => own_ne_ty (HV.out.2.1.row.alloc (.cells #[.slice LA q lc] 47)) (HV.out.2.2.2.1.alloc (.cells #[.slice LA q lc] 47)) (by decide) e); have n5 := (HV.out.2.2.1.alloc (.cells #[.slice LA q lc] 47)).grown hgr3 (fun e => own_ne_ty (HV.out.2.1.row.alloc (.cells #[.slice LA q lc] 47)) (HV.out.2.2.1.alloc (.cells #[.slice LA q lc] 47)) (by decide) e); have n6 := (HV.out.2.1.alloc (.cells #[.slice LA q lc] 47)).push ho3 hgr3 (HV.out.2.2.2.2.1.alloc _) HV.out.2.2.2.2.2.1 HV.out.2.2.2.2.2.2.1; have hb3 : Below w.heap.size w w3 := (hbw.alloc (by omega) _).grown hgr3 (by simp; omega) (fun g hg => (HV.out.2.1.row.lt g hg).1); have z0 := n1.frozen 0; have g0' := n1.cell 0 (v := .slice HA k hc) rfl; have g1 := (n1.set_ 0 (.slice A3 (k + 1) c3)).cell 1 (v := .slice RA m rc) rfl; have x2' := (n3.far (p := ⟨w.heap.size + 1, 0, none⟩) (fun e => hGX e.symm) (.slice A3 (k + 1) c3)).cell 2 (v := .bool xb) rfl; have HZ := Lib.hid (And.intro n1 (And.intro n3 (And.intro n5 (And.intro n6 hb3)))); clear n1 n3 n5 n6 hb3 ho3 hgr3 hat3 g0 x2)
          refine wp_world (fun V => Hid (Blk V (w.heap.size + 1) 49 #[.slice A3 (k + 1) c3, .slice RA m rc] ∧ GrS V w.heap.size A3 c3 RA rc (hs' ++ [⟨LA, lc, y⟩]) (gRoots (s.take k)) ∧ Blk V wo.heap.size 104 #[.slice XA j xc, .int .i64 xs, .bool xb] ∧ Blk V w.heap.size 49 #[.slice none 0 0, .slice none 0 0]) ∧ Below w.heap.size w V) ⟨⟨HZ.out.1.set_ 0 _, HZ.out.2.2.2.1.blk HZ.out.1 (by decide) (by decide) _ _, HZ.out.2.1.far (fun e => hGX e.symm) _, HZ.out.2.2.1.far (by simp) _⟩, HZ.out.2.2.2.2.setCell (by simp) _⟩ ?_
          rintro V ⟨hV, hbV⟩
          clear HZ g0' g1 x2' z0
          have hsV := hbV.size
          have hVX := hV.out.2.2.1.lt
          have hVG := hV.out.1.lt
          have g1 := hV.out.1.cell 1 (v := .slice RA m rc) rfl
          have x2 := hV.out.2.2.1.cell 2 (v := .bool xb) rfl
          obtain ⟨-, -, -, -, -, -, -, -, ht1, ht2, hm1, hm2, hm3⟩ := HV.out
          have hhl : (hs' ++ [(⟨LA, lc, y⟩ : SlR)]).length = k + 1 := by rw [List.length_append, hm2]; rfl
          have hhm : (hs' ++ [(⟨LA, lc, y⟩ : SlR)]).map SlR.l = gHas (s.take (k + 1)) := by rw [List.map_append, hm1, ht1]; rfl
          have HR := Lib.hid (And.intro hm3 (And.intro hhl (And.intro hhm ht2))); clear hm1 hm2 hm3 hhl hhm ht1 ht2 HV
          cases xb with
          | false =>
            go_wp2_with fail
            go_roundg (N - (k + 1))
            case measure => omega
            case rel => exact ⟨k + 1, m, by omega, rfl, by go_num, by omega, ⟨⟨A3, RA, c3, rc, _, hV.out.1, by rw [HR.out.2.2.2]; simpa using hV.out.2.1, HR.out.2.2.1, HR.out.2.1, by rw [HR.out.2.2.2]; simpa using HR.out.1⟩, hV.out.2.2.2⟩, hbV⟩
          | true =>
            go_wp2_with (at_builtin; go_must (refine wpList_app (α := Int) (n := m) (m := 1) (B := V.heap.size + 1) (r := [(k : Int)]) rfl (.tmp 42) (.tmp 44) _ rfl w.heap.size 3 i0 _ 8 Try.underlying47 hi hz0 hz1 hz2 rfl (by decide) int_one (by rfl) HR.out.1 (hV.out.2.1.roots.alloc _) (by rfl) (At.built V _ _ [(k : Int)] rfl (by intro z hz; simp at hz; subst hz; exact (by unfold I64; omega : I64 (k : Int)))) rfl (by omega) (by simp only [maxLen]; omega) (by simp; omega) ?_); intro A5 c5 w5 ho5 hgr5 hat5; have p1 := (hV.out.1.alloc (.cells #[.int .i64 (k : Int)] 3)).grown hgr5 (fun e => own_ne_ty (hV.out.2.1.roots.alloc (.cells #[.int .i64 (k : Int)] 3)) (hV.out.1.alloc (.cells #[.int .i64 (k : Int)] 3)) (by decide) e); have p2 := (hV.out.2.2.2.alloc (.cells #[.int .i64 (k : Int)] 3)).grown hgr5 (fun e => own_ne_ty (hV.out.2.1.roots.alloc (.cells #[.int .i64 (k : Int)] 3)) (hV.out.2.2.2.alloc (.cells #[.int .i64 (k : Int)] 3)) (by decide) e); have p3 := (hV.out.2.1.alloc (.cells #[.int .i64 (k : Int)] 3)).root ho5 hgr5 hat5; have p4 : Below w.heap.size w w5 := (hbV.alloc (by omega) _).grown hgr5 (by simp; omega) (fun g hg => (hV.out.2.1.roots.lt g hg).1); have s5 := hgr5.size; have q1 := p1.cell 1 (v := .slice RA m rc) rfl; have z1 := p1.frozen 1; have HP := Lib.hid (And.intro p1 (And.intro p2 (And.intro p3 p4))); clear p1 p2 p3 p4 ho5 hgr5 hat5)
            go_roundg (N - (k + 1))
            case measure => omega
            case rel =>
              refine ⟨k + 1, m + 1, by omega, rfl, by go_num, by omega, ⟨⟨A3, A5, c3, c5, _, HP.out.1.set_ 1 _, ?_, HR.out.2.2.1, HR.out.2.1, by rw [HR.out.2.2.2]; simpa using HR.out.1⟩, HP.out.2.1.far (by simp) _⟩, HP.out.2.2.2.setCell (by simp) _⟩
              rw [HR.out.2.2.2]
              simpa using HP.out.2.2.1.blk HP.out.1 (by decide) (by decide) 1 _
    · obtain rfl : k = N := by omega
      have hkk := hkeep.out
      have HKK := Lib.hid hkk; clear hkk hkeep
      obtain ⟨⟨HA, RA, hc, rc, hs', b1, b2, b3, b4, b5⟩, b6⟩ := HKK.out
      have g0 := b1.cell 0 (v := .slice HA k hc) rfl
      have g1 := b1.cell 1 (v := .slice RA m rc) rfl
      have r0 := b6.cell 0 (v := .slice none 0 0) rfl
      have r1 := b6.cell 1 (v := .slice none 0 0) rfl
      have z0 := b6.frozen 0
      have z1 := b6.frozen 1
      have HB := Lib.hid (And.intro b2 (And.intro b3 (And.intro b4 (And.intro b5 b6)))); clear b1 b2 b3 b4 b5 b6 HKK
      go_wp2_with fail
      refine bodyPost_ret (results_cell1 rfl _ _ w.heap.size _ _ _ rfl ((HB.out.2.2.2.2.set_ 0 (.slice HA k hc)).set_ 1 (.slice RA m rc)) Try.underlying49 rfl (by kernel_rfl)) rfl ?_
      obtain ⟨e1, e2, e3, e4, e5⟩ := HB.out
      have hsl : s.take k = s := List.take_of_length_le (by have := H.out.2.2.2.2.1; omega)
      rw [hsl] at e1 e2 e4
      have e1' : GrS ((wo.setCell ⟨w.heap.size, 0, none⟩ (.slice HA k hc)).setCell ⟨w.heap.size, 1, none⟩ (.slice RA m rc)) w.heap.size HA hc RA rc hs' (gRoots s) := (e1.blk e5 (by decide) (by decide) _ _).blk (e5.set_ 0 _) (by decide) (by decide) _ _
      have e6 := e1'.at_
      rw [e2] at e6
      exact ⟨HA, RA, hc, rc, m, by rw [H.out.2.2.2.2.1]; rfl, e6, e1'.roots, e4, (hbl.setCell (Nat.le_refl _) _).setCell (Nat.le_refl _) _⟩

end Go.Proofs.Ytpkccpegdpodoaa

/- R.Without: a graph without one of its things. -/
namespace Go.Proofs.Ytpkccpegdpodoaa
open Go.RowKit

attribute [local go_sem ↓] Go.wp_at_zero Go.wp_at_succ

def stripL (z : Nat) (l : List Int) : List Int := l.filter fun k => k != (z : Int)
def woRow (z k : Nat) (l : List Int) : List Int := stripL z (if k = z then [] else l)
def woH (z : Nat) (has : List (List Int)) : List (List Int) := has.mapIdx (woRow z)
theorem woH_length (z : Nat) (has : List (List Int)) : (woH z has).length = has.length := by simp [woH]
theorem woH_get {z : Nat} {has : List (List Int)} {k : Nat} {l : List Int} (h : has[k]? = some l) : (woH z has)[k]? = some (woRow z k l) := by unfold woH; rw [List.getElem?_mapIdx, h]; rfl
theorem woH_take {z : Nat} {has : List (List Int)} {k : Nat} {l : List Int} (h : has[k]? = some l) : (woH z has).take (k + 1) = (woH z has).take k ++ [woRow z k l] := by rw [List.take_add_one, woH_get h]; rfl
theorem strip_len (z : Nat) (l : List Int) : (stripL z l).length ≤ l.length := List.length_filter_le _ _
theorem woRow_len (z k : Nat) (l : List Int) : (woRow z k l).length ≤ l.length := by
  unfold woRow
  split
  · simp [stripL]
  · exact strip_len z l
theorem woRow_sub {z k : Nat} {l : List Int} {x : Int} (h : x ∈ woRow z k l) : x ∈ l ∧ x ≠ (z : Int) ∧ k ≠ z := by
  unfold woRow stripL at h
  obtain ⟨h1, h2⟩ := List.mem_filter.1 h
  split at h1
  · simp at h1
  · rename_i hk; exact ⟨h1, by simpa using h2, hk⟩
theorem wo_right {z : Nat} {has : List (List Int)} (h : Right has) : Right (woH z has) := fun l hl x hx => by
  obtain ⟨k, hk⟩ := List.mem_iff_getElem?.1 hl
  unfold woH at hk
  rw [List.getElem?_mapIdx] at hk
  cases hl2 : has[k]? with
  | none => rw [hl2] at hk; cases hk
  | some l2 =>
    rw [hl2] at hk
    injection hk with hk
    subst hk
    obtain ⟨j, e, hj⟩ := h l2 (List.mem_of_getElem? hl2) x (woRow_sub hx).1
    exact ⟨j, e, by rw [woH_length]; exact hj⟩
theorem wo_rightL {z : Nat} {has : List (List Int)} {roots : List Int} (h : RightL has.length roots) : RightL (woH z has).length (stripL z roots) := fun x hx => by
  obtain ⟨j, e, hj⟩ := h x (List.mem_filter.1 hx).1
  exact ⟨j, e, by rw [woH_length]; exact hj⟩
theorem wo_long {z : Nat} {has : List (List Int)} (h : ∀ l ∈ has, l.length ≤ 10) : ∀ l ∈ woH z has, l.length ≤ 10 := fun l hl => by
  obtain ⟨k, hk⟩ := List.mem_iff_getElem?.1 hl
  unfold woH at hk
  rw [List.getElem?_mapIdx] at hk
  cases hl2 : has[k]? with
  | none => rw [hl2] at hk; cases hk
  | some l2 =>
    rw [hl2] at hk
    injection hk with hk
    subst hk
    exact Nat.le_trans (woRow_len z k l2) (h l2 (List.mem_of_getElem? hl2))
/-- reached in the graph without z, as reached without z -/
theorem wo_av {z : Nat} {has : List (List Int)} {roots : List Int} {m : Nat} : RT (woH z has) (stripL z roots) [] m ↔ Av has roots z m := by
  constructor
  · intro h
    induction h with
    | @root n h =>
      obtain ⟨h1, h2⟩ := List.mem_filter.1 h
      exact .root h1 (by simp at h2; omega)
    | @edge n k l h1 h2 h3 ih =>
      unfold woH at h2
      rw [List.getElem?_mapIdx] at h2
      cases hl2 : has[n]? with
      | none => rw [hl2] at h2; cases h2
      | some l2 =>
        rw [hl2] at h2
        injection h2 with h2
        subst h2
        obtain ⟨h4, h5, -⟩ := woRow_sub h3
        exact .edge ih hl2 h4 (by omega)
    | pair _ h => simp at h
  · intro h
    induction h with
    | @root k h1 h2 => exact .root (List.mem_filter.2 ⟨h1, by simp; omega⟩)
    | @edge n k l h1 h2 h3 h4 ih =>
      refine .edge ih (woH_get h2) ?_
      unfold woRow
      rw [if_neg (av_ne h1)]
      exact List.mem_filter.2 ⟨h3, by simp; omega⟩

set_option maxHeartbeats 800000 in
set_option maxRecDepth 100000 in
theorem strip_any (w : World) (B Z z c n : Nat) (A : Option Addr) (l : List Int) (hl : At w B A l) (hB : B ≤ w.heap.size) (hn : l.length = n) (hn2 : n ≤ 100) (hz : Blk w Z 3 #[.int .i64 (z : Int)]) :
    Calls Try.prog 176 #[.slice A n c, .pointer (some ⟨Z, 0, none⟩)] w fun e w' => ∃ (A' : Option Addr) (c' m : Nat), e = .returned (.slice A' m c') ∧ (stripL z l).length = m ∧ Own w' w.heap.size 3 A' c' (stripL z l) ∧ Below w.heap.size w w' := by
  obtain ⟨i0, hi, hz0, hz1, hz2⟩ := info_parts infoInt
  have H := Lib.hid (And.intro hl (And.intro hz hn)); clear hl hz hn
  go_enter Try.func176, Try.ntmps176
  go_wp2_with fail
  go_loopg [4, 9] n (fun gk ov iv wr => ∃ (k m : Nat) (A' : Option Addr) (c' : Nat), k ≤ n ∧ gk = n - k ∧ iv = .int .i64 k ∧ ov = .slice A' m c' ∧ m ≤ k ∧ Hid (Own wr w.heap.size 3 A' c' (stripL z (l.take k)) ∧ (stripL z (l.take k)).length = m) ∧ Below w.heap.size w wr)
  case atStart => exact ⟨0, 0, none, 0, Nat.zero_le _, rfl, rfl, rfl, Nat.le_refl _, ⟨by simpa [stripL] using Own.nil_, by simp [stripL]⟩, Below.refl _ _⟩
  case round =>
    obtain ⟨k, m, A', c', hk, rfl, rfl, rfl, hmk, hkeep, hbl⟩ := hrel
    have hsz := hbl.size
    by_cases hlt : k < n
    · obtain ⟨b, o, x, rfl, hb, hx, hox, q0⟩ := (H.out.1.below (hbl.mono hB)).int_ (k := k) (by have := H.out.2.2; omega)
      have z0 := (H.out.2.1.fresh hbl).cell 0 (v := .int .i64 (z : Int)) rfl
      have hsn := filter_snocM l (fun k => k != (z : Int)) k x hx
      have k0 : (0 : Int) ≤ (k : Int) := by omega
      have k1 : (k : Int) < (n : Int) := by omega
      by_cases hxz : x = (z : Int)
      · subst hxz
        rw [if_neg (by simp), List.append_nil] at hsn
        have HX := Lib.hid (And.intro (show stripL z (l.take (k + 1)) = stripL z (l.take k) from hsn) hkeep.out); clear hsn hkeep hx
        go_wp2_with fail
        go_roundg (n - (k + 1))
        case measure => omega
        case rel => exact ⟨k + 1, m, A', c', by omega, rfl, by go_num, rfl, by omega, ⟨by rw [HX.out.1]; exact HX.out.2.1, by rw [HX.out.1]; exact HX.out.2.2⟩, hbl⟩
      · have d0 : (x != (z : Int)) = true := by simpa using hxz
        rw [if_pos d0] at hsn
        have hx64 : I64 x := hox
        have HX := Lib.hid (And.intro (show stripL z (l.take (k + 1)) = stripL z (l.take k) ++ [x] from hsn) (And.intro hkeep.out hx64)); clear hsn hkeep hx hxz hox hx64
        go_wp2_with (at_builtin; go_must (refine wpList_app (α := Int) (n := m) (m := 1) (B := wr.heap.size + 1) (r := [x]) rfl (.tmp 16) (.tmp 18) _ rfl w.heap.size 3 i0 _ 8 Try.underlying47 hi hz0 hz1 hz2 rfl (by decide) int_one (by rfl) HX.out.2.1.2 (HX.out.2.1.1.alloc _) (by rfl) (At.built wr _ _ [x] rfl (by intro u hu; simp at hu; subst hu; exact HX.out.2.2)) rfl (by omega) (by simp only [maxLen]; omega) (by simp; omega) ?_); intro A5 c5 w5 ho5 hgr5 hat5; have hb5 : Below w.heap.size w w5 := (hbl.alloc hsz _).grown hgr5 (by simp; omega) (fun g hg => (HX.out.2.1.1.lt g hg).1); have H5 := Lib.hid ho5; clear ho5 hgr5 hat5)
        go_roundg (n - (k + 1))
        case measure => omega
        case rel => exact ⟨k + 1, m + 1, A5, c5, by omega, rfl, by go_num, rfl, by omega, ⟨by rw [HX.out.1]; exact H5.out, by rw [HX.out.1, List.length_append, HX.out.2.1.2]; rfl⟩, hb5⟩
    · obtain rfl : n = k := by omega
      have hk2 := hkeep.out
      rw [List.take_of_length_le (by have := H.out.2.2; omega)] at hk2
      have HX := Lib.hid hk2; clear hkeep hk2
      go_wp2_with fail
      go_ret
      exact ⟨A', c', m, rfl, HX.out.2, HX.out.1, hbl⟩

def WoB (w : World) (base X k m : Nat) (z : Nat) (has : List (List Int)) (roots : List Int) : Prop :=
  ∃ (HA RA : Option Addr) (hc rc : Nat) (hs : List SlR), Blk w X 49 #[.slice HA k hc, .slice RA m rc] ∧ GrS w base HA hc RA rc hs (stripL z roots) ∧ hs.map SlR.l = (woH z has).take k ∧ hs.length = k

set_option maxHeartbeats 6400000 in
set_option maxRecDepth 100000 in
theorem without_any (B hc rc N rn z : Nat) (HA RA : Option Addr) (has : List (List Int)) (roots : List Int) (w : World) (hh : At w B HA has) (hro : At w B RA roots) (hB : B ≤ w.heap.size) (hN : has.length = N) (hrn : roots.length = rn) (hN2 : N ≤ 100) (hrn2 : rn ≤ 100) (hzN : z < 100) (hr : Right has) (hl10 : ∀ l ∈ has, l.length ≤ 10) (hri : ∀ x ∈ roots, I64 x) :
    Calls Try.prog 121 #[.agg #[.slice HA N hc, .slice RA rn rc], .int .i64 (z : Int)] w fun e w' => ∃ (HA2 RA2 : Option Addr) (hc2 rc2 m : Nat), e = .returned (.agg #[.slice HA2 N hc2, .slice RA2 m rc2]) ∧ At w' w'.heap.size HA2 (woH z has) ∧ At w' w'.heap.size RA2 (stripL z roots) ∧ (stripL z roots).length = m ∧ Below w.heap.size w w' := by
  obtain ⟨j0, hj, hy0, hy1, hy2⟩ := info_parts infoIntsG
  have heg : ∀ args w, (callFunc 176 args).run Try.prog w = .ok (.enter 176 args) w := fun _ _ => by kernel_rfl
  have HH := Lib.hid (And.intro hh (And.intro hro (And.intro hN (And.intro hrn (And.intro hr (And.intro hl10 hri)))))); clear hh hro hN hrn hr hl10 hri
  go_enter Try.func121, Try.ntmps121
  go_upto_region 2 with fail
  refine wp_world (fun W => Blk W w.heap.size 49 #[.slice HA N hc, .slice RA rn rc] ∧ Blk W (w.heap.size + 1) 3 #[.int .i64 (z : Int)] ∧ Blk W (w.heap.size + 2) 49 #[.slice none 0 0, .slice none 0 0] ∧ Below w.heap.size w W ∧ W.heap.size = w.heap.size + 3) ⟨((Blk.new w _ _).alloc _).alloc _, (Blk.at_ _ _ _ (by simp)).alloc _, Blk.at_ _ _ _ (by simp), (((Below.refl _ _).alloc (Nat.le_refl _) _).alloc (by simp) _).alloc (by simp; omega) _, by simp⟩ ?_
  rintro W ⟨hG, hZ, hRes, hb0, hs0⟩
  have g1 := hG.cell 1 (v := .slice RA rn rc) rfl
  have HW := Lib.hid (And.intro hG (And.intro hZ (And.intro hRes hb0))); clear hG hZ hRes
  go_wp2_with fail
  refine (strip_any W B (w.heap.size + 1) z rc rn RA roots (HH.out.2.1.below (HW.out.2.2.2.mono hB)) (by omega) HH.out.2.2.2.1 hrn2 HW.out.2.1).mono ?_
  rintro e w1 ⟨A1, c1, m, rfl, hm, ho1, hb1⟩
  have hs1 := hb1.size
  have H1 := Lib.hid (And.intro hm (And.intro ho1 (And.intro (HW.out.1.fresh hb1) (And.intro (HW.out.2.1.fresh hb1) (And.intro (HW.out.2.2.1.fresh hb1) (HW.out.2.2.2.trans (hb1.mono (by omega)))))))); clear hm ho1 hb1 g1 HW
  go_upto_region 3 with fail
  refine wp_world (fun V => WoB V w.heap.size w1.heap.size 0 m z has roots ∧ Blk V w.heap.size 49 #[.slice HA N hc, .slice RA rn rc] ∧ Blk V (w.heap.size + 1) 3 #[.int .i64 (z : Int)] ∧ Blk V (w.heap.size + 2) 49 #[.slice none 0 0, .slice none 0 0] ∧ Below w.heap.size w V ∧ w1.heap.size < V.heap.size) ⟨⟨none, A1, 0, c1, [], Blk.new _ _ _, ⟨Own.nil_, fun i x h => by simp at h, (H1.out.2.1.base_le (by omega)).alloc _, fun i x h => by simp at h⟩, by simp, rfl⟩, H1.out.2.2.1.alloc _, H1.out.2.2.2.1.alloc _, H1.out.2.2.2.2.1.alloc _, H1.out.2.2.2.2.2.alloc (by omega) _, by simp⟩ ?_
  rintro V ⟨hWo, hG, hZ, hRes, hbV, hsV⟩
  have g0 := hG.cell 0 (v := .slice HA N hc) rfl
  have HV := Lib.hid (And.intro hWo (And.intro hG (And.intro hZ hRes))); clear hWo hG hZ hRes
  go_wp2_with fail
  clear g0
  go_loopg [18] N (fun gk iv wr => ∃ k : Nat, k ≤ N ∧ gk = N - k ∧ iv = .int .i64 k ∧ Hid (WoB wr w.heap.size w1.heap.size k m z has roots ∧ Blk wr (w.heap.size + 1) 3 #[.int .i64 (z : Int)] ∧ Blk wr (w.heap.size + 2) 49 #[.slice none 0 0, .slice none 0 0]) ∧ Below w.heap.size w wr ∧ w1.heap.size < wr.heap.size)
  case atStart => exact ⟨0, Nat.zero_le _, rfl, rfl, ⟨HV.out.1, HV.out.2.2.1, HV.out.2.2.2⟩, hbV, hsV⟩
  case round =>
    clear hbV hsV
    obtain ⟨k, hk, rfl, rfl, hkeep, hbl, hsz⟩ := hrel
    have hwb : w.heap.size ≤ wr.heap.size := hbl.size
    by_cases hlt : k < N
    · obtain ⟨b, o, row, XA, xc, rfl, hbB, hx, hc0, hxat, hxl, hxc⟩ := (HH.out.1.below (hbl.mono hB)).slice_ (k := k) (by have := HH.out.2.2.1; omega)
      have hx10 := HH.out.2.2.2.2.2.1 row (List.mem_of_getElem? hx)
      obtain ⟨xn, hxn⟩ : ∃ xn, row.length = xn := ⟨_, rfl⟩
      rw [hxn] at hc0 hx10
      have z0 := hkeep.out.2.1.cell 0 (v := .int .i64 (z : Int)) rfl
      have k0 : (0 : Int) ≤ (k : Int) := by omega
      have k1 : (k : Int) < (N : Int) := by omega
      have htk := woH_take (z := z) hx
      obtain ⟨HA2, RA2, hc2, rc2, hs, hXb, hGr, hmap, hhl⟩ := hkeep.out.1
      have x0 := hXb.cell 0 (v := .slice HA2 k hc2) rfl
      have hrowi : ∀ u ∈ woRow z k row, I64 u := fun u hu => by
        obtain ⟨j, e, hj⟩ := HH.out.2.2.2.2.1 row (List.mem_of_getElem? hx) u (woRow_sub hu).1
        have := HH.out.2.2.1
        subst e; exact (by unfold I64; omega : I64 (j : Int))
      by_cases hkz : k = z
      · have dkz : ((k : Int) == (z : Int)) = true := by simp; omega
        obtain ⟨yat, yl, yw⟩ : At wr wr.heap.size none ([] : List Int) ∧ ([] : List Int).length = 0 ∧ woRow z k row = stripL z [] := ⟨At.nil_, rfl, by unfold woRow stripL; rw [if_pos hkz]⟩
        have hcall := strip_any wr.drew wr.heap.size (w.heap.size + 1) z 0 0 none [] yat.drew (Nat.le_refl _) yl (by omega) hkeep.out.2.1.drew
        rw [← yw] at hcall
        have HX := Lib.hid (And.intro hcall (And.intro hXb (And.intro hGr (And.intro hmap (And.intro hhl (And.intro htk (And.intro hrowi hkeep.out.2))))))); clear hcall hXb hGr hmap hhl htk hrowi hkeep yat yl yw hxat hx hkz
        go_upto_region 8 with fail
        refine wp_region_held_drew (S := (fun _ => True)) (by kernel_rfl) ?_ (fun hHeld0 => ?_)
        · first | trivial | ((try dsimp only); (trivial))
        refine held_take (v := ?_) 0 rfl (by kernel_rfl) (by kernel_rfl) (by kernel_rfl) (fun _ _ _ h => h) (by rfl) ?_ (by assumption) ?_
        rotate_left
        · (intro w hSw; (try dsimp only at hSw); go_simp; try with_reducible rfl)
        try simp only [Act.put, List.setIfInBounds_toArray, List.set_cons_zero, List.set_cons_succ]
        refine held_take (v := ?_) 2 rfl (by kernel_rfl) (by kernel_rfl) (by kernel_rfl) (fun _ _ _ h => h) (by rfl) ?_ (by assumption) ?_
        rotate_left
        · (intro w hSw; (try dsimp only at hSw); go_simp; try with_reducible rfl)
        try simp only [Act.put, List.setIfInBounds_toArray, List.set_cons_zero, List.set_cons_succ]
        refine held_take (v := ?_) 3 rfl (by kernel_rfl) (by kernel_rfl) (by kernel_rfl) (fun _ _ _ h => h) (by rfl) ?_ (by assumption) ?_
        rotate_left
        · (intro w hSw; (try dsimp only at hSw); go_simp; try with_reducible rfl)
        try simp only [Act.put, List.setIfInBounds_toArray, List.set_cons_zero, List.set_cons_succ]
        refine held_call2 1 4 (by kernel_rfl) rfl rfl (fun K hK => ?_) (fun K hK => ?_)
        · go_simp
          refine hK.out _ _ ?_ (fun hHeld1 => ?_)
          · first | trivial | ((try dsimp only); (trivial))
          clear hK K hHeld0
          try simp only [Act.put, List.setIfInBounds_toArray, List.set_cons_zero, List.set_cons_succ]
          refine held_call 4 (by kernel_rfl) rfl (fun K hK => ?_)
          go_simp
          go_at_call 176; refine HX.out.1.mono ?_; rintro e w5 ⟨A5, c5, m5, rfl, hm5, ho5, hb5⟩; have hb5' : Below wr.heap.size wr w5 := undrew hb5; have hs5 : wr.heap.size ≤ w5.heap.size := hb5'.size; have x5 := (HX.out.2.1.fresh hb5').cell 0 (v := .slice HA2 k hc2) rfl; have x6 := ((HX.out.2.1.fresh hb5').alloc (.cells #[.slice A5 m5 c5] 47)).cell 0 (v := .slice HA2 k hc2) rfl; have H5 := Lib.hid (And.intro hm5 (And.intro ho5 (And.intro hb5' (show (#[Value.slice A5 m5 c5] : Array Value).toList = flat [(⟨A5, c5, woRow z k row⟩ : SlR)] by simp [flat, Flat.cells, hm5])))); clear hm5 ho5 hb5 hb5'
          try (go_wp2_with fail)
          refine hK.out _ _ ?_ (fun hHeld2 => ?_)
          · first | trivial | ((try dsimp only); (trivial))
          clear hK K hHeld1
          try simp only [Act.put, List.setIfInBounds_toArray, List.set_cons_zero, List.set_cons_succ]
          refine held_call 5 (by kernel_rfl) rfl (fun K hK => ?_)
          go_simp
          refine hK.out _ _ ?_ (fun hHeld3 => ?_)
          · first | trivial | ((try dsimp only); (trivial))
          clear hK K hHeld2
          try simp only [Act.put, List.setIfInBounds_toArray, List.set_cons_zero, List.set_cons_succ]
          refine held_call 6 (by kernel_rfl) rfl (fun K hK => ?_)
          refine step_app (α := SlR) (n := k) (m := 1) (nm := k + 1) (r := [⟨A5, c5, woRow z k row⟩]) (by rfl) (.tmp 27) (.tmp 31) _ (by rfl) w.heap.size 47 j0 _ 24 Try.underlying46 hj hy0 hy1 hy2 rfl (by decide) slr_one (by rfl) HX.out.2.2.2.2.1 ((HX.out.2.2.1.row.fresh H5.out.2.2.1).alloc _) (by rfl) (At.built w5 _ _ [(⟨A5, c5, woRow z k row⟩ : SlR)] H5.out.2.2.2 (fun _ _ => trivial)) rfl rfl (by omega) (by simp only [maxLen]; omega) (by simp only [World.size_alloc]; omega) ?_; intro A6 c6 w6 ho6 hgr6 hat6; have hXa := ((HX.out.2.1.fresh H5.out.2.2.1).alloc (.cells #[.slice A5 m5 c5] 47)).grown hgr6 (own_ne_ty ((HX.out.2.2.1.row.fresh H5.out.2.2.1).alloc (.cells #[.slice A5 m5 c5] 47)) ((HX.out.2.1.fresh H5.out.2.2.1).alloc (.cells #[.slice A5 m5 c5] 47)) (by decide)); have x7 := hXa.cell 0 (v := .slice HA2 k hc2) rfl; have z7 := hXa.frozen 0
          refine hK.out _ _ ?_ (fun hHeld4 => ?_)
          · first | trivial | ((try dsimp only); (trivial))
          clear hK K hHeld3
          try simp only [Act.put, List.setIfInBounds_toArray, List.set_cons_zero, List.set_cons_succ]
          refine held_take (v := ?_) 7 rfl (by kernel_rfl) (by kernel_rfl) (by kernel_rfl) (fun _ _ _ h => h) (by rfl) ?_ (by assumption) ?_
          rotate_left
          · (intro w hSw; (try dsimp only at hSw); go_simp; try with_reducible rfl)
          try simp only [Act.put, List.setIfInBounds_toArray, List.set_cons_zero, List.set_cons_succ]
          refine held_call 8 (by kernel_rfl) rfl (fun K hK => ?_)
          go_simp
          refine hK.out _ _ ?_ (fun hHeld5 => ?_)
          · first | trivial | ((try dsimp only); (trivial))
          clear hK K hHeld4
          try simp only [Act.put, List.setIfInBounds_toArray, List.set_cons_zero, List.set_cons_succ]
          refine wpAnyH_done (by kernel_rfl) ?_ _
          go_wp2_with fail
          go_roundg (N - (k + 1))
          case measure => omega
          case rel =>
            have hga := (HX.out.2.2.1.fresh H5.out.2.2.1).alloc (.cells #[.slice A5 m5 c5] 47)
            have hpu := hga.push ho6 hgr6 ((H5.out.2.1.base_le (show w.heap.size ≤ wr.heap.size by omega)).alloc _) HX.out.2.2.2.2.2.2.1 (fun g hg e => by
              have h1 : wr.heap.size ≤ g := (H5.out.2.1.lt g hg).1
              have h2 := (HX.out.2.2.1.roots.lt g e).2
              omega)
            have hZa := ((HX.out.2.2.2.2.2.2.2.1.fresh H5.out.2.2.1).alloc (.cells #[.slice A5 m5 c5] 47)).grown hgr6 (own_ne_ty hga.row ((HX.out.2.2.2.2.2.2.2.1.fresh H5.out.2.2.1).alloc (.cells #[.slice A5 m5 c5] 47)) (by decide))
            have hRa := ((HX.out.2.2.2.2.2.2.2.2.fresh H5.out.2.2.1).alloc (.cells #[.slice A5 m5 c5] 47)).grown hgr6 (own_ne_ty hga.row ((HX.out.2.2.2.2.2.2.2.2.fresh H5.out.2.2.1).alloc (.cells #[.slice A5 m5 c5] 47)) (by decide))
            refine ⟨k + 1, by omega, rfl, by go_num, ⟨⟨A6, RA2, c6, rc2, hs ++ [⟨A5, c5, woRow z k row⟩], ?_, hpu.blk hXa (by decide) (by decide) 0 _, by rw [List.map_append, HX.out.2.2.2.1, HX.out.2.2.2.2.2.1]; rfl, by rw [List.length_append, HX.out.2.2.2.2.1]; rfl⟩, hZa.far (by simp only; omega) _, hRa.far (by simp only; omega) _⟩, (((hbl.trans (H5.out.2.2.1.mono hwb)).alloc (by omega) _).grown hgr6 (by simp only [World.size_alloc]; omega) (fun g hg => (HX.out.2.2.1.row.lt g hg).1)).setCell (by simp only; omega) _, by have := hgr6.size; simp at this ⊢; omega⟩
            have := hXa.set_ 0 (.slice A6 (k + 1) c6)
            simpa using this
        · go_simp
          go_at_call 176; refine HX.out.1.mono ?_; rintro e w5 ⟨A5, c5, m5, rfl, hm5, ho5, hb5⟩; have hb5' : Below wr.heap.size wr w5 := undrew hb5; have hs5 : wr.heap.size ≤ w5.heap.size := hb5'.size; have x5 := (HX.out.2.1.fresh hb5').cell 0 (v := .slice HA2 k hc2) rfl; have x6 := ((HX.out.2.1.fresh hb5').alloc (.cells #[.slice A5 m5 c5] 47)).cell 0 (v := .slice HA2 k hc2) rfl; have H5 := Lib.hid (And.intro hm5 (And.intro ho5 (And.intro hb5' (show (#[Value.slice A5 m5 c5] : Array Value).toList = flat [(⟨A5, c5, woRow z k row⟩ : SlR)] by simp [flat, Flat.cells, hm5])))); clear hm5 ho5 hb5 hb5'
          try (go_wp2_with fail)
          refine hK.out _ _ ?_ (fun hHeld1 => ?_)
          · first | trivial | ((try dsimp only); (trivial))
          clear hK K hHeld0
          try simp only [Act.put, List.setIfInBounds_toArray, List.set_cons_zero, List.set_cons_succ]
          refine held_call2 1 5 (by kernel_rfl) rfl rfl (fun K hK => ?_) (fun K hK => ?_)
          · go_simp
            refine hK.out _ _ ?_ (fun hHeld2 => ?_)
            · first | trivial | ((try dsimp only); (trivial))
            clear hK K hHeld1
            try simp only [Act.put, List.setIfInBounds_toArray, List.set_cons_zero, List.set_cons_succ]
            refine held_call 5 (by kernel_rfl) rfl (fun K hK => ?_)
            go_simp
            refine hK.out _ _ ?_ (fun hHeld3 => ?_)
            · first | trivial | ((try dsimp only); (trivial))
            clear hK K hHeld2
            try simp only [Act.put, List.setIfInBounds_toArray, List.set_cons_zero, List.set_cons_succ]
            refine held_call 6 (by kernel_rfl) rfl (fun K hK => ?_)
            refine step_app (α := SlR) (n := k) (m := 1) (nm := k + 1) (r := [⟨A5, c5, woRow z k row⟩]) (by rfl) (.tmp 27) (.tmp 31) _ (by rfl) w.heap.size 47 j0 _ 24 Try.underlying46 hj hy0 hy1 hy2 rfl (by decide) slr_one (by rfl) HX.out.2.2.2.2.1 ((HX.out.2.2.1.row.fresh H5.out.2.2.1).alloc _) (by rfl) (At.built w5 _ _ [(⟨A5, c5, woRow z k row⟩ : SlR)] H5.out.2.2.2 (fun _ _ => trivial)) rfl rfl (by omega) (by simp only [maxLen]; omega) (by simp only [World.size_alloc]; omega) ?_; intro A6 c6 w6 ho6 hgr6 hat6; have hXa := ((HX.out.2.1.fresh H5.out.2.2.1).alloc (.cells #[.slice A5 m5 c5] 47)).grown hgr6 (own_ne_ty ((HX.out.2.2.1.row.fresh H5.out.2.2.1).alloc (.cells #[.slice A5 m5 c5] 47)) ((HX.out.2.1.fresh H5.out.2.2.1).alloc (.cells #[.slice A5 m5 c5] 47)) (by decide)); have x7 := hXa.cell 0 (v := .slice HA2 k hc2) rfl; have z7 := hXa.frozen 0
            refine hK.out _ _ ?_ (fun hHeld4 => ?_)
            · first | trivial | ((try dsimp only); (trivial))
            clear hK K hHeld3
            try simp only [Act.put, List.setIfInBounds_toArray, List.set_cons_zero, List.set_cons_succ]
            refine held_take (v := ?_) 7 rfl (by kernel_rfl) (by kernel_rfl) (by kernel_rfl) (fun _ _ _ h => h) (by rfl) ?_ (by assumption) ?_
            rotate_left
            · (intro w hSw; (try dsimp only at hSw); go_simp; try with_reducible rfl)
            try simp only [Act.put, List.setIfInBounds_toArray, List.set_cons_zero, List.set_cons_succ]
            refine held_call 8 (by kernel_rfl) rfl (fun K hK => ?_)
            go_simp
            refine hK.out _ _ ?_ (fun hHeld5 => ?_)
            · first | trivial | ((try dsimp only); (trivial))
            clear hK K hHeld4
            try simp only [Act.put, List.setIfInBounds_toArray, List.set_cons_zero, List.set_cons_succ]
            refine wpAnyH_done (by kernel_rfl) ?_ _
            go_wp2_with fail
            go_roundg (N - (k + 1))
            case measure => omega
            case rel =>
              have hga := (HX.out.2.2.1.fresh H5.out.2.2.1).alloc (.cells #[.slice A5 m5 c5] 47)
              have hpu := hga.push ho6 hgr6 ((H5.out.2.1.base_le (show w.heap.size ≤ wr.heap.size by omega)).alloc _) HX.out.2.2.2.2.2.2.1 (fun g hg e => by
                have h1 : wr.heap.size ≤ g := (H5.out.2.1.lt g hg).1
                have h2 := (HX.out.2.2.1.roots.lt g e).2
                omega)
              have hZa := ((HX.out.2.2.2.2.2.2.2.1.fresh H5.out.2.2.1).alloc (.cells #[.slice A5 m5 c5] 47)).grown hgr6 (own_ne_ty hga.row ((HX.out.2.2.2.2.2.2.2.1.fresh H5.out.2.2.1).alloc (.cells #[.slice A5 m5 c5] 47)) (by decide))
              have hRa := ((HX.out.2.2.2.2.2.2.2.2.fresh H5.out.2.2.1).alloc (.cells #[.slice A5 m5 c5] 47)).grown hgr6 (own_ne_ty hga.row ((HX.out.2.2.2.2.2.2.2.2.fresh H5.out.2.2.1).alloc (.cells #[.slice A5 m5 c5] 47)) (by decide))
              refine ⟨k + 1, by omega, rfl, by go_num, ⟨⟨A6, RA2, c6, rc2, hs ++ [⟨A5, c5, woRow z k row⟩], ?_, hpu.blk hXa (by decide) (by decide) 0 _, by rw [List.map_append, HX.out.2.2.2.1, HX.out.2.2.2.2.2.1]; rfl, by rw [List.length_append, HX.out.2.2.2.2.1]; rfl⟩, hZa.far (by simp only; omega) _, hRa.far (by simp only; omega) _⟩, (((hbl.trans (H5.out.2.2.1.mono hwb)).alloc (by omega) _).grown hgr6 (by simp only [World.size_alloc]; omega) (fun g hg => (HX.out.2.2.1.row.lt g hg).1)).setCell (by simp only; omega) _, by have := hgr6.size; simp at this ⊢; omega⟩
              have := hXa.set_ 0 (.slice A6 (k + 1) c6)
              simpa using this
          · go_simp
            refine hK.out _ _ ?_ (fun hHeld2 => ?_)
            · first | trivial | ((try dsimp only); (trivial))
            clear hK K hHeld1
            try simp only [Act.put, List.setIfInBounds_toArray, List.set_cons_zero, List.set_cons_succ]
            refine held_call 1 (by kernel_rfl) rfl (fun K hK => ?_)
            go_simp
            refine hK.out _ _ ?_ (fun hHeld3 => ?_)
            · first | trivial | ((try dsimp only); (trivial))
            clear hK K hHeld2
            try simp only [Act.put, List.setIfInBounds_toArray, List.set_cons_zero, List.set_cons_succ]
            refine held_call 6 (by kernel_rfl) rfl (fun K hK => ?_)
            refine step_app (α := SlR) (n := k) (m := 1) (nm := k + 1) (r := [⟨A5, c5, woRow z k row⟩]) (by rfl) (.tmp 27) (.tmp 31) _ (by rfl) w.heap.size 47 j0 _ 24 Try.underlying46 hj hy0 hy1 hy2 rfl (by decide) slr_one (by rfl) HX.out.2.2.2.2.1 ((HX.out.2.2.1.row.fresh H5.out.2.2.1).alloc _) (by rfl) (At.built w5 _ _ [(⟨A5, c5, woRow z k row⟩ : SlR)] H5.out.2.2.2 (fun _ _ => trivial)) rfl rfl (by omega) (by simp only [maxLen]; omega) (by simp only [World.size_alloc]; omega) ?_; intro A6 c6 w6 ho6 hgr6 hat6; have hXa := ((HX.out.2.1.fresh H5.out.2.2.1).alloc (.cells #[.slice A5 m5 c5] 47)).grown hgr6 (own_ne_ty ((HX.out.2.2.1.row.fresh H5.out.2.2.1).alloc (.cells #[.slice A5 m5 c5] 47)) ((HX.out.2.1.fresh H5.out.2.2.1).alloc (.cells #[.slice A5 m5 c5] 47)) (by decide)); have x7 := hXa.cell 0 (v := .slice HA2 k hc2) rfl; have z7 := hXa.frozen 0
            refine hK.out _ _ ?_ (fun hHeld4 => ?_)
            · first | trivial | ((try dsimp only); (trivial))
            clear hK K hHeld3
            try simp only [Act.put, List.setIfInBounds_toArray, List.set_cons_zero, List.set_cons_succ]
            refine held_take (v := ?_) 7 rfl (by kernel_rfl) (by kernel_rfl) (by kernel_rfl) (fun _ _ _ h => h) (by rfl) ?_ (by assumption) ?_
            rotate_left
            · (intro w hSw; (try dsimp only at hSw); go_simp; try with_reducible rfl)
            try simp only [Act.put, List.setIfInBounds_toArray, List.set_cons_zero, List.set_cons_succ]
            refine held_call 8 (by kernel_rfl) rfl (fun K hK => ?_)
            go_simp
            refine hK.out _ _ ?_ (fun hHeld5 => ?_)
            · first | trivial | ((try dsimp only); (trivial))
            clear hK K hHeld4
            try simp only [Act.put, List.setIfInBounds_toArray, List.set_cons_zero, List.set_cons_succ]
            refine wpAnyH_done (by kernel_rfl) ?_ _
            go_wp2_with fail
            go_roundg (N - (k + 1))
            case measure => omega
            case rel =>
              have hga := (HX.out.2.2.1.fresh H5.out.2.2.1).alloc (.cells #[.slice A5 m5 c5] 47)
              have hpu := hga.push ho6 hgr6 ((H5.out.2.1.base_le (show w.heap.size ≤ wr.heap.size by omega)).alloc _) HX.out.2.2.2.2.2.2.1 (fun g hg e => by
                have h1 : wr.heap.size ≤ g := (H5.out.2.1.lt g hg).1
                have h2 := (HX.out.2.2.1.roots.lt g e).2
                omega)
              have hZa := ((HX.out.2.2.2.2.2.2.2.1.fresh H5.out.2.2.1).alloc (.cells #[.slice A5 m5 c5] 47)).grown hgr6 (own_ne_ty hga.row ((HX.out.2.2.2.2.2.2.2.1.fresh H5.out.2.2.1).alloc (.cells #[.slice A5 m5 c5] 47)) (by decide))
              have hRa := ((HX.out.2.2.2.2.2.2.2.2.fresh H5.out.2.2.1).alloc (.cells #[.slice A5 m5 c5] 47)).grown hgr6 (own_ne_ty hga.row ((HX.out.2.2.2.2.2.2.2.2.fresh H5.out.2.2.1).alloc (.cells #[.slice A5 m5 c5] 47)) (by decide))
              refine ⟨k + 1, by omega, rfl, by go_num, ⟨⟨A6, RA2, c6, rc2, hs ++ [⟨A5, c5, woRow z k row⟩], ?_, hpu.blk hXa (by decide) (by decide) 0 _, by rw [List.map_append, HX.out.2.2.2.1, HX.out.2.2.2.2.2.1]; rfl, by rw [List.length_append, HX.out.2.2.2.2.1]; rfl⟩, hZa.far (by simp only; omega) _, hRa.far (by simp only; omega) _⟩, (((hbl.trans (H5.out.2.2.1.mono hwb)).alloc (by omega) _).grown hgr6 (by simp only [World.size_alloc]; omega) (fun g hg => (HX.out.2.2.1.row.lt g hg).1)).setCell (by simp only; omega) _, by have := hgr6.size; simp at this ⊢; omega⟩
              have := hXa.set_ 0 (.slice A6 (k + 1) c6)
              simpa using this
      · have dkz : ((k : Int) == (z : Int)) = false := by simp; omega
        obtain ⟨yat, yl, yw⟩ : At wr wr.heap.size XA (row : List Int) ∧ (row : List Int).length = xn ∧ woRow z k row = stripL z row := ⟨hxat.more (show B ≤ wr.heap.size by omega), hxn, by unfold woRow; rw [if_neg hkz]⟩
        have hcall := strip_any wr.drew wr.heap.size (w.heap.size + 1) z xc xn XA row yat.drew (Nat.le_refl _) yl (by omega) hkeep.out.2.1.drew
        rw [← yw] at hcall
        have HX := Lib.hid (And.intro hcall (And.intro hXb (And.intro hGr (And.intro hmap (And.intro hhl (And.intro htk (And.intro hrowi hkeep.out.2))))))); clear hcall hXb hGr hmap hhl htk hrowi hkeep yat yl yw hxat hx hkz
        go_upto_region 8 with fail
        refine wp_region_held_drew (S := (fun _ => True)) (by kernel_rfl) ?_ (fun hHeld0 => ?_)
        · first | trivial | ((try dsimp only); (trivial))
        refine held_take (v := ?_) 0 rfl (by kernel_rfl) (by kernel_rfl) (by kernel_rfl) (fun _ _ _ h => h) (by rfl) ?_ (by assumption) ?_
        rotate_left
        · (intro w hSw; (try dsimp only at hSw); go_simp; try with_reducible rfl)
        try simp only [Act.put, List.setIfInBounds_toArray, List.set_cons_zero, List.set_cons_succ]
        refine held_take (v := ?_) 2 rfl (by kernel_rfl) (by kernel_rfl) (by kernel_rfl) (fun _ _ _ h => h) (by rfl) ?_ (by assumption) ?_
        rotate_left
        · (intro w hSw; (try dsimp only at hSw); go_simp; try with_reducible rfl)
        try simp only [Act.put, List.setIfInBounds_toArray, List.set_cons_zero, List.set_cons_succ]
        refine held_take (v := ?_) 3 rfl (by kernel_rfl) (by kernel_rfl) (by kernel_rfl) (fun _ _ _ h => h) (by rfl) ?_ (by assumption) ?_
        rotate_left
        · (intro w hSw; (try dsimp only at hSw); go_simp; try with_reducible rfl)
        try simp only [Act.put, List.setIfInBounds_toArray, List.set_cons_zero, List.set_cons_succ]
        refine held_call2 1 4 (by kernel_rfl) rfl rfl (fun K hK => ?_) (fun K hK => ?_)
        · go_simp
          refine hK.out _ _ ?_ (fun hHeld1 => ?_)
          · first | trivial | ((try dsimp only); (trivial))
          clear hK K hHeld0
          try simp only [Act.put, List.setIfInBounds_toArray, List.set_cons_zero, List.set_cons_succ]
          refine held_call 4 (by kernel_rfl) rfl (fun K hK => ?_)
          go_simp
          go_at_call 176; refine HX.out.1.mono ?_; rintro e w5 ⟨A5, c5, m5, rfl, hm5, ho5, hb5⟩; have hb5' : Below wr.heap.size wr w5 := undrew hb5; have hs5 : wr.heap.size ≤ w5.heap.size := hb5'.size; have x5 := (HX.out.2.1.fresh hb5').cell 0 (v := .slice HA2 k hc2) rfl; have x6 := ((HX.out.2.1.fresh hb5').alloc (.cells #[.slice A5 m5 c5] 47)).cell 0 (v := .slice HA2 k hc2) rfl; have H5 := Lib.hid (And.intro hm5 (And.intro ho5 (And.intro hb5' (show (#[Value.slice A5 m5 c5] : Array Value).toList = flat [(⟨A5, c5, woRow z k row⟩ : SlR)] by simp [flat, Flat.cells, hm5])))); clear hm5 ho5 hb5 hb5'
          try (go_wp2_with fail)
          refine hK.out _ _ ?_ (fun hHeld2 => ?_)
          · first | trivial | ((try dsimp only); (trivial))
          clear hK K hHeld1
          try simp only [Act.put, List.setIfInBounds_toArray, List.set_cons_zero, List.set_cons_succ]
          refine held_call 5 (by kernel_rfl) rfl (fun K hK => ?_)
          go_simp
          refine hK.out _ _ ?_ (fun hHeld3 => ?_)
          · first | trivial | ((try dsimp only); (trivial))
          clear hK K hHeld2
          try simp only [Act.put, List.setIfInBounds_toArray, List.set_cons_zero, List.set_cons_succ]
          refine held_call 6 (by kernel_rfl) rfl (fun K hK => ?_)
          refine step_app (α := SlR) (n := k) (m := 1) (nm := k + 1) (r := [⟨A5, c5, woRow z k row⟩]) (by rfl) (.tmp 27) (.tmp 31) _ (by rfl) w.heap.size 47 j0 _ 24 Try.underlying46 hj hy0 hy1 hy2 rfl (by decide) slr_one (by rfl) HX.out.2.2.2.2.1 ((HX.out.2.2.1.row.fresh H5.out.2.2.1).alloc _) (by rfl) (At.built w5 _ _ [(⟨A5, c5, woRow z k row⟩ : SlR)] H5.out.2.2.2 (fun _ _ => trivial)) rfl rfl (by omega) (by simp only [maxLen]; omega) (by simp only [World.size_alloc]; omega) ?_; intro A6 c6 w6 ho6 hgr6 hat6; have hXa := ((HX.out.2.1.fresh H5.out.2.2.1).alloc (.cells #[.slice A5 m5 c5] 47)).grown hgr6 (own_ne_ty ((HX.out.2.2.1.row.fresh H5.out.2.2.1).alloc (.cells #[.slice A5 m5 c5] 47)) ((HX.out.2.1.fresh H5.out.2.2.1).alloc (.cells #[.slice A5 m5 c5] 47)) (by decide)); have x7 := hXa.cell 0 (v := .slice HA2 k hc2) rfl; have z7 := hXa.frozen 0
          refine hK.out _ _ ?_ (fun hHeld4 => ?_)
          · first | trivial | ((try dsimp only); (trivial))
          clear hK K hHeld3
          try simp only [Act.put, List.setIfInBounds_toArray, List.set_cons_zero, List.set_cons_succ]
          refine held_take (v := ?_) 7 rfl (by kernel_rfl) (by kernel_rfl) (by kernel_rfl) (fun _ _ _ h => h) (by rfl) ?_ (by assumption) ?_
          rotate_left
          · (intro w hSw; (try dsimp only at hSw); go_simp; try with_reducible rfl)
          try simp only [Act.put, List.setIfInBounds_toArray, List.set_cons_zero, List.set_cons_succ]
          refine held_call 8 (by kernel_rfl) rfl (fun K hK => ?_)
          go_simp
          refine hK.out _ _ ?_ (fun hHeld5 => ?_)
          · first | trivial | ((try dsimp only); (trivial))
          clear hK K hHeld4
          try simp only [Act.put, List.setIfInBounds_toArray, List.set_cons_zero, List.set_cons_succ]
          refine wpAnyH_done (by kernel_rfl) ?_ _
          go_wp2_with fail
          go_roundg (N - (k + 1))
          case measure => omega
          case rel =>
            have hga := (HX.out.2.2.1.fresh H5.out.2.2.1).alloc (.cells #[.slice A5 m5 c5] 47)
            have hpu := hga.push ho6 hgr6 ((H5.out.2.1.base_le (show w.heap.size ≤ wr.heap.size by omega)).alloc _) HX.out.2.2.2.2.2.2.1 (fun g hg e => by
              have h1 : wr.heap.size ≤ g := (H5.out.2.1.lt g hg).1
              have h2 := (HX.out.2.2.1.roots.lt g e).2
              omega)
            have hZa := ((HX.out.2.2.2.2.2.2.2.1.fresh H5.out.2.2.1).alloc (.cells #[.slice A5 m5 c5] 47)).grown hgr6 (own_ne_ty hga.row ((HX.out.2.2.2.2.2.2.2.1.fresh H5.out.2.2.1).alloc (.cells #[.slice A5 m5 c5] 47)) (by decide))
            have hRa := ((HX.out.2.2.2.2.2.2.2.2.fresh H5.out.2.2.1).alloc (.cells #[.slice A5 m5 c5] 47)).grown hgr6 (own_ne_ty hga.row ((HX.out.2.2.2.2.2.2.2.2.fresh H5.out.2.2.1).alloc (.cells #[.slice A5 m5 c5] 47)) (by decide))
            refine ⟨k + 1, by omega, rfl, by go_num, ⟨⟨A6, RA2, c6, rc2, hs ++ [⟨A5, c5, woRow z k row⟩], ?_, hpu.blk hXa (by decide) (by decide) 0 _, by rw [List.map_append, HX.out.2.2.2.1, HX.out.2.2.2.2.2.1]; rfl, by rw [List.length_append, HX.out.2.2.2.2.1]; rfl⟩, hZa.far (by simp only; omega) _, hRa.far (by simp only; omega) _⟩, (((hbl.trans (H5.out.2.2.1.mono hwb)).alloc (by omega) _).grown hgr6 (by simp only [World.size_alloc]; omega) (fun g hg => (HX.out.2.2.1.row.lt g hg).1)).setCell (by simp only; omega) _, by have := hgr6.size; simp at this ⊢; omega⟩
            have := hXa.set_ 0 (.slice A6 (k + 1) c6)
            simpa using this
        · go_simp
          go_at_call 176; refine HX.out.1.mono ?_; rintro e w5 ⟨A5, c5, m5, rfl, hm5, ho5, hb5⟩; have hb5' : Below wr.heap.size wr w5 := undrew hb5; have hs5 : wr.heap.size ≤ w5.heap.size := hb5'.size; have x5 := (HX.out.2.1.fresh hb5').cell 0 (v := .slice HA2 k hc2) rfl; have x6 := ((HX.out.2.1.fresh hb5').alloc (.cells #[.slice A5 m5 c5] 47)).cell 0 (v := .slice HA2 k hc2) rfl; have H5 := Lib.hid (And.intro hm5 (And.intro ho5 (And.intro hb5' (show (#[Value.slice A5 m5 c5] : Array Value).toList = flat [(⟨A5, c5, woRow z k row⟩ : SlR)] by simp [flat, Flat.cells, hm5])))); clear hm5 ho5 hb5 hb5'
          try (go_wp2_with fail)
          refine hK.out _ _ ?_ (fun hHeld1 => ?_)
          · first | trivial | ((try dsimp only); (trivial))
          clear hK K hHeld0
          try simp only [Act.put, List.setIfInBounds_toArray, List.set_cons_zero, List.set_cons_succ]
          refine held_call2 1 5 (by kernel_rfl) rfl rfl (fun K hK => ?_) (fun K hK => ?_)
          · go_simp
            refine hK.out _ _ ?_ (fun hHeld2 => ?_)
            · first | trivial | ((try dsimp only); (trivial))
            clear hK K hHeld1
            try simp only [Act.put, List.setIfInBounds_toArray, List.set_cons_zero, List.set_cons_succ]
            refine held_call 5 (by kernel_rfl) rfl (fun K hK => ?_)
            go_simp
            refine hK.out _ _ ?_ (fun hHeld3 => ?_)
            · first | trivial | ((try dsimp only); (trivial))
            clear hK K hHeld2
            try simp only [Act.put, List.setIfInBounds_toArray, List.set_cons_zero, List.set_cons_succ]
            refine held_call 6 (by kernel_rfl) rfl (fun K hK => ?_)
            refine step_app (α := SlR) (n := k) (m := 1) (nm := k + 1) (r := [⟨A5, c5, woRow z k row⟩]) (by rfl) (.tmp 27) (.tmp 31) _ (by rfl) w.heap.size 47 j0 _ 24 Try.underlying46 hj hy0 hy1 hy2 rfl (by decide) slr_one (by rfl) HX.out.2.2.2.2.1 ((HX.out.2.2.1.row.fresh H5.out.2.2.1).alloc _) (by rfl) (At.built w5 _ _ [(⟨A5, c5, woRow z k row⟩ : SlR)] H5.out.2.2.2 (fun _ _ => trivial)) rfl rfl (by omega) (by simp only [maxLen]; omega) (by simp only [World.size_alloc]; omega) ?_; intro A6 c6 w6 ho6 hgr6 hat6; have hXa := ((HX.out.2.1.fresh H5.out.2.2.1).alloc (.cells #[.slice A5 m5 c5] 47)).grown hgr6 (own_ne_ty ((HX.out.2.2.1.row.fresh H5.out.2.2.1).alloc (.cells #[.slice A5 m5 c5] 47)) ((HX.out.2.1.fresh H5.out.2.2.1).alloc (.cells #[.slice A5 m5 c5] 47)) (by decide)); have x7 := hXa.cell 0 (v := .slice HA2 k hc2) rfl; have z7 := hXa.frozen 0
            refine hK.out _ _ ?_ (fun hHeld4 => ?_)
            · first | trivial | ((try dsimp only); (trivial))
            clear hK K hHeld3
            try simp only [Act.put, List.setIfInBounds_toArray, List.set_cons_zero, List.set_cons_succ]
            refine held_take (v := ?_) 7 rfl (by kernel_rfl) (by kernel_rfl) (by kernel_rfl) (fun _ _ _ h => h) (by rfl) ?_ (by assumption) ?_
            rotate_left
            · (intro w hSw; (try dsimp only at hSw); go_simp; try with_reducible rfl)
            try simp only [Act.put, List.setIfInBounds_toArray, List.set_cons_zero, List.set_cons_succ]
            refine held_call 8 (by kernel_rfl) rfl (fun K hK => ?_)
            go_simp
            refine hK.out _ _ ?_ (fun hHeld5 => ?_)
            · first | trivial | ((try dsimp only); (trivial))
            clear hK K hHeld4
            try simp only [Act.put, List.setIfInBounds_toArray, List.set_cons_zero, List.set_cons_succ]
            refine wpAnyH_done (by kernel_rfl) ?_ _
            go_wp2_with fail
            go_roundg (N - (k + 1))
            case measure => omega
            case rel =>
              have hga := (HX.out.2.2.1.fresh H5.out.2.2.1).alloc (.cells #[.slice A5 m5 c5] 47)
              have hpu := hga.push ho6 hgr6 ((H5.out.2.1.base_le (show w.heap.size ≤ wr.heap.size by omega)).alloc _) HX.out.2.2.2.2.2.2.1 (fun g hg e => by
                have h1 : wr.heap.size ≤ g := (H5.out.2.1.lt g hg).1
                have h2 := (HX.out.2.2.1.roots.lt g e).2
                omega)
              have hZa := ((HX.out.2.2.2.2.2.2.2.1.fresh H5.out.2.2.1).alloc (.cells #[.slice A5 m5 c5] 47)).grown hgr6 (own_ne_ty hga.row ((HX.out.2.2.2.2.2.2.2.1.fresh H5.out.2.2.1).alloc (.cells #[.slice A5 m5 c5] 47)) (by decide))
              have hRa := ((HX.out.2.2.2.2.2.2.2.2.fresh H5.out.2.2.1).alloc (.cells #[.slice A5 m5 c5] 47)).grown hgr6 (own_ne_ty hga.row ((HX.out.2.2.2.2.2.2.2.2.fresh H5.out.2.2.1).alloc (.cells #[.slice A5 m5 c5] 47)) (by decide))
              refine ⟨k + 1, by omega, rfl, by go_num, ⟨⟨A6, RA2, c6, rc2, hs ++ [⟨A5, c5, woRow z k row⟩], ?_, hpu.blk hXa (by decide) (by decide) 0 _, by rw [List.map_append, HX.out.2.2.2.1, HX.out.2.2.2.2.2.1]; rfl, by rw [List.length_append, HX.out.2.2.2.2.1]; rfl⟩, hZa.far (by simp only; omega) _, hRa.far (by simp only; omega) _⟩, (((hbl.trans (H5.out.2.2.1.mono hwb)).alloc (by omega) _).grown hgr6 (by simp only [World.size_alloc]; omega) (fun g hg => (HX.out.2.2.1.row.lt g hg).1)).setCell (by simp only; omega) _, by have := hgr6.size; simp at this ⊢; omega⟩
              have := hXa.set_ 0 (.slice A6 (k + 1) c6)
              simpa using this
          · go_simp
            refine hK.out _ _ ?_ (fun hHeld2 => ?_)
            · first | trivial | ((try dsimp only); (trivial))
            clear hK K hHeld1
            try simp only [Act.put, List.setIfInBounds_toArray, List.set_cons_zero, List.set_cons_succ]
            refine held_call 1 (by kernel_rfl) rfl (fun K hK => ?_)
            go_simp
            refine hK.out _ _ ?_ (fun hHeld3 => ?_)
            · first | trivial | ((try dsimp only); (trivial))
            clear hK K hHeld2
            try simp only [Act.put, List.setIfInBounds_toArray, List.set_cons_zero, List.set_cons_succ]
            refine held_call 6 (by kernel_rfl) rfl (fun K hK => ?_)
            refine step_app (α := SlR) (n := k) (m := 1) (nm := k + 1) (r := [⟨A5, c5, woRow z k row⟩]) (by rfl) (.tmp 27) (.tmp 31) _ (by rfl) w.heap.size 47 j0 _ 24 Try.underlying46 hj hy0 hy1 hy2 rfl (by decide) slr_one (by rfl) HX.out.2.2.2.2.1 ((HX.out.2.2.1.row.fresh H5.out.2.2.1).alloc _) (by rfl) (At.built w5 _ _ [(⟨A5, c5, woRow z k row⟩ : SlR)] H5.out.2.2.2 (fun _ _ => trivial)) rfl rfl (by omega) (by simp only [maxLen]; omega) (by simp only [World.size_alloc]; omega) ?_; intro A6 c6 w6 ho6 hgr6 hat6; have hXa := ((HX.out.2.1.fresh H5.out.2.2.1).alloc (.cells #[.slice A5 m5 c5] 47)).grown hgr6 (own_ne_ty ((HX.out.2.2.1.row.fresh H5.out.2.2.1).alloc (.cells #[.slice A5 m5 c5] 47)) ((HX.out.2.1.fresh H5.out.2.2.1).alloc (.cells #[.slice A5 m5 c5] 47)) (by decide)); have x7 := hXa.cell 0 (v := .slice HA2 k hc2) rfl; have z7 := hXa.frozen 0
            refine hK.out _ _ ?_ (fun hHeld4 => ?_)
            · first | trivial | ((try dsimp only); (trivial))
            clear hK K hHeld3
            try simp only [Act.put, List.setIfInBounds_toArray, List.set_cons_zero, List.set_cons_succ]
            refine held_take (v := ?_) 7 rfl (by kernel_rfl) (by kernel_rfl) (by kernel_rfl) (fun _ _ _ h => h) (by rfl) ?_ (by assumption) ?_
            rotate_left
            · (intro w hSw; (try dsimp only at hSw); go_simp; try with_reducible rfl)
            try simp only [Act.put, List.setIfInBounds_toArray, List.set_cons_zero, List.set_cons_succ]
            refine held_call 8 (by kernel_rfl) rfl (fun K hK => ?_)
            go_simp
            refine hK.out _ _ ?_ (fun hHeld5 => ?_)
            · first | trivial | ((try dsimp only); (trivial))
            clear hK K hHeld4
            try simp only [Act.put, List.setIfInBounds_toArray, List.set_cons_zero, List.set_cons_succ]
            refine wpAnyH_done (by kernel_rfl) ?_ _
            go_wp2_with fail
            go_roundg (N - (k + 1))
            case measure => omega
            case rel =>
              have hga := (HX.out.2.2.1.fresh H5.out.2.2.1).alloc (.cells #[.slice A5 m5 c5] 47)
              have hpu := hga.push ho6 hgr6 ((H5.out.2.1.base_le (show w.heap.size ≤ wr.heap.size by omega)).alloc _) HX.out.2.2.2.2.2.2.1 (fun g hg e => by
                have h1 : wr.heap.size ≤ g := (H5.out.2.1.lt g hg).1
                have h2 := (HX.out.2.2.1.roots.lt g e).2
                omega)
              have hZa := ((HX.out.2.2.2.2.2.2.2.1.fresh H5.out.2.2.1).alloc (.cells #[.slice A5 m5 c5] 47)).grown hgr6 (own_ne_ty hga.row ((HX.out.2.2.2.2.2.2.2.1.fresh H5.out.2.2.1).alloc (.cells #[.slice A5 m5 c5] 47)) (by decide))
              have hRa := ((HX.out.2.2.2.2.2.2.2.2.fresh H5.out.2.2.1).alloc (.cells #[.slice A5 m5 c5] 47)).grown hgr6 (own_ne_ty hga.row ((HX.out.2.2.2.2.2.2.2.2.fresh H5.out.2.2.1).alloc (.cells #[.slice A5 m5 c5] 47)) (by decide))
              refine ⟨k + 1, by omega, rfl, by go_num, ⟨⟨A6, RA2, c6, rc2, hs ++ [⟨A5, c5, woRow z k row⟩], ?_, hpu.blk hXa (by decide) (by decide) 0 _, by rw [List.map_append, HX.out.2.2.2.1, HX.out.2.2.2.2.2.1]; rfl, by rw [List.length_append, HX.out.2.2.2.2.1]; rfl⟩, hZa.far (by simp only; omega) _, hRa.far (by simp only; omega) _⟩, (((hbl.trans (H5.out.2.2.1.mono hwb)).alloc (by omega) _).grown hgr6 (by simp only [World.size_alloc]; omega) (fun g hg => (HX.out.2.2.1.row.lt g hg).1)).setCell (by simp only; omega) _, by have := hgr6.size; simp at this ⊢; omega⟩
              have := hXa.set_ 0 (.slice A6 (k + 1) c6)
              simpa using this
    · obtain rfl : N = k := by omega
      obtain ⟨⟨HA2, RA2, hc2, rc2, hs, hXb, hGr, hmap, hhl⟩, hZb, hRb⟩ := hkeep.out
      have x0 := hXb.cell 0 (v := .slice HA2 N hc2) rfl
      have x1 := hXb.cell 1 (v := .slice RA2 m rc2) rfl
      have r0 := hRb.cell 0 (v := .slice none 0 0) rfl
      have r1 := hRb.cell 1 (v := .slice none 0 0) rfl
      have z0 := hRb.frozen 0
      have z1 := hRb.frozen 1
      have HB := Lib.hid (And.intro hGr (And.intro hmap hRb)); clear hXb hGr hmap hhl hZb hRb hkeep
      go_wp2_with fail
      refine bodyPost_ret (results_cell1 rfl _ _ (w.heap.size + 2) _ _ _ rfl ((HB.out.2.2.set_ 0 (.slice HA2 N hc2)).set_ 1 (.slice RA2 m rc2)) Try.underlying49 rfl (by kernel_rfl)) rfl ?_
      have e1 : GrS ((wr.setCell ⟨w.heap.size + 2, 0, none⟩ (.slice HA2 N hc2)).setCell ⟨w.heap.size + 2, 1, none⟩ (.slice RA2 m rc2)) w.heap.size HA2 hc2 RA2 rc2 hs (stripL z roots) := (HB.out.1.blk HB.out.2.2 (by decide) (by decide) _ _).blk (HB.out.2.2.set_ 0 _) (by decide) (by decide) _ _
      have e2 := e1.at_
      rw [HB.out.2.1, List.take_of_length_le (by rw [woH_length]; have := HH.out.2.2.1; omega)] at e2
      exact ⟨HA2, RA2, hc2, rc2, m, rfl, e2, e1.roots.at_ (fun x hx => HH.out.2.2.2.2.2.2 x (List.mem_filter.1 hx).1), H1.out.1, (hbl.setCell (by simp only; omega) _).setCell (by simp only; omega) _⟩

end Go.Proofs.Ytpkccpegdpodoaa

/- R.Keeps. -/
namespace Go.Proofs.Ytpkccpegdpodoaa
open Go.RowKit

attribute [local go_sem ↓] Go.wp_at_zero Go.wp_at_succ

def outK (l : List Bool) (k : Nat) : List Bool := l.take k ++ List.replicate (l.length - k) false
theorem outK_length {l : List Bool} {k : Nat} (h : k ≤ l.length) : (outK l k).length = l.length := by unfold outK; rw [List.length_append, List.length_take, List.length_replicate]; omega
theorem outK_zero (l : List Bool) : outK l 0 = List.replicate l.length false := by simp [outK]
theorem outK_all (l : List Bool) : outK l l.length = l := by simp [outK]
theorem outK_step {l : List Bool} {k : Nat} {b : Bool} (h : l[k]? = some b) : outK l (k + 1) = (outK l k).set k b := by
  have hlt := (List.getElem?_eq_some_iff.1 h).1
  unfold outK
  rw [List.take_add_one, h, show l.length - k = (l.length - (k + 1)) + 1 by omega, List.replicate_succ, List.set_append, if_neg (by rw [List.length_take]; omega)]
  rw [List.length_take, Nat.min_eq_left (by omega), Nat.sub_self]
  simp

theorem keep_bool {bz bk tk kb : Bool} {p q r : Prop} (e1 : bz = true ↔ p) (e2 : bk = true ↔ q) (e3 : tk = true ↔ r) (e4 : kb = true ↔ p ∧ q ∧ ¬ r) : (bz && bk && !tk) = kb := by
  rw [← e1, ← e2, ← e3] at e4
  clear e1 e2 e3
  revert e4
  cases bz <;> cases bk <;> cases tk <;> cases kb <;> decide
theorem fromV {has : List (List Int)} {roots : List Int} {m : Nat} {b : Bool} (h : (fromL has roots [])[m]? = some b) : b = true ↔ Vn has roots m := by
  have hlt := (List.getElem?_eq_some_iff.1 h).1
  rw [fromL_length] at hlt
  have := fromL_get has roots [] m
  rw [h] at this
  constructor
  · intro e; subst e; exact (this.1 rfl).2
  · intro hv; have := this.2 ⟨hlt, hv⟩; injection this

set_option maxHeartbeats 6400000 in
set_option maxRecDepth 100000 in
theorem rKeeps_any (B hc rc N rn z : Nat) (HA RA : Option Addr) (has : List (List Int)) (roots : List Int) (w : World) (hh : At w B HA has) (hro : At w B RA roots) (hB : B ≤ w.heap.size) (hN : has.length = N) (hrn : roots.length = rn) (hN2 : N ≤ 100) (hrn2 : rn ≤ 100) (hzN : z < N) (hr : Right has) (hs : RightL has.length roots) (hl10 : ∀ l ∈ has, l.length ≤ 10) :
    Calls Try.prog 49 #[.agg #[.slice HA N hc, .slice RA rn rc], .int .i64 (z : Int)] w fun e w' => (∃ (A : Option Addr) (c : Nat), e = .returned (.slice A N c) ∧ Own w' w.heap.size 4 A c (kpB has roots z)) ∧ Below w.heap.size w w' := by
  have hmk := Go.run_make_row' (P := Try.prog) 60 4 (.bool false) 1 Try.underlying60 infoBool rfl .i64 .i64 N (by omega) (by omega)
  have hri : ∀ x ∈ roots, I64 x := fun x hx => by obtain ⟨j, e, hj⟩ := hs x hx; subst e; exact (by unfold I64; omega : I64 (j : Int))
  have HH := Lib.hid (And.intro hh (And.intro hro (And.intro hN (And.intro hrn (And.intro hr (And.intro hs (And.intro hl10 hri))))))); clear hh hro hN hrn hr hs hl10 hri
  go_enter Try.func49, Try.ntmps49
  go_wp2_with fail
  refine calls_world (fun W => Blk W w.heap.size 49 #[.slice HA N hc, .slice RA rn rc] ∧ Below w.heap.size w W ∧ w.heap.size + 1 ≤ W.heap.size) ⟨Blk.new _ _ _, (Below.refl _ _).alloc (Nat.le_refl _) _, by simp⟩ ?_
  rintro W ⟨hG, hb0, hs0⟩
  have hf1 := rfrom_any B hc rc rc 0 rn HA RA RA none has roots [] W (HH.out.1.below (hb0.mono hB)) (HH.out.2.1.below (hb0.mono hB)) At.nil_ (by omega) HH.out.2.2.2.2.1 HH.out.2.2.2.2.2.1 (fun p hp => by simp at hp) (by have := HH.out.2.2.1; omega) (by have := HH.out.2.2.2.1; omega) (by simp) HH.out.2.2.2.2.2.2.1
  rw [HH.out.2.2.1, HH.out.2.2.2.1] at hf1
  refine hf1.mono ?_
  rintro e w1 ⟨S, sc, rfl, ho1, hb1⟩
  have hs1 := hb1.size
  have hG1 := hG.fresh hb1
  have g0 := hG1.cell 0 (v := .slice HA N hc) rfl
  have g1 := hG1.cell 1 (v := .slice RA rn rc) rfl
  have hbl1 := hb0.trans (hb1.mono (by omega))
  have hwo := without_any B hc rc N rn z HA RA has roots w1 (HH.out.1.below (hbl1.mono hB)) (HH.out.2.1.below (hbl1.mono hB)) (by omega) HH.out.2.2.1 HH.out.2.2.2.1 hN2 hrn2 (by omega) HH.out.2.2.2.2.1 HH.out.2.2.2.2.2.2.1 HH.out.2.2.2.2.2.2.2
  have H1 := Lib.hid (And.intro ho1 (And.intro hG1 (And.intro hbl1 hwo))); clear ho1 hG1 hbl1 hwo hf1 hG
  go_wp2_with fail
  refine H1.out.2.2.2.mono ?_
  rintro e w2 ⟨HA2, RA2, hc2, rc2, m, rfl, hat1, hat2, hm, hb2⟩
  have hs2 := hb2.size
  have hm2 : m ≤ 100 := by have := strip_len z roots; have := HH.out.2.2.2.1; omega
  have H2 := Lib.hid (And.intro hat1 (And.intro hat2 (And.intro hm (And.intro (H1.out.1.fresh hb2) (And.intro (H1.out.2.1.fresh hb2) (H1.out.2.2.1.trans (hb2.mono (by omega)))))))); clear hat1 hat2 hm hb2 g0 g1
  go_upto_region 3 with fail
  refine wp_world (fun V => Blk V w2.heap.size 49 #[.slice HA2 N hc2, .slice RA2 m rc2] ∧ Below w2.heap.size w2 V ∧ w2.heap.size < V.heap.size) ⟨Blk.new _ _ _, (Below.refl _ _).alloc (Nat.le_refl _) _, by simp⟩ ?_
  rintro V ⟨hX, hbV, hsV⟩
  have x0 := hX.cell 0 (v := .slice HA2 N hc2) rfl
  have x1 := hX.cell 1 (v := .slice RA2 m rc2) rfl
  have hf2 := rfrom_any w2.heap.size hc2 rc2 rc2 0 m HA2 RA2 RA2 none (woH z has) (stripL z roots) [] V (H2.out.1.below hbV) (H2.out.2.1.below hbV) At.nil_ (by omega) (wo_right HH.out.2.2.2.2.1) (wo_rightL HH.out.2.2.2.2.2.1) (fun p hp => by simp at hp) (by rw [woH_length]; have := HH.out.2.2.1; omega) (by have := H2.out.2.2.1; omega) (by simp) (wo_long HH.out.2.2.2.2.2.2.1)
  rw [woH_length, HH.out.2.2.1, H2.out.2.2.1] at hf2
  have HX := Lib.hid hf2; clear hf2 hX
  go_wp2_with fail
  refine HX.out.mono ?_
  rintro e w3 ⟨T, tc, rfl, ho3, hb3⟩
  have hs3 := hb3.size
  have hG3 := (H2.out.2.2.2.2.1.fresh hbV).fresh hb3
  have g0 := hG3.cell 0 (v := .slice HA N hc) rfl
  have H3 := Lib.hid (And.intro ho3 (And.intro ((H2.out.2.2.2.1.fresh hbV).fresh hb3) (H2.out.2.2.2.2.2.trans ((hbV.mono (by omega)).trans (hb3.mono (by omega)))))); clear ho3 hb3 hG3 x0 x1
  go_upto_region 5 with fail
  refine wp_world (fun U => Own U w3.heap.size 4 (some ⟨w3.heap.size, 0, none⟩) N (List.replicate N false) ∧ Below w3.heap.size w3 U ∧ w3.heap.size < U.heap.size) ⟨own_made w3 w3.heap.size 4 N (Nat.le_refl _) (by simp only [maxLen]; omega), (Below.refl _ _).alloc (Nat.le_refl _) _, by simp⟩ ?_
  rintro U ⟨hO, hbU, hsU⟩
  have hkl : (kpB has roots z).length = N := by rw [kpB_length]; exact HH.out.2.2.1
  have HO := Lib.hid (And.intro hO hkl); clear hO hkl g0 hmk
  go_wp2_with fail
  go_loopg [27] N (fun gk iv wr => ∃ k : Nat, k ≤ N ∧ gk = N - k ∧ iv = .int .i64 k ∧ Hid (Own wr w3.heap.size 4 (some ⟨w3.heap.size, 0, none⟩) N (outK (kpB has roots z) k)) ∧ Below w3.heap.size w3 wr ∧ w3.heap.size < wr.heap.size)
  case atStart => exact ⟨0, Nat.zero_le _, rfl, rfl, by unfold Hid; rw [outK_zero, HO.out.2]; exact HO.out.1, hbU, hsU⟩
  case round =>
    clear hbU hsU
    obtain ⟨k, hk, rfl, rfl, hkeep, hbl, hsz⟩ := hrel
    by_cases hlt : k < N
    · have hS := H3.out.2.1.fresh hbl
      have hT := H3.out.1.fresh hbl
      have lS : (fromL has roots []).length = N := by rw [fromL_length]; exact HH.out.2.2.1
      have lT : (fromL (woH z has) (stripL z roots) []).length = N := by rw [fromL_length, woH_length]; exact HH.out.2.2.1
      obtain ⟨bz, hbz⟩ : ∃ b, (fromL has roots [])[z]? = some b := ⟨_, List.getElem?_eq_getElem (by omega)⟩
      obtain ⟨bk, hbk⟩ : ∃ b, (fromL has roots [])[k]? = some b := ⟨_, List.getElem?_eq_getElem (by omega)⟩
      obtain ⟨tk, htk⟩ : ∃ b, (fromL (woH z has) (stripL z roots) [])[k]? = some b := ⟨_, List.getElem?_eq_getElem (by omega)⟩
      obtain ⟨kb, hkb⟩ : ∃ b, (kpB has roots z)[k]? = some b := ⟨_, List.getElem?_eq_getElem (by have := HO.out.2; omega)⟩
      obtain ⟨gs, rfl, _, _⟩ := hS.some_ (by omega)
      obtain ⟨gt, rfl, _, _⟩ := hT.some_ (by omega)
      have s0 := hS.cell_bool hbz
      have s1 := hS.cell_bool hbk
      have t0 := hT.cell_bool htk
      have ho := hkeep.out
      have z0 := ho.frozen (g := w3.heap.size) rfl k
      obtain ⟨ob, hob⟩ : ∃ b, (outK (kpB has roots z) k)[k]? = some b := ⟨_, List.getElem?_eq_getElem (by rw [outK_length (by have := HO.out.2; omega)]; have := HO.out.2; omega)⟩
      have o0 := ho.cell_bool hob
      have heq : (bz && bk && !tk) = kb := by
        exact keep_bool (fromV hbz) (fromV hbk) ((fromV htk).trans wo_av) (kpB_get hkb)
      have hset := ho.set_bool (i := k) kb (by rw [outK_length (by have := HO.out.2; omega)]; have := HO.out.2; omega)
      have hst := outK_step hkb
      have k0 : (0 : Int) ≤ (k : Int) := by omega
      have k1 : (k : Int) < (N : Int) := by omega
      have zz0 : (0 : Int) ≤ (z : Int) := by omega
      have zz1 : (z : Int) < (N : Int) := by omega
      have HX2 := Lib.hid (And.intro hset (And.intro hst heq)); clear hset hst heq hkeep hS hT lS lT hbz hbk htk hkb ho hob
      cases bz with
      | false =>
        go_wp2_with fail
        go_roundg (N - (k + 1))
        case measure => omega
        case rel => exact ⟨k + 1, by omega, rfl, by go_num, by unfold Hid; rw [HX2.out.2.1]; have := HX2.out.1; rw [← HX2.out.2.2] at this ⊢; exact this, hbl.setCell (Nat.le_refl _) _, by simpa using hsz⟩
      | true =>
        cases bk with
        | false =>
          go_wp2_with fail
          go_roundg (N - (k + 1))
          case measure => omega
          case rel => exact ⟨k + 1, by omega, rfl, by go_num, by unfold Hid; rw [HX2.out.2.1]; have := HX2.out.1; rw [← HX2.out.2.2] at this ⊢; exact this, hbl.setCell (Nat.le_refl _) _, by simpa using hsz⟩
        | true =>
          cases tk with
          | false =>
            go_wp2_with fail
            go_roundg (N - (k + 1))
            case measure => omega
            case rel => exact ⟨k + 1, by omega, rfl, by go_num, by unfold Hid; rw [HX2.out.2.1]; have := HX2.out.1; rw [← HX2.out.2.2] at this ⊢; exact this, hbl.setCell (Nat.le_refl _) _, by simpa using hsz⟩
          | true =>
            go_wp2_with fail
            go_roundg (N - (k + 1))
            case measure => omega
            case rel => exact ⟨k + 1, by omega, rfl, by go_num, by unfold Hid; rw [HX2.out.2.1]; have := HX2.out.1; rw [← HX2.out.2.2] at this ⊢; exact this, hbl.setCell (Nat.le_refl _) _, by simpa using hsz⟩
    · obtain rfl : N = k := by omega
      have hk2 := hkeep.out
      rw [← HO.out.2, outK_all] at hk2
      have HX2 := Lib.hid hk2; clear hk2 hkeep
      go_wp2_with fail
      go_ret
      refine ⟨⟨some ⟨w3.heap.size, 0, none⟩, N, rfl, ?_⟩, H3.out.2.2.trans (hbl.mono (by omega))⟩
      have := HX2.out.base_le (show w.heap.size ≤ w3.heap.size by omega)
      rw [HO.out.2] at this
      exact this

end Go.Proofs.Ytpkccpegdpodoaa

/- R.Dom. -/
namespace Go.Proofs.Ytpkccpegdpodoaa
open Go.RowKit

attribute [local go_sem ↓] Go.wp_at_zero Go.wp_at_succ

theorem Ch.comp {d : List Int} {x : Int} {p q : Nat} (h : Ch d x p) (hq : Ch d (p : Int) q) : Ch d x q := by
  induction h with
  | top => exact .top
  | here => exact hq
  | up h1 _ ih => exact .up h1 (ih hq)
theorem Dv.lin {N : Nat} {V : Nat → Prop} {fr : Nat → Int → Prop} {pl : Nat → Nat} {SD : Nat → Nat → Prop} {d : List Int} {i : Nat} (h : Dv N V fr pl SD d i) {x : Int} {p q : Nat} (hx : Ok V d x) (hp : Ch d x p) (hq : Ch d x q) : Ch d (p : Int) q ∨ Ch d (q : Int) p := by
  induction hp with
  | top => rcases hx with e | ⟨n, e, -⟩ <;> omega
  | here => exact .inl hq
  | @up m z b h1 h2 ih =>
    rcases hx with e | ⟨n, e, hv, hd⟩
    · omega
    · obtain rfl : m = n := by omega
      rcases hq.cases_ with e2 | ⟨b', hb', hq2⟩
      · subst e2; exact .inr (.up h1 h2)
      · rw [h1] at hb'; injection hb' with hb'; subst hb'
        exact ih (h.ok_up h1 hv hd).1 hq2

section
variable {has : List (List Int)} {roots ORD d : List Int}
theorem KT.trans_ (h : KT has roots ORD d) {a b c : Nat} (h1 : Kp has roots a b) (h2 : Kp has roots b c) : Kp has roots a c :=
  (h.kp c a h2.2.1).1 (((h.kp c b h2.2.1).2 h2).comp ((h.kp b a h1.2.1).2 h1))
theorem KT.total (h : KT has roots ORD d) {a b n : Nat} (h1 : Kp has roots a n) (h2 : Kp has roots b n) : Kp has roots a b ∨ Kp has roots b a := by
  rcases h.dv.lin (h.ok h1.2.1) ((h.kp n a h1.2.1).2 h1) ((h.kp n b h2.2.1).2 h2) with h3 | h3
  · exact .inr ((h.kp a b h1.1).1 h3)
  · exact .inl ((h.kp b a h2.1).1 h3)
theorem kp_refl {a : Nat} (h : Vn has roots a) : Kp has roots a a := ⟨h, h, fun hh => av_ne hh rfl⟩
/-- the nearest so far -/
def DomK (has : List (List Int)) (roots : List Int) (n j : Nat) (x : Int) : Prop :=
  (x = -1 ∧ ∀ k, k < j → ¬ SDn has roots k n) ∨ ∃ b : Nat, x = (b : Int) ∧ b < j ∧ SDn has roots b n ∧ ∀ k, k < j → SDn has roots k n → Kp has roots k b
theorem DomK.zero {n : Nat} : DomK has roots n 0 (-1) := .inl ⟨rfl, fun k h => absurd h (by omega)⟩
theorem DomK.no {n j : Nat} {x : Int} (h : DomK has roots n j x) (hj : ¬ SDn has roots j n) : DomK has roots n (j + 1) x := by
  have step : ∀ k, k < j + 1 → SDn has roots k n → k < j := fun k hk hs => by
    by_cases e : k = j
    · subst e; exact absurd hs hj
    · omega
  rcases h with ⟨e, h1⟩ | ⟨b, e, hb, h1, h2⟩
  · exact .inl ⟨e, fun k hk hs => h1 k (step k hk hs) hs⟩
  · exact .inr ⟨b, e, by omega, h1, fun k hk hs => h2 k (step k hk hs) hs⟩
theorem DomK.first {n j : Nat} (h : DomK has roots n j (-1)) (hj : SDn has roots j n) : DomK has roots n (j + 1) (j : Int) := by
  rcases h with ⟨-, h1⟩ | ⟨b, e, -⟩
  · refine .inr ⟨j, rfl, by omega, hj, fun k hk hs => ?_⟩
    by_cases e : k = j
    · subst e; exact kp_refl hs.1.1
    · exact absurd hs (h1 k (by omega))
  · omega
theorem DomK.take (ht : KT has roots ORD d) {n j b : Nat} (h : DomK has roots n j (b : Int)) (hj : SDn has roots j n) (hb : Kp has roots b j) : DomK has roots n (j + 1) (j : Int) := by
  rcases h with ⟨e, -⟩ | ⟨b', e, hb', h1, h2⟩
  · omega
  · obtain rfl : b = b' := by omega
    refine .inr ⟨j, rfl, by omega, hj, fun k hk hs => ?_⟩
    by_cases e : k = j
    · subst e; exact kp_refl hs.1.1
    · exact ht.trans_ (h2 k (by omega) hs) hb
theorem DomK.leave (ht : KT has roots ORD d) {n j b : Nat} (h : DomK has roots n j (b : Int)) (hj : SDn has roots j n) (hb : ¬ Kp has roots b j) : DomK has roots n (j + 1) (b : Int) := by
  rcases h with ⟨e, -⟩ | ⟨b', e, hb', h1, h2⟩
  · omega
  · obtain rfl : b = b' := by omega
    refine .inr ⟨b, rfl, by omega, h1, fun k hk hs => ?_⟩
    by_cases e : k = j
    · subst e
      rcases ht.total hs.1 h1.1 with h3 | h3
      · exact h3
      · exact absurd h3 hb
    · exact h2 k (by omega) hs
theorem DomK.whole (ht : KT has roots ORD d) (hg : Gf has.length (Vn has roots) (Frn has roots) (plO ORD)) {n : Nat} {x dn : Int} (hn : Vn has roots n) (hd : d[n]? = some dn) (h : DomK has roots n has.length x) : x = dn := by
  obtain ⟨hok, hlt⟩ := ht.dv.ok_up hd hn (ht.done n hn)
  have sd_ch : ∀ k, SDn has roots k n → Ch d dn k := fun k hk => by
    rcases ((ht.kp n k hn).2 hk.1).cases_ with e | ⟨b, hb, h2⟩
    · exact absurd e hk.2
    · rw [hd] at hb; injection hb with hb; subst hb; exact h2
  rcases hok with e | ⟨c, e, hc, hcd⟩
  · subst e
    rcases h with ⟨e2, -⟩ | ⟨b, -, -, h1, -⟩
    · exact e2
    · exact absurd (sd_ch b h1) (fun hh => hh.nobody)
  · subst e
    have hcn : SDn has roots c n := ⟨(ht.kp n c hn).1 (.up hd .here), fun e => by have := hlt c rfl; subst e; omega⟩
    have hcN := hg.lt c hc
    rcases h with ⟨-, h1⟩ | ⟨b, e2, -, h1, h2⟩
    · exact absurd hcn (h1 c hcN)
    · have h3 := h2 c hcN hcn
      have h4 := sd_ch b h1
      have h5 := (ht.dv.chain h4 (ht.ok hc)).2.2 c rfl
      have hb := h1.1.1
      have h6 := (ht.dv.chain ((ht.kp b c hb).2 h3) (ht.ok hb)).2.2 b rfl
      rw [e2, hg.inj b c hb hc (by omega)]
end

set_option maxHeartbeats 6400000 in
set_option maxRecDepth 100000 in
theorem rDom_any (B hc rc N rn n : Nat) (HA RA : Option Addr) (has : List (List Int)) (roots ORD d : List Int) (dn : Int) (w : World) (hh : At w B HA has) (hro : At w B RA roots) (hB : B ≤ w.heap.size) (hN : has.length = N) (hrn : roots.length = rn) (hN2 : N ≤ 100) (hrn2 : rn ≤ 100) (hnN : n < N) (hr : Right has) (hs : RightL has.length roots) (hl10 : ∀ l ∈ has, l.length ≤ 10)
    (ht : KT has roots ORD d) (hg : Gf has.length (Vn has roots) (Frn has roots) (plO ORD)) (hd : d[n]? = some dn) :
    Calls Try.prog 48 #[.agg #[.slice HA N hc, .slice RA rn rc], .int .i64 (n : Int)] w fun e w' => e = .returned (.int .i64 dn) ∧ Below w.heap.size w w' := by
  have HH := Lib.hid (And.intro hh (And.intro hro (And.intro hN (And.intro hrn (And.intro hr (And.intro hs hl10)))))); clear hh hro hN hrn hr hs hl10
  have HT := Lib.hid (And.intro ht (And.intro hg hd)); clear ht hg hd
  go_enter Try.func48, Try.ntmps48
  go_wp2_with fail
  refine calls_world (fun W => Blk W w.heap.size 49 #[.slice HA N hc, .slice RA rn rc] ∧ Below w.heap.size w W ∧ w.heap.size + 1 ≤ W.heap.size) ⟨Blk.new _ _ _, (Below.refl _ _).alloc (Nat.le_refl _) _, by simp⟩ ?_
  rintro W ⟨hG, hb0, hs0⟩
  have hf1 := rfrom_any B hc rc rc 0 rn HA RA RA none has roots [] W (HH.out.1.below (hb0.mono hB)) (HH.out.2.1.below (hb0.mono hB)) At.nil_ (by omega) HH.out.2.2.2.2.1 HH.out.2.2.2.2.2.1 (fun p hp => by simp at hp) (by have := HH.out.2.2.1; omega) (by have := HH.out.2.2.2.1; omega) (by simp) HH.out.2.2.2.2.2.2
  rw [HH.out.2.2.1, HH.out.2.2.2.1] at hf1
  refine hf1.mono ?_
  rintro e w1 ⟨S, sc, rfl, ho1, hb1⟩
  have hs1 := hb1.size
  have hG1 := hG.fresh hb1
  have g0 := hG1.cell 0 (v := .slice HA N hc) rfl
  have g1 := hG1.cell 1 (v := .slice RA rn rc) rfl
  have hbl1 := hb0.trans (hb1.mono (by omega))
  have lS : (fromL has roots []).length = N := by rw [fromL_length]; exact HH.out.2.2.1
  obtain ⟨bn, hbn⟩ : ∃ b, (fromL has roots [])[n]? = some b := ⟨_, List.getElem?_eq_getElem (by omega)⟩
  obtain ⟨gs, rfl, _, _⟩ := ho1.some_ (by omega)
  have s0 := ho1.cell_bool hbn
  have n0 : (0 : Int) ≤ (n : Int) := by omega
  have n1 : (n : Int) < (N : Int) := by omega
  have hbV := fromV hbn
  have H1 := Lib.hid (And.intro hG1 (And.intro hbl1 hbV)); clear hG hG1 hbl1 hbV hbn ho1 hf1 lS
  cases bn with
  | false =>
    have hnv : ¬ Vn has roots n := fun h => by have := H1.out.2.2.2 h; cases this
    have hdn : dn = -2 := by have := HT.out.1.dv.out n hnv (by have := HH.out.2.2.1; omega); rw [HT.out.2.2] at this; injection this
    subst hdn
    clear hnv
    go_wp2_with fail
    go_ret
    exact ⟨rfl, H1.out.2.1⟩
  | true =>
    have hnv : Vn has roots n := H1.out.2.2.1 rfl
    have HV := Lib.hid hnv; clear hnv
    go_wp2_with fail
    clear s0 g0 g1
    go_loopg [5, 18] N (fun gk xv iv wr => ∃ (k : Nat) (x : Int), k ≤ N ∧ gk = N - k ∧ iv = .int .i64 k ∧ xv = .int .i64 x ∧ Hid (DomK has roots n k x) ∧ Below w1.heap.size w1 wr)
    case atStart => exact ⟨0, -1, Nat.zero_le _, rfl, rfl, rfl, DomK.zero, Below.refl _ _⟩
    case round =>
      obtain ⟨k, x, hk, rfl, rfl, rfl, hkeep, hbl⟩ := hrel
      have hsz := hbl.size
      by_cases hlt : k < N
      · have hGw := H1.out.1.fresh hbl
        have g0 := hGw.cell 0 (v := .slice HA N hc) rfl
        have g1 := hGw.cell 1 (v := .slice RA rn rc) rfl
        have hbw : Below w.heap.size w wr := H1.out.2.1.trans (hbl.mono (by omega))
        have k0 : (0 : Int) ≤ (k : Int) := by omega
        have k1 : (k : Int) < (N : Int) := by omega
        by_cases hkn : k = n
        · have hno : ¬ SDn has roots k n := fun h => h.2 hkn
          have HX := Lib.hid (hkeep.out.no hno)
          have dk : ((k : Int) == (n : Int)) = true := by simp [hkn]
          clear hkeep hno hkn hGw
          go_wp2_with fail
          go_roundg (N - (k + 1))
          case measure => omega
          case rel => exact ⟨k + 1, x, by omega, rfl, by go_num, rfl, HX.out, hbl⟩
        · have dk : ((k : Int) == (n : Int)) = false := by simp; omega
          have keepc : ∀ (V : World) (m : Nat), m < N → Below w.heap.size w V → Calls Try.prog 49 #[.agg #[.slice HA N hc, .slice RA rn rc], .int .i64 (m : Int)] V fun e w' => (∃ (A : Option Addr) (c : Nat), e = .returned (.slice A N c) ∧ Own w' V.heap.size 4 A c (kpB has roots m)) ∧ Below V.heap.size V w' := fun V m hm hb =>
            rKeeps_any B hc rc N rn m HA RA has roots V (HH.out.1.below (hb.mono hB)) (HH.out.2.1.below (hb.mono hB)) (by have := hb.size; omega) HH.out.2.2.1 HH.out.2.2.2.1 hN2 hrn2 hm HH.out.2.2.2.2.1 HH.out.2.2.2.2.2.1 HH.out.2.2.2.2.2.2
          have HK := Lib.hid (And.intro hkeep.out (And.intro keepc (And.intro hkn hGw))); clear hkeep keepc hkn hGw
          go_wp2_with fail
          refine (HK.out.2.1 wr k hlt hbw).mono ?_
          rintro e w2 ⟨⟨KA, kc, rfl, ho2⟩, hb2⟩
          have hs2 := hb2.size
          have lK : (kpB has roots k).length = N := by rw [kpB_length]; exact HH.out.2.2.1
          obtain ⟨bk, hbk⟩ : ∃ b, (kpB has roots k)[n]? = some b := ⟨_, List.getElem?_eq_getElem (by omega)⟩
          obtain ⟨gk2, rfl, _, _⟩ := ho2.some_ (by omega)
          have q0 := ho2.cell_bool hbk
          have hkp := kpB_get hbk
          have hG2 := HK.out.2.2.2.fresh hb2
          have e0 := hG2.cell 0 (v := .slice HA N hc) rfl
          have e1 := hG2.cell 1 (v := .slice RA rn rc) rfl
          have hbw2 : Below w.heap.size w w2 := hbw.trans (hb2.mono (by have := hbw.size; omega))
          have hbl2 : Below w1.heap.size w1 w2 := hbl.trans (hb2.mono (by omega))
          have H2 := Lib.hid (And.intro hkp hG2); clear hkp hG2 ho2 hb2 hbk lK g0 g1
          cases bk with
          | false =>
            have hno : ¬ SDn has roots k n := fun h => by have := H2.out.1.2 h.1; cases this
            have HX := Lib.hid (HK.out.1.no hno); clear hno
            go_wp2_with fail
            go_roundg (N - (k + 1))
            case measure => omega
            case rel => exact ⟨k + 1, x, by omega, rfl, by go_num, rfl, HX.out, hbl2⟩
          | true =>
            have hsd : SDn has roots k n := ⟨H2.out.1.1 rfl, HK.out.2.2.1⟩
            have hx2 := HK.out.1
            rcases HK.out.1 with ⟨rfl, -⟩ | ⟨b, rfl, hbk2, -, -⟩
            · have HX := Lib.hid (hx2.first hsd); clear hx2 hsd
              go_wp2_with fail
              go_roundg (N - (k + 1))
              case measure => omega
              case rel => exact ⟨k + 1, (k : Int), by omega, rfl, by go_num, rfl, HX.out, hbl2⟩
            · have db : ¬ (b : Int) < 0 := by omega
              have HS := Lib.hid (And.intro hx2 hsd); clear hx2 hsd
              go_wp2_with fail
              refine (HK.out.2.1 w2 b (by omega) hbw2).mono ?_
              rintro e w3 ⟨⟨LA, lc, rfl, ho3⟩, hb3⟩
              have hs3 := hb3.size
              have lK : (kpB has roots b).length = N := by rw [kpB_length]; exact HH.out.2.2.1
              obtain ⟨bb, hbb⟩ : ∃ bb, (kpB has roots b)[k]? = some bb := ⟨_, List.getElem?_eq_getElem (by omega)⟩
              obtain ⟨gl, rfl, _, _⟩ := ho3.some_ (by omega)
              have l0 := ho3.cell_bool hbb
              have hkp3 := kpB_get hbb
              have hbl3 : Below w1.heap.size w1 w3 := hbl2.trans (hb3.mono (by omega))
              have H3 := Lib.hid hkp3; clear hkp3 ho3 hb3 hbb lK e0 e1
              cases bb with
              | true =>
                have HX := Lib.hid (HS.out.1.take HT.out.1 HS.out.2 (H3.out.1 rfl))
                go_wp2_with fail
                go_roundg (N - (k + 1))
                case measure => omega
                case rel => exact ⟨k + 1, (k : Int), by omega, rfl, by go_num, rfl, HX.out, hbl3⟩
              | false =>
                have HX := Lib.hid (HS.out.1.leave HT.out.1 HS.out.2 (fun h => by have := H3.out.2 h; cases this))
                go_wp2_with fail
                go_roundg (N - (k + 1))
                case measure => omega
                case rel => exact ⟨k + 1, (b : Int), by omega, rfl, by go_num, rfl, HX.out, hbl3⟩
      · obtain rfl : N = k := by omega
        have hk2 := hkeep.out
        rw [← HH.out.2.2.1] at hk2
        have hxe := hk2.whole HT.out.1 HT.out.2.1 HV.out HT.out.2.2
        subst hxe
        clear hk2 hkeep
        go_wp2_with fail
        go_ret
        exact ⟨rfl, H1.out.2.1.trans (hbl.mono (by omega))⟩

end Go.Proofs.Ytpkccpegdpodoaa

/- owns.Sizes; the closed fact 'owned'. -/
namespace Go.Proofs.Ytpkccpegdpodoaa
open Go.RowKit

attribute [local go_sem ↓] Go.wp_at_zero Go.wp_at_succ

/-- how many each keeps -/
noncomputable def sizL (has : List (List Int)) (roots : List Int) : List Int := (List.range has.length).map fun m => ((rising (kpB has roots m)).length : Int)
theorem sizL_length (has : List (List Int)) (roots : List Int) : (sizL has roots).length = has.length := by simp [sizL]
theorem sizL_get {has : List (List Int)} {roots : List Int} {m : Nat} (h : m < has.length) : (sizL has roots)[m]? = some ((rising (kpB has roots m)).length : Int) := by unfold sizL; rw [List.getElem?_map, List.getElem?_range h]; rfl
theorem szL_kp {has : List (List Int)} {roots ORD d : List Int} {pl : Nat → Nat} (ht : KT has roots ORD d) : szL has.length (Vn has roots) (plO ORD) d 0 = sizL has roots := by
  unfold szL sizL
  apply List.map_congr_left
  intro m hm
  have h1 : cnt has.length (Sz (Vn has roots) (plO ORD) d 0 m) = cnt has.length (Kp has roots m) := cnt_congr fun j => by
    rw [Sz.bottom ht.dv ht.done]
    constructor
    · rintro ⟨hj, -, hc⟩; exact (ht.kp j m hj).1 hc
    · intro hk; exact ⟨hk.2.1, hk.1, (ht.kp j m hk.2.1).2 hk⟩
  have h2 : (rising (kpB has roots m)).length = cnt has.length (Kp has roots m) := by
    rw [← kpK_rising]
    unfold kpK cnt
    rw [List.length_map]
  rw [h1, h2]

def SzPost (has : List (List Int)) (roots : List Int) (w : World) (e : Ending) (w' : World) : Prop :=
  Below w.heap.size w w' ∧ ((grErr has roots = 0 ∧ ∃ (A : Option Addr) (c : Nat), e = .returned (.tuple #[.slice A has.length c, .int .i64 0]) ∧ Own w' w.heap.size 3 A c (sizL has roots)) ∨
    (grErr has roots ≠ 0 ∧ e = .returned (.tuple #[.slice none 0 0, .int .i64 (grErr has roots)])))

set_option maxHeartbeats 1600000 in
set_option maxRecDepth 100000 in
theorem oSizes_any (B hc rc : Nat) (HA RA : Option Addr) (has : List (List Int)) (roots : List Int) (w : World) (hh : At w B HA has) (hro : At w B RA roots) (hB : B ≤ w.heap.size) (hl : has.length ≤ 9223372036854775807) (hrl : roots.length ≤ 9223372036854775807) (hrc : roots.length ≤ rc ∧ rc ≤ maxLen) :
    Calls Try.prog 46 #[.agg #[.slice HA has.length hc, .slice RA roots.length rc]] w (SzPost has roots w) := by
  obtain ⟨P, hP⟩ : ∃ P, SzPost has roots w = P := ⟨_, rfl⟩
  have HP := Lib.hid hP
  rw [hP]; clear hP
  have HH := Lib.hid (And.intro hh hro); clear hh hro
  go_enter Try.func46, Try.ntmps46
  go_wp2_with fail
  refine calls_world (fun W => Blk W w.heap.size 49 #[.slice HA has.length hc, .slice RA roots.length rc] ∧ Below w.heap.size w W ∧ w.heap.size + 1 ≤ W.heap.size) ⟨Blk.new _ _ _, (Below.refl _ _).alloc (Nat.le_refl _) _, by simp⟩ ?_
  rintro W ⟨hG, hb0, hs0⟩
  refine (wcheck_any B hc rc HA RA has roots W (HH.out.1.below (hb0.mono hB)) (HH.out.2.below (hb0.mono hB)) (by omega) hl hrl hrc).mono ?_
  rintro e w1 ⟨rfl, hb1⟩
  have hbl1 := hb0.trans (hb1.mono (by omega))
  have hs1 := hb1.size
  have hG1 := hG.fresh hb1
  have g0 := hG1.cell 0 (v := .slice HA has.length hc) rfl
  have g1 := hG1.cell 1 (v := .slice RA roots.length rc) rfl
  clear hG hG1
  obtain ⟨ge, hge⟩ : ∃ ge, grErr has roots = ge := ⟨_, rfl⟩
  rw [hge]
  by_cases h0 : ge = 0
  rotate_left
  · have hne : (ge != 0) = true := by simp [h0]
    have HE := Lib.hid (And.intro hge h0); clear hge h0
    go_wp2_with fail
    rw [← HP.out]
    exact ⟨hbl1, .inr ⟨by rw [HE.out.1]; exact HE.out.2, by rw [HE.out.1]; rfl⟩⟩
  subst h0
  obtain ⟨gl, grl, ghl, gright, gsrc⟩ := grErr_ok hge
  have HD := Lib.hid (doms_any B hc rc roots.length HA RA has roots w1 (HH.out.1.below (hbl1.mono hB)) (HH.out.2.below (hbl1.mono hB)) (by omega) gright gsrc gl rfl grl ghl)
  have HE := Lib.hid hge; clear hge gright gsrc ghl
  go_wp2_with fail
  refine HD.out.mono ?_
  rintro e w2 ⟨⟨T, PL, ORD, FR, d, rfl, hR, hTD, hd, hall, hfix⟩, hb2⟩
  have hs2 := hb2.size
  have hkt := KT.of hR hd hall hfix
  have HS := Lib.hid (And.intro (sizes_any has roots PL ORD d FR hR hkt w1.heap.size T has.length rfl _ _ w2 hTD) (And.intro hkt (hbl1.trans (hb2.mono (by omega))))); clear hR hTD hd hall hfix hkt
  go_wp2_with fail
  refine HS.out.1.mono ?_
  rintro e w3 ⟨⟨A, c, rfl, ho3⟩, hb3⟩
  rw [szL_kp (pl := plO ORD) HS.out.2.1] at ho3
  have H3 := Lib.hid (And.intro (ho3.base_le (show w.heap.size ≤ w2.heap.size by omega)) (HS.out.2.2.trans (hb3.mono (by omega)))); clear ho3 hb3
  go_wp2_with fail
  rw [← HP.out]
  exact ⟨H3.out.2, .inl ⟨HE.out, A, c, rfl, H3.out.1⟩⟩

/-! ### the closed fact -/
theorem av_none {has : List (List Int)} {z : Nat} : ∀ {k : Nat}, ¬ Av has [(z : Int)] z k := fun h => by
  induction h with
  | root h1 h2 => simp at h1; omega
  | edge _ _ _ _ ih => exact ih
def gO : List (List Int) := [[1, 2], [3], [3], [], []]
theorem vO {k : Nat} : Vn gO [0] k ↔ k < 4 := by
  constructor
  · intro h
    induction h with
    | @root n h => simp at h; omega
    | @edge n k l h1 h2 h3 ih =>
      unfold gO at h2
      match n, h2 with
      | 0, h2 => simp at h2; subst h2; simp at h3; omega
      | 1, h2 => simp at h2; subst h2; simp at h3; omega
      | 2, h2 => simp at h2; subst h2; simp at h3; omega
      | 3, h2 => simp at h2; subst h2; simp at h3
      | 4, h2 => simp at h2; subst h2; simp at h3
      | n + 5, h2 => simp at h2
    | pair _ h => simp at h
  · intro h
    have v0 : Vn gO [0] 0 := .root (by simp)
    have v1 : Vn gO [0] 1 := .edge v0 (l := [1, 2]) rfl (by simp)
    have v2 : Vn gO [0] 2 := .edge v0 (l := [1, 2]) rfl (by simp)
    have v3 : Vn gO [0] 3 := .edge v1 (l := [3]) rfl (by simp)
    match k, h with
    | 0, _ => exact v0
    | 1, _ => exact v1
    | 2, _ => exact v2
    | 3, _ => exact v3
    | k + 4, h => omega
theorem av01 {z : Nat} (h : z ≠ 0) (h1 : z ≠ 1) : Av gO [0] z 1 := .edge (.root (by simp) (Ne.symm h)) (l := [1, 2]) rfl (by simp) (Ne.symm h1)
theorem av02 {z : Nat} (h : z ≠ 0) (h1 : z ≠ 2) : Av gO [0] z 2 := .edge (.root (by simp) (Ne.symm h)) (l := [1, 2]) rfl (by simp) (Ne.symm h1)
theorem av03 {z : Nat} (h : z ≠ 0) (h1 : z ≠ 3) : Av gO [0] z 3 := by
  by_cases e : z = 1
  · subst e; exact .edge (av02 (by omega) (by omega)) (l := [3]) rfl (by simp) (by omega)
  · exact .edge (av01 h e) (l := [3]) rfl (by simp) (Ne.symm h1)
/-- who is nearest is told by those that keep -/
theorem KT.get0 {has : List (List Int)} {roots ORD d : List Int} (ht : KT has roots ORD d) {m : Nat} (hm : Vn has roots m) (h : ∀ z, ¬ SDn has roots z m) {u : Int} (hu : d[m]? = some u) : u = -1 := by
  obtain ⟨hok, hlt⟩ := ht.dv.ok_up hu hm (ht.done m hm)
  rcases hok with e | ⟨c, e, hc, -⟩
  · exact e
  · subst e
    exact absurd ⟨(ht.kp m c hm).1 (.up hu .here), fun e => by have := hlt c rfl; subst e; omega⟩ (h c)
theorem KT.get1 {has : List (List Int)} {roots ORD d : List Int} (ht : KT has roots ORD d) {m b : Nat} (hm : Vn has roots m) (hb : SDn has roots b m) (h : ∀ z, SDn has roots z m → z = b) {u : Int} (hu : d[m]? = some u) : u = (b : Int) := by
  obtain ⟨hok, hlt⟩ := ht.dv.ok_up hu hm (ht.done m hm)
  rcases hok with e | ⟨c, e, hc, -⟩
  · subst e
    rcases ((ht.kp m b hm).2 hb.1).cases_ with e2 | ⟨b', hb', h2⟩
    · exact absurd e2 hb.2
    · rw [hu] at hb'; injection hb' with hb'; subst hb'; exact absurd h2 (fun hh => hh.nobody)
  · subst e
    rw [h c ⟨(ht.kp m c hm).1 (.up hu .here), fun e => by have := hlt c rfl; subst e; omega⟩]
theorem dO {ORD d : List Int} (ht : KT gO [0] ORD d) : d = [-1, 0, 0, 0, -2] := by
  have hl : d.length = 5 := ht.dv.len
  have kp0 : ∀ m, Vn gO [0] m → Kp gO [0] 0 m := fun m hm => ⟨vO.2 (by omega), hm, av_none (z := 0)⟩
  have g0 : d[0]? = some (-1) := by
    obtain ⟨u, hu⟩ := ht.dv.get (m := 0) (by decide)
    rw [hu, ht.get0 (vO.2 (by omega)) (fun z hz => hz.1.2.2 (.root (by simp) (Ne.symm hz.2))) hu]
  have key : ∀ m, m < 4 → m ≠ 0 → (∀ z, z ≠ 0 → z ≠ m → Av gO [0] z m) → d[m]? = some 0 := fun m hm h0 hav => by
    obtain ⟨u, hu⟩ := ht.dv.get (m := m) (by have : gO.length = 5 := rfl; omega)
    rw [hu, ht.get1 (b := 0) (vO.2 hm) ⟨kp0 m (vO.2 hm), Ne.symm h0⟩ (fun z hz => Decidable.byContradiction fun hz0 => hz.1.2.2 (hav z hz0 hz.2)) hu]; rfl
  have g1 := key 1 (by omega) (by omega) (fun z h h1 => av01 h h1)
  have g2 := key 2 (by omega) (by omega) (fun z h h1 => av02 h h1)
  have g3 := key 3 (by omega) (by omega) (fun z h h1 => av03 h h1)
  have g4 : d[4]? = some (-2) := ht.dv.out 4 (fun h => by have := vO.1 h; omega) (by decide)
  apply List.ext_getElem?; intro i
  match i with
  | 0 => exact g0
  | 1 => exact g1
  | 2 => exact g2
  | 3 => exact g3
  | 4 => exact g4
  | i + 5 => rw [List.getElem?_eq_none (by omega)]; rfl

end Go.Proofs.Ytpkccpegdpodoaa

/- owns.Keeps. -/
namespace Go.Proofs.Ytpkccpegdpodoaa
open Go.RowKit

attribute [local go_sem ↓] Go.wp_at_zero Go.wp_at_succ

def KsPost (has : List (List Int)) (roots : List Int) (n : Int) (w : World) (e : Ending) (w' : World) : Prop :=
  Below w.heap.size w w' ∧ ((grErr has roots ≠ 0 ∧ e = .returned (.tuple #[.slice none 0 0, .int .i64 (grErr has roots)])) ∨
    (grErr has roots = 0 ∧ inN has.length n = false ∧ e = .returned (.tuple #[.slice none 0 0, .int .i64 5])) ∨
    (grErr has roots = 0 ∧ ∃ m : Nat, n = (m : Int) ∧ m < has.length ∧ ∃ (A : Option Addr) (c : Nat), e = .returned (.tuple #[.slice A (rising (kpB has roots m)).length c, .int .i64 0]) ∧ Own w' w.heap.size 3 A c (rising (kpB has roots m))))

/-- the chain from k, walked as far as x: found: was z met? -/
def ChK (has : List (List Int)) (roots d : List Int) (k z : Nat) (x : Int) (found : Bool) : Prop :=
  Ok (Vn has roots) d x ∧ (Ch d (k : Int) z ↔ found = true ∨ Ch d x z) ∧ (found = true → ¬ Ch d x z)

set_option maxHeartbeats 3200000 in
set_option maxRecDepth 100000 in
theorem oKeeps_any (B hc rc : Nat) (HA RA : Option Addr) (has : List (List Int)) (roots : List Int) (n : Int) (hni : I64 n) (w : World) (hh : At w B HA has) (hro : At w B RA roots) (hB : B ≤ w.heap.size) (hl : has.length ≤ 9223372036854775807) (hrl : roots.length ≤ 9223372036854775807) (hrc : roots.length ≤ rc ∧ rc ≤ maxLen) :
    Calls Try.prog 47 #[.agg #[.slice HA has.length hc, .slice RA roots.length rc], .int .i64 n] w (KsPost has roots n w) := by
  obtain ⟨P, hP⟩ : ∃ P, KsPost has roots n w = P := ⟨_, rfl⟩
  have HP := Lib.hid hP
  rw [hP]; clear hP
  obtain ⟨i0, hi, hz0, hz1, hz2⟩ := info_parts infoInt
  have HH := Lib.hid (And.intro hh hro); clear hh hro
  go_enter Try.func47, Try.ntmps47
  go_wp2_with fail
  refine calls_world (fun W => Blk W w.heap.size 49 #[.slice HA has.length hc, .slice RA roots.length rc] ∧ Below w.heap.size w W ∧ w.heap.size + 1 ≤ W.heap.size) ⟨Blk.new _ _ _, (Below.refl _ _).alloc (Nat.le_refl _) _, by simp⟩ ?_
  rintro W ⟨hG, hb0, hs0⟩
  refine (wcheck_any B hc rc HA RA has roots W (HH.out.1.below (hb0.mono hB)) (HH.out.2.below (hb0.mono hB)) (by omega) hl hrl hrc).mono ?_
  rintro e w1 ⟨rfl, hb1⟩
  have hbl1 := hb0.trans (hb1.mono (by omega))
  have hs1 := hb1.size
  have hG1 := hG.fresh hb1
  obtain ⟨N, hN⟩ : ∃ N, has.length = N := ⟨_, rfl⟩
  rw [hN] at hG1
  have g0 := hG1.cell 0 (v := .slice HA N hc) rfl
  have g1 := hG1.cell 1 (v := .slice RA roots.length rc) rfl
  clear hG hG1
  obtain ⟨ge, hge⟩ : ∃ ge, grErr has roots = ge := ⟨_, rfl⟩
  rw [hge]
  by_cases h0 : ge = 0
  rotate_left
  · have hne : (ge != 0) = true := by simp [h0]
    have HE := Lib.hid (And.intro hge h0); clear hge h0
    go_wp2_with fail
    rw [← HP.out]
    exact ⟨hbl1, .inl ⟨by rw [HE.out.1]; exact HE.out.2, by rw [HE.out.1]; rfl⟩⟩
  subst h0
  obtain ⟨gl, grl, ghl, gright, gsrc⟩ := grErr_ok hge
  cases hin : inN has.length n with
  | false =>
    have hin2 := hin
    unfold inN at hin2
    rw [hN] at hin2
    simp only [Bool.and_eq_false_iff, decide_eq_false_iff_not] at hin2
    have HE := Lib.hid (And.intro hge hin); clear hge hin gright gsrc ghl hni
    by_cases hneg : n < 0
    · go_wp2_with fail
      rw [← HP.out]
      exact ⟨hbl1, .inr (.inl ⟨HE.out.1, HE.out.2, rfl⟩)⟩
    · have hge2 : (N : Int) ≤ n := by omega
      go_wp2_with fail
      rw [← HP.out]
      exact ⟨hbl1, .inr (.inl ⟨HE.out.1, HE.out.2, rfl⟩)⟩
  | true =>
    have hin2 := inN_iff.1 hin
    rw [hN] at hin2
    obtain ⟨z, rfl⟩ : ∃ z : Nat, n = (z : Int) := ⟨n.toNat, by omega⟩
    have hneg : ¬ (z : Int) < 0 := by omega
    have hge2 : ¬ (N : Int) ≤ (z : Int) := by omega
    have hN100 : N ≤ 100 := by omega
    have hdo := doms_any B hc rc roots.length HA RA has roots w1 (HH.out.1.below (hbl1.mono hB)) (HH.out.2.below (hbl1.mono hB)) (by omega) gright gsrc gl rfl grl ghl
    rw [hN] at hdo
    have HD := Lib.hid hdo
    have HE := Lib.hid (And.intro hge (And.intro hN (And.intro gright gsrc))); clear hge hN gright gsrc ghl hdo hin
    go_wp2_with fail
    refine HD.out.mono ?_
    rintro e w2 ⟨⟨T, PL, ORD, FR, d, rfl, hR, ⟨P1, O1, ⟨DA, dc, dl⟩, FA, fc, F, hTr, e1, e2, e3, e4⟩, hd, hall, hfix⟩, hb2⟩
    simp only at e4
    subst dl
    have hs2 := hb2.size
    have hdl : d.length = N := hd.len.trans HE.out.2.1
    have c5 := hTr.blk.cell 5 (v := .slice DA d.length dc) rfl
    rw [hdl] at c5
    have hkt := KT.of hR hd hall hfix
    have hgf := hR.gf
    have HF := Lib.hid (And.intro hkt (And.intro hTr (And.intro (hbl1.trans (hb2.mono (by omega))) (And.intro hdl hgf)))); clear hR hTr hd hall hfix e1 e2 e3 hkt hgf
    go_wp2_with fail
    clear c5 g0 g1
    go_loopg [8, 32] N (fun gk ov iv wr => ∃ (k m : Nat) (A : Option Addr) (c : Nat), k ≤ N ∧ gk = N - k ∧ iv = .int .i64 k ∧ ov = .slice A m c ∧ m ≤ k ∧ Hid (Own wr w2.heap.size 3 A c (kpK has roots z k) ∧ (kpK has roots z k).length = m) ∧ Below w2.heap.size w2 wr)
    case atStart => exact ⟨0, 0, none, 0, Nat.zero_le _, rfl, rfl, rfl, Nat.le_refl _, ⟨Own.nil_, rfl⟩, Below.refl _ _⟩
    case round =>
      obtain ⟨k, m, A, c, hk, rfl, rfl, rfl, hmk, hkeep, hbl⟩ := hrel
      obtain ⟨wo, rfl⟩ : ∃ wo : World, wo = wr := ⟨_, rfl⟩
      have hsz := hbl.size
      by_cases hlt : k < N
      · have hTw := HF.out.2.1.fresh hbl
        obtain ⟨gD, rfl, -, -⟩ := hTw.rowD.some_ (by simp only; have := HF.out.2.2.2.1; omega)
        have c5 := hTw.blk.cell 5 (v := .slice (some ⟨gD, 0, none⟩) d.length dc) rfl
        rw [HF.out.2.2.2.1] at c5
        obtain ⟨u, hu⟩ := HF.out.1.dv.get (m := k) (by have := HE.out.2.1; omega)
        have u0 := hTw.rowD.cell_int hu
        have k0 : (0 : Int) ≤ (k : Int) := by omega
        have k1 : (k : Int) < (N : Int) := by omega
        by_cases hv : Vn has roots k
        · have hun : u ≠ -2 := fun e => HF.out.1.done k hv (by rw [hu, e])
          have HK := Lib.hid (And.intro hkeep.out (And.intro hv (And.intro hu hTw))); clear hkeep hv hu hTw u0 hun c5
          go_wp2_with fail
          go_loopg [8, 10] (rkM (plO ORD) (k : Int)) (fun gk ov av wj => ∃ (x : Int) (found : Bool) (A' : Option Addr) (c' m' : Nat), gk = rkM (plO ORD) x ∧ av = .int .i64 x ∧ ov = .slice A' m' c' ∧ m' ≤ k + 1 ∧ Hid (ChK has roots d k z x found ∧ Own wj w2.heap.size 3 A' c' (kpK has roots z k ++ if found = true then [(k : Int)] else []) ∧ (kpK has roots z k ++ if found = true then [(k : Int)] else []).length = m') ∧ (found = false → m' ≤ k) ∧ Below w2.heap.size w2 wj)
          case atStart => exact ⟨(k : Int), false, A, c, m, rfl, rfl, rfl, by omega, ⟨⟨HF.out.1.ok HK.out.2.1, by simp, by simp⟩, by simpa using HK.out.1.1, by simpa using HK.out.1.2⟩, fun _ => hmk, hbl⟩
          case round =>
            obtain ⟨x, found, A', c', m', hgk, rfl, rfl, hm', hkeep, hmf, hbj⟩ := hrel
            have hsj := hbj.size
            rcases hkeep.out.1.1 with rfl | ⟨y, rfl, hvy, hdy⟩
            · -- the chain is at its end
              have hkeep2 := hkeep.out
              have hfin : Own wr w2.heap.size 3 A' c' (kpK has roots z (k + 1)) ∧ (kpK has roots z (k + 1)).length = m' := by
                have hiff := hkeep2.1.2.1
                cases found with
                | true =>
                  rw [kpK_yes ((HF.out.1.kp k z HK.out.2.1).1 (hiff.2 (.inl rfl)))]
                  simpa using hkeep2.2
                | false =>
                  rw [kpK_no (fun hh => by
                    rcases hiff.1 ((HF.out.1.kp k z HK.out.2.1).2 hh) with h1 | h1
                    · cases h1
                    · exact h1.nobody)]
                  simpa using hkeep2.2
              have HX := Lib.hid hfin; clear hfin hkeep2 hkeep
              go_wp2_with fail
              go_roundg (N - (k + 1))
              case measure => omega
              case rel => exact ⟨k + 1, m', A', c', by omega, rfl, by go_num, rfl, hm', HX.out, hbj⟩
            · have hyN : y < N := by have := HF.out.2.2.2.2.lt y hvy; have := HE.out.2.1; omega
              obtain ⟨v, hvd⟩ := HF.out.1.dv.get (m := y) (by have := HE.out.2.1; omega)
              have hvn : v ≠ -2 := fun e => hdy (by rw [hvd, e])
              obtain ⟨hokv, hplv⟩ := HF.out.1.dv.ok_up hvd hvy hdy
              have hTj := HF.out.2.1.fresh hbj
              have v0 := hTj.rowD.cell_int hvd
              have c5 := hTj.blk.cell 5 (v := .slice (some ⟨gD, 0, none⟩) d.length dc) rfl
              rw [HF.out.2.2.2.1] at c5
              have y0 : (0 : Int) ≤ (y : Int) := by omega
              have y1 : (y : Int) < (N : Int) := by omega
              have dvn : (v != -2) = true := by simpa using hvn
              have hrk : rkM (plO ORD) v < rkM (plO ORD) (y : Int) := by
                have e : rkM (plO ORD) (y : Int) = plO ORD y + 1 := by unfold rkM; rw [if_neg (by omega), Int.toNat_natCast]
                rw [e]
                rcases hokv with e2 | ⟨c2, e2, -⟩
                · subst e2; unfold rkM; rw [if_pos rfl]; omega
                · have := hplv c2 e2
                  subst e2; unfold rkM; rw [if_neg (by omega), Int.toNat_natCast]; omega
              by_cases hyz : y = z
              · subst hyz
                have hfalse : found = false := by
                  cases found with
                  | false => rfl
                  | true => exact absurd .here (hkeep.out.1.2.2 rfl)
                subst hfalse
                have hmk' := hmf rfl
                have hch : ChK has roots d k y v true := ⟨hokv, by simp [hkeep.out.1.2.1.2 (.inr .here)], fun _ hh => by
                  rcases hokv with e2 | ⟨c2, e2, h3, h4⟩
                  · subst e2; exact hh.nobody
                  · have := (HF.out.1.dv.chain hh (.inr ⟨c2, e2, h3, h4⟩)).2.2 c2 e2
                    have := hplv c2 e2
                    omega⟩
                have hkl := hkeep.out.2
                simp only [Bool.false_eq_true, if_false, List.append_nil] at hkl
                have HX := Lib.hid (And.intro hch hkl); clear hch hkl hkeep hokv hplv hTj hvn hdy
                have HVD := Lib.hid hvd; clear hvd
                go_wp2_with (at_builtin; go_must (refine wpList_app (α := Int) (n := m') (m := 1) (B := wr.heap.size + 1) (r := [(k : Int)]) rfl (.tmp 58) (.tmp 60) _ rfl w2.heap.size 3 i0 _ 8 Try.underlying47 hi hz0 hz1 hz2 rfl (by decide) int_one (by rfl) HX.out.2.2 (HX.out.2.1.alloc _) (by rfl) (At.built wr _ _ [(k : Int)] rfl (by intro x hx; simp at hx; subst hx; exact (by unfold I64; omega : I64 (k : Int)))) rfl (by omega) (by simp only [maxLen]; omega) (by simp; omega) ?_); intro A5 c5' w5 ho5 hgr5 hat5; have hb5 : Below w2.heap.size w2 w5 := (hbj.alloc hsj _).grown hgr5 (by simp; omega) (fun g hg => (HX.out.2.1.lt g hg).1); have hT5 := HF.out.2.1.fresh hb5; have v5 := hT5.rowD.cell_int (i := y) (b := v) HVD.out; have c5 := hT5.blk.cell 5 (v := .slice (some ⟨gD, 0, none⟩) d.length dc) rfl; rw [HF.out.2.2.2.1] at c5; have H5 := Lib.hid (And.intro ho5 hb5); clear ho5 hgr5 hat5 hT5)
                go_roundg (rkM (plO ORD) v)
                case measure => omega
                case rel => exact ⟨v, true, A5, c5', m' + 1, rfl, rfl, rfl, by omega, ⟨HX.out.1, by simpa using H5.out.1, by rw [if_pos rfl, List.length_append, HX.out.2.2]; rfl⟩, (fun h => by cases h), H5.out.2⟩
              · have dyz : ((y : Int) == (z : Int)) = false := by simp; omega
                have hch : ChK has roots d k z v found := ⟨hokv, by
                  rw [hkeep.out.1.2.1]
                  constructor
                  · rintro (h1 | h1)
                    · exact .inl h1
                    · rcases h1.cases_ with e | ⟨b', hb', h2⟩
                      · exact absurd e.symm hyz
                      · rw [hvd] at hb'; injection hb' with hb'; subst hb'; exact .inr h2
                  · rintro (h1 | h1)
                    · exact .inl h1
                    · exact .inr (.up hvd h1), fun hf hh => hkeep.out.1.2.2 hf (.up hvd hh)⟩
                have HX := Lib.hid (And.intro hch hkeep.out.2); clear hch hkeep hvd hokv hplv hTj hvn hdy hyz
                go_wp2_with fail
                go_roundg (rkM (plO ORD) v)
                case measure => omega
                case rel => exact ⟨v, found, A', c', m', rfl, rfl, rfl, hm', HX.out, hmf, hbj⟩
        · -- it is not needed
          have hun : u = -2 := by
            have := HF.out.1.dv.out k hv (by have := HE.out.2.1; omega)
            rw [hu] at this; injection this
          subst hun
          have hno : ¬ Kp has roots z k := fun h => hv h.2.1
          have hst := kpK_no hno
          have HX := Lib.hid (And.intro hst hkeep.out); clear hst hkeep hv hu hno hTw
          go_wp2_with fail
          go_loopg [8, 10] 0 (fun gk ov av wj => av = .int .i64 (k : Int) ∧ ov = .slice A m c ∧ wo = wj)
          case atStart => exact ⟨rfl, rfl, rfl⟩
          case round =>
            obtain ⟨rfl, rfl, rfl⟩ := hrel
            go_wp2_with fail
            go_roundg (N - (k + 1))
            case measure => omega
            case rel => exact ⟨k + 1, m, A, c, by omega, rfl, by go_num, rfl, by omega, ⟨by rw [HX.out.1]; exact HX.out.2.1, by rw [HX.out.1]; exact HX.out.2.2⟩, hbl⟩
      · obtain rfl : N = k := by omega
        have hk2 := hkeep.out
        rw [← HE.out.2.1, kpK_rising] at hk2
        have HX := Lib.hid hk2; clear hk2 hkeep
        go_wp2_with fail
        rw [← HP.out]
        exact ⟨HF.out.2.2.1.trans (hbl.mono (by omega)), .inr (.inr ⟨HE.out.1, z, rfl, by have := HE.out.2.1; omega, A, c, by rw [HX.out.2]; rfl, HX.out.1.base_le (by omega)⟩)⟩

end Go.Proofs.Ytpkccpegdpodoaa

/- weak.live: what is live, by pairs. -/
namespace Go.Proofs.Ytpkccpegdpodoaa
open Go.RowKit

theorem reach_new (R base k gl : Nat) (hv rv : Value) (seen : List Bool) (todo : List Int) (w : World) (hgl : gl = w.heap.size) (h : Rch w base R hv rv seen todo) (hk : k < seen.length) (hll : todo.length ≤ 100000) (hsl : seen.length ≤ 1000000) :
    Calls Try.prog 168 #[.pointer (some ⟨R, 0, none⟩), .slice (some ⟨gl, 0, none⟩) 1 1] (w.alloc (.cells #[.int .i64 k] 3)) fun e w' => e = .returned (.tuple #[]) ∧ Rch w' base R hv rv (reach1 (seen, todo) k).1 (reach1 (seen, todo) k).2 ∧ Below base w w' := by
  subst hgl
  have hlt := h.lt
  obtain ⟨S, T, c, d, h1, h2, h3, h4⟩ := h
  have hRl := h1.lt
  have hat := At.built w #[.int .i64 (k : Int)] 3 [(k : Int)] rfl (by intro z hz; simp at hz; subst hz; exact (by unfold I64; omega : I64 (k : Int)))
  refine (reach_core R base (w.heap.size + 1) c d 1 (some ⟨w.heap.size, 0, none⟩) S T hv rv seen todo [(k : Int)] (w.alloc (.cells #[.int .i64 k] 3)) (h1.alloc _) (h2.alloc _) (h3.alloc _) h4 (by simp; omega) hat (by simp) (fun _ g hg => ?_) (fun x hx => by simp at hx; exact ⟨k, hx, hk⟩) (by simp; omega) (by omega)).mono fun e w' ⟨he, hr, hb⟩ => ⟨he, hr, ((Below.refl _ _).alloc (by omega) _).trans hb⟩
  injection hg with hg
  simp only at hg
  subst hg
  exact ⟨by omega, fun e => by have := (h2.lt _ e).2; omega, fun e => by have := (h3.lt _ e).2; omega⟩

theorem Rch.drewN {w : World} {base R : Nat} {hv rv : Value} {seen : List Bool} {todo : List Int} (h : Rch w base R hv rv seen todo) (n : Nat) : Rch (w.drewN n) base R hv rv seen todo := by
  obtain ⟨S, T, c, d, h1, h2, h3, h4⟩ := h
  exact ⟨S, T, c, d, h1.drewN n, h2.drewN n, h3.drewN n, h4⟩
def LivePost (has : List (List Int)) (roots : List Int) (pairs : List (Int × Int)) (w : World) (e : Ending) (w' : World) : Prop :=
  Below w.heap.size w w' ∧ ((prErr has roots pairs = 0 ∧ ∃ S c, e = .returned (.tuple #[.slice S has.length c, .int .i64 0]) ∧ Own w' w.heap.size 4 S c (fromL has roots pairs)) ∨
    (prErr has roots pairs ≠ 0 ∧ e = .returned (.tuple #[.slice none 0 0, .int .i64 (prErr has roots pairs)])))

/-- what the loop over pairs keeps -/
def LSt (has : List (List Int)) (src : List Int) (pairs : List (Int × Int)) (s1 : List Bool) (s : List Bool) (t : List Int) (m : Bool) : Prop :=
  Inv has src pairs [] s t ∧ Grows s1 s ∧ (m = false → s = s1 ∧ t = []) ∧ 2 * unseen s + t.length + (if m = true then 1 else 0) ≤ 2 * unseen s1

set_option maxHeartbeats 3200000 in
set_option maxRecDepth 100000 in
theorem live_any (B hc rc pc : Nat) (HA RA PA : Option Addr) (has : List (List Int)) (roots : List Int) (pairs : List (Int × Int)) (w : World) (hh : At w B HA has) (hr : At w B RA roots) (hp : At w B PA pairs) (hB : B ≤ w.heap.size) (hl : has.length ≤ 9223372036854775807) (hrl : roots.length ≤ 9223372036854775807) (hpl : pairs.length ≤ 9223372036854775807) (hrc : roots.length ≤ rc ∧ rc ≤ maxLen) :
    Calls Try.prog 106 #[.agg #[.slice HA has.length hc, .slice RA roots.length rc], .slice PA pairs.length pc] w (LivePost has roots pairs w) := by
  have hmk0 : has.length ≤ 100 → ∀ w, (Instr.makeSlice 60 (.int .i64 (has.length : Int)) (.int .i64 (has.length : Int))).run Try.prog w = .ok (.slice (some ⟨w.heap.size, 0, none⟩) has.length has.length) (w.alloc (.cells (madeCells #[.bool false] has.length) 4)) := fun h => Go.run_make_row' (P := Try.prog) 60 4 (.bool false) 1 Try.underlying60 infoBool rfl .i64 .i64 has.length (by omega) (by omega)
  have HMK := Lib.hid hmk0; clear hmk0
  have HH := Lib.hid (And.intro hh (And.intro hr hp)); clear hh hr hp
  go_enter Try.func106, Try.ntmps106
  go_wp2_with fail
  refine calls_world (fun W => Blk W w.heap.size 49 #[.slice HA has.length hc, .slice RA roots.length rc] ∧ Below w.heap.size w W ∧ w.heap.size + 1 ≤ W.heap.size) ⟨Blk.new _ _ _, (Below.refl _ _).alloc (Nat.le_refl _) _, by simp⟩ ?_
  rintro W ⟨hG, hb0, hs0⟩
  refine (wcheck_any B hc rc HA RA has roots W (HH.out.1.below (hb0.mono hB)) (HH.out.2.1.below (hb0.mono hB)) (by omega) hl hrl hrc).mono ?_
  rintro e w1 ⟨rfl, hb1⟩
  have hbl1 := hb0.trans (hb1.mono (by omega))
  have hs1 := hb1.size
  obtain ⟨ge, hge⟩ : ∃ ge, grErr has roots = ge := ⟨_, rfl⟩
  rw [hge]
  by_cases h0 : ge = 0
  rotate_left
  · have he := prErr_graph (pairs := pairs) (show grErr has roots ≠ 0 by rw [hge]; exact h0)
    have hne : (ge != 0) = true := by simp [h0]
    have HE := Lib.hid (And.intro (he.trans hge) h0); clear he hge h0 hG
    go_wp2_with fail
    go_ret2
    exact ⟨hbl1, .inr (by rw [HE.out.1]; exact ⟨HE.out.2, rfl⟩)⟩
  subst h0
  by_cases h50 : 50 < pairs.length
  · have he := prErr_large hge h50
    have HE := Lib.hid he; clear he hge hG
    go_wp2_with fail
    go_ret2
    exact ⟨hbl1, .inr (by rw [HE.out]; exact ⟨by decide, rfl⟩)⟩
  have hform := prErr_form hge h50
  obtain ⟨gl, grl, ghl, gright, gsrc⟩ := grErr_ok hge
  have hst := fromL_start pairs gsrc
  have HF := Lib.hid (And.intro hform (And.intro (hG.fresh hb1) (And.intro gright (And.intro gsrc (And.intro ghl (And.intro hst hge)))))); clear hform hge hG gright gsrc ghl hst
  go_wp2_with fail
  go_loopw [23] (fun i wr => ∃ j : Nat, j ≤ pairs.length ∧ i = .int .i64 j ∧ Hid ((pairs.take j).all (fun p => inN has.length p.1 && inN has.length p.2) = true ∧ Blk wr w.heap.size 49 #[.slice HA has.length hc, .slice RA roots.length rc]) ∧ Below w.heap.size w wr ∧ w.heap.size + 1 ≤ wr.heap.size) (fun i _ => pairs.length - (intOf i).toNat)
  case atStart => exact ⟨0, Nat.zero_le _, rfl, ⟨rfl, HF.out.2.1⟩, hbl1, by omega⟩
  case round =>
    obtain ⟨j, hj, rfl, hin, hbl, hsz⟩ := hrel
    by_cases hjt : j < pairs.length
    · obtain ⟨b, o, x, y, rfl, hb, hx, -, -, c0, c1⟩ := (HH.out.2.2.below (hbl.mono hB)).pair hjt
      have g0 := hin.out.2.cell 0 (v := .slice HA has.length hc) rfl
      have hlt0 : w.heap.size < wr.heap.size := by omega
      have hal := hin.out.2.alloc (.cells #[.int .i64 x, .int .i64 y] 63)
      have hix := fun w => in_any x has.length w
      have hiy := fun w => in_any y has.length w
      have HI := Lib.hid (And.intro hix hiy); clear hix hiy
      cases hqx : inN has.length x with
      | false =>
        have he : prErr has roots pairs = 3 := by rw [HF.out.1, if_neg]; rw [Bool.not_eq_true]; exact all_stop _ _ j _ hx (by simp [hqx])
        have HE := Lib.hid (And.intro he hqx); clear he hx hqx hal hin
        go_wp2_with (go_at_call 107; refine (HI.out.1 _).mono ?_; rintro e w9 ⟨rfl, rfl⟩; rw [HE.out.2])
        go_ret2
        exact ⟨hbl.alloc (by omega) _, .inr (by rw [HE.out.1]; exact ⟨by decide, rfl⟩)⟩
      | true =>
        have HQ := Lib.hid hqx; clear hqx
        go_wp2_with fail
        refine (HI.out.1 _).mono ?_
        rintro e w9 ⟨rfl, rfl⟩
        rw [HQ.out]
        cases hqy : inN has.length y with
        | false =>
          have he : prErr has roots pairs = 3 := by rw [HF.out.1, if_neg]; rw [Bool.not_eq_true]; exact all_stop _ _ j _ hx (by simp [hqy])
          have HE := Lib.hid (And.intro he hqy); clear he hx hqy hal hin
          go_wp2_with (go_at_call 107; refine (HI.out.2 _).mono ?_; rintro e w9 ⟨rfl, rfl⟩; rw [HE.out.2])
          go_ret2
          exact ⟨hbl.alloc (by omega) _, .inr (by rw [HE.out.1]; exact ⟨by decide, rfl⟩)⟩
        | true =>
          have HX := Lib.hid (And.intro hx (And.intro hqy (And.intro hin.out.1 hal))); clear hx hqy hal hin
          go_wp2_with (go_at_call 107; refine (HI.out.2 _).mono ?_; rintro e w9 ⟨rfl, rfl⟩; rw [HX.out.2.1])
          go_roundw
          case rel => exact ⟨j + 1, by omega, by go_num, ⟨by rw [all_snoc _ _ _ _ HX.out.1, HX.out.2.2.1]; simp [HX.out.2.1, HQ.out], HX.out.2.2.2⟩, hbl.alloc (by omega) _, by simp; omega⟩
          case measure => simp [intOf]; omega
    · have hin2 := hin.out.1
      rw [List.take_of_length_le (by omega)] at hin2
      have he : prErr has roots pairs = 0 := by rw [HF.out.1, if_pos hin2]
      have hpr := (prErr_ok he).2.2
      have g0 := hin.out.2.cell 0 (v := .slice HA has.length hc) rfl
      have g1 := hin.out.2.cell 1 (v := .slice RA roots.length rc) rfl
      have hlt0 : w.heap.size < wr.heap.size := by omega
      have HE := Lib.hid (And.intro he (And.intro hin.out.2 hpr)); clear he hin2 hin hpr
      have hmk := HMK.out gl
      go_wp2_with fail
      go_region_held3 (fun w' => w'.cell? ⟨w.heap.size, 0, none⟩ = some (.slice HA has.length hc) ∧ w'.cell? ⟨w.heap.size, 1, none⟩ = some (.slice RA roots.length rc)) (go_keep) (fail)
      go_wp2_with fail
      refine calls_world (fun V => Rch V wr.heap.size (wr.heap.size + 1) (.slice HA has.length hc) (.slice RA roots.length rc) (List.replicate has.length false) [] ∧ Below w.heap.size w V) ⟨?_, ?_⟩ ?_
      · have o1 := own_made wr wr.heap.size 4 has.length (Nat.le_refl _) (by simp only [maxLen]; omega)
        refine ⟨some ⟨wr.heap.size, 0, none⟩, none, has.length, 0, ?_, (o1.alloc _).drew, Own.nil_, by omega⟩
        rw [List.length_replicate]
        exact (Blk.at_ (wr.alloc _) _ _ (by simp)).drew
      · exact ((hbl.alloc (by omega) _).alloc (by simp; omega) _).drew
      clear g0 g1 hmk
      rintro V ⟨hR, hbV⟩
      have hsV := hR.lt
      refine (reach_old (wr.heap.size + 1) wr.heap.size B rc RA _ _ (List.replicate has.length false) [] roots V hR (HH.out.2.1.below (hbV.mono hB)) (by omega) (by rw [List.length_replicate]; exact HF.out.2.2.2.1) (by simp; omega) (by simp; omega)).mono ?_
      rintro e w2 ⟨rfl, hR1, hb2⟩
      have hbl2 := hbV.trans (hb2.mono (by omega))
      obtain ⟨s1, t1, hst⟩ : ∃ s1 t1, reachL roots (List.replicate has.length false, []) = (s1, t1) := ⟨_, _, rfl⟩
      have hH := HF.out.2.2.2.2.2.1
      rw [hst] at hR1 hH
      have htl : t1.length ≤ 2 * has.length := hH.2.2
      have H1 := Lib.hid (And.intro hR1 hH); clear hR1 hH hR hst
      go_wp2_with fail
      obtain ⟨wb, hwb⟩ : ∃ wb, wb = wr.heap.size := ⟨_, rfl⟩
      rw [← hwb] at H1 hsV ⊢
      have hwb2 : w.heap.size + 1 ≤ wb := by omega
      clear hwb
      go_loopg [10] (2 * unseen s1 + t1.length + 1) (fun gk mv wi => ∃ (s : List Bool) (t : List Int) (m : Bool), mv = .bool m ∧ gk = (if m = true then 2 * unseen s + t.length + 1 else 0) ∧ t.length ≤ 2 * has.length ∧ Hid (Rch wi wb (wb + 1) (.slice HA has.length hc) (.slice RA roots.length rc) s t ∧ Inv has roots pairs [] s t ∧ (∀ n : Nat, (n : Int) ∈ roots → s[n]? = some true) ∧ (m = false → t = [] ∧ PClosed pairs s s pairs.length)) ∧ Below w.heap.size w wi)
      case atStart => exact ⟨s1, t1, true, rfl, by simp, htl, ⟨H1.out.1, H1.out.2.1, H1.out.2.2.1, fun h => by cases h⟩, hbl2⟩
      case round =>
        obtain ⟨s, t, m, rfl, rfl, htl, hkeep, hbl⟩ := hrel
        cases m with
        | false =>
          obtain ⟨rfl, hpc⟩ := hkeep.out.2.2.2 rfl
          have hfin := hkeep.out.2.1.done hkeep.out.2.2.1 (fun k v h1 h2 => hpc k v h1 (by rw [List.take_length]; exact h2))
          have hsl := hkeep.out.2.1.len
          obtain ⟨S, T, c, d, r1, r2, r3, r4⟩ := hkeep.out.1
          rw [hsl] at r1
          rw [hfin] at r2
          have q2 := r1.cell 2 (v := .slice S has.length c) rfl
          have HO := Lib.hid r2
          clear r1 r2 r3 hfin hpc hkeep
          go_wp2_with fail
          go_ret2
          exact ⟨hbl, .inl ⟨HE.out.1, S, c, rfl, HO.out.base_le (by omega)⟩⟩
        | true =>
          have hun := unseen_le s
          have hsl := hkeep.out.2.1.len
          go_wp2_with fail
          refine (reachAll_any (wb + 1) wb B hc rc has.length roots.length HA RA has roots pairs s t wr hkeep.out.1 (HH.out.1.below (hbl.mono hB)) (by omega) HF.out.2.2.1 hkeep.out.2.1 (by omega) (by omega) (fun l hl => by have := HF.out.2.2.2.2.1 l hl; omega)).mono ?_
          rintro e w3 ⟨rfl, ⟨s2, hR2, hI2, hG2⟩, hb3⟩
          have hbl3 := hbl.trans (hb3.mono (by omega))
          have hug := unseen_grows (by rw [hsl, hI2.len]) hG2
          have hs2l := hI2.len
          have hsrc2 : ∀ n : Nat, (n : Int) ∈ roots → s2[n]? = some true := fun n hn => hG2 n (hkeep.out.2.2.1 n hn)
          have HK := Lib.hid (And.intro hR2 (And.intro hI2 hsrc2)); clear hR2 hI2 hsrc2 hG2 hkeep
          go_wp2_with fail
          go_loopg [10, 60] (pairs.length) (fun gj mv jv wj => ∃ (j : Nat) (s' : List Bool) (t' : List Int) (m' : Bool), j ≤ pairs.length ∧ gj = pairs.length - j ∧ jv = .int .i64 j ∧ mv = .bool m' ∧ s'.length = has.length ∧ Hid (Rch wj wb (wb + 1) (.slice HA has.length hc) (.slice RA roots.length rc) s' t' ∧ LSt has roots pairs s2 s' t' m' ∧ PClosed pairs s2 s' j) ∧ Below w.heap.size w wj)
          case atStart => exact ⟨0, s2, [], false, Nat.zero_le _, rfl, rfl, rfl, hs2l, ⟨HK.out.1, ⟨HK.out.2.1, Grows.refl _, fun _ => ⟨rfl, rfl⟩, by simp⟩, PClosed.zero _ _ _⟩, hbl3⟩
          case round =>
            obtain ⟨j, s4, t4, m4, hj, rfl, rfl, rfl, hs4l, hkeep, hbl4⟩ := hrel
            have hsz4 := hbl4.size
            have hwb4 := hkeep.out.1.lt
            have hme := hkeep.out.2.1.2.2.2
            have hun2 := unseen_le s2
            by_cases hjt : j < pairs.length
            · obtain ⟨b', o', x, y, rfl, hb', hx, -, -, g0, g1⟩ := (HH.out.2.2.below (hbl4.mono hB)).pair hjt
              obtain ⟨p, q, hpq, hp, hq⟩ := HE.out.2.2 _ (List.mem_of_getElem? hx)
              injection hpq with e1 e2; subst e1 e2
              obtain ⟨u, hu⟩ : ∃ v, s4[p]? = some v := ⟨_, List.getElem?_eq_getElem (by omega)⟩
              obtain ⟨v, hv⟩ : ∃ v, s4[q]? = some v := ⟨_, List.getElem?_eq_getElem (by omega)⟩
              have hcl := hkeep.out.1
              obtain ⟨S, T, c, d, r1, r2, r3, r4⟩ := hcl
              obtain ⟨g, rfl, hg1, hg2⟩ := r2.some_ (by omega)
              have hRlt := r1.lt
              have v0 := r1.cell 2 (v := .slice (some ⟨g, 0, none⟩) s4.length c) rfl
              have v1 := r2.cell_bool hu
              have v2 := r2.cell_bool hv
              have p0 : (0 : Int) ≤ (p : Int) := by omega
              have p1 : (p : Int) < (s4.length : Int) := by omega
              have q0 : (0 : Int) ≤ (q : Int) := by omega
              have q1 : (q : Int) < (s4.length : Int) := by omega
              have hRa : Rch (wr.alloc (.cells #[.int .i64 p, .int .i64 q] 63)) wb (wb + 1) (.slice HA has.length hc) (.slice RA roots.length rc) s4 t4 := ⟨some ⟨g, 0, none⟩, T, c, d, r1.alloc _, r2.alloc _, r3.alloc _, r4⟩
              have hq4 : q < s4.length := by omega
              have htl4 : t4.length ≤ 100000 := by split at hme <;> omega
              by_cases hgo : u = true ∧ v = false
              · obtain ⟨rfl, rfl⟩ := hgo
                have hi4 := hkeep.out.2.1.1
                obtain ⟨i1, i2, i3, i4⟩ := hi4.reach1 (st := (s4, t4)) hq (.pair (hi4.sound p hu) (List.mem_of_getElem? hx))
                have hr1 : reach1 (s4, t4) (q : Int) = (s4.set q true, t4 ++ [(q : Int)]) := by unfold reach1; rw [if_neg (by rw [Int.toNat_natCast, getD_true, hv]; simp), Int.toNat_natCast]
                have hus := unseen_set hv
                have hreach := fun nq => reach_new (wb + 1) wb q (wr.heap.size + 1) _ _ s4 t4 _ (by simp) (hRa.drewN nq) hq4 htl4 (by omega)
                rw [hr1] at hreach i1 i2 i3
                have h1 : m4 = false → t4 = [] ∧ s4 = s2 := fun h => ⟨(hkeep.out.2.1.2.2.1 h).2, (hkeep.out.2.1.2.2.1 h).1⟩
                have hme2 : 2 * unseen (s4.set q true) + (t4 ++ [(q : Int)]).length + 1 ≤ 2 * unseen s2 := by
                  rw [List.length_append, List.length_singleton]
                  cases m4 with
                  | false => obtain ⟨rfl, rfl⟩ := h1 rfl; simp; omega
                  | true => simp at hme; omega
                have hlst : LSt has roots pairs s2 (s4.set q true) (t4 ++ [(q : Int)]) true := ⟨i1, hkeep.out.2.1.2.1.trans i2, fun h => (by cases h), by simpa using hme2⟩
                have hpc := (hkeep.out.2.2.grow i2).next hx (fun _ => i3)
                have HR := Lib.hid (And.intro hreach (And.intro hlst hpc))
                clear hreach hlst hpc i1 i2 i3 i4 hr1 hi4 hRa hx hu hv r1 r2 r3 hkeep hus hme h1 hme2
                go_wp2_with fail
                go_quiet (fail)
                go_wp2_with fail
                refine (HR.out.1 _).mono ?_
                rintro e w9 ⟨rfl, hR9, hb9⟩
                have hbl9 : Below w.heap.size w w9 := (below_drewN (hbl4.alloc (by omega) _) _).trans (hb9.mono (by omega))
                have H9 := Lib.hid hR9; clear hR9
                go_wp2_with fail
                go_roundg (pairs.length - (j + 1))
                case measure => omega
                case rel => exact ⟨j + 1, _, _, true, by omega, rfl, by go_num, rfl, by rw [List.length_set]; exact hs4l, ⟨H9.out, HR.out.2⟩, hbl9⟩
              · have hpc := hkeep.out.2.2.next hx (fun h => by
                  have h2 := hkeep.out.2.1.2.1 p h
                  rw [hu] at h2; injection h2 with h2; subst h2
                  cases v with
                  | false => exact absurd ⟨rfl, rfl⟩ hgo
                  | true => exact hv)
                have HR := Lib.hid (And.intro hRa (And.intro hkeep.out.2.1 hpc))
                cases u with
                | false =>
                  clear hpc hRa hx hu hv r1 r2 r3 hkeep hme
                  go_wp2_with fail
                  go_quiet (fail)
                  go_wp2_with fail
                  go_roundg (pairs.length - (j + 1))
                  case measure => omega
                  case rel => exact ⟨j + 1, s4, t4, m4, by omega, rfl, by go_num, rfl, hs4l, ⟨HR.out.1.drewN _, HR.out.2⟩, below_drewN (hbl4.alloc (by omega) _) _⟩
                | true =>
                  cases v with
                  | false => exact absurd ⟨rfl, rfl⟩ hgo
                  | true =>
                    clear hpc hRa hx hu hv r1 r2 r3 hkeep hme
                    go_wp2_with fail
                    go_quiet (fail)
                    go_wp2_with fail
                    go_roundg (pairs.length - (j + 1))
                    case measure => omega
                    case rel => exact ⟨j + 1, s4, t4, m4, by omega, rfl, by go_num, rfl, hs4l, ⟨HR.out.1.drewN _, HR.out.2⟩, below_drewN (hbl4.alloc (by omega) _) _⟩
            · obtain rfl : j = pairs.length := by omega
              have HR := Lib.hid hkeep.out; clear hkeep
              go_wp2_with fail
              go_roundg (if m4 = true then 2 * unseen s4 + t4.length + 1 else 0)
              case measure => cases m4 <;> simp at hme ⊢ <;> omega
              case rel => exact ⟨s4, t4, m4, rfl, rfl, by split at hme <;> omega, ⟨HR.out.1, HR.out.2.1.1, fun n hn => HR.out.2.1.2.1 n (HK.out.2.2 n hn), fun h => ⟨(HR.out.2.1.2.2.1 h).2, by have e := (HR.out.2.1.2.2.1 h).1; have := HR.out.2.2; rw [← e] at this; exact this⟩⟩, hbl4⟩

end Go.Proofs.Ytpkccpegdpodoaa

/- weak: needed things, live things, pairs that are kept; the closed fact 'paired'. -/
namespace Go.Proofs.Ytpkccpegdpodoaa
open Go.RowKit

theorem rising_ok (l : List Bool) (h : l.length ≤ 1000000) : ∀ x ∈ rising l, Flat.ok x := by
  intro x hx
  obtain ⟨n, rfl, hn⟩ := (mem_rising l x).1 hx
  have := (List.getElem?_eq_some_iff.1 hn).1
  exact (by unfold I64; omega : I64 (n : Int))
/-- the pairs that are kept -/
def keptL (seen : List Bool) (pairs : List (Int × Int)) : List (Int × Int) := pairs.filter fun p => seen.getD p.1.toNat false
theorem keptL_snoc (seen : List Bool) (pairs : List (Int × Int)) (k : Nat) (p : Nat) (y : Int) (h : pairs[k]? = some ((p : Int), y)) (b : Bool) (hb : seen[p]? = some b) : keptL seen (pairs.take (k + 1)) = keptL seen (pairs.take k) ++ if b = true then [((p : Int), y)] else [] := by
  unfold keptL
  rw [take_snoc _ _ _ h, List.filter_append]
  have : seen.getD p false = b := by rw [List.getD_eq_getElem?_getD, hb]; rfl
  cases b <;> simp [this, hb]
theorem keptL_length (seen : List Bool) (pairs : List (Int × Int)) : (keptL seen pairs).length ≤ pairs.length := List.length_filter_le _ _
theorem pair_one : ∀ x : Int × Int, ∀ u ∈ Flat.cells x, u.oneCell' = true := by
  intro x u hu; simp [Flat.cells] at hu; rcases hu with rfl | rfl <;> rfl
theorem infoRPair : (Try.prog.info? 63).map (fun i => (i.zero, i.size, i.bytes)) = some (some (.agg #[.int .i64 0, .int .i64 0]), 2, 16) := by kernel_rfl

def NeededPost (has : List (List Int)) (roots : List Int) (w : World) (e : Ending) (w' : World) : Prop :=
  Below w.heap.size w w' ∧ ((grErr has roots = 0 ∧ ∃ A c, e = .returned (.tuple #[.slice A (rising (fromL has roots [])).length c, .int .i64 0]) ∧ Own w' w.heap.size 3 A c (rising (fromL has roots []))) ∨
    (grErr has roots ≠ 0 ∧ e = .returned (.tuple #[.slice none 0 0, .int .i64 (grErr has roots)])))

set_option maxHeartbeats 800000 in
set_option maxRecDepth 100000 in
theorem needed_any (B hc rc : Nat) (HA RA : Option Addr) (has : List (List Int)) (roots : List Int) (w : World) (hh : At w B HA has) (hr : At w B RA roots) (hB : B ≤ w.heap.size) (hl : has.length ≤ 9223372036854775807) (hrl : roots.length ≤ 9223372036854775807) (hrc : roots.length ≤ rc ∧ rc ≤ maxLen) :
    Calls Try.prog 26 #[.agg #[.slice HA has.length hc, .slice RA roots.length rc]] w (NeededPost has roots w) := by
  have HH := Lib.hid (And.intro hh hr); clear hh hr
  go_enter Try.func26, Try.ntmps26
  go_wp2_with fail
  refine calls_world (fun W => Blk W w.heap.size 49 #[.slice HA has.length hc, .slice RA roots.length rc] ∧ Below w.heap.size w W ∧ w.heap.size + 1 ≤ W.heap.size) ⟨Blk.new _ _ _, (Below.refl _ _).alloc (Nat.le_refl _) _, by simp⟩ ?_
  rintro W ⟨hG, hb0, hs0⟩
  refine (wcheck_any B hc rc HA RA has roots W (HH.out.1.below (hb0.mono hB)) (HH.out.2.below (hb0.mono hB)) (by omega) hl hrl hrc).mono ?_
  rintro e w1 ⟨rfl, hb1⟩
  have hbl1 := hb0.trans (hb1.mono (by omega))
  have hs1 := hb1.size
  have hG1 := hG.fresh hb1
  have g0 := hG1.cell 0 (v := .slice HA has.length hc) rfl
  have g1 := hG1.cell 1 (v := .slice RA roots.length rc) rfl
  clear hG hG1
  obtain ⟨ge, hge⟩ : ∃ ge, grErr has roots = ge := ⟨_, rfl⟩
  rw [hge]
  by_cases h0 : ge = 0
  rotate_left
  · have hne : (ge != 0) = true := by simp [h0]
    have HE := Lib.hid (And.intro hge h0); clear hge h0
    go_wp2_with fail
    go_ret2
    exact ⟨hbl1, .inr (by rw [HE.out.1]; exact ⟨HE.out.2, rfl⟩)⟩
  subst h0
  obtain ⟨gl, grl, ghl, gright, gsrc⟩ := grErr_ok hge
  have HG := Lib.hid (And.intro gright (And.intro gsrc (And.intro ghl hge))); clear gright gsrc ghl hge
  go_wp2_with fail
  refine (wfrom_any B hc rc rc roots.length HA RA RA has roots w1 (HH.out.1.below (hbl1.mono hB)) (HH.out.2.below (hbl1.mono hB)) (by omega) HG.out.1 HG.out.2.1 gl (by omega) HG.out.2.2.1).mono ?_
  rintro e w2 ⟨S, c, rfl, hown2, hb2⟩
  have hs2 := hb2.size
  have HO := Lib.hid hown2; clear hown2 g0 g1
  go_wp2_with fail
  refine (wrising_any S c w2.heap.size has.length (fromL has roots []) w2 (fromL_length _ _ _) (HO.out.at_ (fun _ _ => trivial)) (Nat.le_refl _) (by omega)).mono ?_
  rintro e w3 ⟨A3, c3, rfl, hown3, hb3⟩
  have HO3 := Lib.hid hown3; clear hown3
  go_wp2_with fail
  go_ret2
  exact ⟨hbl1.trans ((hb2.mono (by omega)).trans (hb3.mono (by omega))), .inl ⟨HG.out.2.2.2, A3, c3, rfl, HO3.out.base_le (by omega)⟩⟩

def LivesPost (has : List (List Int)) (roots : List Int) (pairs : List (Int × Int)) (w : World) (e : Ending) (w' : World) : Prop :=
  Below w.heap.size w w' ∧ ((prErr has roots pairs = 0 ∧ ∃ A c, e = .returned (.tuple #[.slice A (rising (fromL has roots pairs)).length c, .int .i64 0]) ∧ Own w' w.heap.size 3 A c (rising (fromL has roots pairs))) ∨
    (prErr has roots pairs ≠ 0 ∧ ∃ A c, e = .returned (.tuple #[.slice A 0 c, .int .i64 (prErr has roots pairs)])))

theorem fromL_small {has : List (List Int)} {roots : List Int} {pairs : List (Int × Int)} (h : prErr has roots pairs = 0) : has.length ≤ 100 := (grErr_ok (prErr_ok h).1).1

set_option maxHeartbeats 800000 in
set_option maxRecDepth 100000 in
theorem lives_any (B hc rc pc : Nat) (HA RA PA : Option Addr) (has : List (List Int)) (roots : List Int) (pairs : List (Int × Int)) (w : World) (hh : At w B HA has) (hr : At w B RA roots) (hp : At w B PA pairs) (hB : B ≤ w.heap.size) (hl : has.length ≤ 9223372036854775807) (hrl : roots.length ≤ 9223372036854775807) (hpl : pairs.length ≤ 9223372036854775807) (hrc : roots.length ≤ rc ∧ rc ≤ maxLen) :
    Calls Try.prog 27 #[.agg #[.slice HA has.length hc, .slice RA roots.length rc], .slice PA pairs.length pc] w (LivesPost has roots pairs w) := by
  have HH := Lib.hid (And.intro hh (And.intro hr hp)); clear hh hr hp
  go_enter Try.func27, Try.ntmps27
  go_wp2_with fail
  refine calls_world (fun W => Below w.heap.size w W ∧ w.heap.size + 1 ≤ W.heap.size) ⟨(Below.refl _ _).alloc (Nat.le_refl _) _, by simp⟩ ?_
  rintro W ⟨hb0, hs0⟩
  refine (live_any B hc rc pc HA RA PA has roots pairs W (HH.out.1.below (hb0.mono hB)) (HH.out.2.1.below (hb0.mono hB)) (HH.out.2.2.below (hb0.mono hB)) (by omega) hl hrl hpl hrc).mono ?_
  rintro e w1 ⟨hb1, hp⟩
  have hbl1 := hb0.trans (hb1.mono (by omega))
  have hs1 := hb1.size
  rcases hp with ⟨h0, S, c, rfl, hown⟩ | ⟨h0, rfl⟩
  · have hsm := fromL_small h0
    have HO := Lib.hid (And.intro hown h0); clear hown h0
    go_wp2_with fail
    refine (wrising_any S c w1.heap.size has.length (fromL has roots pairs) w1 (fromL_length _ _ _) (HO.out.1.at_ (fun _ _ => trivial)) (Nat.le_refl _) (by omega)).mono ?_
    rintro e w3 ⟨A3, c3, rfl, hown3, hb3⟩
    have HO3 := Lib.hid hown3; clear hown3
    go_wp2_with fail
    go_ret2
    exact ⟨hbl1.trans (hb3.mono (by omega)), .inl ⟨HO.out.2, A3, c3, rfl, HO3.out.base_le (by omega)⟩⟩
  · obtain ⟨pe, hpe⟩ : ∃ pe, prErr has roots pairs = pe := ⟨_, rfl⟩
    rw [hpe] at h0 ⊢
    have HE := Lib.hid (And.intro hpe h0); clear hpe h0
    go_wp2_with fail
    refine (wrising_any none 0 0 0 [] w1 rfl At.nil_ (by omega) (by omega)).mono ?_
    rintro e w3 ⟨A3, c3, rfl, hown3, hb3⟩
    clear hown3
    go_wp2_with fail
    go_ret2
    exact ⟨hbl1.trans (hb3.mono (by omega)), .inr (by rw [HE.out.1]; exact ⟨HE.out.2, A3, c3, rfl⟩)⟩

def KeptPost (has : List (List Int)) (roots : List Int) (pairs : List (Int × Int)) (w : World) (e : Ending) (w' : World) : Prop :=
  Below w.heap.size w w' ∧ ((prErr has roots pairs = 0 ∧ ∃ A c, e = .returned (.tuple #[.slice A (keptL (fromL has roots pairs) pairs).length c, .int .i64 0]) ∧ Own w' w.heap.size 63 A c (keptL (fromL has roots pairs) pairs)) ∨
    (prErr has roots pairs ≠ 0 ∧ e = .returned (.tuple #[.slice none 0 0, .int .i64 (prErr has roots pairs)])))

set_option maxHeartbeats 1600000 in
set_option maxRecDepth 100000 in
theorem kept_any (B hc rc pc : Nat) (HA RA PA : Option Addr) (has : List (List Int)) (roots : List Int) (pairs : List (Int × Int)) (w : World) (hh : At w B HA has) (hr : At w B RA roots) (hp : At w B PA pairs) (hB : B ≤ w.heap.size) (hl : has.length ≤ 9223372036854775807) (hrl : roots.length ≤ 9223372036854775807) (hpl : pairs.length ≤ 9223372036854775807) (hrc : roots.length ≤ rc ∧ rc ≤ maxLen) :
    Calls Try.prog 28 #[.agg #[.slice HA has.length hc, .slice RA roots.length rc], .slice PA pairs.length pc] w (KeptPost has roots pairs w) := by
  obtain ⟨i0, hi, hz0, hz1, hz2⟩ := info_parts infoRPair
  have HH := Lib.hid (And.intro hh (And.intro hr hp)); clear hh hr hp
  go_enter Try.func28, Try.ntmps28
  go_wp2_with fail
  refine calls_world (fun W => Below w.heap.size w W ∧ w.heap.size + 1 ≤ W.heap.size) ⟨(Below.refl _ _).alloc (Nat.le_refl _) _, by simp⟩ ?_
  rintro W ⟨hb0, hs0⟩
  refine (live_any B hc rc pc HA RA PA has roots pairs W (HH.out.1.below (hb0.mono hB)) (HH.out.2.1.below (hb0.mono hB)) (HH.out.2.2.below (hb0.mono hB)) (by omega) hl hrl hpl hrc).mono ?_
  rintro e w1 ⟨hb1, hp⟩
  have hbl1 := hb0.trans (hb1.mono (by omega))
  have hs1 := hb1.size
  rcases hp with ⟨h0, S, c, rfl, hown⟩ | ⟨h0, rfl⟩
  rotate_left
  · obtain ⟨pe, hpe⟩ : ∃ pe, prErr has roots pairs = pe := ⟨_, rfl⟩
    rw [hpe] at h0 ⊢
    have hne : (pe != 0) = true := by simp [h0]
    have HE := Lib.hid (And.intro hpe h0); clear hpe h0
    go_wp2_with fail
    go_ret2
    exact ⟨hbl1, .inr (by rw [HE.out.1]; exact ⟨HE.out.2, rfl⟩)⟩
  have hsm := fromL_small h0
  have hp50 := (prErr_ok h0).2.1
  have hfl := fromL_length has roots pairs
  have HO := Lib.hid (And.intro hown (And.intro h0 (And.intro (prErr_ok h0).2.2 hfl))); clear hown h0 hfl
  generalize hseen : fromL has roots pairs = seen at HO
  have HSEEN := Lib.hid hseen; clear hseen
  go_wp2_with fail
  go_loopg [8, 22] (pairs.length) (fun gk ov iv wr => ∃ (k : Nat) (A1 : Option Addr) (c1 : Nat), k ≤ pairs.length ∧ gk = pairs.length - k ∧ iv = .int .i64 k ∧ ov = .slice A1 (keptL seen (pairs.take k)).length c1 ∧ Hid (Own wr w.heap.size 63 A1 c1 (keptL seen (pairs.take k)) ∧ Own wr W.heap.size 4 S c seen) ∧ Below w.heap.size w wr)
  case atStart => exact ⟨0, none, 0, Nat.zero_le _, rfl, rfl, rfl, ⟨Own.nil_, HO.out.1⟩, hbl1⟩
  case round =>
    obtain ⟨k, A1, c1, hk, rfl, rfl, rfl, hkeep, hbl⟩ := hrel
    have hsz := hbl.size
    have hkl := keptL_length seen (pairs.take k)
    rw [List.length_take] at hkl
    by_cases hlt : k < pairs.length
    · obtain ⟨b, o, x, y, rfl, hb, hx, hox, hoy, c0, c1'⟩ := (HH.out.2.2.below (hbl.mono hB)).pair hlt
      obtain ⟨p, q, hpq, hp, hq⟩ := HO.out.2.2.1 _ (List.mem_of_getElem? hx)
      injection hpq with e1 e2; subst e1 e2
      have hsl := HO.out.2.2.2
      obtain ⟨u, hu⟩ : ∃ v, seen[p]? = some v := ⟨_, List.getElem?_eq_getElem (by omega)⟩
      obtain ⟨g, rfl, hg1, hg2⟩ := hkeep.out.2.some_ (by omega)
      have v1 := hkeep.out.2.cell_bool hu
      have p0 : (0 : Int) ≤ (p : Int) := by omega
      have p1 : (p : Int) < (has.length : Int) := by omega
      have hsn := keptL_snoc seen pairs k p q hx u hu
      have hal := hkeep.out.2.alloc (.cells #[.int .i64 p, .int .i64 q] 63)
      have hal1 := hkeep.out.1.alloc (.cells #[.int .i64 p, .int .i64 q] 63)
      cases u with
      | false =>
        rw [if_neg (by simp), List.append_nil] at hsn
        have HS := Lib.hid (And.intro hsn (And.intro hal1 hal)); clear hsn hx hu hal hal1 hkeep hsl
        go_wp2_with fail
        go_roundg (pairs.length - (k + 1))
        case measure => omega
        case rel => exact ⟨k + 1, A1, c1, by omega, rfl, by go_num, by rw [HS.out.1], by unfold Hid; rw [HS.out.1]; exact HS.out.2, hbl.alloc hsz _⟩
      | true =>
        rw [if_pos rfl] at hsn
        have HS := Lib.hid (And.intro hsn (And.intro hal1 (And.intro hal (And.intro hox hoy)))); clear hsn hx hu hal hal1 hkeep hsl hox hoy
        go_wp2_with (at_builtin; go_must (refine wpList_app (α := Int × Int) (m := 1) (B := wr.heap.size + 1 + 1) (r := [((p : Int), (q : Int))]) rfl (.tmp 31) (.tmp 33) _ rfl w.heap.size 63 i0 _ 16 Try.underlying50 hi hz0 hz1 hz2 rfl (by decide) pair_one (by rfl) rfl (HS.out.2.1.alloc _) (by rfl) ?_ rfl (by omega) (by simp only [maxLen]; omega) (by simp; omega) ?_))
        · have := At.built (wr.alloc (.cells #[.int .i64 p, .int .i64 q] 63)) #[.int .i64 p, .int .i64 q] 63 [((p : Int), (q : Int))] rfl (by intro z hz; simp at hz; subst hz; exact HS.out.2.2.2)
          simpa using this
        intro A2 c2 w2 hown2 hgr2 hat2
        have hbl2 : Below w.heap.size w w2 := ((hbl.alloc hsz _).alloc (by simp; omega) _).grown hgr2 (by simp; omega) (fun g hg => (HS.out.2.1.lt g hg).1)
        have hS2 : Own w2 W.heap.size 4 (some ⟨g, 0, none⟩) c seen := (HS.out.2.2.1.alloc _).grown hgr2 (fun h hh e => own_own_ty HS.out.2.2.1 HS.out.2.1 (by decide) h hh e)
        have HO2 := Lib.hid (And.intro hown2 hS2); clear hown2 hS2
        go_wp2_with fail
        go_roundg (pairs.length - (k + 1))
        case measure => omega
        case rel => exact ⟨k + 1, A2, c2, by omega, rfl, by go_num, by rw [HS.out.1, List.length_append]; rfl, by unfold Hid; rw [HS.out.1]; exact HO2.out, hbl2⟩
    · have hk2 : pairs.take k = pairs := List.take_of_length_le (by omega)
      rw [hk2] at hkeep ⊢
      clear hk2
      go_wp2_with fail
      go_ret2
      exact ⟨hbl, .inl (by rw [HSEEN.out]; exact ⟨HO.out.2.1, A1, c1, rfl, hkeep.out.1⟩)⟩

end Go.Proofs.Ytpkccpegdpodoaa

/- The closed fact 'owned'; the law OwnsTell, walked. -/
namespace Go.Proofs.Ytpkccpegdpodoaa
open Go.RowKit

attribute [local go_sem ↓] Go.wp_at_zero Go.wp_at_succ

theorem at_rowsG {w : World} {B g : Nat} {t : TypeId} {cs : Array Value} {rows : List SlR} (hg : Blk w g t cs) (hcs : cs.toList = rows.map fun y => .slice y.A y.l.length y.c) (hB : g < B) (h : ∀ y ∈ rows, At w B y.A y.l ∧ y.l.length ≤ y.c ∧ y.c ≤ maxLen ∧ (y.A = none → y.c = 0)) : At w B (some ⟨g, 0, none⟩) (rows.map SlR.l) := by
  intro i x hx
  rw [List.getElem?_map] at hx
  cases hy : rows[i]? with
  | none => rw [hy] at hx; cases hx
  | some y =>
    rw [hy] at hx
    injection hx with hx
    subst hx
    obtain ⟨h1, h2, h3, h4⟩ := h y (List.mem_of_getElem? hy)
    refine ⟨g, 0, [.slice y.A y.l.length y.c], rfl, hB, fun j u hu => ?_, y.A, y.c, rfl, h2, h3, h4, h1⟩
    have hj : j = 0 := by have := (List.getElem?_eq_some_iff.1 hu).1; simp at this; exact this
    subst hj
    simp at hu
    subst hu
    show w.cell? ⟨g, 0 + i * 1 + 0, none⟩ = _
    rw [show 0 + i * 1 + 0 = i by omega]
    refine hg.cell i ?_
    rw [← Array.getElem?_toList, hcs, List.getElem?_map, hy]; rfl

set_option maxHeartbeats 1600000 in
set_option maxRecDepth 100000 in
theorem owned_any (w : World) : Calls Try.prog 44 #[] w fun e w' => e = .returned (.bool true) ∧ Below w.heap.size w w' := by
  have h1 : grErr gO [0] = 0 := by decide
  have H := Lib.hid h1; clear h1
  go_enter Try.func44, Try.ntmps44
  go_wp2_with fail
  refine calls_world (fun W => At W W.heap.size (some ⟨w.heap.size + 1 + 1 + 1, 0, none⟩) gO ∧ At W W.heap.size (some ⟨w.heap.size + 1 + 1 + 1 + 1, 0, none⟩) [(0 : Int)] ∧ Below w.heap.size w W) ⟨?_, ?_, ?_⟩ ?_
  · have a0 := (((((At.built w #[.int .i64 1, .int .i64 2] 3 [(1 : Int), 2] rfl (by intro x hx; simp at hx; show I64 x; unfold I64; omega)).alloc (by simp) (.cells #[.int .i64 3] 3)).alloc (by simp) (.cells #[.int .i64 3] 3)).alloc (by simp) (.cells #[.slice (some ⟨w.heap.size, 0, none⟩) 2 2, .slice (some ⟨w.heap.size + 1, 0, none⟩) 1 1, .slice (some ⟨w.heap.size + 1 + 1, 0, none⟩) 1 1, .slice none 0 0, .slice none 0 0] 47)).alloc (by simp) (.cells #[.int .i64 0] 3))
    have a1 := ((((At.built (w.alloc (.cells #[.int .i64 1, .int .i64 2] 3)) #[.int .i64 3] 3 [(3 : Int)] rfl (by intro x hx; simp at hx; show I64 x; unfold I64; omega)).alloc (by simp) (.cells #[.int .i64 3] 3)).alloc (by simp) (.cells #[.slice (some ⟨w.heap.size, 0, none⟩) 2 2, .slice (some ⟨w.heap.size + 1, 0, none⟩) 1 1, .slice (some ⟨w.heap.size + 1 + 1, 0, none⟩) 1 1, .slice none 0 0, .slice none 0 0] 47)).alloc (by simp) (.cells #[.int .i64 0] 3))
    have a2 := (((At.built ((w.alloc (.cells #[.int .i64 1, .int .i64 2] 3)).alloc (.cells #[.int .i64 3] 3)) #[.int .i64 3] 3 [(3 : Int)] rfl (by intro x hx; simp at hx; show I64 x; unfold I64; omega)).alloc (by simp) (.cells #[.slice (some ⟨w.heap.size, 0, none⟩) 2 2, .slice (some ⟨w.heap.size + 1, 0, none⟩) 1 1, .slice (some ⟨w.heap.size + 1 + 1, 0, none⟩) 1 1, .slice none 0 0, .slice none 0 0] 47)).alloc (by simp) (.cells #[.int .i64 0] 3))
    simp only [World.size_alloc] at a0 a1 a2
    refine at_rowsG (rows := [⟨some ⟨w.heap.size, 0, none⟩, 2, [1, 2]⟩, ⟨some ⟨w.heap.size + 1, 0, none⟩, 1, [3]⟩, ⟨some ⟨w.heap.size + 1 + 1, 0, none⟩, 1, [3]⟩, ⟨none, 0, []⟩, ⟨none, 0, []⟩]) ((Blk.at_ _ _ _ (by simp)).alloc _) rfl (by simp) (fun y hy => ?_)
    simp only [List.mem_cons, List.not_mem_nil, or_false] at hy
    rcases hy with rfl | rfl | rfl | rfl | rfl
    · exact ⟨a0.more (by simp), by simp, by simp [maxLen], fun e => by cases e⟩
    · exact ⟨a1.more (by simp), by simp, by simp [maxLen], fun e => by cases e⟩
    · exact ⟨a2.more (by simp), by simp, by simp [maxLen], fun e => by cases e⟩
    · exact ⟨At.nil_, Nat.le_refl _, by simp [maxLen], fun _ => rfl⟩
    · exact ⟨At.nil_, Nat.le_refl _, by simp [maxLen], fun _ => rfl⟩
  · have := At.built ((((w.alloc (.cells #[.int .i64 1, .int .i64 2] 3)).alloc (.cells #[.int .i64 3] 3)).alloc (.cells #[.int .i64 3] 3)).alloc (.cells #[.slice (some ⟨w.heap.size, 0, none⟩) 2 2, .slice (some ⟨w.heap.size + 1, 0, none⟩) 1 1, .slice (some ⟨w.heap.size + 1 + 1, 0, none⟩) 1 1, .slice none 0 0, .slice none 0 0] 47)) #[.int .i64 0] 3 [(0 : Int)] rfl (by intro x hx; simp at hx; subst hx; exact (by unfold I64; omega : I64 0))
    simp only [World.size_alloc] at this
    exact this.more (by simp)
  · exact (((((Below.refl _ _).alloc (Nat.le_refl _) _).alloc (by simp) _).alloc (by simp; omega) _).alloc (by simp; omega) _).alloc (by simp; omega) _
  rintro W ⟨hA, hB, hb⟩
  have hs := hb.size
  refine (oDoms_any W.heap.size 5 1 (some ⟨w.heap.size + 1 + 1 + 1, 0, none⟩) (some ⟨w.heap.size + 1 + 1 + 1 + 1, 0, none⟩) gO [0] W hA hB (Nat.le_refl _) (by decide) (by simp) ⟨by simp, by simp [maxLen]⟩).mono ?_
  rintro e w1 ⟨hb1, hp⟩
  clear hA hB
  rcases hp with ⟨-, DA, dc, ORD, d, hkt, rfl, ho⟩ | ⟨h0, -⟩
  rotate_left
  · exact absurd H.out h0
  have hd := dO hkt
  subst hd
  have hs1 := hb1.size
  have HO := Lib.hid ho; clear ho hkt
  go_wp2_with fail
  refine calls_world (fun V => At V V.heap.size (some ⟨w1.heap.size, 0, none⟩) [(-1 : Int), 0, 0, 0, -2] ∧ Below w1.heap.size w1 V) ⟨?_, (Below.refl _ _).alloc (Nat.le_refl _) _⟩ ?_
  · have := At.built w1 #[.int .i64 (-1), .int .i64 0, .int .i64 0, .int .i64 0, .int .i64 (-2)] 3 [(-1 : Int), 0, 0, 0, -2] rfl (by intro x hx; simp at hx; show I64 x; unfold I64; omega)
    exact this.more (by simp)
  rintro V ⟨hD, hb2⟩
  have hat := (HO.out.fresh hb2).at_ (by intro x hx; simp at hx; show I64 x; unfold I64; omega)
  refine (eqInt_n DA _ dc 5 V.heap.size 5 5 [(-1 : Int), 0, 0, 0, -2] [(-1 : Int), 0, 0, 0, -2] V rfl rfl hat hD (by simp)).mono ?_
  rintro e w3 ⟨rfl, rfl⟩
  clear hat hD
  go_wp2_with fail
  go_ret
  exact ⟨rfl, hb.trans ((hb1.mono hs).trans (hb2.mono (by omega)))⟩

/-- what Keeps hands back, of a right graph -/
def KsOk (has : List (List Int)) (roots : List Int) (n : Int) (base : Nat) (w' : World) (A : Option Addr) (c m : Nat) (j : Int) : Prop :=
  (inN has.length n = false ∧ A = none ∧ m = 0 ∧ c = 0 ∧ j = 5) ∨ (j = 0 ∧ ∃ z : Nat, n = (z : Int) ∧ z < has.length ∧ (rising (kpB has roots z)).length = m ∧ Own w' base 3 A c (rising (kpB has roots z)))
theorem KsPost.ok {has : List (List Int)} {roots : List Int} {n : Int} {w w' : World} {e : Ending} (h : KsPost has roots n w e w') (h0 : grErr has roots = 0) : Below w.heap.size w w' ∧ ∃ (A : Option Addr) (c m : Nat) (j : Int), e = .returned (.tuple #[.slice A m c, .int .i64 j]) ∧ KsOk has roots n w.heap.size w' A c m j := by
  obtain ⟨hb, h1 | ⟨-, h2, h3⟩ | ⟨-, z, e1, hz, A, c, h3, h4⟩⟩ := h
  · exact absurd h0 h1.1
  · exact ⟨hb, none, 0, 0, 5, h3, .inl ⟨h2, rfl, rfl, rfl, rfl⟩⟩
  · exact ⟨hb, A, c, _, 0, h3, .inr ⟨rfl, z, e1, hz, rfl, h4⟩⟩

set_option maxHeartbeats 6400000 in
set_option maxRecDepth 100000 in
theorem ownsTell_any (B hc rc : Nat) (HA RA : Option Addr) (has : List (List Int)) (roots : List Int) (n : Int) (hni : I64 n) (w : World) (hh : At w B HA has) (hro : At w B RA roots) (hB : B ≤ w.heap.size) (hl : has.length ≤ 9223372036854775807) (hrl : roots.length ≤ 9223372036854775807) (hrc : roots.length ≤ rc ∧ rc ≤ maxLen) :
    Calls Try.prog 8 #[.agg #[.slice HA has.length hc, .slice RA roots.length rc], .int .i64 n] w fun e w' => e = .returned (.bool true) ∧ Below w.heap.size w w' := by
  have HH := Lib.hid (And.intro hh hro); clear hh hro
  have HNI := Lib.hid hni; clear hni
  go_enter Try.func8, Try.ntmps8
  go_wp2_with fail
  refine calls_world (fun W => Blk W w.heap.size 49 #[.slice HA has.length hc, .slice RA roots.length rc] ∧ Below w.heap.size w W ∧ w.heap.size + 1 ≤ W.heap.size) ⟨Blk.new _ _ _, (Below.refl _ _).alloc (Nat.le_refl _) _, by simp⟩ ?_
  rintro W ⟨hG, hb0, hs0⟩
  refine (owned_any W).mono ?_
  rintro e w1 ⟨rfl, hb1⟩
  have hs1 := hb1.size
  have hbl1 := hb0.trans (hb1.mono (by omega))
  have HG1 := Lib.hid (hG.fresh hb1); clear hG
  have g0 := HG1.out.cell 0 (v := .slice HA has.length hc) rfl
  have g1 := HG1.out.cell 1 (v := .slice RA roots.length rc) rfl
  go_wp2_with fail
  refine (gfault_any B hc rc HA RA has roots w1 (HH.out.1.below (hbl1.mono hB)) (HH.out.2.below (hbl1.mono hB)) (by omega) hl hrl).mono ?_
  rintro e w2 ⟨rfl, hb2⟩
  have hs2 := hb2.size
  have hbl2 := hbl1.trans (hb2.mono (by omega))
  have HG2 := Lib.hid (HG1.out.fresh hb2)
  clear g0 g1 HG1
  have g0 := HG2.out.cell 0 (v := .slice HA has.length hc) rfl
  have g1 := HG2.out.cell 1 (v := .slice RA roots.length rc) rfl
  go_wp2_with fail
  refine (oDoms_any B hc rc HA RA has roots w2 (HH.out.1.below (hbl2.mono hB)) (HH.out.2.below (hbl2.mono hB)) (by omega) hl hrl hrc).mono ?_
  rintro e w3 ⟨hb3, hdm⟩
  have hs3 := hb3.size
  have hbl3 := hbl2.trans (hb3.mono (by omega))
  have HG3 := Lib.hid (HG2.out.fresh hb3)
  clear g0 g1 HG2
  have g0 := HG3.out.cell 0 (v := .slice HA has.length hc) rfl
  have g1 := HG3.out.cell 1 (v := .slice RA roots.length rc) rfl
  have hsz := oSizes_any B hc rc HA RA has roots w3 (HH.out.1.below (hbl3.mono hB)) (HH.out.2.below (hbl3.mono hB)) (by omega) hl hrl hrc
  unfold SzPost at hsz
  obtain ⟨ee, hee⟩ : ∃ ee, grErr has roots = ee := ⟨_, rfl⟩
  rw [hee] at hdm hsz ⊢
  by_cases h0 : ee = 0
  rotate_left
  · -- the graph is not right
    rcases hdm with ⟨h, -⟩ | ⟨-, rfl⟩
    · exact absurd h h0
    have hne : (ee != 0) = true := by simp [h0]
    have HE := Lib.hid (And.intro hsz (And.intro h0 hee)); clear hsz h0 hee
    go_wp2_with fail
    refine HE.out.1.mono ?_
    rintro e w4 ⟨hb4, hrr⟩
    have hs4 := hb4.size
    have hbl4 := hbl3.trans (hb4.mono (by omega))
    have HG4 := Lib.hid (HG3.out.fresh hb4)
    clear g0 g1
    have g0 := HG4.out.cell 0 (v := .slice HA has.length hc) rfl
    have g1 := HG4.out.cell 1 (v := .slice RA roots.length rc) rfl
    rcases hrr with ⟨h, -⟩ | ⟨-, rfl⟩
    · exact absurd h HE.out.2.1
    have hks := oKeeps_any B hc rc HA RA has roots n HNI.out w4 (HH.out.1.below (hbl4.mono hB)) (HH.out.2.below (hbl4.mono hB)) (by omega) hl hrl hrc
    unfold KsPost at hks
    rw [HE.out.2.2] at hks
    have HK := Lib.hid hks; clear hks
    go_wp2_with fail
    refine HK.out.mono ?_
    rintro e w5 ⟨hb5, hkk⟩
    have hs5 := hb5.size
    rcases hkk with ⟨-, rfl⟩ | ⟨h, -⟩ | ⟨h, -⟩
    · go_wp2_with fail
      go_ret
      exact ⟨rfl, hbl4.trans (hb5.mono (by omega))⟩
    · exact absurd h HE.out.2.1
    · exact absurd h HE.out.2.1
  subst h0
  obtain ⟨gl, grl, ghl, gright, gsrc⟩ := grErr_ok hee
  obtain ⟨N, hN⟩ : ∃ N, has.length = N := ⟨_, rfl⟩
  rcases hdm with ⟨-, DA, dc, ORD, d, hkt, rfl, ho3⟩ | ⟨h, -⟩
  rotate_left
  · exact absurd rfl h
  have HN := Lib.hid (And.intro hsz (And.intro hkt (And.intro ho3 (And.intro hee (And.intro gright (And.intro gsrc (And.intro ghl hN))))))); clear hsz hkt ho3 hee gright gsrc ghl
  rw [hN] at g0 gl ⊢
  clear hN
  go_wp2_with fail
  rw [← HN.out.2.2.2.2.2.2.2]
  refine HN.out.1.mono ?_
  rintro e w4 ⟨hb4, hrr⟩
  have hs4 := hb4.size
  have hbl4 := hbl3.trans (hb4.mono (by omega))
  rcases hrr with ⟨-, SA, sc, rfl, hO4⟩ | ⟨h, -⟩
  rotate_left
  · exact absurd rfl h
  rw [HN.out.2.2.2.2.2.2.2]
  have HG4 := Lib.hid (HG3.out.fresh hb4)
  have hGw := HG4.out
  rw [HN.out.2.2.2.2.2.2.2] at hGw
  clear g0 g1
  have g0 := hGw.cell 0 (v := .slice HA N hc) rfl
  have g1 := hGw.cell 1 (v := .slice RA roots.length rc) rfl
  have hks := oKeeps_any B hc rc HA RA has roots n HNI.out w4 (HH.out.1.below (hbl4.mono hB)) (HH.out.2.below (hbl4.mono hB)) (by omega) hl hrl hrc
  have HK := Lib.hid (And.intro hks (And.intro hO4 (And.intro (HN.out.2.2.1.fresh hb4) hGw))); clear hks hO4 hGw
  go_wp2_with fail
  rw [← HN.out.2.2.2.2.2.2.2]
  refine HK.out.1.mono ?_
  intro e w5 hkk
  obtain ⟨hb5, KA, kc, kn, jv, rfl, hkok⟩ := hkk.ok HN.out.2.2.2.1
  rw [HN.out.2.2.2.2.2.2.2]
  have hs5 := hb5.size
  have hbl5 := hbl4.trans (hb5.mono (by omega))
  have hG5 := HK.out.2.2.2.fresh hb5
  clear g0 g1
  have g0 := hG5.cell 0 (v := .slice HA N hc) rfl
  have g1 := hG5.cell 1 (v := .slice RA roots.length rc) rfl
  have hS5 := HK.out.2.1.fresh hb5
  have hD5 := HK.out.2.2.1.fresh hb5
  have H5 := Lib.hid (And.intro hkok (And.intro hS5 (And.intro hD5 hG5))); clear hkok hS5 hD5 hG5
  by_cases h14 : 14 < N
  · have d14 : (14 : Int) < (N : Int) := by omega
    go_wp2_with fail
    go_ret
    exact ⟨rfl, hbl5⟩
  have d14 : ¬ (14 : Int) < (N : Int) := by omega
  go_wp2_with fail
  clear g0 g1
  go_loopg [92] N (fun gk iv wr => ∃ k : Nat, k ≤ N ∧ gk = N - k ∧ iv = .int .i64 k ∧ Below w5.heap.size w5 wr)
  case atStart => exact ⟨0, Nat.zero_le _, rfl, rfl, Below.refl _ _⟩
  case round =>
    obtain ⟨k, hk, rfl, rfl, hbk⟩ := hrel
    have hGk := H5.out.2.2.2.fresh hbk
    have g0 := hGk.cell 0 (v := .slice HA N hc) rfl
    have g1 := hGk.cell 1 (v := .slice RA roots.length rc) rfl
    have hbw : Below w.heap.size w wr := hbl5.trans (hbk.mono (by omega))
    have hwb : w.heap.size ≤ wr.heap.size := hbw.size
    have keepc : ∀ (V : World) (m : Nat), m < N → Below w.heap.size w V → Calls Try.prog 49 #[.agg #[.slice HA N hc, .slice RA roots.length rc], .int .i64 (m : Int)] V fun e w' => (∃ (A : Option Addr) (c : Nat), e = .returned (.slice A N c) ∧ Own w' V.heap.size 4 A c (kpB has roots m)) ∧ Below V.heap.size V w' := fun V m hm hb =>
      rKeeps_any B hc rc N roots.length m HA RA has roots V (HH.out.1.below (hb.mono hB)) (HH.out.2.below (hb.mono hB)) (by have := hb.size; omega) HN.out.2.2.2.2.2.2.2 rfl gl grl hm HN.out.2.2.2.2.1 HN.out.2.2.2.2.2.1 HN.out.2.2.2.2.2.2.1
    by_cases hlt : k < N
    · have hDk := H5.out.2.2.1.fresh hbk
      have hSk := H5.out.2.1.fresh hbk
      have hNe := HN.out.2.2.2.2.2.2.2
      obtain ⟨u, hu⟩ := HN.out.2.1.dv.get (m := k) (by omega)
      obtain ⟨gd, rfl, hgd1, hgd2⟩ := hDk.some_ (by rw [HN.out.2.1.dv.len]; omega)
      obtain ⟨gs, rfl, hgs1, hgs2⟩ := hSk.some_ (by rw [sizL_length]; omega)
      have d0 := hDk.cell_int hu
      have s0 := hSk.cell_int (sizL_get (roots := roots) (show k < has.length by omega))
      have k0 : (0 : Int) ≤ (k : Int) := by omega
      have k1 : (k : Int) < (N : Int) := by omega
      have hkl : (kpB has roots k).length = N := by rw [kpB_length]; exact hNe
      have hdom := rDom_any B hc rc N roots.length k HA RA has roots ORD d u wr.drew ((HH.out.1.below (hbw.mono hB)).drew) ((HH.out.2.below (hbw.mono hB)).drew) (by show B ≤ wr.heap.size; omega) hNe rfl gl grl hlt HN.out.2.2.2.2.1 HN.out.2.2.2.2.2.1 HN.out.2.2.2.2.2.2.1 HN.out.2.1 HN.out.2.1.gf hu
      have HD := Lib.hid (And.intro hdom (And.intro keepc (And.intro hkl (And.intro hbw hGk)))); clear hdom keepc hkl hu hDk hSk hNe hGk
      obtain ⟨rl, hrl⟩ : ∃ rl, (rising (kpB has roots k)).length = rl := ⟨_, rfl⟩
      rw [hrl] at s0
      have HRL := Lib.hid hrl; clear hrl
      have hglt : w.heap.size < wr.heap.size := by have := hbl5.size; have := hbk.size; have := hs0; omega
      have hszr : wr.drew.heap.size = wr.heap.size := rfl
      go_upto_region 14 with fail
      refine wp_region_held_drew (S := (fun w' => w'.cell? ⟨gd, k, none⟩ = some (.int .i64 u) ∧ w'.cell? ⟨gs, k, none⟩ = some (.int .i64 (rl : Int)) ∧ w'.cell? ⟨w.heap.size, 0, none⟩ = some (.slice HA N hc) ∧ w'.cell? ⟨w.heap.size, 1, none⟩ = some (.slice RA roots.length rc))) (by kernel_rfl) ?_ (fun hHeld0 => ?_)
      · first | trivial | ((try dsimp only); (exact ⟨d0, s0, g0, g1⟩))
      refine held_take (v := ?_) 0 rfl (by kernel_rfl) (by kernel_rfl) (by kernel_rfl) (fun _ _ _ h => h) (by rfl) ?_ (by assumption) ?_
      rotate_left
      · (intro w hSw; (try dsimp only at hSw); go_simp; try with_reducible rfl)
      try simp only [Act.put, List.setIfInBounds_toArray, List.set_cons_zero, List.set_cons_succ]
      refine held_take (v := ?_) 1 rfl (by kernel_rfl) (by kernel_rfl) (by kernel_rfl) (fun _ _ _ h => h) (by rfl) ?_ (by assumption) ?_
      rotate_left
      · (intro w hSw; (try dsimp only at hSw); go_simp; try with_reducible rfl)
      try simp only [Act.put, List.setIfInBounds_toArray, List.set_cons_zero, List.set_cons_succ]
      refine held_take (v := ?_) 2 rfl (by kernel_rfl) (by kernel_rfl) (by kernel_rfl) (fun _ _ _ h => h) (by rfl) ?_ (by assumption) ?_
      rotate_left
      · (intro w hSw; (try dsimp only at hSw); go_simp; try with_reducible rfl)
      try simp only [Act.put, List.setIfInBounds_toArray, List.set_cons_zero, List.set_cons_succ]
      refine held_take (v := ?_) 3 rfl (by kernel_rfl) (by kernel_rfl) (by kernel_rfl) (fun _ _ _ h => h) (by rfl) ?_ (by assumption) ?_
      rotate_left
      · (intro w hSw; (try dsimp only at hSw); go_simp; try with_reducible rfl)
      try simp only [Act.put, List.setIfInBounds_toArray, List.set_cons_zero, List.set_cons_succ]
      refine held_take (v := ?_) 4 rfl (by kernel_rfl) (by kernel_rfl) (by kernel_rfl) (fun _ _ _ h => h) (by rfl) ?_ (by assumption) ?_
      rotate_left
      · (intro w hSw; (try dsimp only at hSw); go_simp; try with_reducible rfl)
      try simp only [Act.put, List.setIfInBounds_toArray, List.set_cons_zero, List.set_cons_succ]
      refine held_take (v := ?_) 5 rfl (by kernel_rfl) (by kernel_rfl) (by kernel_rfl) (fun _ _ _ h => h) (by rfl) ?_ (by assumption) ?_
      rotate_left
      · (intro w hSw; (try dsimp only at hSw); go_simp; try with_reducible rfl)
      try simp only [Act.put, List.setIfInBounds_toArray, List.set_cons_zero, List.set_cons_succ]
      refine held_call 6 (by kernel_rfl) rfl (fun K hK => ?_)
      go_simp
      go_at_call 48; refine HD.out.1.mono ?_; rintro e w6 ⟨rfl, hb6⟩; have hb6' : Below wr.heap.size wr w6 := undrew hb6; have hs6 := hb6'.size; have d0 := (hb6'.cell (p := ⟨gd, k, none⟩) (by simp only; omega)).trans d0; have s0 := (hb6'.cell (p := ⟨gs, k, none⟩) (by simp only; omega)).trans s0; have g0 := (hb6'.cell (p := ⟨w.heap.size, 0, none⟩) hglt).trans g0; have g1 := (hb6'.cell (p := ⟨w.heap.size, 1, none⟩) hglt).trans g1; have H6 := Lib.hid hb6'; clear hb6 hb6'
      try (go_wp2_with fail)
      refine hK.out _ _ ?_ (fun hHeld1 => ?_)
      · first | trivial | ((try dsimp only); (exact ⟨d0, s0, g0, g1⟩))
      clear hK K hHeld0
      try simp only [Act.put, List.setIfInBounds_toArray, List.set_cons_zero, List.set_cons_succ]
      refine held_take (v := ?_) 7 rfl (by kernel_rfl) (by kernel_rfl) (by kernel_rfl) (fun _ _ _ h => h) (by rfl) ?_ (by assumption) ?_
      rotate_left
      · (intro w hSw; (try dsimp only at hSw); go_simp; try with_reducible rfl)
      try simp only [Act.put, List.setIfInBounds_toArray, List.set_cons_zero, List.set_cons_succ]
      refine held_take (v := ?_) 8 rfl (by kernel_rfl) (by kernel_rfl) (by kernel_rfl) (fun _ _ _ h => h) (by rfl) ?_ (by assumption) ?_
      rotate_left
      · (intro w hSw; (try dsimp only at hSw); go_simp; try with_reducible rfl)
      try simp only [Act.put, List.setIfInBounds_toArray, List.set_cons_zero, List.set_cons_succ]
      refine held_take (v := ?_) 9 rfl (by kernel_rfl) (by kernel_rfl) (by kernel_rfl) (fun _ _ _ h => h) (by rfl) ?_ (by assumption) ?_
      rotate_left
      · (intro w hSw; (try dsimp only at hSw); go_simp; try with_reducible rfl)
      try simp only [Act.put, List.setIfInBounds_toArray, List.set_cons_zero, List.set_cons_succ]
      refine held_take (v := ?_) 10 rfl (by kernel_rfl) (by kernel_rfl) (by kernel_rfl) (fun _ _ _ h => h) (by rfl) ?_ (by assumption) ?_
      rotate_left
      · (intro w hSw; (try dsimp only at hSw); go_simp; try with_reducible rfl)
      try simp only [Act.put, List.setIfInBounds_toArray, List.set_cons_zero, List.set_cons_succ]
      refine held_take (v := ?_) 11 rfl (by kernel_rfl) (by kernel_rfl) (by kernel_rfl) (fun _ _ _ h => h) (by rfl) ?_ (by assumption) ?_
      rotate_left
      · (intro w hSw; (try dsimp only at hSw); go_simp; try with_reducible rfl)
      try simp only [Act.put, List.setIfInBounds_toArray, List.set_cons_zero, List.set_cons_succ]
      refine held_take (v := ?_) 12 rfl (by kernel_rfl) (by kernel_rfl) (by kernel_rfl) (fun _ _ _ h => h) (by rfl) ?_ (by assumption) ?_
      rotate_left
      · (intro w hSw; (try dsimp only at hSw); go_simp; try with_reducible rfl)
      try simp only [Act.put, List.setIfInBounds_toArray, List.set_cons_zero, List.set_cons_succ]
      refine held_take (v := ?_) 13 rfl (by kernel_rfl) (by kernel_rfl) (by kernel_rfl) (fun _ _ _ h => h) (by rfl) ?_ (by assumption) ?_
      rotate_left
      · (intro w hSw; (try dsimp only at hSw); go_simp; try with_reducible rfl)
      try simp only [Act.put, List.setIfInBounds_toArray, List.set_cons_zero, List.set_cons_succ]
      refine held_take (v := ?_) 14 rfl (by kernel_rfl) (by kernel_rfl) (by kernel_rfl) (fun _ _ _ h => h) (by rfl) ?_ (by assumption) ?_
      rotate_left
      · (intro w hSw; (try dsimp only at hSw); go_simp; try with_reducible rfl)
      try simp only [Act.put, List.setIfInBounds_toArray, List.set_cons_zero, List.set_cons_succ]
      refine held_call 15 (by kernel_rfl) rfl (fun K hK => ?_)
      go_simp
      go_at_call 49; refine (HD.out.2.1 w6 k hlt (HD.out.2.2.2.1.trans (H6.out.mono hwb))).mono ?_; rintro e w7 ⟨⟨KB, kbc, rfl, ho7⟩, hb7⟩; have hs7 := hb7.size; have d0 := (hb7.cell (p := ⟨gd, k, none⟩) (by simp only; omega)).trans d0; have s0 := (hb7.cell (p := ⟨gs, k, none⟩) (by simp only; omega)).trans s0; have g0 := (hb7.cell (p := ⟨w.heap.size, 0, none⟩) (by simp only; omega)).trans g0; have g1 := (hb7.cell (p := ⟨w.heap.size, 1, none⟩) (by simp only; omega)).trans g1; have H7 := Lib.hid (And.intro ho7 hb7); clear ho7 hb7
      try (go_wp2_with fail)
      refine hK.out _ _ ?_ (fun hHeld2 => ?_)
      · first | trivial | ((try dsimp only); (exact ⟨d0, s0, g0, g1⟩))
      clear hK K hHeld1
      try simp only [Act.put, List.setIfInBounds_toArray, List.set_cons_zero, List.set_cons_succ]
      refine held_call 16 (by kernel_rfl) rfl (fun K hK => ?_)
      go_simp
      go_at_call 32; refine (rrising_any KB kbc w7.heap.size N (kpB has roots k) w7 HD.out.2.2.1 (H7.out.1.at_ (fun _ _ => trivial)) (Nat.le_refl _) (by omega)).mono ?_; rintro e w8 ⟨RB, rbc, rfl, ho8, hb8⟩; have hs8 := hb8.size; have d0 := (hb8.cell (p := ⟨gd, k, none⟩) (by simp only; omega)).trans d0; have s0 := (hb8.cell (p := ⟨gs, k, none⟩) (by simp only; omega)).trans s0; have g0 := (hb8.cell (p := ⟨w.heap.size, 0, none⟩) (by simp only; omega)).trans g0; have g1 := (hb8.cell (p := ⟨w.heap.size, 1, none⟩) (by simp only; omega)).trans g1; rw [HRL.out]; have H8 := Lib.hid hb8; clear ho8 hb8
      try (go_wp2_with fail)
      refine hK.out _ _ ?_ (fun hHeld3 => ?_)
      · first | trivial | ((try dsimp only); (exact ⟨d0, s0, g0, g1⟩))
      clear hK K hHeld2
      try simp only [Act.put, List.setIfInBounds_toArray, List.set_cons_zero, List.set_cons_succ]
      refine held_take (v := ?_) 17 rfl (by kernel_rfl) (by kernel_rfl) (by kernel_rfl) (fun _ _ _ h => h) (by rfl) ?_ (by assumption) ?_
      rotate_left
      · (intro w hSw; (try dsimp only at hSw); go_simp; try with_reducible rfl)
      try simp only [Act.put, List.setIfInBounds_toArray, List.set_cons_zero, List.set_cons_succ]
      refine held_take (v := ?_) 18 rfl (by kernel_rfl) (by kernel_rfl) (by kernel_rfl) (fun _ _ _ h => h) (by rfl) ?_ (by assumption) ?_
      rotate_left
      · (intro w hSw; (try dsimp only at hSw); go_simp; try with_reducible rfl)
      try simp only [Act.put, List.setIfInBounds_toArray, List.set_cons_zero, List.set_cons_succ]
      refine held_take (v := ?_) 19 rfl (by kernel_rfl) (by kernel_rfl) (by kernel_rfl) (fun _ _ _ h => h) (by rfl) ?_ (by assumption) ?_
      rotate_left
      · (intro w hSw; (try dsimp only at hSw); go_simp; try with_reducible rfl)
      try simp only [Act.put, List.setIfInBounds_toArray, List.set_cons_zero, List.set_cons_succ]
      refine wpAnyH_done (by kernel_rfl) ?_ _
      go_wp2_with fail
      go_roundg (N - (k + 1))
      case measure => omega
      case rel => exact ⟨k + 1, by omega, rfl, by go_num, hbk.trans ((H6.out.mono hbk.size).trans ((H7.out.2.mono (by have := hbk.size; omega)).trans (H8.out.mono (by have := hbk.size; omega))))⟩
    · obtain rfl : N = k := by omega
      have HKC := Lib.hid keepc; clear keepc
      rcases H5.out.1 with ⟨hin, rfl, rfl, rfl, rfl⟩ | ⟨rfl, z, rfl, hz, hzl, hzo⟩
      · unfold inN at hin
        rw [HN.out.2.2.2.2.2.2.2] at hin
        simp only [Bool.and_eq_false_iff, decide_eq_false_iff_not] at hin
        by_cases hneg : n < 0
        · clear hin
          go_wp2_with fail
          go_ret
          exact ⟨rfl, hbw⟩
        · have hge : (N : Int) ≤ n := by omega
          clear hin
          go_wp2_with fail
          go_ret
          exact ⟨rfl, hbw⟩
      · rw [HN.out.2.2.2.2.2.2.2] at hz
        have hneg : ¬ (z : Int) < 0 := by omega
        have hge : ¬ (N : Int) ≤ (z : Int) := by omega
        have hkl : (kpB has roots z).length = N := by rw [kpB_length]; exact HN.out.2.2.2.2.2.2.2
        have HZ := Lib.hid (And.intro (hzo.fresh hbk) (And.intro hzl hkl)); clear hzo hzl hkl
        go_wp2_with fail
        refine (HKC.out wr z hz hbw).mono ?_
        rintro e w6 ⟨⟨BA, bc, rfl, ho6⟩, hb6⟩
        have hs6 := hb6.size
        have H6 := Lib.hid (And.intro ho6 hb6); clear ho6 hb6 g0 g1
        go_wp2_with fail
        refine (rrising_any BA bc w6.heap.size N (kpB has roots z) w6 HZ.out.2.2 (H6.out.1.at_ (fun _ _ => trivial)) (Nat.le_refl _) (by omega)).mono ?_
        rintro e w7 ⟨CA, cc, rfl, ho7, hb7⟩
        have hs7 := hb7.size
        have hrk := rising_ok _ (show (kpB has roots z).length ≤ 1000000 by have := HZ.out.2.2; omega)
        have heq := eqInt_n KA CA kc cc w7.heap.size kn _ _ _ w7 HZ.out.2.1 rfl (((HZ.out.1.fresh H6.out.2).fresh hb7).at_ hrk) (ho7.at_ hrk) (by have := rising_length (kpB has roots z); have := HZ.out.2.1; have := HZ.out.2.2; omega)
        rw [decide_eq_true rfl] at heq
        have H7 := Lib.hid (And.intro heq hb7); clear heq ho7 hb7
        go_wp2_with fail
        refine H7.out.1.mono ?_
        rintro e w8 ⟨rfl, rfl⟩
        go_wp2_with fail
        go_ret
        exact ⟨rfl, hbw.trans ((H6.out.2.mono hwb).trans (H7.out.2.mono (by omega)))⟩

end Go.Proofs.Ytpkccpegdpodoaa

/-
  Go's struct types as Lean's (printed by gentypes.py): their cells, their reading, what an element of a slice of them holds.
-/
namespace Go.Proofs.Ytpkccpegdpodoaa
open Go.RowKit

structure Mk where
  cell : Int
  kind : Int
  num : Int
  vals : List Int

instance : Enc Mk where
  sz := 4
  rd w B cs x := ∃ (c_vals : Value), cs = [.int .i64 x.cell] ++ ([.int .i64 x.kind] ++ ([.int .i64 x.num] ++ ([c_vals]))) ∧ I64 x.cell ∧ I64 x.kind ∧ I64 x.num ∧ Enc.rd w B [c_vals] x.vals
  len := by
    rintro w B cs x ⟨c_vals, rfl, h0, h1, h2, h3⟩
    simp only [List.length_append, List.length_cons, List.length_nil]
  keep := by
    rintro w w2 B cs x ⟨c_vals, rfl, h0, h1, h2, h3⟩ hk
    exact ⟨_, rfl, h0, h1, h2, Enc.keep h3 hk⟩
  more := by
    rintro w B B2 cs x ⟨c_vals, rfl, h0, h1, h2, h3⟩ hB
    exact ⟨_, rfl, h0, h1, h2, Enc.more h3 hB⟩

theorem At.mk_ {w : World} {B : Nat} {A : Option Addr} {l : List Mk} {k : Nat} (h : At w B A l) (hk : k < l.length) :
    ∃ b o x A_vals c_vals, A = some ⟨b, o, none⟩ ∧ b < B ∧ l[k]? = some x ∧ w.cell? ⟨b, o + k * 4, none⟩ = some (.int .i64 x.cell) ∧ w.cell? ⟨b, o + k * 4 + 1, none⟩ = some (.int .i64 x.kind) ∧ w.cell? ⟨b, o + k * 4 + 2, none⟩ = some (.int .i64 x.num) ∧ w.cell? ⟨b, o + k * 4 + 3, none⟩ = some (.slice A_vals x.vals.length c_vals) ∧ At w B A_vals x.vals ∧ (x.vals.length ≤ c_vals ∧ c_vals ≤ maxLen) ∧ I64 x.cell ∧ I64 x.kind ∧ I64 x.num := by
  obtain ⟨x, hx⟩ : ∃ x, l[k]? = some x := ⟨l[k], List.getElem?_eq_getElem hk⟩
  obtain ⟨b, o, cs, rfl, hb, hc, hr⟩ := h k x hx
  obtain ⟨c_vals, rfl, h0, h1, h2, h3⟩ := hr
  obtain ⟨A_vals, d_vals, e3, l1_vals, l2_vals, -, at_vals⟩ := h3
  injection e3 with e3; subst e3
  exact ⟨b, o, x, A_vals, d_vals, rfl, hb, hx, hc 0 _ rfl, hc 1 _ rfl, hc 2 _ rfl, hc 3 _ rfl, at_vals, ⟨l1_vals, l2_vals⟩, h0, h1, h2⟩

structure Ex where
  at_ : Int
  steps : Int
  sets : List (Int × Int)
  makes : List Mk

instance : Enc Ex where
  sz := 4
  rd w B cs x := ∃ (c_sets : Value) (c_makes : Value), cs = [.int .i64 x.at_] ++ ([.int .i64 x.steps] ++ ([c_sets] ++ ([c_makes]))) ∧ I64 x.at_ ∧ I64 x.steps ∧ Enc.rd w B [c_sets] x.sets ∧ Enc.rd w B [c_makes] x.makes
  len := by
    rintro w B cs x ⟨c_sets, c_makes, rfl, h0, h1, h2, h3⟩
    simp only [List.length_append, List.length_cons, List.length_nil]
  keep := by
    rintro w w2 B cs x ⟨c_sets, c_makes, rfl, h0, h1, h2, h3⟩ hk
    exact ⟨_, _, rfl, h0, h1, Enc.keep h2 hk, Enc.keep h3 hk⟩
  more := by
    rintro w B B2 cs x ⟨c_sets, c_makes, rfl, h0, h1, h2, h3⟩ hB
    exact ⟨_, _, rfl, h0, h1, Enc.more h2 hB, Enc.more h3 hB⟩

theorem At.ex_ {w : World} {B : Nat} {A : Option Addr} {l : List Ex} {k : Nat} (h : At w B A l) (hk : k < l.length) :
    ∃ b o x A_sets c_sets A_makes c_makes, A = some ⟨b, o, none⟩ ∧ b < B ∧ l[k]? = some x ∧ w.cell? ⟨b, o + k * 4, none⟩ = some (.int .i64 x.at_) ∧ w.cell? ⟨b, o + k * 4 + 1, none⟩ = some (.int .i64 x.steps) ∧ w.cell? ⟨b, o + k * 4 + 2, none⟩ = some (.slice A_sets x.sets.length c_sets) ∧ w.cell? ⟨b, o + k * 4 + 3, none⟩ = some (.slice A_makes x.makes.length c_makes) ∧ At w B A_sets x.sets ∧ (x.sets.length ≤ c_sets ∧ c_sets ≤ maxLen) ∧ At w B A_makes x.makes ∧ (x.makes.length ≤ c_makes ∧ c_makes ≤ maxLen) ∧ I64 x.at_ ∧ I64 x.steps := by
  obtain ⟨x, hx⟩ : ∃ x, l[k]? = some x := ⟨l[k], List.getElem?_eq_getElem hk⟩
  obtain ⟨b, o, cs, rfl, hb, hc, hr⟩ := h k x hx
  obtain ⟨c_sets, c_makes, rfl, h0, h1, h2, h3⟩ := hr
  obtain ⟨A_sets, d_sets, e2, l1_sets, l2_sets, -, at_sets⟩ := h2
  injection e2 with e2; subst e2
  obtain ⟨A_makes, d_makes, e3, l1_makes, l2_makes, -, at_makes⟩ := h3
  injection e3 with e3; subst e3
  exact ⟨b, o, x, A_sets, d_sets, A_makes, d_makes, rfl, hb, hx, hc 0 _ rfl, hc 1 _ rfl, hc 2 _ rfl, hc 3 _ rfl, at_sets, ⟨l1_sets, l2_sets⟩, at_makes, ⟨l1_makes, l2_makes⟩, h0, h1⟩

structure Fr where
  fn : Int
  at_ : Int
  fto : Int
  gen : Int
  self : (Int × Int)
  regs : List (Int × Int)
  tries : List (Int × Int)

instance : Enc Fr where
  sz := 8
  rd w B cs x := ∃ (c_regs : Value) (c_tries : Value), cs = [.int .i64 x.fn] ++ ([.int .i64 x.at_] ++ ([.int .i64 x.fto] ++ ([.int .i64 x.gen] ++ ([.int .i64 x.self.1, .int .i64 x.self.2] ++ ([c_regs] ++ ([c_tries])))))) ∧ I64 x.fn ∧ I64 x.at_ ∧ I64 x.fto ∧ I64 x.gen ∧ I64 x.self.1 ∧ I64 x.self.2 ∧ Enc.rd w B [c_regs] x.regs ∧ Enc.rd w B [c_tries] x.tries
  len := by
    rintro w B cs x ⟨c_regs, c_tries, rfl, h0, h1, h2, h3, h4, h5, h6, h7⟩
    simp only [List.length_append, List.length_cons, List.length_nil]
  keep := by
    rintro w w2 B cs x ⟨c_regs, c_tries, rfl, h0, h1, h2, h3, h4, h5, h6, h7⟩ hk
    exact ⟨_, _, rfl, h0, h1, h2, h3, h4, h5, Enc.keep h6 hk, Enc.keep h7 hk⟩
  more := by
    rintro w B B2 cs x ⟨c_regs, c_tries, rfl, h0, h1, h2, h3, h4, h5, h6, h7⟩ hB
    exact ⟨_, _, rfl, h0, h1, h2, h3, h4, h5, Enc.more h6 hB, Enc.more h7 hB⟩

theorem At.fr_ {w : World} {B : Nat} {A : Option Addr} {l : List Fr} {k : Nat} (h : At w B A l) (hk : k < l.length) :
    ∃ b o x A_regs c_regs A_tries c_tries, A = some ⟨b, o, none⟩ ∧ b < B ∧ l[k]? = some x ∧ w.cell? ⟨b, o + k * 8, none⟩ = some (.int .i64 x.fn) ∧ w.cell? ⟨b, o + k * 8 + 1, none⟩ = some (.int .i64 x.at_) ∧ w.cell? ⟨b, o + k * 8 + 2, none⟩ = some (.int .i64 x.fto) ∧ w.cell? ⟨b, o + k * 8 + 3, none⟩ = some (.int .i64 x.gen) ∧ w.cell? ⟨b, o + k * 8 + 4, none⟩ = some (.int .i64 x.self.1) ∧ w.cell? ⟨b, o + k * 8 + 5, none⟩ = some (.int .i64 x.self.2) ∧ w.cell? ⟨b, o + k * 8 + 6, none⟩ = some (.slice A_regs x.regs.length c_regs) ∧ w.cell? ⟨b, o + k * 8 + 7, none⟩ = some (.slice A_tries x.tries.length c_tries) ∧ At w B A_regs x.regs ∧ (x.regs.length ≤ c_regs ∧ c_regs ≤ maxLen) ∧ At w B A_tries x.tries ∧ (x.tries.length ≤ c_tries ∧ c_tries ≤ maxLen) ∧ I64 x.fn ∧ I64 x.at_ ∧ I64 x.fto ∧ I64 x.gen ∧ I64 x.self.1 ∧ I64 x.self.2 := by
  obtain ⟨x, hx⟩ : ∃ x, l[k]? = some x := ⟨l[k], List.getElem?_eq_getElem hk⟩
  obtain ⟨b, o, cs, rfl, hb, hc, hr⟩ := h k x hx
  obtain ⟨c_regs, c_tries, rfl, h0, h1, h2, h3, h4, h5, h6, h7⟩ := hr
  obtain ⟨A_regs, d_regs, e6, l1_regs, l2_regs, -, at_regs⟩ := h6
  injection e6 with e6; subst e6
  obtain ⟨A_tries, d_tries, e7, l1_tries, l2_tries, -, at_tries⟩ := h7
  injection e7 with e7; subst e7
  exact ⟨b, o, x, A_regs, d_regs, A_tries, d_tries, rfl, hb, hx, hc 0 _ rfl, hc 1 _ rfl, hc 2 _ rfl, hc 3 _ rfl, hc 4 _ rfl, hc 5 _ rfl, hc 6 _ rfl, hc 7 _ rfl, at_regs, ⟨l1_regs, l2_regs⟩, at_tries, ⟨l1_tries, l2_tries⟩, h0, h1, h2, h3, h4, h5⟩

structure Ce where
  kind : Int
  num : Int
  vals : List (Int × Int)
  frames : List Fr

instance : Enc Ce where
  sz := 4
  rd w B cs x := ∃ (c_vals : Value) (c_frames : Value), cs = [.int .i64 x.kind] ++ ([.int .i64 x.num] ++ ([c_vals] ++ ([c_frames]))) ∧ I64 x.kind ∧ I64 x.num ∧ Enc.rd w B [c_vals] x.vals ∧ Enc.rd w B [c_frames] x.frames
  len := by
    rintro w B cs x ⟨c_vals, c_frames, rfl, h0, h1, h2, h3⟩
    simp only [List.length_append, List.length_cons, List.length_nil]
  keep := by
    rintro w w2 B cs x ⟨c_vals, c_frames, rfl, h0, h1, h2, h3⟩ hk
    exact ⟨_, _, rfl, h0, h1, Enc.keep h2 hk, Enc.keep h3 hk⟩
  more := by
    rintro w B B2 cs x ⟨c_vals, c_frames, rfl, h0, h1, h2, h3⟩ hB
    exact ⟨_, _, rfl, h0, h1, Enc.more h2 hB, Enc.more h3 hB⟩

theorem At.ce_ {w : World} {B : Nat} {A : Option Addr} {l : List Ce} {k : Nat} (h : At w B A l) (hk : k < l.length) :
    ∃ b o x A_vals c_vals A_frames c_frames, A = some ⟨b, o, none⟩ ∧ b < B ∧ l[k]? = some x ∧ w.cell? ⟨b, o + k * 4, none⟩ = some (.int .i64 x.kind) ∧ w.cell? ⟨b, o + k * 4 + 1, none⟩ = some (.int .i64 x.num) ∧ w.cell? ⟨b, o + k * 4 + 2, none⟩ = some (.slice A_vals x.vals.length c_vals) ∧ w.cell? ⟨b, o + k * 4 + 3, none⟩ = some (.slice A_frames x.frames.length c_frames) ∧ At w B A_vals x.vals ∧ (x.vals.length ≤ c_vals ∧ c_vals ≤ maxLen) ∧ At w B A_frames x.frames ∧ (x.frames.length ≤ c_frames ∧ c_frames ≤ maxLen) ∧ I64 x.kind ∧ I64 x.num := by
  obtain ⟨x, hx⟩ : ∃ x, l[k]? = some x := ⟨l[k], List.getElem?_eq_getElem hk⟩
  obtain ⟨b, o, cs, rfl, hb, hc, hr⟩ := h k x hx
  obtain ⟨c_vals, c_frames, rfl, h0, h1, h2, h3⟩ := hr
  obtain ⟨A_vals, d_vals, e2, l1_vals, l2_vals, -, at_vals⟩ := h2
  injection e2 with e2; subst e2
  obtain ⟨A_frames, d_frames, e3, l1_frames, l2_frames, -, at_frames⟩ := h3
  injection e3 with e3; subst e3
  exact ⟨b, o, x, A_vals, d_vals, A_frames, d_frames, rfl, hb, hx, hc 0 _ rfl, hc 1 _ rfl, hc 2 _ rfl, hc 3 _ rfl, at_vals, ⟨l1_vals, l2_vals⟩, at_frames, ⟨l1_frames, l2_frames⟩, h0, h1⟩

structure TI where
  op : Int
  a : Int
  b : Int
  c : Int
  n : Int
  exit : Int
  k : (Int × Int)

instance : Enc TI where
  sz := 8
  rd w B cs x := cs = [.int .i64 x.op] ++ ([.int .i64 x.a] ++ ([.int .i64 x.b] ++ ([.int .i64 x.c] ++ ([.int .i64 x.n] ++ ([.int .i64 x.exit] ++ ([.int .i64 x.k.1, .int .i64 x.k.2])))))) ∧ I64 x.op ∧ I64 x.a ∧ I64 x.b ∧ I64 x.c ∧ I64 x.n ∧ I64 x.exit ∧ I64 x.k.1 ∧ I64 x.k.2
  len h := by rw [h.1]; rfl
  keep h _ := h
  more h _ := h

theorem At.tI_ {w : World} {B : Nat} {A : Option Addr} {l : List TI} {k : Nat} (h : At w B A l) (hk : k < l.length) :
    ∃ b o x, A = some ⟨b, o, none⟩ ∧ b < B ∧ l[k]? = some x ∧ w.cell? ⟨b, o + k * 8, none⟩ = some (.int .i64 x.op) ∧ w.cell? ⟨b, o + k * 8 + 1, none⟩ = some (.int .i64 x.a) ∧ w.cell? ⟨b, o + k * 8 + 2, none⟩ = some (.int .i64 x.b) ∧ w.cell? ⟨b, o + k * 8 + 3, none⟩ = some (.int .i64 x.c) ∧ w.cell? ⟨b, o + k * 8 + 4, none⟩ = some (.int .i64 x.n) ∧ w.cell? ⟨b, o + k * 8 + 5, none⟩ = some (.int .i64 x.exit) ∧ w.cell? ⟨b, o + k * 8 + 6, none⟩ = some (.int .i64 x.k.1) ∧ w.cell? ⟨b, o + k * 8 + 7, none⟩ = some (.int .i64 x.k.2) ∧ I64 x.op ∧ I64 x.a ∧ I64 x.b ∧ I64 x.c ∧ I64 x.n ∧ I64 x.exit ∧ I64 x.k.1 ∧ I64 x.k.2 := by
  obtain ⟨x, hx⟩ : ∃ x, l[k]? = some x := ⟨l[k], List.getElem?_eq_getElem hk⟩
  obtain ⟨b, o, cs, rfl, hb, hc, hr⟩ := h k x hx
  obtain ⟨rfl, h0, h1, h2, h3, h4, h5, h6, h7⟩ := hr
  exact ⟨b, o, x, rfl, hb, hx, hc 0 _ rfl, hc 1 _ rfl, hc 2 _ rfl, hc 3 _ rfl, hc 4 _ rfl, hc 5 _ rfl, hc 6 _ rfl, hc 7 _ rfl, h0, h1, h2, h3, h4, h5, h6, h7⟩

structure TT where
  fn : Int
  at_ : Int
  loop : Int
  ins : List TI
  exits : List Ex
  turn : Ex
  back : Ex

instance : Enc TT where
  sz := 13
  rd w B cs x := ∃ (c_ins : Value) (c_exits : Value) (c_turn : List Value) (c_back : List Value), cs = [.int .i64 x.fn] ++ ([.int .i64 x.at_] ++ ([.int .i64 x.loop] ++ ([c_ins] ++ ([c_exits] ++ (c_turn ++ (c_back)))))) ∧ I64 x.fn ∧ I64 x.at_ ∧ I64 x.loop ∧ Enc.rd w B [c_ins] x.ins ∧ Enc.rd w B [c_exits] x.exits ∧ Enc.rd w B c_turn x.turn ∧ Enc.rd w B c_back x.back
  len := by
    rintro w B cs x ⟨c_ins, c_exits, c_turn, c_back, rfl, h0, h1, h2, h3, h4, h5, h6⟩
    have g5 := Enc.len h5
    have g6 := Enc.len h6
    simp only [List.length_append, List.length_cons, List.length_nil, g5, g6]
    rfl
  keep := by
    rintro w w2 B cs x ⟨c_ins, c_exits, c_turn, c_back, rfl, h0, h1, h2, h3, h4, h5, h6⟩ hk
    exact ⟨_, _, _, _, rfl, h0, h1, h2, Enc.keep h3 hk, Enc.keep h4 hk, Enc.keep h5 hk, Enc.keep h6 hk⟩
  more := by
    rintro w B B2 cs x ⟨c_ins, c_exits, c_turn, c_back, rfl, h0, h1, h2, h3, h4, h5, h6⟩ hB
    exact ⟨_, _, _, _, rfl, h0, h1, h2, Enc.more h3 hB, Enc.more h4 hB, Enc.more h5 hB, Enc.more h6 hB⟩

structure RM where
  cell : (Int × Int)
  kind : Int
  num : Int
  vals : List (Int × Int)

instance : Enc RM where
  sz := 5
  rd w B cs x := ∃ (c_vals : Value), cs = [.int .i64 x.cell.1, .int .i64 x.cell.2] ++ ([.int .i64 x.kind] ++ ([.int .i64 x.num] ++ ([c_vals]))) ∧ I64 x.cell.1 ∧ I64 x.cell.2 ∧ I64 x.kind ∧ I64 x.num ∧ Enc.rd w B [c_vals] x.vals
  len := by
    rintro w B cs x ⟨c_vals, rfl, h0, h1, h2, h3, h4⟩
    simp only [List.length_append, List.length_cons, List.length_nil]
  keep := by
    rintro w w2 B cs x ⟨c_vals, rfl, h0, h1, h2, h3, h4⟩ hk
    exact ⟨_, rfl, h0, h1, h2, h3, Enc.keep h4 hk⟩
  more := by
    rintro w B B2 cs x ⟨c_vals, rfl, h0, h1, h2, h3, h4⟩ hB
    exact ⟨_, rfl, h0, h1, h2, h3, Enc.more h4 hB⟩

theorem At.rM_ {w : World} {B : Nat} {A : Option Addr} {l : List RM} {k : Nat} (h : At w B A l) (hk : k < l.length) :
    ∃ b o x A_vals c_vals, A = some ⟨b, o, none⟩ ∧ b < B ∧ l[k]? = some x ∧ w.cell? ⟨b, o + k * 5, none⟩ = some (.int .i64 x.cell.1) ∧ w.cell? ⟨b, o + k * 5 + 1, none⟩ = some (.int .i64 x.cell.2) ∧ w.cell? ⟨b, o + k * 5 + 2, none⟩ = some (.int .i64 x.kind) ∧ w.cell? ⟨b, o + k * 5 + 3, none⟩ = some (.int .i64 x.num) ∧ w.cell? ⟨b, o + k * 5 + 4, none⟩ = some (.slice A_vals x.vals.length c_vals) ∧ At w B A_vals x.vals ∧ (x.vals.length ≤ c_vals ∧ c_vals ≤ maxLen) ∧ I64 x.cell.1 ∧ I64 x.cell.2 ∧ I64 x.kind ∧ I64 x.num := by
  obtain ⟨x, hx⟩ : ∃ x, l[k]? = some x := ⟨l[k], List.getElem?_eq_getElem hk⟩
  obtain ⟨b, o, cs, rfl, hb, hc, hr⟩ := h k x hx
  obtain ⟨c_vals, rfl, h0, h1, h2, h3, h4⟩ := hr
  obtain ⟨A_vals, d_vals, e4, l1_vals, l2_vals, -, at_vals⟩ := h4
  injection e4 with e4; subst e4
  exact ⟨b, o, x, A_vals, d_vals, rfl, hb, hx, hc 0 _ rfl, hc 1 _ rfl, hc 2 _ rfl, hc 3 _ rfl, hc 4 _ rfl, at_vals, ⟨l1_vals, l2_vals⟩, h0, h1, h2, h3⟩

structure RE where
  at_ : Int
  steps : Int
  sets : List (Int × Int × Int)
  makes : List RM

instance : Enc RE where
  sz := 4
  rd w B cs x := ∃ (c_sets : Value) (c_makes : Value), cs = [.int .i64 x.at_] ++ ([.int .i64 x.steps] ++ ([c_sets] ++ ([c_makes]))) ∧ I64 x.at_ ∧ I64 x.steps ∧ Enc.rd w B [c_sets] x.sets ∧ Enc.rd w B [c_makes] x.makes
  len := by
    rintro w B cs x ⟨c_sets, c_makes, rfl, h0, h1, h2, h3⟩
    simp only [List.length_append, List.length_cons, List.length_nil]
  keep := by
    rintro w w2 B cs x ⟨c_sets, c_makes, rfl, h0, h1, h2, h3⟩ hk
    exact ⟨_, _, rfl, h0, h1, Enc.keep h2 hk, Enc.keep h3 hk⟩
  more := by
    rintro w B B2 cs x ⟨c_sets, c_makes, rfl, h0, h1, h2, h3⟩ hB
    exact ⟨_, _, rfl, h0, h1, Enc.more h2 hB, Enc.more h3 hB⟩

theorem At.rE_ {w : World} {B : Nat} {A : Option Addr} {l : List RE} {k : Nat} (h : At w B A l) (hk : k < l.length) :
    ∃ b o x A_sets c_sets A_makes c_makes, A = some ⟨b, o, none⟩ ∧ b < B ∧ l[k]? = some x ∧ w.cell? ⟨b, o + k * 4, none⟩ = some (.int .i64 x.at_) ∧ w.cell? ⟨b, o + k * 4 + 1, none⟩ = some (.int .i64 x.steps) ∧ w.cell? ⟨b, o + k * 4 + 2, none⟩ = some (.slice A_sets x.sets.length c_sets) ∧ w.cell? ⟨b, o + k * 4 + 3, none⟩ = some (.slice A_makes x.makes.length c_makes) ∧ At w B A_sets x.sets ∧ (x.sets.length ≤ c_sets ∧ c_sets ≤ maxLen) ∧ At w B A_makes x.makes ∧ (x.makes.length ≤ c_makes ∧ c_makes ≤ maxLen) ∧ I64 x.at_ ∧ I64 x.steps := by
  obtain ⟨x, hx⟩ : ∃ x, l[k]? = some x := ⟨l[k], List.getElem?_eq_getElem hk⟩
  obtain ⟨b, o, cs, rfl, hb, hc, hr⟩ := h k x hx
  obtain ⟨c_sets, c_makes, rfl, h0, h1, h2, h3⟩ := hr
  obtain ⟨A_sets, d_sets, e2, l1_sets, l2_sets, -, at_sets⟩ := h2
  injection e2 with e2; subst e2
  obtain ⟨A_makes, d_makes, e3, l1_makes, l2_makes, -, at_makes⟩ := h3
  injection e3 with e3; subst e3
  exact ⟨b, o, x, A_sets, d_sets, A_makes, d_makes, rfl, hb, hx, hc 0 _ rfl, hc 1 _ rfl, hc 2 _ rfl, hc 3 _ rfl, at_sets, ⟨l1_sets, l2_sets⟩, at_makes, ⟨l1_makes, l2_makes⟩, h0, h1⟩

structure RO where
  op : Int
  a : Int
  b : Int
  c : Int
  n : Int
  exit : Int
  k : (Int × Int)

instance : Enc RO where
  sz := 8
  rd w B cs x := cs = [.int .i64 x.op] ++ ([.int .i64 x.a] ++ ([.int .i64 x.b] ++ ([.int .i64 x.c] ++ ([.int .i64 x.n] ++ ([.int .i64 x.exit] ++ ([.int .i64 x.k.1, .int .i64 x.k.2])))))) ∧ I64 x.op ∧ I64 x.a ∧ I64 x.b ∧ I64 x.c ∧ I64 x.n ∧ I64 x.exit ∧ I64 x.k.1 ∧ I64 x.k.2
  len h := by rw [h.1]; rfl
  keep h _ := h
  more h _ := h

theorem At.rO_ {w : World} {B : Nat} {A : Option Addr} {l : List RO} {k : Nat} (h : At w B A l) (hk : k < l.length) :
    ∃ b o x, A = some ⟨b, o, none⟩ ∧ b < B ∧ l[k]? = some x ∧ w.cell? ⟨b, o + k * 8, none⟩ = some (.int .i64 x.op) ∧ w.cell? ⟨b, o + k * 8 + 1, none⟩ = some (.int .i64 x.a) ∧ w.cell? ⟨b, o + k * 8 + 2, none⟩ = some (.int .i64 x.b) ∧ w.cell? ⟨b, o + k * 8 + 3, none⟩ = some (.int .i64 x.c) ∧ w.cell? ⟨b, o + k * 8 + 4, none⟩ = some (.int .i64 x.n) ∧ w.cell? ⟨b, o + k * 8 + 5, none⟩ = some (.int .i64 x.exit) ∧ w.cell? ⟨b, o + k * 8 + 6, none⟩ = some (.int .i64 x.k.1) ∧ w.cell? ⟨b, o + k * 8 + 7, none⟩ = some (.int .i64 x.k.2) ∧ I64 x.op ∧ I64 x.a ∧ I64 x.b ∧ I64 x.c ∧ I64 x.n ∧ I64 x.exit ∧ I64 x.k.1 ∧ I64 x.k.2 := by
  obtain ⟨x, hx⟩ : ∃ x, l[k]? = some x := ⟨l[k], List.getElem?_eq_getElem hk⟩
  obtain ⟨b, o, cs, rfl, hb, hc, hr⟩ := h k x hx
  obtain ⟨rfl, h0, h1, h2, h3, h4, h5, h6, h7⟩ := hr
  exact ⟨b, o, x, rfl, hb, hx, hc 0 _ rfl, hc 1 _ rfl, hc 2 _ rfl, hc 3 _ rfl, hc 4 _ rfl, hc 5 _ rfl, hc 6 _ rfl, hc 7 _ rfl, h0, h1, h2, h3, h4, h5, h6, h7⟩

structure RC where
  fn : Int
  at_ : Int
  loop : Int
  slots : Int
  orders : List RO
  exits : List RE
  turn : RE
  back : RE

instance : Enc RC where
  sz := 14
  rd w B cs x := ∃ (c_orders : Value) (c_exits : Value) (c_turn : List Value) (c_back : List Value), cs = [.int .i64 x.fn] ++ ([.int .i64 x.at_] ++ ([.int .i64 x.loop] ++ ([.int .i64 x.slots] ++ ([c_orders] ++ ([c_exits] ++ (c_turn ++ (c_back))))))) ∧ I64 x.fn ∧ I64 x.at_ ∧ I64 x.loop ∧ I64 x.slots ∧ Enc.rd w B [c_orders] x.orders ∧ Enc.rd w B [c_exits] x.exits ∧ Enc.rd w B c_turn x.turn ∧ Enc.rd w B c_back x.back
  len := by
    rintro w B cs x ⟨c_orders, c_exits, c_turn, c_back, rfl, h0, h1, h2, h3, h4, h5, h6, h7⟩
    have g6 := Enc.len h6
    have g7 := Enc.len h7
    simp only [List.length_append, List.length_cons, List.length_nil, g6, g7]
    rfl
  keep := by
    rintro w w2 B cs x ⟨c_orders, c_exits, c_turn, c_back, rfl, h0, h1, h2, h3, h4, h5, h6, h7⟩ hk
    exact ⟨_, _, _, _, rfl, h0, h1, h2, h3, Enc.keep h4 hk, Enc.keep h5 hk, Enc.keep h6 hk, Enc.keep h7 hk⟩
  more := by
    rintro w B B2 cs x ⟨c_orders, c_exits, c_turn, c_back, rfl, h0, h1, h2, h3, h4, h5, h6, h7⟩ hB
    exact ⟨_, _, _, _, rfl, h0, h1, h2, h3, Enc.more h4 hB, Enc.more h5 hB, Enc.more h6 hB, Enc.more h7 hB⟩

structure Gr where
  has : List (List Int)
  roots : List Int

instance : Enc Gr where
  sz := 2
  rd w B cs x := ∃ (c_has : Value) (c_roots : Value), cs = [c_has] ++ ([c_roots]) ∧ Enc.rd w B [c_has] x.has ∧ Enc.rd w B [c_roots] x.roots
  len := by
    rintro w B cs x ⟨c_has, c_roots, rfl, h0, h1⟩
    simp only [List.length_append, List.length_cons, List.length_nil]
  keep := by
    rintro w w2 B cs x ⟨c_has, c_roots, rfl, h0, h1⟩ hk
    exact ⟨_, _, rfl, Enc.keep h0 hk, Enc.keep h1 hk⟩
  more := by
    rintro w B B2 cs x ⟨c_has, c_roots, rfl, h0, h1⟩ hB
    exact ⟨_, _, rfl, Enc.more h0 hB, Enc.more h1 hB⟩

theorem At.gr_ {w : World} {B : Nat} {A : Option Addr} {l : List Gr} {k : Nat} (h : At w B A l) (hk : k < l.length) :
    ∃ b o x A_has c_has A_roots c_roots, A = some ⟨b, o, none⟩ ∧ b < B ∧ l[k]? = some x ∧ w.cell? ⟨b, o + k * 2, none⟩ = some (.slice A_has x.has.length c_has) ∧ w.cell? ⟨b, o + k * 2 + 1, none⟩ = some (.slice A_roots x.roots.length c_roots) ∧ At w B A_has x.has ∧ (x.has.length ≤ c_has ∧ c_has ≤ maxLen) ∧ At w B A_roots x.roots ∧ (x.roots.length ≤ c_roots ∧ c_roots ≤ maxLen) := by
  obtain ⟨x, hx⟩ : ∃ x, l[k]? = some x := ⟨l[k], List.getElem?_eq_getElem hk⟩
  obtain ⟨b, o, cs, rfl, hb, hc, hr⟩ := h k x hx
  obtain ⟨c_has, c_roots, rfl, h0, h1⟩ := hr
  obtain ⟨A_has, d_has, e0, l1_has, l2_has, -, at_has⟩ := h0
  injection e0 with e0; subst e0
  obtain ⟨A_roots, d_roots, e1, l1_roots, l2_roots, -, at_roots⟩ := h1
  injection e1 with e1; subst e1
  exact ⟨b, o, x, A_has, d_has, A_roots, d_roots, rfl, hb, hx, hc 0 _ rfl, hc 1 _ rfl, at_has, ⟨l1_has, l2_has⟩, at_roots, ⟨l1_roots, l2_roots⟩⟩

structure Hp where
  words : List U64
  roots : List U64

instance : Enc Hp where
  sz := 2
  rd w B cs x := ∃ (c_words : Value) (c_roots : Value), cs = [c_words] ++ ([c_roots]) ∧ Enc.rd w B [c_words] x.words ∧ Enc.rd w B [c_roots] x.roots
  len := by
    rintro w B cs x ⟨c_words, c_roots, rfl, h0, h1⟩
    simp only [List.length_append, List.length_cons, List.length_nil]
  keep := by
    rintro w w2 B cs x ⟨c_words, c_roots, rfl, h0, h1⟩ hk
    exact ⟨_, _, rfl, Enc.keep h0 hk, Enc.keep h1 hk⟩
  more := by
    rintro w B B2 cs x ⟨c_words, c_roots, rfl, h0, h1⟩ hB
    exact ⟨_, _, rfl, Enc.more h0 hB, Enc.more h1 hB⟩

theorem At.hp_ {w : World} {B : Nat} {A : Option Addr} {l : List Hp} {k : Nat} (h : At w B A l) (hk : k < l.length) :
    ∃ b o x A_words c_words A_roots c_roots, A = some ⟨b, o, none⟩ ∧ b < B ∧ l[k]? = some x ∧ w.cell? ⟨b, o + k * 2, none⟩ = some (.slice A_words x.words.length c_words) ∧ w.cell? ⟨b, o + k * 2 + 1, none⟩ = some (.slice A_roots x.roots.length c_roots) ∧ At w B A_words x.words ∧ (x.words.length ≤ c_words ∧ c_words ≤ maxLen) ∧ At w B A_roots x.roots ∧ (x.roots.length ≤ c_roots ∧ c_roots ≤ maxLen) := by
  obtain ⟨x, hx⟩ : ∃ x, l[k]? = some x := ⟨l[k], List.getElem?_eq_getElem hk⟩
  obtain ⟨b, o, cs, rfl, hb, hc, hr⟩ := h k x hx
  obtain ⟨c_words, c_roots, rfl, h0, h1⟩ := hr
  obtain ⟨A_words, d_words, e0, l1_words, l2_words, -, at_words⟩ := h0
  injection e0 with e0; subst e0
  obtain ⟨A_roots, d_roots, e1, l1_roots, l2_roots, -, at_roots⟩ := h1
  injection e1 with e1; subst e1
  exact ⟨b, o, x, A_words, d_words, A_roots, d_roots, rfl, hb, hx, hc 0 _ rfl, hc 1 _ rfl, at_words, ⟨l1_words, l2_words⟩, at_roots, ⟨l1_roots, l2_roots⟩⟩

structure De where
  do_ : Int
  a : Int
  b : Int
  n : Int

instance : Enc De where
  sz := 4
  rd w B cs x := cs = [.int .i64 x.do_] ++ ([.int .i64 x.a] ++ ([.int .i64 x.b] ++ ([.int .i64 x.n]))) ∧ I64 x.do_ ∧ I64 x.a ∧ I64 x.b ∧ I64 x.n
  len h := by rw [h.1]; rfl
  keep h _ := h
  more h _ := h

theorem At.de_ {w : World} {B : Nat} {A : Option Addr} {l : List De} {k : Nat} (h : At w B A l) (hk : k < l.length) :
    ∃ b o x, A = some ⟨b, o, none⟩ ∧ b < B ∧ l[k]? = some x ∧ w.cell? ⟨b, o + k * 4, none⟩ = some (.int .i64 x.do_) ∧ w.cell? ⟨b, o + k * 4 + 1, none⟩ = some (.int .i64 x.a) ∧ w.cell? ⟨b, o + k * 4 + 2, none⟩ = some (.int .i64 x.b) ∧ w.cell? ⟨b, o + k * 4 + 3, none⟩ = some (.int .i64 x.n) ∧ I64 x.do_ ∧ I64 x.a ∧ I64 x.b ∧ I64 x.n := by
  obtain ⟨x, hx⟩ : ∃ x, l[k]? = some x := ⟨l[k], List.getElem?_eq_getElem hk⟩
  obtain ⟨b, o, cs, rfl, hb, hc, hr⟩ := h k x hx
  obtain ⟨rfl, h0, h1, h2, h3⟩ := hr
  exact ⟨b, o, x, rfl, hb, hx, hc 0 _ rfl, hc 1 _ rfl, hc 2 _ rfl, hc 3 _ rfl, h0, h1, h2, h3⟩

end Go.Proofs.Ytpkccpegdpodoaa

/-
  From an argument's reading to Lean's data: what it asks of a type, and the general laws (integers, structs of integers, slices).
-/
namespace Go.Proofs.Ytpkccpegdpodoaa
open Go.RowKit Go.ChangeShapes Go.WideShapes Go.Deep

/-- how many bytes a value of the type has, whether a value's slices fit a bound on bytes, how many values it holds -/
class Meas (α : Type) where
  bytes : Nat
  fits : Nat → α → Prop
  blk : α → Nat

def blkSum {α : Type} [Meas α] : List α → Nat
  | [] => 0
  | x :: l => Meas.blk x + blkSum l

instance : Meas Int where
  bytes := 8
  fits _ _ := True
  blk _ := 1
instance : Meas (Int × Int) where
  bytes := 16
  fits _ _ := True
  blk _ := 3
instance : Meas (Int × Int × Int) where
  bytes := 24
  fits _ _ := True
  blk _ := 5
instance : Meas U64 where
  bytes := 8
  fits _ _ := True
  blk _ := 1
instance {α : Type} [Meas α] : Meas (List α) where
  bytes := 24
  fits M l := l.length * Meas.bytes α ≤ M ∧ ∀ x ∈ l, Meas.fits M x
  blk l := blkSum l + 1

theorem bulk_pos {H : Type} (d : DataW H) : 1 ≤ Rows.uptoBulk d := by
  cases d with
  | lit l => cases l <;> simp [Rows.uptoBulk]
  | nil => simp [Rows.uptoBulk]
  | ptr d => simp [Rows.uptoBulk]
  | slice elems spare => simp [Rows.uptoBulk]
  | agg parts => simp [Rows.uptoBulk]
  | iface t d => simp [Rows.uptoBulk]
  | map entries => simp [Rows.uptoBulk]
  | held h => simp [Rows.uptoBulk]

/-- a type of the program's whose every reading is Lean's data of type α -/
def Opens (α : Type) [Enc α] [Meas α] (P : Program) (t : TypeId) : Prop :=
  P.bytesOf t = Meas.bytes α ∧ P.cellsOf t = Enc.sz α ∧ 0 < Enc.sz α ∧
    ∀ (H : Type) (enc : TypeId × Value → H) (w : World) (spare : Nat → Bool) (held : Bool) (fuel : Nat) (cs : List Value) (x : DataW H × List MemPlace), DataW.trod enc P w 0 spare held fuel t cs = some x →
      ∃ a : α, Enc.rd w w.heap.size cs a ∧ (∀ M, (∀ n ∈ x.1.weights P t, n ≤ M) → Meas.fits M a) ∧ Meas.blk a ≤ Rows.uptoBulk x.1

theorem opens_int {P : Program} {t : TypeId} (ht : P.underlying t = some (.int .i64)) (hb : P.bytesOf t = 8) (hc : P.cellsOf t = 1) : Opens Int P t := by
  refine ⟨hb, hc, Nat.zero_lt_one, fun H enc w spare held fuel cs x h => ?_⟩
  obtain ⟨n, rfl, rfl, hwf⟩ := DataW.trod_int ht h
  refine ⟨n, ⟨rfl, ?_⟩, fun _ _ => trivial, bulk_pos _⟩
  have : -9223372036854775808 ≤ n ∧ n ≤ 9223372036854775807 := by simpa [Lit.wf, IntKind.min, IntKind.max, IntKind.signed, IntKind.bits] using hwf
  exact this

theorem opens_u64 {P : Program} {t : TypeId} (ht : P.underlying t = some (.int .u64)) (hb : P.bytesOf t = 8) (hc : P.cellsOf t = 1) : Opens U64 P t := by
  refine ⟨hb, hc, Nat.zero_lt_one, fun H enc w spare held fuel cs x h => ?_⟩
  obtain ⟨n, rfl, rfl, hwf⟩ := DataW.trod_int ht h
  refine ⟨⟨n⟩, ⟨rfl, ?_⟩, fun _ _ => trivial, bulk_pos _⟩
  have : 0 ≤ n ∧ n ≤ 18446744073709551615 := by simpa [Lit.wf, IntKind.min, IntKind.max, IntKind.signed, IntKind.bits] using hwf
  exact this

theorem mem_weightsAll {H : Type} {P : Program} {e : TypeId} {l : List (DataW H)} {d : DataW H} (hd : d ∈ l) : ∀ n ∈ d.weights P e, n ∈ DataW.weightsAll P e l := by
  induction l with
  | nil => cases hd
  | cons y l ih =>
    intro n hn
    simp only [DataW.weightsAll, List.mem_append]
    rcases List.mem_cons.1 hd with rfl | h
    · exact .inl hn
    · exact .inr (ih h n hn)

theorem blkSum_le {α H : Type} [Meas α] (f : Nat → α) (D : Nat → DataW H) : ∀ n, (∀ i, i < n → Meas.blk (f i) ≤ Rows.uptoBulk (D i)) → blkSum ((List.range n).map f) ≤ Rows.uptoBulkAll ((List.range n).map D) := by
  intro n
  have key : ∀ l : List Nat, (∀ i ∈ l, Meas.blk (f i) ≤ Rows.uptoBulk (D i)) → blkSum (l.map f) ≤ Rows.uptoBulkAll (l.map D) := by
    intro l
    induction l with
    | nil => intro _; simp [blkSum, Rows.uptoBulkAll]
    | cons i l ih =>
      intro h
      simp only [List.map_cons, blkSum, Rows.uptoBulkAll]
      have h1 := h i (by simp)
      have h2 := ih fun j hj => h j (by simp [hj])
      omega
  exact fun h => key _ fun i hi => h i (List.mem_range.1 hi)

theorem opens_list {α : Type} [Enc α] [Meas α] [Inhabited α] {P : Program} {t e : TypeId} (ht : P.underlying t = some (.slice e)) (hb : P.bytesOf t = 24) (hc : P.cellsOf t = 1) (he : Opens α P e) : Opens (List α) P t := by
  refine ⟨hb, hc, Nat.zero_lt_one, fun H enc w spare held fuel cs x h => ?_⟩
  rcases open_slice ht h with ⟨rfl, rfl⟩ | ⟨a, len, cap, m, n, D, Pl, rfl, hba, hl, hm, hmm, rfl, hi⟩
  · exact ⟨[], ⟨none, 0, rfl, Nat.le_refl _, by simp [maxLen], fun _ => rfl, At.nil_⟩, fun _ _ => ⟨by simp, by simp⟩, by simp [Meas.blk, blkSum, Rows.uptoBulk]⟩
  · have hlm : len ≤ m := by subst hmm; split <;> omega
    obtain ⟨f, hf⟩ := choose_lt (α := α) (n := len) (p := fun i y => ∃ cs', w.cells? 0 (a.add (i * P.cellsOf e)) (P.cellsOf e) = some cs' ∧ Enc.rd w w.heap.size cs' y ∧ (∀ M, (∀ n ∈ (D i).weights P e, n ≤ M) → Meas.fits M y) ∧ Meas.blk y ≤ Rows.uptoBulk (D i)) (fun i hil => by
      obtain ⟨cs', h1, h2⟩ := hi i (by omega)
      obtain ⟨y, hy1, hy2, hy3⟩ := he.2.2.2 H enc w spare held n cs' (D i, Pl i) h2
      exact ⟨y, cs', h1, hy1, hy2, hy3⟩)
    refine ⟨(List.range len).map f, ⟨some a, cap, by simp, by simpa using hl, hm, by simp, ?_⟩, fun M hM => ⟨?_, ?_⟩, ?_⟩
    · intro i y hy
      have hil : i < len := by
        have := (List.getElem?_eq_some_iff.1 hy).1
        simpa using this
      have hyf : y = f i := by
        rw [List.getElem?_map, List.getElem?_range hil] at hy
        simpa using hy.symm
      subst hyf
      have hspot : a.spot = none := by
        obtain ⟨cs0, h1, -, -, -⟩ := hf 0 (by omega)
        obtain ⟨-, hlen, hcell⟩ := World.cells?_some h1
        rw [he.2.1] at hlen hcell
        have h0 := hcell 0 he.2.2.1
        rw [List.getElem?_eq_getElem (by rw [hlen]; exact he.2.2.1), Nat.zero_mul] at h0
        exact World.cell?_spot (a := a) h0
      obtain ⟨cs', h1, h2, -, -⟩ := hf i hil
      obtain ⟨-, hlen, hcell⟩ := World.cells?_some h1
      rw [he.2.1] at hlen hcell h1
      obtain ⟨b, o, spot⟩ := a
      have hpos := he.2.2.1
      have h0 := hcell 0 hpos
      rw [List.getElem?_eq_getElem (by omega)] at h0
      simp only at hspot
      subst hspot
      refine ⟨b, o, cs', rfl, ?_, ?_, h2⟩
      · rw [add_mk, add_mk] at h0
        exact block_lt_of_cell h0
      · intro j u hu
        have hj : j < Enc.sz α := by rw [← hlen]; exact (List.getElem?_eq_some_iff.1 hu).1
        have := hcell j hj
        rw [add_mk, add_mk, hu] at this
        exact this
    · have h1 := hM ((len + (m - len)) * P.bytesOf e) (by simp [DataW.weights, ht])
      rw [he.1] at h1
      simp only [List.length_map, List.length_range]
      exact Nat.le_trans (Nat.mul_le_mul_right _ (by omega)) h1
    · intro y hy
      obtain ⟨i, hi', rfl⟩ := List.mem_map.1 hy
      have hil := List.mem_range.1 hi'
      obtain ⟨-, -, -, h3, -⟩ := hf i hil
      refine h3 M fun n hn => hM n ?_
      simp only [DataW.weights, ht, List.mem_cons, List.mem_append]
      exact .inr (.inl (mem_weightsAll (List.mem_map.2 ⟨i, hi', rfl⟩) n hn))
    · have h1 := blkSum_le f D len fun i hil => by
        obtain ⟨-, -, -, -, h4⟩ := hf i hil
        exact h4
      simp only [Meas.blk, Rows.uptoBulk]
      omega

/-- a list of known length, written out -/
theorem len1 {α : Type} {l : List α} (h : l.length = 1) : ∃ a, l = [a] := by
  match l, h with | [a], _ => exact ⟨a, rfl⟩
theorem lenS {α : Type} {l : List α} {n : Nat} (h : l.length = n + 1) : ∃ a r, l = a :: r ∧ r.length = n := by
  match l, h with | a :: r, h => exact ⟨a, r, rfl, by simpa using h⟩

end Go.Proofs.Ytpkccpegdpodoaa

/-
  The types of this seat's arguments, opened (printed by genopen.py).
-/
namespace Go.Proofs.Ytpkccpegdpodoaa
open Go.RowKit Go.ChangeShapes Go.WideShapes Go.Deep

theorem opens_Int : Opens Int Try.prog 3 := opens_int Try.underlying3 (by kernel_rfl) (by kernel_rfl)

theorem opens_P_Val : Opens (Int × Int) Try.prog 23 := by
  refine ⟨by kernel_rfl, by kernel_rfl, by decide, ?_⟩
  intro H enc w spare held fuel cs x h
  obtain ⟨xs, n, -, rfl, hl, hxl, hf⟩ := DataW.trod_struct Try.underlying23 h
  have hl' : cs.length = 1 + 1 := hl.trans (by kernel_rfl)
  have hxl' : xs.length = 1 + 1 := hxl
  obtain ⟨c0, r, rfl, hl2⟩ := lenS hl'
  obtain ⟨c1, rfl⟩ := len1 hl2
  obtain ⟨y0, s, rfl, hxl2⟩ := lenS hxl'
  obtain ⟨y1, rfl⟩ := len1 hxl2
  have g0 : DataW.trod enc Try.prog w 0 spare held n 3 (([c0, c1].drop 0).take (Try.prog.cellsOf 3)) = some y0 := hf 0 _ rfl
  have g1 : DataW.trod enc Try.prog w 0 spare held n 3 (([c0, c1].drop 1).take (Try.prog.cellsOf 3)) = some y1 := hf 1 _ rfl
  rw [show Try.prog.cellsOf 3 = 1 from opens_Int.2.1] at g0 g1
  obtain ⟨a0, ⟨e0, i0⟩, -, -⟩ := opens_Int.2.2.2 _ _ _ _ _ _ _ _ g0
  obtain ⟨a1, ⟨e1, i1⟩, -, -⟩ := opens_Int.2.2.2 _ _ _ _ _ _ _ _ g1
  injection e0 with e0; subst e0
  injection e1 with e1; subst e1
  refine ⟨(a0, a1), ⟨rfl, i0, i1⟩, fun _ _ => trivial, ?_⟩
  have b0 := bulk_pos y0.1
  have b1 := bulk_pos y1.1
  simp only [Meas.blk, Rows.uptoBulk, Rows.uptoBulkAll, List.map_cons, List.map_nil]
  omega
theorem opens_P_Val_l : Opens (List (Int × Int)) Try.prog 35 := opens_list Try.underlying35 (by kernel_rfl) (by kernel_rfl) opens_P_Val

theorem opens_P_Try : Opens (Int × Int) Try.prog 152 := by
  refine ⟨by kernel_rfl, by kernel_rfl, by decide, ?_⟩
  intro H enc w spare held fuel cs x h
  obtain ⟨xs, n, -, rfl, hl, hxl, hf⟩ := DataW.trod_struct Try.underlying152 h
  have hl' : cs.length = 1 + 1 := hl.trans (by kernel_rfl)
  have hxl' : xs.length = 1 + 1 := hxl
  obtain ⟨c0, r, rfl, hl2⟩ := lenS hl'
  obtain ⟨c1, rfl⟩ := len1 hl2
  obtain ⟨y0, s, rfl, hxl2⟩ := lenS hxl'
  obtain ⟨y1, rfl⟩ := len1 hxl2
  have g0 : DataW.trod enc Try.prog w 0 spare held n 3 (([c0, c1].drop 0).take (Try.prog.cellsOf 3)) = some y0 := hf 0 _ rfl
  have g1 : DataW.trod enc Try.prog w 0 spare held n 3 (([c0, c1].drop 1).take (Try.prog.cellsOf 3)) = some y1 := hf 1 _ rfl
  rw [show Try.prog.cellsOf 3 = 1 from opens_Int.2.1] at g0 g1
  obtain ⟨a0, ⟨e0, i0⟩, -, -⟩ := opens_Int.2.2.2 _ _ _ _ _ _ _ _ g0
  obtain ⟨a1, ⟨e1, i1⟩, -, -⟩ := opens_Int.2.2.2 _ _ _ _ _ _ _ _ g1
  injection e0 with e0; subst e0
  injection e1 with e1; subst e1
  refine ⟨(a0, a1), ⟨rfl, i0, i1⟩, fun _ _ => trivial, ?_⟩
  have b0 := bulk_pos y0.1
  have b1 := bulk_pos y1.1
  simp only [Meas.blk, Rows.uptoBulk, Rows.uptoBulkAll, List.map_cons, List.map_nil]
  omega
theorem opens_P_Try_l : Opens (List (Int × Int)) Try.prog 146 := opens_list Try.underlying146 (by kernel_rfl) (by kernel_rfl) opens_P_Try

instance : Meas Fr where
  bytes := 96
  fits M x := Meas.fits M x.regs ∧ Meas.fits M x.tries
  blk x := 1 + 1 + 1 + 1 + 1 + 3 + Meas.blk x.regs + Meas.blk x.tries
instance : Inhabited Fr := ⟨⟨default, default, default, default, default, default, default⟩⟩
theorem opens_Fr : Opens Fr Try.prog 148 := by
  refine ⟨by kernel_rfl, by kernel_rfl, by decide, ?_⟩
  intro H enc w spare held fuel cs x h
  obtain ⟨xs, n, -, rfl, hl, hxl, hf⟩ := DataW.trod_struct Try.underlying148 h
  have hl1 : cs.length = 7 + 1 := hl.trans (by kernel_rfl)
  have hx1 : xs.length = 6 + 1 := hxl
  obtain ⟨c0, r0, rfl, hl2⟩ := lenS hl1
  obtain ⟨c1, r1, rfl, hl3⟩ := lenS hl2
  obtain ⟨c2, r2, rfl, hl4⟩ := lenS hl3
  obtain ⟨c3, r3, rfl, hl5⟩ := lenS hl4
  obtain ⟨c4, r4, rfl, hl6⟩ := lenS hl5
  obtain ⟨c5, r5, rfl, hl7⟩ := lenS hl6
  obtain ⟨c6, r6, rfl, hl8⟩ := lenS hl7
  obtain ⟨c7, rfl⟩ := len1 hl8
  obtain ⟨y0, s0, rfl, hx2⟩ := lenS hx1
  obtain ⟨y1, s1, rfl, hx3⟩ := lenS hx2
  obtain ⟨y2, s2, rfl, hx4⟩ := lenS hx3
  obtain ⟨y3, s3, rfl, hx5⟩ := lenS hx4
  obtain ⟨y4, s4, rfl, hx6⟩ := lenS hx5
  obtain ⟨y5, s5, rfl, hx7⟩ := lenS hx6
  obtain ⟨y6, rfl⟩ := len1 hx7
  have g0 : DataW.trod enc Try.prog w 0 spare held n 3 (([c0, c1, c2, c3, c4, c5, c6, c7].drop 0).take (Try.prog.cellsOf 3)) = some y0 := hf 0 _ rfl
  have g1 : DataW.trod enc Try.prog w 0 spare held n 3 (([c0, c1, c2, c3, c4, c5, c6, c7].drop 1).take (Try.prog.cellsOf 3)) = some y1 := hf 1 _ rfl
  have g2 : DataW.trod enc Try.prog w 0 spare held n 3 (([c0, c1, c2, c3, c4, c5, c6, c7].drop 2).take (Try.prog.cellsOf 3)) = some y2 := hf 2 _ rfl
  have g3 : DataW.trod enc Try.prog w 0 spare held n 3 (([c0, c1, c2, c3, c4, c5, c6, c7].drop 3).take (Try.prog.cellsOf 3)) = some y3 := hf 3 _ rfl
  have g4 : DataW.trod enc Try.prog w 0 spare held n 23 (([c0, c1, c2, c3, c4, c5, c6, c7].drop 4).take (Try.prog.cellsOf 23)) = some y4 := hf 4 _ rfl
  have g5 : DataW.trod enc Try.prog w 0 spare held n 35 (([c0, c1, c2, c3, c4, c5, c6, c7].drop 6).take (Try.prog.cellsOf 35)) = some y5 := hf 5 _ rfl
  have g6 : DataW.trod enc Try.prog w 0 spare held n 146 (([c0, c1, c2, c3, c4, c5, c6, c7].drop 7).take (Try.prog.cellsOf 146)) = some y6 := hf 6 _ rfl
  rw [show Try.prog.cellsOf 3 = 1 from opens_Int.2.1] at g0
  obtain ⟨a0, q0, f0, b0⟩ := opens_Int.2.2.2 _ _ _ _ _ _ _ _ g0
  obtain ⟨e0, i0⟩ := q0
  injection e0 with e0; subst e0
  rw [show Try.prog.cellsOf 3 = 1 from opens_Int.2.1] at g1
  obtain ⟨a1, q1, f1, b1⟩ := opens_Int.2.2.2 _ _ _ _ _ _ _ _ g1
  obtain ⟨e1, i1⟩ := q1
  injection e1 with e1; subst e1
  rw [show Try.prog.cellsOf 3 = 1 from opens_Int.2.1] at g2
  obtain ⟨a2, q2, f2, b2⟩ := opens_Int.2.2.2 _ _ _ _ _ _ _ _ g2
  obtain ⟨e2, i2⟩ := q2
  injection e2 with e2; subst e2
  rw [show Try.prog.cellsOf 3 = 1 from opens_Int.2.1] at g3
  obtain ⟨a3, q3, f3, b3⟩ := opens_Int.2.2.2 _ _ _ _ _ _ _ _ g3
  obtain ⟨e3, i3⟩ := q3
  injection e3 with e3; subst e3
  rw [show Try.prog.cellsOf 23 = 2 from opens_P_Val.2.1] at g4
  obtain ⟨a4, q4, f4, b4⟩ := opens_P_Val.2.2.2 _ _ _ _ _ _ _ _ g4
  obtain ⟨e4, i4⟩ := q4
  injection e4 with e4 k4; injection k4 with k4; subst e4 k4
  rw [show Try.prog.cellsOf 35 = 1 from opens_P_Val_l.2.1] at g5
  obtain ⟨a5, q5, f5, b5⟩ := opens_P_Val_l.2.2.2 _ _ _ _ _ _ _ _ g5
  rw [show Try.prog.cellsOf 146 = 1 from opens_P_Try_l.2.1] at g6
  obtain ⟨a6, q6, f6, b6⟩ := opens_P_Try_l.2.2.2 _ _ _ _ _ _ _ _ g6
  refine ⟨⟨a0, a1, a2, a3, a4, a5, a6⟩, ⟨c6, c7, rfl, i0, i1, i2, i3, i4.1, i4.2, q5, q6⟩, fun M hM => ⟨f5 M fun m hm => hM m (by simp [DataW.weights, DataW.weightsEach, Try.underlying148, hm]), f6 M fun m hm => hM m (by simp [DataW.weights, DataW.weightsEach, Try.underlying148, hm])⟩, ?_⟩
  have t_ : Meas.blk a0 ≤ Rows.uptoBulk y0.1 ∧ Meas.blk a1 ≤ Rows.uptoBulk y1.1 ∧ Meas.blk a2 ≤ Rows.uptoBulk y2.1 ∧ Meas.blk a3 ≤ Rows.uptoBulk y3.1 ∧ Meas.blk a4 ≤ Rows.uptoBulk y4.1 ∧ Meas.blk a5 ≤ Rows.uptoBulk y5.1 ∧ Meas.blk a6 ≤ Rows.uptoBulk y6.1 := ⟨b0, b1, b2, b3, b4, b5, b6⟩
  show 1 + 1 + 1 + 1 + 1 + 3 + Meas.blk a5 + Meas.blk a6 ≤ _
  have z0 : 1 ≤ Rows.uptoBulk y0.1 := b0
  have z1 : 1 ≤ Rows.uptoBulk y1.1 := b1
  have z2 : 1 ≤ Rows.uptoBulk y2.1 := b2
  have z3 : 1 ≤ Rows.uptoBulk y3.1 := b3
  have z4 : 3 ≤ Rows.uptoBulk y4.1 := b4
  simp only [Rows.uptoBulk, Rows.uptoBulkAll, List.map_cons, List.map_nil]
  omega
theorem opens_Fr_l : Opens (List Fr) Try.prog 36 := opens_list Try.underlying36 (by kernel_rfl) (by kernel_rfl) opens_Fr

instance : Meas Ce where
  bytes := 64
  fits M x := Meas.fits M x.vals ∧ Meas.fits M x.frames
  blk x := 1 + 1 + 1 + Meas.blk x.vals + Meas.blk x.frames
instance : Inhabited Ce := ⟨⟨default, default, default, default⟩⟩
theorem opens_Ce : Opens Ce Try.prog 38 := by
  refine ⟨by kernel_rfl, by kernel_rfl, by decide, ?_⟩
  intro H enc w spare held fuel cs x h
  obtain ⟨xs, n, -, rfl, hl, hxl, hf⟩ := DataW.trod_struct Try.underlying38 h
  have hl1 : cs.length = 3 + 1 := hl.trans (by kernel_rfl)
  have hx1 : xs.length = 3 + 1 := hxl
  obtain ⟨c0, r0, rfl, hl2⟩ := lenS hl1
  obtain ⟨c1, r1, rfl, hl3⟩ := lenS hl2
  obtain ⟨c2, r2, rfl, hl4⟩ := lenS hl3
  obtain ⟨c3, rfl⟩ := len1 hl4
  obtain ⟨y0, s0, rfl, hx2⟩ := lenS hx1
  obtain ⟨y1, s1, rfl, hx3⟩ := lenS hx2
  obtain ⟨y2, s2, rfl, hx4⟩ := lenS hx3
  obtain ⟨y3, rfl⟩ := len1 hx4
  have g0 : DataW.trod enc Try.prog w 0 spare held n 3 (([c0, c1, c2, c3].drop 0).take (Try.prog.cellsOf 3)) = some y0 := hf 0 _ rfl
  have g1 : DataW.trod enc Try.prog w 0 spare held n 3 (([c0, c1, c2, c3].drop 1).take (Try.prog.cellsOf 3)) = some y1 := hf 1 _ rfl
  have g2 : DataW.trod enc Try.prog w 0 spare held n 35 (([c0, c1, c2, c3].drop 2).take (Try.prog.cellsOf 35)) = some y2 := hf 2 _ rfl
  have g3 : DataW.trod enc Try.prog w 0 spare held n 36 (([c0, c1, c2, c3].drop 3).take (Try.prog.cellsOf 36)) = some y3 := hf 3 _ rfl
  rw [show Try.prog.cellsOf 3 = 1 from opens_Int.2.1] at g0
  obtain ⟨a0, q0, f0, b0⟩ := opens_Int.2.2.2 _ _ _ _ _ _ _ _ g0
  obtain ⟨e0, i0⟩ := q0
  injection e0 with e0; subst e0
  rw [show Try.prog.cellsOf 3 = 1 from opens_Int.2.1] at g1
  obtain ⟨a1, q1, f1, b1⟩ := opens_Int.2.2.2 _ _ _ _ _ _ _ _ g1
  obtain ⟨e1, i1⟩ := q1
  injection e1 with e1; subst e1
  rw [show Try.prog.cellsOf 35 = 1 from opens_P_Val_l.2.1] at g2
  obtain ⟨a2, q2, f2, b2⟩ := opens_P_Val_l.2.2.2 _ _ _ _ _ _ _ _ g2
  rw [show Try.prog.cellsOf 36 = 1 from opens_Fr_l.2.1] at g3
  obtain ⟨a3, q3, f3, b3⟩ := opens_Fr_l.2.2.2 _ _ _ _ _ _ _ _ g3
  refine ⟨⟨a0, a1, a2, a3⟩, ⟨c2, c3, rfl, i0, i1, q2, q3⟩, fun M hM => ⟨f2 M fun m hm => hM m (by simp [DataW.weights, DataW.weightsEach, Try.underlying38, hm]), f3 M fun m hm => hM m (by simp [DataW.weights, DataW.weightsEach, Try.underlying38, hm])⟩, ?_⟩
  have t_ : Meas.blk a0 ≤ Rows.uptoBulk y0.1 ∧ Meas.blk a1 ≤ Rows.uptoBulk y1.1 ∧ Meas.blk a2 ≤ Rows.uptoBulk y2.1 ∧ Meas.blk a3 ≤ Rows.uptoBulk y3.1 := ⟨b0, b1, b2, b3⟩
  show 1 + 1 + 1 + Meas.blk a2 + Meas.blk a3 ≤ _
  have z0 : 1 ≤ Rows.uptoBulk y0.1 := b0
  have z1 : 1 ≤ Rows.uptoBulk y1.1 := b1
  simp only [Rows.uptoBulk, Rows.uptoBulkAll, List.map_cons, List.map_nil]
  omega
theorem opens_Ce_l : Opens (List Ce) Try.prog 66 := opens_list Try.underlying66 (by kernel_rfl) (by kernel_rfl) opens_Ce

theorem opens_LInt : Opens (List Int) Try.prog 47 := opens_list Try.underlying47 (by kernel_rfl) (by kernel_rfl) opens_Int

theorem opens_LLInt : Opens (List (List Int)) Try.prog 46 := opens_list Try.underlying46 (by kernel_rfl) (by kernel_rfl) opens_LInt

instance : Meas Gr where
  bytes := 48
  fits M x := Meas.fits M x.has ∧ Meas.fits M x.roots
  blk x := 1 + Meas.blk x.has + Meas.blk x.roots
instance : Inhabited Gr := ⟨⟨default, default⟩⟩
theorem opens_Gr : Opens Gr Try.prog 49 := by
  refine ⟨by kernel_rfl, by kernel_rfl, by decide, ?_⟩
  intro H enc w spare held fuel cs x h
  obtain ⟨xs, n, -, rfl, hl, hxl, hf⟩ := DataW.trod_struct Try.underlying49 h
  have hl1 : cs.length = 1 + 1 := hl.trans (by kernel_rfl)
  have hx1 : xs.length = 1 + 1 := hxl
  obtain ⟨c0, r0, rfl, hl2⟩ := lenS hl1
  obtain ⟨c1, rfl⟩ := len1 hl2
  obtain ⟨y0, s0, rfl, hx2⟩ := lenS hx1
  obtain ⟨y1, rfl⟩ := len1 hx2
  have g0 : DataW.trod enc Try.prog w 0 spare held n 46 (([c0, c1].drop 0).take (Try.prog.cellsOf 46)) = some y0 := hf 0 _ rfl
  have g1 : DataW.trod enc Try.prog w 0 spare held n 47 (([c0, c1].drop 1).take (Try.prog.cellsOf 47)) = some y1 := hf 1 _ rfl
  rw [show Try.prog.cellsOf 46 = 1 from opens_LLInt.2.1] at g0
  obtain ⟨a0, q0, f0, b0⟩ := opens_LLInt.2.2.2 _ _ _ _ _ _ _ _ g0
  rw [show Try.prog.cellsOf 47 = 1 from opens_LInt.2.1] at g1
  obtain ⟨a1, q1, f1, b1⟩ := opens_LInt.2.2.2 _ _ _ _ _ _ _ _ g1
  refine ⟨⟨a0, a1⟩, ⟨c0, c1, rfl, q0, q1⟩, fun M hM => ⟨f0 M fun m hm => hM m (by simp [DataW.weights, DataW.weightsEach, Try.underlying49, hm]), f1 M fun m hm => hM m (by simp [DataW.weights, DataW.weightsEach, Try.underlying49, hm])⟩, ?_⟩
  have t_ : Meas.blk a0 ≤ Rows.uptoBulk y0.1 ∧ Meas.blk a1 ≤ Rows.uptoBulk y1.1 := ⟨b0, b1⟩
  show 1 + Meas.blk a0 + Meas.blk a1 ≤ _
  simp only [Rows.uptoBulk, Rows.uptoBulkAll, List.map_cons, List.map_nil]
  omega

theorem opens_U64 : Opens U64 Try.prog 24 := opens_u64 Try.underlying24 (by kernel_rfl) (by kernel_rfl)
instance : Inhabited U64 := ⟨⟨0⟩⟩
theorem opens_LU64 : Opens (List U64) Try.prog 39 := opens_list Try.underlying39 (by kernel_rfl) (by kernel_rfl) opens_U64

instance : Meas Hp where
  bytes := 48
  fits M x := Meas.fits M x.words ∧ Meas.fits M x.roots
  blk x := 1 + Meas.blk x.words + Meas.blk x.roots
instance : Inhabited Hp := ⟨⟨default, default⟩⟩
theorem opens_Hp : Opens Hp Try.prog 70 := by
  refine ⟨by kernel_rfl, by kernel_rfl, by decide, ?_⟩
  intro H enc w spare held fuel cs x h
  obtain ⟨xs, n, -, rfl, hl, hxl, hf⟩ := DataW.trod_struct Try.underlying70 h
  have hl1 : cs.length = 1 + 1 := hl.trans (by kernel_rfl)
  have hx1 : xs.length = 1 + 1 := hxl
  obtain ⟨c0, r0, rfl, hl2⟩ := lenS hl1
  obtain ⟨c1, rfl⟩ := len1 hl2
  obtain ⟨y0, s0, rfl, hx2⟩ := lenS hx1
  obtain ⟨y1, rfl⟩ := len1 hx2
  have g0 : DataW.trod enc Try.prog w 0 spare held n 39 (([c0, c1].drop 0).take (Try.prog.cellsOf 39)) = some y0 := hf 0 _ rfl
  have g1 : DataW.trod enc Try.prog w 0 spare held n 39 (([c0, c1].drop 1).take (Try.prog.cellsOf 39)) = some y1 := hf 1 _ rfl
  rw [show Try.prog.cellsOf 39 = 1 from opens_LU64.2.1] at g0
  obtain ⟨a0, q0, f0, b0⟩ := opens_LU64.2.2.2 _ _ _ _ _ _ _ _ g0
  rw [show Try.prog.cellsOf 39 = 1 from opens_LU64.2.1] at g1
  obtain ⟨a1, q1, f1, b1⟩ := opens_LU64.2.2.2 _ _ _ _ _ _ _ _ g1
  refine ⟨⟨a0, a1⟩, ⟨c0, c1, rfl, q0, q1⟩, fun M hM => ⟨f0 M fun m hm => hM m (by simp [DataW.weights, DataW.weightsEach, Try.underlying70, hm]), f1 M fun m hm => hM m (by simp [DataW.weights, DataW.weightsEach, Try.underlying70, hm])⟩, ?_⟩
  have t_ : Meas.blk a0 ≤ Rows.uptoBulk y0.1 ∧ Meas.blk a1 ≤ Rows.uptoBulk y1.1 := ⟨b0, b1⟩
  show 1 + Meas.blk a0 + Meas.blk a1 ≤ _
  simp only [Rows.uptoBulk, Rows.uptoBulkAll, List.map_cons, List.map_nil]
  omega

instance : Meas De where
  bytes := 32
  fits M x := True
  blk x := 1 + 1 + 1 + 1 + 1
instance : Inhabited De := ⟨⟨default, default, default, default⟩⟩
theorem opens_De : Opens De Try.prog 97 := by
  refine ⟨by kernel_rfl, by kernel_rfl, by decide, ?_⟩
  intro H enc w spare held fuel cs x h
  obtain ⟨xs, n, -, rfl, hl, hxl, hf⟩ := DataW.trod_struct Try.underlying97 h
  have hl1 : cs.length = 3 + 1 := hl.trans (by kernel_rfl)
  have hx1 : xs.length = 3 + 1 := hxl
  obtain ⟨c0, r0, rfl, hl2⟩ := lenS hl1
  obtain ⟨c1, r1, rfl, hl3⟩ := lenS hl2
  obtain ⟨c2, r2, rfl, hl4⟩ := lenS hl3
  obtain ⟨c3, rfl⟩ := len1 hl4
  obtain ⟨y0, s0, rfl, hx2⟩ := lenS hx1
  obtain ⟨y1, s1, rfl, hx3⟩ := lenS hx2
  obtain ⟨y2, s2, rfl, hx4⟩ := lenS hx3
  obtain ⟨y3, rfl⟩ := len1 hx4
  have g0 : DataW.trod enc Try.prog w 0 spare held n 3 (([c0, c1, c2, c3].drop 0).take (Try.prog.cellsOf 3)) = some y0 := hf 0 _ rfl
  have g1 : DataW.trod enc Try.prog w 0 spare held n 3 (([c0, c1, c2, c3].drop 1).take (Try.prog.cellsOf 3)) = some y1 := hf 1 _ rfl
  have g2 : DataW.trod enc Try.prog w 0 spare held n 3 (([c0, c1, c2, c3].drop 2).take (Try.prog.cellsOf 3)) = some y2 := hf 2 _ rfl
  have g3 : DataW.trod enc Try.prog w 0 spare held n 3 (([c0, c1, c2, c3].drop 3).take (Try.prog.cellsOf 3)) = some y3 := hf 3 _ rfl
  rw [show Try.prog.cellsOf 3 = 1 from opens_Int.2.1] at g0
  obtain ⟨a0, q0, f0, b0⟩ := opens_Int.2.2.2 _ _ _ _ _ _ _ _ g0
  obtain ⟨e0, i0⟩ := q0
  injection e0 with e0; subst e0
  rw [show Try.prog.cellsOf 3 = 1 from opens_Int.2.1] at g1
  obtain ⟨a1, q1, f1, b1⟩ := opens_Int.2.2.2 _ _ _ _ _ _ _ _ g1
  obtain ⟨e1, i1⟩ := q1
  injection e1 with e1; subst e1
  rw [show Try.prog.cellsOf 3 = 1 from opens_Int.2.1] at g2
  obtain ⟨a2, q2, f2, b2⟩ := opens_Int.2.2.2 _ _ _ _ _ _ _ _ g2
  obtain ⟨e2, i2⟩ := q2
  injection e2 with e2; subst e2
  rw [show Try.prog.cellsOf 3 = 1 from opens_Int.2.1] at g3
  obtain ⟨a3, q3, f3, b3⟩ := opens_Int.2.2.2 _ _ _ _ _ _ _ _ g3
  obtain ⟨e3, i3⟩ := q3
  injection e3 with e3; subst e3
  refine ⟨⟨a0, a1, a2, a3⟩, ⟨rfl, i0, i1, i2, i3⟩, fun M hM => trivial, ?_⟩
  have t_ : Meas.blk a0 ≤ Rows.uptoBulk y0.1 ∧ Meas.blk a1 ≤ Rows.uptoBulk y1.1 ∧ Meas.blk a2 ≤ Rows.uptoBulk y2.1 ∧ Meas.blk a3 ≤ Rows.uptoBulk y3.1 := ⟨b0, b1, b2, b3⟩
  show 1 + 1 + 1 + 1 + 1 ≤ _
  have z0 : 1 ≤ Rows.uptoBulk y0.1 := b0
  have z1 : 1 ≤ Rows.uptoBulk y1.1 := b1
  have z2 : 1 ≤ Rows.uptoBulk y2.1 := b2
  have z3 : 1 ≤ Rows.uptoBulk y3.1 := b3
  simp only [Rows.uptoBulk, Rows.uptoBulkAll, List.map_cons, List.map_nil]
  omega
theorem opens_De_l : Opens (List De) Try.prog 88 := opens_list Try.underlying88 (by kernel_rfl) (by kernel_rfl) opens_De

theorem opens_P_RPair : Opens (Int × Int) Try.prog 63 := by
  refine ⟨by kernel_rfl, by kernel_rfl, by decide, ?_⟩
  intro H enc w spare held fuel cs x h
  obtain ⟨xs, n, -, rfl, hl, hxl, hf⟩ := DataW.trod_struct Try.underlying63 h
  have hl' : cs.length = 1 + 1 := hl.trans (by kernel_rfl)
  have hxl' : xs.length = 1 + 1 := hxl
  obtain ⟨c0, r, rfl, hl2⟩ := lenS hl'
  obtain ⟨c1, rfl⟩ := len1 hl2
  obtain ⟨y0, s, rfl, hxl2⟩ := lenS hxl'
  obtain ⟨y1, rfl⟩ := len1 hxl2
  have g0 : DataW.trod enc Try.prog w 0 spare held n 3 (([c0, c1].drop 0).take (Try.prog.cellsOf 3)) = some y0 := hf 0 _ rfl
  have g1 : DataW.trod enc Try.prog w 0 spare held n 3 (([c0, c1].drop 1).take (Try.prog.cellsOf 3)) = some y1 := hf 1 _ rfl
  rw [show Try.prog.cellsOf 3 = 1 from opens_Int.2.1] at g0 g1
  obtain ⟨a0, ⟨e0, i0⟩, -, -⟩ := opens_Int.2.2.2 _ _ _ _ _ _ _ _ g0
  obtain ⟨a1, ⟨e1, i1⟩, -, -⟩ := opens_Int.2.2.2 _ _ _ _ _ _ _ _ g1
  injection e0 with e0; subst e0
  injection e1 with e1; subst e1
  refine ⟨(a0, a1), ⟨rfl, i0, i1⟩, fun _ _ => trivial, ?_⟩
  have b0 := bulk_pos y0.1
  have b1 := bulk_pos y1.1
  simp only [Meas.blk, Rows.uptoBulk, Rows.uptoBulkAll, List.map_cons, List.map_nil]
  omega
theorem opens_P_RPair_l : Opens (List (Int × Int)) Try.prog 50 := opens_list Try.underlying50 (by kernel_rfl) (by kernel_rfl) opens_P_RPair

end Go.Proofs.Ytpkccpegdpodoaa

/-
  From a law's walk to its row: the arguments read as they did; the law's post.
-/
namespace Go.Proofs.Ytpkccpegdpodoaa
open Go.RowKit Go.ChangeShapes Go.WideShapes Go.Deep

theorem prog_own : ownKnob Try.prog.godebug = none := by kernel_rfl
theorem prog_laidOut : laidOutB Try.prog = true := by kernel_rfl

theorem trodAll_below {H : Type} {enc : TypeId × Value → H} {P : Program} {W W' : World} (hl : laidOutB P = true) (hb : Below W.heap.size W W') :
    ∀ {ts : List TypeId} {vs : List Value} {ds : List (DataW H)} {ps : List MemPlace}, ts.all (fun t => P.readableRec t && decide (t < P.types.size)) = true →
      DataW.TrodAll enc P W 0 (fun _ => true) true ts vs ds ps → (∀ x ∈ ps, x.block < W.heap.size) → DataW.TrodAll enc P W' 0 (fun b => decide (b < W.heap.size)) true ts vs ds ps
  | [], [], [], ps, _, h, _ => h
  | t :: ts, v :: vs, d :: ds, ps, hr, h, hlt => by
    obtain ⟨p, q, h1, h2, rfl⟩ := h
    rw [List.all_cons, Bool.and_eq_true, Bool.and_eq_true, decide_eq_true_eq] at hr
    exact ⟨p, q, Below.trod hl hr.1.1 hr.1.2 h1 hb (fun x hx => hlt x (List.mem_append_left _ hx)), trodAll_below hl hb hr.2 h2 (fun x hx => hlt x (List.mem_append_right _ hx)), rfl⟩
  | [], _ :: _, _, _, _, h, _ => by simp [DataW.TrodAll] at h
  | [], [], _ :: _, _, _, h, _ => by simp [DataW.TrodAll] at h
  | _ :: _, [], _, _, _, h, _ => by simp [DataW.TrodAll] at h
  | _ :: _, _ :: _, [], _, _, h, _ => by simp [DataW.TrodAll] at h

/-- a law's post: it returned true, and nothing that was there has turned -/
theorem post_law {H : Type} {enc : TypeId × Value → H} {P : Program} {f : Func} {s : ChangeSpec} {W W' : World} {args : Array Value} {ds : List (DataW H)} {before : List MemPlace} {bt : TypeId}
    (hW : DataW.Whole enc P f.params.toList s.vars false W args.toList ds [] before) (hvars : s.vars = []) (hfn : s.fn H (ds ++ []) = { results := [.lit (.bool true)], args := ds }) (hres : f.resultTypes = #[bt])
    (hbt : P.underlying bt = some .bool) (hl : laidOutB P = true) (hr : f.params.toList.all (fun t => P.readableRec t && decide (t < P.types.size)) = true) (hb : Below W.heap.size W W') :
    s.post enc P f false true false false W args (.bool true) W' := by
  have hlt : ∀ x ∈ before, x.block < W.heap.size := fun x hx => hW.lt x hx
  have hW' := hW
  obtain ⟨p, q, hA, hV, rfl, -, -⟩ := hW
  rw [hvars] at hV
  obtain ⟨-, rfl⟩ := trodVars_none hV
  refine ⟨ds, [], _, [], p, [], hW', ?_, ?_, ?_, hb.frame _, fun h => by cases h⟩
  · rw [hfn, hres]
    exact trodAll_mk1 (shut_bool hbt true)
  · rw [hfn]
    exact trodAll_below hl hb hr hA (fun x hx => hlt x (by simpa using hx))
  · rw [hfn, hvars]
    rfl

/-- every weight of an argument's reading is within the reach -/
theorem weigh {H : Type} {P : Program} {ts : List TypeId} {ds : List (DataW H)} (h : (DataW.weightsEach P ts ds).all (· ≤ reachBytes) = true) {j : Nat} {t : TypeId} {d : DataW H} (ht : ts[j]? = some t) (hd : ds[j]? = some d) :
    ∀ n ∈ d.weights P t, n ≤ reachBytes := fun n hn => by
  have := List.all_eq_true.1 h n (DataW.weights_mem_each ht hd n hn)
  simpa using this

theorem agg_of {P : Program} {w : World} {r : Reach} {b : Nat} {t : TypeId} {fs : Array Field} {v : Value} (hs : P.underlying t = some (.struct fs)) (hv : Value.okWide P w r b t v) {l : List Value} (h : v.cells.toList = l) : v = .agg l.toArray := by
  obtain ⟨cs, rfl, -⟩ := okWide_struct hs hv
  subst h
  simp [Value.cells]
theorem slice_of {P : Program} {w : World} {r : Reach} {b : Nat} {t e : TypeId} {v u : Value} (hs : P.underlying t = some (.slice e)) (hv : Value.okWide P w r b t v) (h : v.cells.toList = [u]) : v = u := by
  obtain ⟨a, n, c, rfl⟩ := okWide_slice hs hv
  simpa [Value.cells] using h

end Go.Proofs.Ytpkccpegdpodoaa

namespace Go.Proofs.Ytpkccpegdpodoaa
open Go.RowKit Go.ChangeShapes Go.WideShapes Go.Deep

set_option maxRecDepth 100000 in
theorem ownsTell_lifted (os : Os) (started : os.Started) (H : Type) (enc : TypeId × Value → H) :
    ReturnsInHanded {} Try.checked os 8 .any (Rows.ownsTellSpec.pre6 enc Try.prog Try.f8 Rows.ownsTellRow.domain false) (Rows.ownsTellSpec.post enc Try.prog Try.f8 false true false false) := by
  refine returnsInHanded_of_change_sized (C := Try.checked) prog_own started (by kernel_rfl) Try.func8
    (ChangeSpec.witness6 (enc := enc) (C := Try.checked) false ⟨#[], #[.agg #[.slice none 0 0, .slice none 0 0], .int .i64 0], []⟩ 8 (by kernel_rfl) (by kernel_rfl) (by kernel_rfl) (by kernel_rfl)) ?_
  intro W base args ds gs before hval0 hW _ hsz0 _
  have hsz : (DataW.weightsEach Try.prog (Try.f8.params.toList ++ Rows.ownsTellSpec.plain.varTypes Try.prog) (ds ++ gs)).all (· ≤ reachBytes) = true := hsz0
  clear hsz0
  have hval : ∀ (j : Nat) t v, Try.f8.params[j]? = some t → args[j]? = some v → Value.okWide Try.prog W .any base t v := hval0
  have hW' := hW
  obtain ⟨p, q, hA0, hV, rfl, -, -⟩ := hW
  have hA : DataW.TrodAll enc Try.prog W 0 (fun _ => true) true Try.f8.params.toList args.toList ds p := hA0
  rw [Try.params8] at hA hval hsz
  obtain ⟨v0, vs0, d0, ds0, p0, q0, hargs, rfl, rfl, h0, r0⟩ := trodAll_cons hA
  obtain ⟨v1, vs1, d1, ds1, p1, q1, rfl, rfl, rfl, h1, r1⟩ := trodAll_cons r0
  obtain ⟨rfl, rfl, rfl⟩ := trodAll_nil r1
  obtain rfl : args = #[v0, v1] := by cases args; simp_all
  obtain ⟨rfl, rfl⟩ := trodVars_none hV
  obtain ⟨u0, k0⟩ := h0
  obtain ⟨u1, k1⟩ := h1
  obtain ⟨x0, ⟨c00, c01, l0, ⟨A00, n00, m00, hc00, hm00, -, t00⟩, ⟨A01, n01, m01, hc01, hm01, -, t01⟩⟩, f0, -⟩ := opens_Gr.2.2.2 _ _ _ _ _ _ _ _ k0
  injection m00 with m00; subst m00
  injection m01 with m01; subst m01
  unfold maxLen at hm00 hm01
  have q0 := agg_of Try.underlying49 (hval 0 _ v0 rfl rfl) l0
  obtain ⟨x1, ⟨l1, i1⟩, -, -⟩ := opens_Int.2.2.2 _ _ _ _ _ _ _ _ k1
  have q1 : v1 = .int .i64 x1 := by
    obtain ⟨m, rfl⟩ := okWide_int Try.underlying3 (hval 1 _ v1 rfl rfl)
    simpa [Value.cells, Flat.cells] using l1
  subst q0 q1
  refine (ownsTell_any _ n00 n01 A00 A01 x0.has x0.roots x1 i1 W t00 t01 (Nat.le_refl _) (by omega) (by omega) ⟨hc01, by simp only [maxLen]; omega⟩).mono fun e W2 ⟨he, hb⟩ => ?_
  subst he
  exact ⟨_, rfl, post_law hW' rfl rfl rfl Try.underlying4 prog_laidOut (by kernel_rfl) hb⟩

theorem ownsTell_holds : Rows.OwnsTellSaid :=
  OpenClaim.holds_of_wide 8 Try.f8 rfl rfl rfl rfl rfl rfl rfl ⟨rfl, rfl, rfl, rfl, rfl⟩ rfl rfl rfl rfl rfl (by kernel_rfl) Try.func8 (by kernel_rfl)
    (of_decide_eq_true (by kernel_rfl)) (by unfold Func.isWrapper; first | (rw [if_pos (by decide +kernel)]; kernel_rfl) | (rw [if_neg (by decide +kernel)]; exact ⟨rfl, rfl⟩))
    (fun os started H enc _ => ownsTell_lifted os started H enc)
#print axioms ownsTell_holds
end Go.Proofs.Ytpkccpegdpodoaa
