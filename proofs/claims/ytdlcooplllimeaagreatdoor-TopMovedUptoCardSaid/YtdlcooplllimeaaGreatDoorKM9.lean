/- KM: Haul6. -/
import Derived.Test.YtdlcooplllimeaaGreatDoorKM8
import Derived.BigRegion
/- haul.Objects; (*haul.collector).moved. -/
namespace Go.Proofs.YtdlcooplllimeaaGreatDoor
open Go.RowKit Go.Maps

attribute [local go_sem ↓] Go.wp_at_zero Go.wp_at_succ

def HObPost (er : Int) (ws : List U64) (w : World) (e : Ending) (w' : World) : Prop := Below w.heap.size w w' ∧
  ((er = 0 ∧ ∃ OA oc, e = .returned (.tuple #[.slice OA (Hau.places ws).length oc, .int .i64 0]) ∧ Own w' w.heap.size 3 OA oc (ints (Hau.places ws))) ∨ (er ≠ 0 ∧ e = .returned (.tuple #[.slice none 0 0, .int .i64 er])))

theorem own_ne_map {α H : Type} [Flat α] {P : Program} {w : World} {base : Nat} {e k : TypeId} {A : Option Addr} {c : Nat} {l : List α} {R : Value → Option (DataW H × List MemPlace)} {b n : Nat} {D : DataW H} (h : Own w base e A c l) (hm : w.ownsMap P k R b n D) : rowOf A ≠ some b := by
  intro hA
  obtain ⟨es, clock, hb, _⟩ := hm
  rcases h.2 with ⟨h1, _⟩ | ⟨g', cap, cur, hv, _, hh, _⟩
  · injection h1 with h3; rw [h3] at hA; cases hA
  · injection hv with h3; rw [h3] at hA; injection hA with hA; simp only at hA; subst hA
    rw [hh] at hb; injection hb with hb; cases hb
theorem blk_ne_map {H : Type} {P : Program} {w : World} {g : Nat} {t k : TypeId} {cs : Array Value} {R : Value → Option (DataW H × List MemPlace)} {b n : Nat} {D : DataW H} (h : Blk w g t cs) (hm : w.ownsMap P k R b n D) : g ≠ b := by
  intro hA
  subst hA
  obtain ⟨es, clock, hb, _⟩ := hm
  unfold Blk at h
  rw [h] at hb; injection hb with hb; cases hb

def Hau.mv (ws : List U64) (F : List Nat) : List (Int × Int) := (Hau.cum ws 0 F).map fun m => ((m.1 : Int), (m.2 : Int))
theorem Hau.mv_length (ws : List U64) (F : List Nat) : (Hau.mv ws F).length = F.length := by unfold Hau.mv; rw [List.length_map, Hau.cum_length]
theorem Hau.mv_snoc (ws : List U64) (F : List Nat) (p : Nat) : Hau.mv ws (F ++ [p]) = Hau.mv ws F ++ [((((F.map (Hau.sz ws)).sum : Nat) : Int), (p : Int))] := by
  unfold Hau.mv; rw [Hau.cum_append, List.map_append]; simp [Hau.cum]

theorem Hau.posOf_le (ws : List U64) (F : List Nat) (p : Nat) : Hau.posOf ws F p ≤ (F.map (Hau.sz ws)).sum := by
  unfold Hau.posOf
  induction F with
  | nil => simp
  | cons q F ih =>
    rw [List.takeWhile_cons]
    split
    · simp only [List.map_cons, List.sum_cons]; omega
    · simp
theorem Hau.refW_ok (t : Nat) (h : t < 4294967296) : I64 5 ∧ I64 (t : Int) := by unfold I64; omega
theorem at_takeH {α : Type} [Enc α] {w : World} {B : Nat} {A : Option Addr} {l : List α} (h : At w B A l) (n : Nat) : At w B A (l.take n) := fun i x hx => by
  rw [List.getElem?_take] at hx
  split at hx
  · exact h i x hx
  · cases hx
/-- a collector: where it lies, what it owns -/
def Hau.Coll (w : World) (Z CB MB wc tc lc : Nat) (WA TA LA : Option Addr) (ws T : List U64) (F : List Nat) : Prop :=
  Blk w CB 91 #[.slice WA ws.length wc, .slice TA T.length tc, .map (some MB), .slice LA F.length lc] ∧ Own w Z 73 TA tc T ∧ Own w Z 64 LA lc (Hau.mv ws F) ∧
    w.ownsMap Tryz.prog 3 (plainElem (H := Unit) Tryz.prog 3) MB F.length (Hau.mapD ws F) ∧ Z ≤ CB ∧ Z ≤ MB
/-- all but the collector's own blocks stays -/
def Hau.Keep (w w' : World) (CB MB : Nat) (TA LA : Option Addr) : Prop := ∀ g, g < w.heap.size → g ≠ CB → g ≠ MB → rowOf TA ≠ some g → rowOf LA ≠ some g → w'.heap[g]? = w.heap[g]?
theorem Hau.Coll.fresh {w w' : World} {Z CB MB wc tc lc : Nat} {WA TA LA : Option Addr} {ws T : List U64} {F : List Nat} (h : Hau.Coll w Z CB MB wc tc lc WA TA LA ws T F) (hb : Below w.heap.size w w') : Hau.Coll w' Z CB MB wc tc lc WA TA LA ws T F :=
  ⟨h.1.fresh hb, h.2.1.fresh hb, h.2.2.1.fresh hb, h.2.2.2.1.kept (grownBy_below none hb) (by simp), h.2.2.2.2⟩
theorem Hau.Keep.fresh {w w' : World} {CB MB : Nat} {TA LA : Option Addr} (hb : Below w.heap.size w w') : Hau.Keep w w' CB MB TA LA := fun g hg _ _ _ _ => hb.block g hg
theorem Hau.Keep.trans {w w1 w2 : World} {CB MB : Nat} {TA LA : Option Addr} (h : Hau.Keep w w1 CB MB TA LA) (hs : w.heap.size ≤ w1.heap.size) (h' : Hau.Keep w1 w2 CB MB TA LA) : Hau.Keep w w2 CB MB TA LA :=
  fun g hg h1 h2 h3 h4 => (h' g (by omega) h1 h2 h3 h4).trans (h g hg h1 h2 h3 h4)

theorem moved_end {w W w6 : World} {Z CB MB wc tc c3 c6 q p : Nat} {WA TA LA A3 A6 : Option Addr} {ws T : List U64} {F : List Nat}
    (_h1 : Blk W CB 91 #[.slice WA ws.length wc, .slice TA T.length tc, .map (some MB), .slice A3 (F.length + 1) c3]) (h2 : Own W Z 73 TA tc T) (h3 : Own W Z 64 A3 c3 (Hau.mv ws F ++ [((T.length : Int), (p : Int))]))
    (h4 : W.ownsMap Tryz.prog 3 (plainElem (H := Unit) Tryz.prog 3) MB (F.length + 1) ((Hau.mapD ws F).put (.int .i64 (p : Int)) (.lit (.int .i64 (T.length : Int))))) (h5 : Below Z w W) (h6 : Hau.Keep w W CB MB TA LA) (hC : Z ≤ CB) (hM : Z ≤ MB)
    (n1 : Blk w6 CB 91 #[.slice WA ws.length wc, .slice TA T.length tc, .map (some MB), .slice A3 (F.length + 1) c3]) (n2 : Own w6 Z 73 A6 c6 (T ++ Hau.obj ws p)) (hg : W.drew.grownBy w6 (rowOf TA)) (ha : rowOf A6 = rowOf TA ∨ rowOf A6 = some W.drew.heap.size) (hb : Below Z W w6)
    (hrw : Hau.raw ws [p] = Hau.obj ws p) (hol : (Hau.obj ws p).length = 1 + q) (hmd : Hau.mapD ws (F ++ [p]) = (Hau.mapD ws F).put (.int .i64 (p : Int)) (.lit (.int .i64 (T.length : Int)))) (hmv : Hau.mv ws (F ++ [p]) = Hau.mv ws F ++ [((T.length : Int), (p : Int))]) :
    Hau.Coll (w6.setCell ⟨CB, 1, none⟩ (.slice A6 (T.length + (1 + q)) c6)) Z CB MB wc c6 c3 WA A6 A3 ws (T ++ Hau.raw ws [p]) (F ++ [p]) ∧ Below Z w (w6.setCell ⟨CB, 1, none⟩ (.slice A6 (T.length + (1 + q)) c6)) ∧ (rowOf A6 = rowOf TA ∨ ∃ g, rowOf A6 = some g ∧ w.heap.size ≤ g) ∧
      Hau.Keep w (w6.setCell ⟨CB, 1, none⟩ (.slice A6 (T.length + (1 + q)) c6)) CB MB TA LA := by
  have hs := h5.size
  have k3 : Own w6 Z 64 A3 c3 (Hau.mv ws F ++ [((T.length : Int), (p : Int))]) := h3.drew.grown hg (fun g hg e => own_own_ty h3 h2 (by decide) g hg e)
  have k4 := (h4.drew).kept hg (fun e => own_ne_map h2 h4 e.symm)
  refine ⟨⟨?_, ?_, ?_, ?_, hC, hM⟩, (h5.trans hb).setCell hC _, ?_, fun g hl g1 g2 g3 g4 => (Below.heap_setCell w6 _ _ g g1).trans ((hg.block g (by show g < W.heap.size; omega) (fun e => g3 e.symm)).trans (h6 g hl g1 g2 g3 g4))⟩
  · have := n1.set_ 1 (.slice A6 (T.length + (1 + q)) c6)
    rw [hrw, List.length_append, List.length_append, hol]
    simpa using this
  · rw [hrw]; exact n2.setCell _ _ (own_ne_ty n2 n1 (by decide))
  · rw [hmv]; exact k3.setCell _ _ (own_ne_ty k3 n1 (by decide))
  · rw [hmd, List.length_append]; exact k4.setCell (fun e => blk_ne_map n1 k4 e.symm) _
  · rcases ha with h | h
    · exact .inl h
    · exact .inr ⟨_, h, hs⟩

def HmPost (Z CB MB wc : Nat) (WA TA LA : Option Addr) (ws T : List U64) (F : List Nat) (x : U64) (w : World) (e : Ending) (w' : World) : Prop :=
  Below Z w w' ∧ ∃ (X : List Nat) (TA' : Option Addr) (tc' : Nat) (LA' : Option Addr) (lc' : Nat), Hau.addW F x = F ++ X ∧ e = .returned (.int .u64 (Hau.trn ws (F ++ X) x).val) ∧
    Hau.Coll w' Z CB MB wc tc' lc' WA TA' LA' ws (T ++ Hau.raw ws X) (F ++ X) ∧ (rowOf TA' = rowOf TA ∨ ∃ g, rowOf TA' = some g ∧ w.heap.size ≤ g) ∧ Hau.Keep w w' CB MB TA LA

set_option maxHeartbeats 1600000 in
set_option maxRecDepth 100000 in
theorem hmoved_any (B Z CB MB wc tc lc : Nat) (WA TA LA : Option Addr) (ws T : List U64) (F : List Nat) (x : U64) (w : World) (hx : Flat.ok x) (hw : At w B WA ws) (hBZ : B ≤ Z) (hc : Hau.Coll w Z CB MB wc tc lc WA TA LA ws T F)
    (hwc : ws.length ≤ wc) (hl : ws.length ≤ 2000) (hok : Hau.okW ws = true) (hF : F.Nodup) (hFp : ∀ p ∈ F, p ∈ Hau.places ws) (hfx : Hau.fits (Hau.places ws) x = true) (hT : T.length = (F.map (Hau.sz ws)).sum) :
    Calls Tryz.prog 28 #[.pointer (some ⟨CB, 0, none⟩), .int .u64 x.val] w (HmPost Z CB MB wc WA TA LA ws T F x w) := by
  have hcl := hc.1.lt
  have hcz := hc.2.2.2.2.1
  have hZw : Z ≤ w.heap.size := by omega
  have H := Lib.hid (And.intro hx (And.intro hw (And.intro hc (And.intro hok (And.intro hF (And.intro hFp (And.intro hfx hT))))))); clear hx hw hc hok hF hFp hfx hT
  go_enter Tryz.func28, Tryz.ntmps28
  go_wp2_with fail
  refine (place_any x w H.out.1).mono ?_
  rintro e w1 ⟨n, rfl, hn, hb1⟩
  have hs1 := hb1.size
  cases hr : Hau.refOf x with
  | none =>
    have ha : Hau.addW F x = F := by unfold Hau.addW; rw [hr]
    have ht : Hau.trn ws F x = x := by unfold Hau.trn; rw [hr]
    have HA := Lib.hid (And.intro ha ht); clear ha ht hn hr
    go_wp2_with fail
    go_returns
    refine ⟨hb1.mono hZw, [], TA, tc, LA, lc, by rw [HA.out.1, List.append_nil], by rw [List.append_nil, HA.out.2]; rfl, ?_, .inl rfl, Hau.Keep.fresh hb1⟩
    have h := H.out.2.2.1.fresh hb1
    rw [List.append_nil, show Hau.raw ws [] = [] from rfl, List.append_nil]
    exact h
  | some p =>
    have hnp := hn p hr
    subst hnp
    have hpp := Hau.fits_ref H.out.2.2.2.2.2.2.1 hr
    have hC1 := H.out.2.2.1.fresh hb1
    have c2 := hC1.1.cell 2 (v := .map (some MB)) rfl
    have hpl := Hau.places_lt ws p hpp
    have hkey : keyOf Tryz.prog 3 (.int .i64 (p : Int)) = some (.int .i64 (p : Int)) := keyOf_int_mk Tryz.underlying3 (wf_i64H ⟨by omega, by omega⟩)
    have hmd := Hau.mapD_spec ws p F.length F rfl H.out.2.2.2.2.1
    simp only [Option.isSome_some]
    by_cases hpF : p ∈ F
    · have hh : Maps.has (Hau.mapD ws F) (.int .i64 (p : Int)) = true := by rw [hmd.1]; exact List.contains_iff_mem.2 hpF
      have hat0 := hmd.2 hpF (.lit (.int .i64 0))
      have ha : Hau.addW F x = F := by unfold Hau.addW; rw [hr]; exact if_pos (List.contains_iff_mem.2 hpF)
      have ht : Hau.trn ws F x = Hau.refW (Hau.posOf ws F p) := by unfold Hau.trn; rw [hr]
      have hps : (F.map (Hau.sz ws)).sum ≤ ws.length := by
        have := Hau.sum_sub (Hau.sz ws) F (Hau.places ws) H.out.2.2.2.2.1 H.out.2.2.2.2.2.1
        rw [(Hau.places_spec H.out.2.2.2.1).2.2] at this; exact this
      have hpo := Hau.posOf_le ws F p
      have HM := Lib.hid (And.intro hkey (And.intro hat0 (And.intro ha (And.intro ht hC1)))); clear hkey hat0 ha ht hC1 hmd hn hr hpp hpF
      go_wp2_with (first | (at_lookup; refine wpList_lookup_own_ok_int _ rfl _ _ 89 rfl 3 3 .i64 lawIntH Tryz.underlying89 Tryz.underlying3 (zeroIntH _) MB F.length _ rfl HM.out.2.2.2.2.2.2.2.1 _ _ rfl HM.out.1 ?_; intro c hat hwf) | fail)
      have hce : c = (Hau.posOf ws F p : Int) := by
        have := hat.symm.trans HM.out.2.1
        injection this with this
        injection this
      refine (box_any 5 c w1 (by unfold I64; omega) (by unfold I64; omega)).mono ?_
      rintro e w2 ⟨rfl, hb2⟩
      have hb12 : Below w.heap.size w w2 := hb1.trans (hb2.mono hs1)
      have HC := Lib.hid hce; clear hce hat hwf
      go_wp2_with fail
      go_returns
      refine ⟨hb12.mono hZw, [], TA, tc, LA, lc, by rw [HM.out.2.2.1, List.append_nil], by rw [List.append_nil, HM.out.2.2.2.1, HC.out]; rfl, ?_, .inl rfl, Hau.Keep.fresh hb12⟩
      have h := H.out.2.2.1.fresh hb12
      rw [List.append_nil, show Hau.raw ws [] = [] from rfl, List.append_nil]
      exact h
    · have hh : Maps.has (Hau.mapD ws F) (.int .i64 (p : Int)) = false := by rw [hmd.1]; rw [Bool.eq_false_iff]; intro h; exact hpF (List.contains_iff_mem.1 h)
      obtain ⟨i0, hi, hz0, hz1, hz2⟩ := info_partsH infoRMoveH
      have c1 := hC1.1.cell 1 (v := .slice TA T.length tc) rfl
      have ha : Hau.addW F x = F ++ [p] := by unfold Hau.addW; rw [hr]; exact if_neg (fun h => hpF (List.contains_iff_mem.1 h))
      have ht : Hau.trn ws (F ++ [p]) x = Hau.refW T.length := by
        unfold Hau.trn; rw [hr]
        show Hau.refW (Hau.posOf ws (F ++ [p]) p) = _
        unfold Hau.posOf
        rw [List.takeWhile_append_of_pos (by intro u hu; simp only [bne_iff_ne, ne_eq]; intro e; subst e; exact hpF hu), List.takeWhile_cons]
        simp [H.out.2.2.2.2.2.2.2]
      have hnd : (F ++ [p]).Nodup := by rw [← ha]; exact Hau.addW_nodup H.out.2.2.2.2.1
      have hsub : ∀ q ∈ F ++ [p], q ∈ Hau.places ws := by rw [← ha]; exact Hau.addW_sub H.out.2.2.2.2.2.1 H.out.2.2.2.2.2.2.1
      have hsp := Hau.places_spec H.out.2.2.2.1
      have hps : ((F ++ [p]).map (Hau.sz ws)).sum ≤ ws.length := by
        have := Hau.sum_sub (Hau.sz ws) (F ++ [p]) (Hau.places ws) hnd hsub
        rw [hsp.2.2] at this; exact this
      have hFl : F.length + 1 ≤ ws.length := by
        have h1 : (F ++ [p]).length ≤ ((F ++ [p]).map (Hau.sz ws)).sum := by
          have key : ∀ G : List Nat, G.length ≤ (G.map (Hau.sz ws)).sum := by
            intro G
            induction G with
            | nil => simp
            | cons g G ih => have := Hau.sz_pos ws g; simp only [List.length_cons, List.map_cons, List.sum_cons]; omega
          exact key _
        rw [List.length_append] at h1
        simp only [List.length_singleton] at h1
        omega
      have hTl : T.length + Hau.sz ws p ≤ ws.length := by
        rw [List.map_append, List.sum_append] at hps
        rw [H.out.2.2.2.2.2.2.2]
        simpa using hps
      have hpe := hsp.1 p hpp
      have hrw : Hau.raw ws [p] = Hau.obj ws p := by unfold Hau.raw; simp
      have hmdn := Hau.mapD_snoc ws F p
      have hmvn := Hau.mv_snoc ws F p
      rw [← H.out.2.2.2.2.2.2.2] at hmdn hmvn
      have hwfT : (Lit.int .i64 (T.length : Int)).wf = true := wf_i64H ⟨by omega, by omega⟩
      have HM := Lib.hid (And.intro hkey (And.intro hC1 (And.intro hwfT (And.intro ha (And.intro ht (And.intro hrw (And.intro hmdn hmvn))))))); clear hkey hmd hn hr hpp hC1 hwfT ha ht hnd hsub hsp hps hrw hmdn hmvn
      have HMV := Lib.hid (Hau.mv_length ws F)
      go_wp2_with (first
        | (at_lookup; refine wpList_lookup_own_ok_int _ rfl _ _ 89 rfl 3 3 .i64 lawIntH Tryz.underlying89 Tryz.underlying3 (zeroIntH _) MB F.length _ rfl HM.out.2.1.2.2.2.1 _ _ rfl HM.out.1 ?_; intro c hat hwf)
        | (at_mapUpdate; refine wpList_mapUpdate_own _ rfl _ _ _ 89 rfl 3 3 lawIntH Tryz.underlying89 (plainElem (H := Unit) Tryz.prog 3) MB F.length _ rfl HM.out.2.1.2.2.2.1 (by unfold maxLen; omega) _ _ _ rfl rfl HM.out.1 _ [] (plainElem_int Tryz.underlying3 HM.out.2.2.1) ?_; intro w2 hown2 hgr2; have c3 := (HM.out.2.1.1.grown hgr2 (fun e => blk_ne_map HM.out.2.1.1 HM.out.2.1.2.2.2.1 (by injection e with e; exact e.symm))).cell 3 (v := .slice LA F.length lc) rfl)
        | (at_builtin; go_must (refine wpList_app (α := Int × Int) (n := F.length) (m := 1) (B := w2.heap.size + 1) (r := [((T.length : Int), (p : Int))]) rfl (.tmp 45) (.tmp 49) _ rfl Z 64 i0 _ 16 Tryz.underlying60 hi hz0 hz1 hz2 rfl (by decide) pair_oneH (by rfl) HMV.out ((HM.out.2.1.2.2.1.grown hgr2 (fun g hg e => own_ne_map HM.out.2.1.2.2.1 HM.out.2.1.2.2.2.1 (by rw [hg]; exact e.symm))).alloc _) (by rfl) ?_ rfl (by omega) (by simp only [maxLen]; omega) (by have := hgr2.size; simp; omega) ?_)))
      · have := At.built w2 #[.int .i64 (T.length : Int), .int .i64 (p : Int)] 64 [((T.length : Int), (p : Int))] rfl (by intro z hz; simp at hz; subst hz; exact ⟨by show I64 _; unfold I64; omega, by show I64 _; unfold I64; omega⟩)
        simpa using this
      intro A3 c3' w3 hown3 hgr3 hat3
      have hs2 := hgr2.size
      have hs3 := hgr3.size
      simp only [World.size_alloc] at hs3
      have k1 := HM.out.2.1.1.grown hgr2 (fun e => blk_ne_map HM.out.2.1.1 HM.out.2.1.2.2.2.1 (by injection e with e; exact e.symm))
      have k2 := HM.out.2.1.2.1.grown hgr2 (fun g hg e => own_ne_map HM.out.2.1.2.1 HM.out.2.1.2.2.2.1 (by rw [hg]; exact e.symm))
      have k3 := HM.out.2.1.2.2.1.grown hgr2 (fun g hg e => own_ne_map HM.out.2.1.2.2.1 HM.out.2.1.2.2.2.1 (by rw [hg]; exact e.symm))
      have m1 := (k1.alloc (.cells #[.int .i64 (T.length : Int), .int .i64 (p : Int)] 64)).grown hgr3 (fun e => own_ne_ty k3 k1 (by decide) e)
      have m2 := (k2.alloc (.cells #[.int .i64 (T.length : Int), .int .i64 (p : Int)] 64)).grown hgr3 (fun g hg e => own_own_ty k2 k3 (by decide) g hg e)
      have m4 := (hown2.alloc (.cells #[.int .i64 (T.length : Int), .int .i64 (p : Int)] 64)).kept hgr3 (fun e => own_ne_map k3 hown2 e.symm)
      have b2 : Below Z w w2 := (hb1.mono hZw).grown hgr2 (by omega) (fun g hg => by injection hg with hg; subst hg; exact H.out.2.2.1.2.2.2.2.2)
      have b3 : Below Z w w3 := (b2.alloc (by omega) (.cells #[.int .i64 (T.length : Int), .int .i64 (p : Int)] 64)).grown hgr3 (by simp; omega) (fun g hg => (k3.lt g hg).1)
      have kp3 : Hau.Keep w w3 CB MB TA LA := fun g hg h1 h2 h3 h4 => (hgr3.block g (by simp; omega) (fun e => h4 e.symm)).trans ((Below.heap_alloc w2 _ g (by omega)).trans ((hgr2.block g (by omega) (fun e => h2 (by injection e))).trans (hb1.block g hg)))
      have c3b := m1.cell 3 (v := .slice LA F.length lc) rfl
      have z3b := m1.frozen 3
      have m1' := m1.set_ 3 (.slice A3 (F.length + 1) c3')
      have m2' := m2.setCell ⟨CB, 3, none⟩ (.slice A3 (F.length + 1) c3') (own_ne_ty m2 m1 (by decide))
      have m3' := hown3.setCell ⟨CB, 3, none⟩ (.slice A3 (F.length + 1) c3') (own_ne_ty hown3 m1 (by decide))
      have m4' := m4.setCell (a := ⟨CB, 3, none⟩) (fun e => blk_ne_map m1 m4 e.symm) (.slice A3 (F.length + 1) c3')
      have b4 := b3.setCell (p := ⟨CB, 3, none⟩) hcz (.slice A3 (F.length + 1) c3')
      have kp4 : Hau.Keep w (w3.setCell ⟨CB, 3, none⟩ (.slice A3 (F.length + 1) c3')) CB MB TA LA := fun g hg h1 h2 h3 h4 => (Below.heap_setCell w3 _ _ g h1).trans (kp3 g hg h1 h2 h3 h4)
      have HK := Lib.hid (And.intro m1' (And.intro m2' (And.intro m3' (And.intro m4' (And.intro b4 kp4))))); clear m1 m2 m4 m1' m2' m3' m4' b3 b4 b2 kp3 kp4 k1 k2 k3 hown2 hown3 hgr2 hgr3 hat3 hat hwf c1 c2 c3 hh
      go_upto_region 9 with fail
      refine wp_world (fun W => Hid (Blk W CB 91 #[.slice WA ws.length wc, .slice TA T.length tc, .map (some MB), .slice A3 (F.length + 1) c3'] ∧ Own W Z 73 TA tc T ∧ Own W Z 64 A3 c3' (Hau.mv ws F ++ [((T.length : Int), (p : Int))]) ∧ W.ownsMap Tryz.prog 3 (plainElem (H := Unit) Tryz.prog 3) MB (F.length + 1) ((Hau.mapD ws F).put (.int .i64 (p : Int)) (.lit (.int .i64 (T.length : Int)))) ∧ Below Z w W ∧ Hau.Keep w W CB MB TA LA)) (by unfold Hid; exact HK.out) ?_
      intro W HW
      clear HK
      have hsW := HW.out.2.2.2.2.1.size
      obtain ⟨b, o, rfl, hbB, hoky, q0⟩ := (H.out.2.1.below (HW.out.2.2.2.2.1.mono hBZ)).u64H hpl
      obtain ⟨y, hy⟩ : ∃ y, Hau.wat ws p = y := ⟨_, rfl⟩
      have hsy : Hau.sz ws p = 1 + Hau.lg y := by unfold Hau.sz; rw [hy]
      rw [hy] at q0 hoky
      rw [hsy] at hpe hTl
      obtain ⟨q, hq⟩ : ∃ q, Hau.lg y = q := ⟨_, rfl⟩
      rw [hq] at hsy hpe hTl
      have hlg := fun V => hlong_any y V hoky
      rw [hq] at hlg
      have hw1 : IntKind.i64.wrap ((p : Int) + 1) = (p : Int) + 1 := IntWalk.i64_in _ (by omega)
      obtain ⟨r, hr⟩ : ∃ r, p + 1 + q = r := ⟨_, rfl⟩
      have hw2 : IntKind.i64.wrap ((p : Int) + 1 + (q : Int)) = (r : Int) := by rw [IntWalk.i64_in _ (by omega)]; omega
      have hr1 : (r : Int) ≤ (wc : Int) := by omega
      have hr2 : p ≤ r := by omega
      have hr3 : r - p = 1 + q := by omega
      have hr4 : ¬ wc = p := by omega
      obtain ⟨j0, hj, hy0, hy1, hy2⟩ := info_partsH infoU64H
      have hsrc : At W B (some ⟨b, o + p, none⟩) (Hau.obj ws p) := by
        have := at_takeH ((H.out.2.1.below (HW.out.2.2.2.2.1.mono hBZ)).drop_ p) (Hau.sz ws p)
        rwa [show p * Enc.sz U64 = p from Nat.mul_one p] at this
      have hol : (Hau.obj ws p).length = 1 + q := by rw [Hau.obj_length (by rw [hsy]; exact hpe), hsy]
      have HSRC := Lib.hid (And.intro hsrc hol); clear hsrc hol
      have g0 := HW.out.1.cell 0 (v := .slice (some ⟨b, o, none⟩) ws.length wc) rfl
      have g1 := HW.out.1.cell 1 (v := .slice TA T.length tc) rfl
      have hp0 : (0 : Int) ≤ (p : Int) := by omega
      have hp1 : (p : Int) < (ws.length : Int) := by omega
      have HY := Lib.hid (And.intro hlg (And.intro hsy hoky)); clear hlg hsy hoky hy hq
      refine wp_region_held_drew (S := (fun w' => w'.cell? ⟨CB, 0, none⟩ = some (.slice (some ⟨b, o, none⟩) ws.length wc) ∧ w'.cell? ⟨b, o + p, none⟩ = some (.int .u64 y.val))) (by kernel_rfl) ?_ (fun hHeld0 => ?_)
      · first | trivial | ((try dsimp only); (exact ⟨g0, q0⟩))
      refine htk 0 rfl ?_
      try go_frame
      refine htk 1 rfl ?_
      try go_frame
      refine htk 2 rfl ?_
      try go_frame
      refine htk 3 rfl ?_
      try go_frame
      refine htk 5 rfl ?_
      try go_frame
      refine htk 6 rfl ?_
      try go_frame
      refine htk 7 rfl ?_
      try go_frame
      refine htk 8 rfl ?_
      try go_frame
      refine htk 9 rfl ?_
      try go_frame
      refine htk 10 rfl ?_
      try go_frame
      refine htk 11 rfl ?_
      try go_frame
      refine htk 12 rfl ?_
      try go_frame
      refine htk 13 rfl ?_
      try go_frame
      refine htk 14 rfl ?_
      try go_frame
      refine htk 15 rfl ?_
      try go_frame
      refine htk 16 rfl ?_
      try go_frame
      refine htk 17 rfl ?_
      try go_frame
      refine htk 18 rfl ?_
      try go_frame
      refine held_call2 4 19 (by kernel_rfl) rfl rfl (fun K hK => ?_) (fun K hK => ?_)
      · go_simp
        skip
        refine hK.out _ _ ?_ (fun hHeld1 => ?_)
        · first | trivial | ((try dsimp only); (exact ⟨g0, q0⟩))
        clear hK K hHeld0
        try go_frame
        refine held_call 19 (by kernel_rfl) rfl (fun K hK => ?_)
        go_simp
        go_at_call 29; refine (HY.out.1 _).mono ?_; rintro e w5 ⟨rfl, rfl⟩
        try (go_wp2_with fail)
        refine hK.out _ _ ?_ (fun hHeld2 => ?_)
        · first | trivial | ((try dsimp only); (exact ⟨g0, q0⟩))
        clear hK K hHeld1
        try go_frame
        refine htk 20 rfl ?_
        try go_frame
        refine htk 21 rfl ?_
        try go_frame
        refine held_call 22 (by kernel_rfl) rfl (fun K hK => ?_)
        refine step_app (α := U64) (n := T.length) (m := 1 + q) (nm := T.length + (1 + q)) (r := Hau.obj ws p) (by rfl) (.tmp 57) (.tmp 74) _ (by rfl) Z 73 j0 _ 8 Tryz.underlying54 hj hy0 hy1 hy2 rfl (by decide) u64_oneH (by rfl) rfl HW.out.2.1.drew (B := B) (X := some ⟨b, o + p, none⟩) (d := wc - p) (by rfl) HSRC.out.1.drew HSRC.out.2 rfl (by omega) (by simp only [maxLen]; omega) (by show Z ≤ W.heap.size; omega) ?_; intro A6 c6 w6 ho6 hgr6 hat6; have hbW6 : Below Z W w6 := ((Below.refl Z W).drew).grown hgr6 (by show Z ≤ W.heap.size; omega) (fun g hg => (HW.out.2.1.lt g hg).1); have n1 := HW.out.1.drew.grown hgr6 (fun e => own_ne_ty HW.out.2.1 HW.out.1 (by decide) e); have q6 := (hbW6.cell (p := ⟨b, o + p, none⟩) (show b < Z by omega)).trans q0; have g60 := n1.cell 0 (v := .slice (some ⟨b, o, none⟩) ws.length wc) rfl; have g61 := n1.cell 1 (v := .slice TA T.length tc) rfl; have z61 := n1.frozen 1
        refine hK.out _ _ ?_ (fun hHeld3 => ?_)
        · first | trivial | ((try dsimp only); (exact ⟨g60, q6⟩))
        clear hK K hHeld2
        try go_frame
        refine htk 23 rfl ?_
        try go_frame
        refine htk 24 rfl ?_
        try go_frame
        refine held_call 25 (by kernel_rfl) rfl (fun K hK => ?_)
        go_simp
        skip
        refine hK.out _ _ ?_ (fun hHeld4 => ?_)
        · first | trivial | ((try dsimp only); (exact ⟨(n1.set_ 1 _).cell 0 rfl, ((hbW6.setCell (p := ⟨CB, 1, none⟩) hcz _).cell (p := ⟨b, o + p, none⟩) (show b < Z by omega)).trans q0⟩))
        clear hK K hHeld3
        try go_frame
        refine wpAnyH_done (by kernel_rfl) ?_ _
        have HZ := Lib.hid (And.intro n1 (And.intro ho6 (And.intro hgr6 (And.intro hat6 hbW6)))); clear n1 ho6 hgr6 hat6 hbW6 g0 g1 q0 q6 g60 g61 z61
        go_upto_region 10 with fail
        refine wp_world (fun V => Hid (Hau.Coll V Z CB MB wc c6 c3' (some ⟨b, o, none⟩) A6 A3 ws (T ++ Hau.raw ws [p]) (F ++ [p]) ∧ Below Z w V ∧ (rowOf A6 = rowOf TA ∨ ∃ g, rowOf A6 = some g ∧ w.heap.size ≤ g) ∧ Hau.Keep w V CB MB TA LA)) ?_ ?_
        · unfold Hid; exact moved_end HW.out.1 HW.out.2.1 HW.out.2.2.1 HW.out.2.2.2.1 HW.out.2.2.2.2.1 HW.out.2.2.2.2.2 H.out.2.2.1.2.2.2.2.1 H.out.2.2.1.2.2.2.2.2 HZ.out.1 HZ.out.2.1 HZ.out.2.2.1 HZ.out.2.2.2.1 HZ.out.2.2.2.2 HM.out.2.2.2.2.2.1 HSRC.out.2 HM.out.2.2.2.2.2.2.1 HM.out.2.2.2.2.2.2.2
        intro V HV
        have hsV := HV.out.2.1.size
        clear HZ HW
        go_wp2_with fail
        refine (box_any 5 (T.length : Int) V (by unfold I64; omega) (by unfold I64; omega)).mono ?_
        rintro e w8 ⟨rfl, hb8⟩
        have hs8 := hb8.size
        go_wp2_with fail
        go_returns
        exact ⟨HV.out.2.1.trans (hb8.mono (by omega)), [p], A6, c6, A3, c3', HM.out.2.2.2.1, by rw [HM.out.2.2.2.2.1]; rfl, HV.out.1.fresh hb8, HV.out.2.2.1, HV.out.2.2.2.trans hsV (Hau.Keep.fresh hb8)⟩
      · go_simp
        go_at_call 29; refine (HY.out.1 _).mono ?_; rintro e w5 ⟨rfl, rfl⟩
        try (go_wp2_with fail)
        refine hK.out _ _ ?_ (fun hHeld1 => ?_)
        · first | trivial | ((try dsimp only); (exact ⟨g0, q0⟩))
        clear hK K hHeld0
        try go_frame
        refine htk 20 rfl ?_
        try go_frame
        refine htk 21 rfl ?_
        try go_frame
        refine held_call 4 (by kernel_rfl) rfl (fun K hK => ?_)
        go_simp
        skip
        refine hK.out _ _ ?_ (fun hHeld2 => ?_)
        · first | trivial | ((try dsimp only); (exact ⟨g0, q0⟩))
        clear hK K hHeld1
        try go_frame
        refine held_call 22 (by kernel_rfl) rfl (fun K hK => ?_)
        refine step_app (α := U64) (n := T.length) (m := 1 + q) (nm := T.length + (1 + q)) (r := Hau.obj ws p) (by rfl) (.tmp 57) (.tmp 74) _ (by rfl) Z 73 j0 _ 8 Tryz.underlying54 hj hy0 hy1 hy2 rfl (by decide) u64_oneH (by rfl) rfl HW.out.2.1.drew (B := B) (X := some ⟨b, o + p, none⟩) (d := wc - p) (by rfl) HSRC.out.1.drew HSRC.out.2 rfl (by omega) (by simp only [maxLen]; omega) (by show Z ≤ W.heap.size; omega) ?_; intro A6 c6 w6 ho6 hgr6 hat6; have hbW6 : Below Z W w6 := ((Below.refl Z W).drew).grown hgr6 (by show Z ≤ W.heap.size; omega) (fun g hg => (HW.out.2.1.lt g hg).1); have n1 := HW.out.1.drew.grown hgr6 (fun e => own_ne_ty HW.out.2.1 HW.out.1 (by decide) e); have q6 := (hbW6.cell (p := ⟨b, o + p, none⟩) (show b < Z by omega)).trans q0; have g60 := n1.cell 0 (v := .slice (some ⟨b, o, none⟩) ws.length wc) rfl; have g61 := n1.cell 1 (v := .slice TA T.length tc) rfl; have z61 := n1.frozen 1
        refine hK.out _ _ ?_ (fun hHeld3 => ?_)
        · first | trivial | ((try dsimp only); (exact ⟨g60, q6⟩))
        clear hK K hHeld2
        try go_frame
        refine htk 23 rfl ?_
        try go_frame
        refine htk 24 rfl ?_
        try go_frame
        refine held_call 25 (by kernel_rfl) rfl (fun K hK => ?_)
        go_simp
        skip
        refine hK.out _ _ ?_ (fun hHeld4 => ?_)
        · first | trivial | ((try dsimp only); (exact ⟨(n1.set_ 1 _).cell 0 rfl, ((hbW6.setCell (p := ⟨CB, 1, none⟩) hcz _).cell (p := ⟨b, o + p, none⟩) (show b < Z by omega)).trans q0⟩))
        clear hK K hHeld3
        try go_frame
        refine wpAnyH_done (by kernel_rfl) ?_ _
        have HZ := Lib.hid (And.intro n1 (And.intro ho6 (And.intro hgr6 (And.intro hat6 hbW6)))); clear n1 ho6 hgr6 hat6 hbW6 g0 g1 q0 q6 g60 g61 z61
        go_upto_region 10 with fail
        refine wp_world (fun V => Hid (Hau.Coll V Z CB MB wc c6 c3' (some ⟨b, o, none⟩) A6 A3 ws (T ++ Hau.raw ws [p]) (F ++ [p]) ∧ Below Z w V ∧ (rowOf A6 = rowOf TA ∨ ∃ g, rowOf A6 = some g ∧ w.heap.size ≤ g) ∧ Hau.Keep w V CB MB TA LA)) ?_ ?_
        · unfold Hid; exact moved_end HW.out.1 HW.out.2.1 HW.out.2.2.1 HW.out.2.2.2.1 HW.out.2.2.2.2.1 HW.out.2.2.2.2.2 H.out.2.2.1.2.2.2.2.1 H.out.2.2.1.2.2.2.2.2 HZ.out.1 HZ.out.2.1 HZ.out.2.2.1 HZ.out.2.2.2.1 HZ.out.2.2.2.2 HM.out.2.2.2.2.2.1 HSRC.out.2 HM.out.2.2.2.2.2.2.1 HM.out.2.2.2.2.2.2.2
        intro V HV
        have hsV := HV.out.2.1.size
        clear HZ HW
        go_wp2_with fail
        refine (box_any 5 (T.length : Int) V (by unfold I64; omega) (by unfold I64; omega)).mono ?_
        rintro e w8 ⟨rfl, hb8⟩
        have hs8 := hb8.size
        go_wp2_with fail
        go_returns
        exact ⟨HV.out.2.1.trans (hb8.mono (by omega)), [p], A6, c6, A3, c3', HM.out.2.2.2.1, by rw [HM.out.2.2.2.2.1]; rfl, HV.out.1.fresh hb8, HV.out.2.2.1, HV.out.2.2.2.trans hsV (Hau.Keep.fresh hb8)⟩

end Go.Proofs.YtdlcooplllimeaaGreatDoor
