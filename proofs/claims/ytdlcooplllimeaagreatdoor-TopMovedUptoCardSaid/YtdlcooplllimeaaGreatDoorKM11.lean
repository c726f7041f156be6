/- KM: Haul8. -/
import Derived.Test.YtdlcooplllimeaaGreatDoorKM10
/- haul.Collect. -/
namespace Go.Proofs.YtdlcooplllimeaaGreatDoor
open Go.RowKit Go.Maps

attribute [local go_sem ↓] Go.wp_at_zero Go.wp_at_succ

def HcPost (er : Int) (ws roots : List U64) (w : World) (e : Ending) (w' : World) : Prop := Below w.heap.size w w' ∧
  ((er = 0 ∧ ∃ (TA : Option Addr) (tc : Nat) (RA : Option Addr) (rc : Nat) (LA : Option Addr) (lc : Nat), e = .returned (.tuple #[.agg #[.slice TA (Hau.newWords ws roots).length tc, .slice RA (Hau.newRoots ws roots).length rc], .slice LA (Hau.told ws roots).length lc, .int .i64 0]) ∧
      Own w' w.heap.size 73 TA tc (Hau.newWords ws roots) ∧ Own w' w.heap.size 73 RA rc (Hau.newRoots ws roots) ∧ Own w' w.heap.size 64 LA lc (Hau.mv ws (Hau.told ws roots))) ∨
    (er ≠ 0 ∧ e = .returned (.tuple #[.agg #[.slice none 0 0, .slice none 0 0], .slice none 0 0, .int .i64 er])))

/-- a struct in a cell and two plain values handed back -/
theorem results_cell_tmp2 {P : Program} {fn : Func} {p q r : Tmp} {ty : TypeId} (h : fn.results = #[.cell p ty, .tmp q, .tmp r]) (tmps : Array Value) (w : World) (g : Nat) (t : TypeId) (cs : Array Value) (d : TypeDesc)
    (hp : tmps.getD p undef = .pointer (some ⟨g, 0, none⟩)) (hg : Blk w g t cs)
    (hu : P.underlying ty = some d) (hd : (match d with | .struct _ | .array _ _ => true | _ => false) = true) (hi : (P.info? ty).map (·.size) = some cs.size) :
    (results fn tmps).run P w = .ok (.tuple #[.agg cs, tmps.getD q undef, tmps.getD r undef]) w := by
  have hp' : tmps[p]?.getD undef = .pointer (some ⟨g, 0, none⟩) := by simpa using hp
  simp [results, h, hp', asAddr, run_loadVar_row w g t ty cs (0, 0) d hg hu hd hi]
theorem Hau.refW_flat (t : Nat) : Flat.ok (Hau.refW t) := by
  show 0 ≤ (boxL 5 t).1 ∧ (boxL 5 t).1 ≤ 18446744073709551615
  unfold boxL
  rw [if_neg (by omega), if_neg (by omega)]
  split
  · simp
  · have : tagL 5 = 65534 ∨ True := .inr trivial
    simp only [tagL]
    omega
theorem Hau.trn_flat {ws : List U64} {F : List Nat} {x : U64} (hx : Flat.ok x) : Flat.ok (Hau.trn ws F x) := by
  unfold Hau.trn
  split
  · exact hx
  · exact Hau.refW_flat _

theorem own_two {α : Type} [Flat α] {w : World} {base g : Nat} {e : TypeId} {A : Option Addr} {c : Nat} {l : List α} {u v : Value} (h : Own w base e A c l) (hg : g < base) : Own ((w.setCell ⟨g, 0, none⟩ u).setCell ⟨g, 1, none⟩ v) base e A c l := by
  have h1 := h.setCell ⟨g, 0, none⟩ u (own_ne_blk h hg)
  exact h1.setCell ⟨g, 1, none⟩ v (own_ne_blk h1 hg)
theorem collect_end {w w1 wr : World} {Z wc tc lc rc a : Nat} {WA TA LA RA : Option Addr} {ws roots T out : List U64} {G : List Nat} (hst : Hau.St w1 wr Z (Z + 1) Z wc tc lc rc WA TA LA RA ws T G out) (_hZ : w1.heap.size = Z) (hwZ : w.heap.size + 1 < Z) (hb : Below w.heap.size w wr.drew)
    (hG : G = Hau.told ws roots) (hme : T = G.flatMap (Hau.tobj ws G)) (hTa : T.length = a) (hre : roots.map (Hau.trn ws G) = out) (hol : out.length = roots.length) :
    HcPost 0 ws roots w (.returned (.tuple #[.agg #[.slice TA a tc, .slice RA roots.length rc], .slice LA G.length lc, .int .i64 0])) ((wr.drew.setCell ⟨w.heap.size + 1, 0, none⟩ (.slice TA a tc)).setCell ⟨w.heap.size + 1, 1, none⟩ (.slice RA roots.length rc)) := by
  have e1 : Hau.newWords ws roots = T := by unfold Hau.newWords; rw [← hG]; exact hme.symm
  have e2 : Hau.newRoots ws roots = out := by unfold Hau.newRoots; rw [← hG]; exact hre
  obtain ⟨⟨c1, c2, c3, c4, c5⟩, h2, h3, h4⟩ := hst
  refine ⟨(hb.setCell (by simp) _).setCell (by simp) _, .inl ⟨rfl, TA, tc, RA, rc, LA, lc, ?_, ?_, ?_, ?_⟩⟩
  · rw [e1, e2, ← hG, hTa, hol]
  · rw [e1]; exact (own_two c2.drew hwZ).base_le (by omega)
  · rw [e2]; exact (own_two h2.drew hwZ).base_le (by omega)
  · rw [← hG]; exact (own_two c3.drew hwZ).base_le (by omega)

set_option maxHeartbeats 3200000 in
set_option maxRecDepth 100000 in
theorem hcollect_any (B wc gc : Nat) (WA GA : Option Addr) (ws roots : List U64) (w : World) (hh : HpAt w B ⟨ws, roots⟩ WA GA) (hB : B ≤ w.heap.size) (hwc : ws.length ≤ wc) :
    Calls Tryz.prog 13 #[.agg #[.slice WA ws.length wc, .slice GA roots.length gc]] w (HcPost (Hau.heapErr ⟨ws, roots⟩) ws roots w) := by
  have H := Lib.hid (show At w B WA ws ∧ At w B GA roots from hh); clear hh
  obtain ⟨er, her⟩ : ∃ e, Hau.heapErr ⟨ws, roots⟩ = e := ⟨_, rfl⟩
  rw [her]
  go_enter Tryz.func13, Tryz.ntmps13
  go_wp2_with fail
  refine calls_world (fun W => Blk W w.heap.size 56 #[.slice WA ws.length wc, .slice GA roots.length gc] ∧ Blk W (w.heap.size + 1) 56 #[.slice none 0 0, .slice none 0 0] ∧ Below w.heap.size w W ∧ w.heap.size + 2 ≤ W.heap.size) ⟨(Blk.new _ _ _).alloc _, Blk.at_ _ _ _ (by simp), ((Below.refl _ _).alloc (Nat.le_refl _) _).alloc (by simp) _, by simp⟩ ?_
  rintro W ⟨hG, hR, hb0, hs0⟩
  have hc := hcheck_any B wc gc WA GA ⟨ws, roots⟩ W ⟨H.out.1.below (hb0.mono hB), H.out.2.below (hb0.mono hB)⟩ (by omega)
  rw [her] at hc
  refine hc.mono ?_
  rintro e w1 ⟨rfl, hb1⟩
  have hs1 := hb1.size
  have hb01 : Below w.heap.size w w1 := hb0.trans (hb1.mono (by omega))
  have hG1 := hG.fresh hb1
  have hR1 := hR.fresh hb1
  clear hc hG hb0 hR
  by_cases he : er = 0
  · subst he
    obtain ⟨hl1, hl2, hok, hwo, hro⟩ : ws.length ≤ 2000 ∧ roots.length ≤ 100 ∧ Hau.okW ws = true ∧ Hau.wordsOk ws = true ∧ Hau.rootsOk ws roots = true := by
      unfold Hau.heapErr at her
      simp only at her
      split at her
      · cases her
      · rename_i h1
        split at her
        · cases her
        · rename_i h2
          split at her
          · cases her
          · rename_i h3
            split at her
            · cases her
            · rename_i h4
              exact ⟨by omega, by omega, by simpa using h2, by simpa using h3, by simpa using h4⟩
    have hmm := @run_makeMap Tryz.prog
    have g0 := hG1.cell 0 (v := .slice WA ws.length wc) rfl
    have HP := Lib.hid (And.intro hok (And.intro hwo (And.intro hro (And.intro hG1 hR1)))); clear hok hwo hro her hG1 hR1
    go_upto_region 6 with fail
    obtain ⟨Z, hZ⟩ : ∃ Z, w1.heap.size = Z := ⟨_, rfl⟩
    have hBZ : B ≤ Z := by omega
    rw [hZ]
    refine wp_world (fun V => Hid (Hau.St w1 V Z (Z + 1) Z wc 0 0 0 WA none none none ws [] [] [])) ?_ ?_
    · unfold Hid
      subst hZ
      exact ⟨⟨Blk.at_ _ _ _ (by simp), Own.nil_, Own.nil_, (World.ownsMap_made _ _ _ _).alloc _, by omega, Nat.le_refl _⟩, Own.nil_, by simp [rowOf], ((Below.refl _ _).alloc (Nat.le_refl _) _).alloc (by simp) _⟩
    intro V HV
    clear hmm
    have hbV := HV.out.2.2.2
    rw [← hZ] at hbV
    have g1 := (HP.out.2.2.2.1.fresh hbV).cell 1 (v := .slice GA roots.length gc) rfl
    obtain ⟨j0, hj, hy0, hy1, hy2⟩ := info_partsH infoU64H
    have hFp : ∀ k, ∀ p ∈ Hau.addAll [] (roots.take k), p ∈ Hau.places ws := fun k => Hau.addAll_sub _ (by simp) (fun x hx => List.all_eq_true.1 HP.out.2.2.1 x (List.mem_of_mem_take hx))
    have hFd : ∀ k, (Hau.addAll [] (roots.take k)).Nodup := fun k => Hau.addAll_nodup _ List.nodup_nil
    have hpsz := (Hau.places_spec HP.out.1).1
    have HF := Lib.hid (And.intro hFp (And.intro hFd hpsz)); clear hFp hFd hpsz g0
    go_wp2_with fail
    go_loopg [7, 9, 28] roots.length (fun gk v7 v9 v28 wr => ∃ (k : Nat) (F : List Nat) (TA : Option Addr) (tc : Nat) (LA : Option Addr) (lc : Nat) (RA : Option Addr) (rc : Nat), k ≤ roots.length ∧ gk = roots.length - k ∧ v28 = .int .i64 k ∧ v7 = .slice RA k rc ∧
      Hid (Hau.St w1 wr Z (Z + 1) Z wc tc lc rc WA TA LA RA ws (Hau.raw ws F) F ((roots.take k).map (Hau.trn ws F)) ∧ F = Hau.addAll [] (roots.take k)))
    case atStart => exact ⟨0, [], none, 0, none, 0, none, 0, by omega, rfl, rfl, rfl, ⟨by simpa [Hau.raw] using HV.out, by simp [Hau.addAll]⟩⟩
    case round =>
      obtain ⟨k, F, TA, tc, LA, lc, RA, rc, hk, rfl, rfl, rfl, hkeep⟩ := hrel
      clear g1
      have hbr := hkeep.out.1.2.2.2
      rw [← hZ] at hbr
      have hsr := hbr.size
      have hbr2 : Below w.heap.size w wr := hb01.trans (hbr.mono (by omega))
      by_cases hlt : k < roots.length
      · obtain ⟨b, o, rfl, hbB, hokx, q1⟩ := (H.out.2.below (hbr2.mono hB)).u64H hlt
        have hlt2 : (k : Int) < (roots.length : Int) := by omega
        have hgx : roots[k]? = some (Hau.wat roots k) := by unfold Hau.wat; rw [List.getD_eq_getElem?_getD, List.getElem?_eq_getElem hlt]; rfl
        obtain ⟨x, hx⟩ : ∃ x, Hau.wat roots k = x := ⟨_, rfl⟩
        rw [hx] at q1 hokx hgx
        have hfx := List.all_eq_true.1 HP.out.2.2.1 x (List.mem_of_getElem? hgx)
        have hFe := hkeep.out.2
        have hm := hmoved_any B Z (Z + 1) Z wc tc lc WA TA LA ws (Hau.raw ws F) F x wr hokx (H.out.1.below (hbr2.mono hB)) hBZ hkeep.out.1.1 hwc hl1 HP.out.1 (by rw [hFe]; exact HF.out.2.1 k) (by rw [hFe]; exact HF.out.1 k) hfx (Hau.raw_length (fun p hp => HF.out.2.2 p (HF.out.1 k p (by rw [← hFe]; exact hp))))
        have hlen : ((roots.take k).map (Hau.trn ws F)).length = k := by rw [List.length_map, List.length_take]; omega
        have HM := Lib.hid (And.intro hm (And.intro hkeep.out.1 (And.intro hFe (And.intro hokx (And.intro hgx hlen))))); clear hm hkeep hFe hokx hgx hlen hfx hx
        go_wp2_with fail
        refine HM.out.1.mono ?_
        intro e w2 hp
        obtain ⟨X, TA', tc', LA', lc', e1, rfl, hst⟩ := HM.out.2.1.moved hp
        have hy := Hau.trn_flat (ws := ws) (F := F ++ X) HM.out.2.2.2.1
        have hnx := Hau.roots_next (ws := ws) HM.out.2.2.1 HM.out.2.2.2.2.1 e1
        have hax : F ++ X = Hau.addAll [] (roots.take (k + 1)) := by rw [← e1]; exact Hau.addW_app HM.out.2.2.1 HM.out.2.2.2.2.1
        obtain ⟨y, hyy⟩ : ∃ y, Hau.trn ws (F ++ X) x = y := ⟨_, rfl⟩
        rw [hyy] at hy hnx
        rw [hyy]
        have hZ2 : Z ≤ w2.heap.size := by have := hst.2.2.2.size; omega
        have HS := Lib.hid (And.intro hst (And.intro hy (And.intro hnx hax))); clear hst hy hnx hax hp e1 hyy
        go_wp2_with (at_builtin; go_must (refine wpList_app (α := U64) (n := k) (m := 1) (B := w2.heap.size + 1) (r := [y]) rfl (.tmp 32) (.tmp 36) _ rfl Z 73 j0 _ 8 Tryz.underlying54 hj hy0 hy1 hy2 rfl (by decide) u64_oneH (by rfl) HM.out.2.2.2.2.2 (HS.out.1.2.1.alloc _) (by rfl) ?_ rfl (by omega) (by simp only [maxLen]; omega) (by simp; omega) ?_))
        · exact At.built w2 #[.int .u64 y.val] 73 [y] rfl (by intro u hu; simp at hu; subst hu; exact HS.out.2.1)
        intro A3 c3 w3 hown3 hgr3 hat3
        have hown3' : Own w3 Z 73 A3 c3 ((roots.take k).map (Hau.trn ws F) ++ [y]) := by simpa using hown3
        have hst3 := HS.out.1.rooted (w' := w3) ((Below.refl _ _).alloc (Nat.le_refl _) (.cells #[.int .u64 y.val] 73)) hown3' hgr3 (by simpa using hat3)
        rw [HS.out.2.2.1, ← Hau.raw_append] at hst3
        have HT := Lib.hid (And.intro hst3 HS.out.2.2.2); clear hst3 hown3 hown3' hgr3 hat3 HS HM
        go_wp2_with fail
        go_roundg (roots.length - (k + 1))
        case measure => omega
        case rel => exact ⟨k + 1, F ++ X, TA', tc', LA', lc', A3, c3, by omega, rfl, by go_num, rfl, HT.out⟩
      · obtain rfl : k = roots.length := by omega
        have hst := hkeep.out.1
        have hFe := hkeep.out.2
        rw [List.take_length] at hst hFe
        obtain ⟨out, hout⟩ : ∃ out, roots.map (Hau.trn ws F) = out := ⟨_, rfl⟩
        rw [hout] at hst
        have hol : out.length = roots.length := by rw [← hout, List.length_map]
        have hou := Hau.Ou.start HP.out.1 HP.out.2.2.1 (roots := roots)
        rw [← hFe] at hou
        have hmn := Hau.mid_nil ws F
        obtain ⟨wo, rfl⟩ : ∃ x, x = wr := ⟨_, rfl⟩
        have HA := Lib.hid (And.intro hst (And.intro hou (And.intro hmn (And.intro hFe (And.intro hout hol))))); clear hst hou hmn hFe hout hol hkeep
        go_wp2_with fail
        go_loopg [10, 11, 12, 13] ws.length (fun gk v10 v11 v12 v13 wr => ∃ (a : Nat) (G R : List Nat) (TA : Option Addr) (tc : Nat) (LA : Option Addr) (lc : Nat), a ≤ ws.length ∧ gk = ws.length - a ∧ v10 = .int .i64 a ∧
          Hid (Hau.St w1 wr Z (Z + 1) Z wc tc lc rc WA TA LA RA ws (Hau.mid ws G R) (G ++ R) out ∧ Hau.Ou ws roots F G R ∧ a = (G.map (Hau.sz ws)).sum))
        case atStart => exact ⟨0, [], F, TA, tc, LA, lc, by omega, rfl, rfl, ⟨by rw [HA.out.2.2.1]; exact HA.out.1, HA.out.2.1, rfl⟩⟩
        case round =>
          obtain ⟨a, G, R, TA', tc', LA', lc', hal, rfl, rfl, hkeep⟩ := hrel
          have hbo := hkeep.out.1.2.2.2
          rw [← hZ] at hbo
          have hso := hbo.size
          have hbo2 : Below w.heap.size w wr := hb01.trans (hbo.mono (by omega))
          have hall : ∀ p ∈ G ++ R, p + Hau.sz ws p ≤ ws.length := fun p hp => HF.out.2.2 p (hkeep.out.2.1.2.1 p hp)
          have hml := Hau.mid_length hall
          have hsum := Hau.len_le HP.out.1 hkeep.out.2.1.1 hkeep.out.2.1.2.1
          rw [List.map_append, List.sum_append, ← hkeep.out.2.2] at hml hsum
          cases R with
          | nil =>
            have hst := hkeep.out.1
            have hou := hkeep.out.2.1
            have hG := hou.done
            have hme := Hau.mid_end ws G
            obtain ⟨T, hT⟩ : ∃ T, Hau.mid ws G [] = T := ⟨_, rfl⟩
            rw [hT] at hst hml hme
            rw [List.append_nil] at hst
            have hTa : T.length = a := by simpa using hml
            obtain ⟨X, hX⟩ := hou.2.2.2.1
            rw [List.append_nil] at hX
            have hre : roots.map (Hau.trn ws G) = out := by rw [hX, ← Hau.roots_end HA.out.2.2.2.1, HA.out.2.2.2.2.1]
            have hRr := HP.out.2.2.2.2.fresh hbo
            have c1 := hst.1.1.cell 1 (v := .slice TA' a tc') (by rw [← hTa]; rfl)
            have c3 := hst.1.1.cell 3 (v := .slice LA' G.length lc') rfl
            have r0 := hRr.cell 0 (v := .slice none 0 0) rfl
            have r1 := hRr.cell 1 (v := .slice none 0 0) rfl
            have z0 := hRr.frozen 0
            have z1 := hRr.frozen 1
            have HN := Lib.hid (And.intro hst (And.intro hG (And.intro hme (And.intro hTa (And.intro hre hRr))))); clear hst hou hG hme hTa hre hRr hkeep hT hX hml hsum hall
            go_upto_region 20 with fail
            have hd1 : (⟨Z + 1, 1, none⟩ : Addr) ≠ ⟨w.heap.size + 1, 0, none⟩ := by intro e; injection e with e; omega
            have q1 : ((wr.drew.setCell ⟨w.heap.size + 1, 0, none⟩ (.slice TA' a tc')).setCell ⟨w.heap.size + 1, 1, none⟩ (.slice RA roots.length rc)).cell? ⟨Z + 1, 1, none⟩ = some (.slice TA' a tc') := by
              rw [World.cell?_setCell_other _ _ _ _ (by intro e; injection e with e; omega), World.cell?_setCell_other _ _ _ _ (by intro e; injection e with e; omega)]; exact c1
            have q3 : ((wr.drew.setCell ⟨w.heap.size + 1, 0, none⟩ (.slice TA' a tc')).setCell ⟨w.heap.size + 1, 1, none⟩ (.slice RA roots.length rc)).cell? ⟨Z + 1, 3, none⟩ = some (.slice LA' G.length lc') := by
              rw [World.cell?_setCell_other _ _ _ _ (by intro e; injection e with e; omega), World.cell?_setCell_other _ _ _ _ (by intro e; injection e with e; omega)]; exact c3
            refine wp_region_held_drew (S := (fun w' => w'.cell? ⟨Z + 1, 1, none⟩ = some (.slice TA' a tc') ∧ w'.cell? ⟨Z + 1, 3, none⟩ = some (.slice LA' G.length lc'))) (by kernel_rfl) ?_ (fun hHeld0 => ?_)
            · first | trivial | ((try dsimp only); (exact ⟨c1, c3⟩))
            refine htk 0 rfl ?_
            try go_frame
            refine htk 1 rfl ?_
            try go_frame
            refine htk 2 rfl ?_
            try go_frame
            refine htk 3 rfl ?_
            try go_frame
            refine htk 4 rfl ?_
            try go_frame
            refine htk 5 rfl ?_
            try go_frame
            refine htk 6 rfl ?_
            try go_frame
            refine htk 7 rfl ?_
            try go_frame
            refine htk 8 rfl ?_
            try go_frame
            refine htk 9 rfl ?_
            try go_frame
            refine held_call 10 (by kernel_rfl) rfl (fun K hK => ?_)
            go_simp
            skip
            refine hK.out _ _ ?_ (fun hHeld1 => ?_)
            · first | trivial | ((try dsimp only); (exact ⟨q1, q3⟩))
            clear hK K hHeld0
            try go_frame
            refine htk 11 rfl ?_
            try go_frame
            refine htk 12 rfl ?_
            try go_frame
            refine wpAnyH_done (by kernel_rfl) ?_ _
            go_wp2_with fail
            refine bodyPost_ret (results_cell_tmp2 rfl _ _ (w.heap.size + 1) _ _ _ rfl ((HN.out.2.2.2.2.2.drew.set_ 0 (.slice TA' a tc')).set_ 1 (.slice RA roots.length rc)) Tryz.underlying56 rfl (by kernel_rfl)) rfl ?_
            exact collect_end HN.out.1 hZ (by omega) (hbo2.drew) HN.out.2.1 HN.out.2.2.1 HN.out.2.2.2.1 HN.out.2.2.2.2.1 HA.out.2.2.2.2.2
          | cons p R =>
            have hst := hkeep.out.1
            have hou := hkeep.out.2.1
            have hae := hkeep.out.2.2
            have hpp := hou.2.1 p (by simp)
            have hpe := hall p (by simp)
            have hallG : ∀ g ∈ G, g + Hau.sz ws g ≤ ws.length := fun g hg => hall g (by simp [hg])
            have hpl := Hau.places_lt ws p hpp
            have hszp := Hau.sz_pos ws p
            obtain ⟨bw, ow, -, -, hoky, -⟩ := (H.out.1.below (hbo2.mono hB)).u64H hpl
            rw [Hau.mid_cont] at hst hml
            have hch := Hau.cont_head (R := R) (q := 0) hallG hpe
            rw [← hae] at hch
            have hzl : a + Hau.sz ws p ≤ (Hau.cont ws G p R 0).length := by rw [hml]; simp only [List.map_cons, List.sum_cons]; omega
            have hzl2 : a + Hau.sz ws p ≤ ws.length := by simp only [List.map_cons, List.sum_cons] at hsum; omega
            obtain ⟨T, hT⟩ : ∃ T, Hau.cont ws G p R 0 = T := ⟨_, rfl⟩
            rw [hT] at hst hch hzl
            obtain ⟨gT, rfl, -, -⟩ := hst.1.2.1.some_ (by omega)
            have c1 := hst.1.1.cell 1 (v := .slice (some ⟨gT, 0, none⟩) T.length tc') rfl
            have q1 := hst.1.2.1.cell_u64 hch
            have hlt : (a : Int) < (T.length : Int) := by omega
            have ha0 : (0 : Int) ≤ (a : Int) := by omega
            obtain ⟨y, hy⟩ : ∃ y, Hau.wat ws p = y := ⟨_, rfl⟩
            have hsy : Hau.sz ws p = 1 + Hau.lg y := by unfold Hau.sz; rw [hy]
            have htl := Hau.tail_length hpe
            rw [hy] at hoky q1 htl
            obtain ⟨q, hq⟩ : ∃ q, Hau.lg y = q := ⟨_, rfl⟩
            have hlg := fun V => hlong_any y V hoky
            rw [hq] at hsy hlg htl
            rw [hsy] at hzl hzl2
            have hin := hou.into
            have hstT := hst
            rw [← hT] at hstT
            have HC := Lib.hid (And.intro hstT (And.intro hin (And.intro hae (And.intro hpe (And.intro hallG (And.intro hlg (And.intro htl (And.intro hsy hpp)))))))); clear hst hstT hin hou hae hpe hallG hlg htl hkeep hall hch hml hsum hoky hy hq hT
            go_wp2_with fail
            refine (HC.out.2.2.2.2.2.1 _).mono ?_
            rintro e wi ⟨rfl, rfl⟩
            have hw1 : IntKind.i64.wrap ((a : Int) + 1) = (a : Int) + 1 := IntWalk.i64_in _ (by omega)
            obtain ⟨m, hm⟩ : ∃ m, a + q = m := ⟨_, rfl⟩
            have hw2 : IntKind.i64.wrap ((a : Int) + (q : Int)) = (m : Int) := by rw [IntWalk.i64_in _ (by omega)]; omega
            have hw3 : IntKind.i64.wrap (1 + (q : Int)) = 1 + (q : Int) := IntWalk.i64_in _ (by omega)
            have hw4 : IntKind.i64.wrap ((a : Int) + (1 + (q : Int))) = (a : Int) + (1 + (q : Int)) := IntWalk.i64_in _ (by omega)
            clear c1 q1
            go_wp2_with fail
            go_loopg [12, 13] (q + 1) (fun gk v12 v13 wr => ∃ (j s : Nat) (R' : List Nat) (TA2 : Option Addr) (tc2 : Nat) (LA2 : Option Addr) (lc2 : Nat), j ≤ q ∧ s = a + 1 + j ∧ gk = q + 1 - j ∧ v12 = .int .i64 s ∧
              Hid (Hau.St w1 wr Z (Z + 1) Z wc tc2 lc2 rc WA TA2 LA2 RA ws (Hau.cont ws G p R' j) (G ++ p :: R') out ∧ Hau.In ws roots F (G ++ p :: R) G p R' j))
            case atStart => exact ⟨0, a + 1, R, some ⟨gT, 0, none⟩, tc', LA', lc', by omega, rfl, rfl, by go_num, ⟨HC.out.1, HC.out.2.1⟩⟩
            case round =>
              obtain ⟨j, s, R', TA2, tc2, LA2, lc2, hjq, hs, rfl, rfl, hkeep⟩ := hrel
              have hbi := hkeep.out.1.2.2.2
              rw [← hZ] at hbi
              have hsi := hbi.size
              have hbi2 : Below w.heap.size w wr := hb01.trans (hbi.mono (by omega))
              have hws1 : IntKind.i64.wrap ((s : Int) + 1) = (s : Int) + 1 := IntWalk.i64_in _ (by omega)
              have hall : ∀ r ∈ G ++ p :: R', r + Hau.sz ws r ≤ ws.length := fun r hr => HF.out.2.2 r (hkeep.out.2.2.1 r hr)
              by_cases hlt2 : j < q
              · have hle : (s : Int) ≤ (m : Int) := by omega
                obtain ⟨x, hx⟩ : ∃ x, (Hau.tail ws p)[j]? = some x := ⟨_, List.getElem?_eq_getElem (by rw [HC.out.2.2.2.2.2.2.1]; exact hlt2)⟩
                have hxm := List.mem_of_getElem? hx
                have hokx : Flat.ok x := H.out.1.ok_ x (List.mem_of_mem_drop (List.mem_of_mem_take (List.mem_of_mem_drop hxm)))
                have hfx := Hau.wordsOk_tail HP.out.1 HP.out.2.1 HC.out.2.2.2.2.2.2.2.2 x hxm
                have hcl := Hau.cont_length (ws := ws) (G := G) (p := p) (R := R') (q := j) hall
                have hcg := Hau.cont_get (R := R') HC.out.2.2.2.2.1 HC.out.2.2.2.1 hx
                rw [← HC.out.2.2.1, show a + (1 + j) = s by omega] at hcg
                have hin := hkeep.out.2
                have hst := hkeep.out.1
                have hstep := fun X hX => (Hau.cont_step (R := R') HC.out.2.2.2.2.1 HC.out.2.2.2.1 hx hin.2.2.1 hin.2.2.2.1 X hX).1
                rw [← HC.out.2.2.1, show a + (1 + j) = s by omega] at hstep
                obtain ⟨T, hT⟩ : ∃ T, Hau.cont ws G p R' j = T := ⟨_, rfl⟩
                rw [hT] at hst hcg hcl hstep
                have hsl := (List.getElem?_eq_some_iff.1 hcg).1
                obtain ⟨g2, rfl, -, -⟩ := hst.1.2.1.some_ (by omega)
                have c1 := hst.1.1.cell 1 (v := .slice (some ⟨g2, 0, none⟩) T.length tc2) rfl
                have q1 := hst.1.2.1.cell_u64 hcg
                have hs0 : (0 : Int) ≤ (s : Int) := by omega
                have hs1' : (s : Int) < (T.length : Int) := by omega
                have hm' := hmoved_any B Z (Z + 1) Z wc tc2 lc2 WA (some ⟨g2, 0, none⟩) LA2 ws T (G ++ p :: R') x wr hokx (H.out.1.below (hbi2.mono hB)) hBZ hst.1 hwc hl1 HP.out.1 hin.1 hin.2.1 hfx hcl
                have HM := Lib.hid (And.intro hm' (And.intro hst (And.intro hin (And.intro hstep (And.intro hx hcg))))); clear hm' hst hin hstep hx hcg hkeep hall hfx hcl hxm hT
                have HSJ := Lib.hid hs; clear hs
                go_wp2_with fail
                refine HM.out.1.mono ?_
                intro e w2 hp
                obtain ⟨X, TA3, tc3, LA3, lc3, e1, rfl, hst3⟩ := HM.out.2.1.moved hp
                have hnx := HM.out.2.2.1.next HP.out.1 HP.out.2.1 HM.out.2.2.2.2.1 e1
                have hse := HM.out.2.2.2.1 X e1
                rw [show G ++ p :: (R' ++ X) = G ++ p :: R' ++ X by simp] at hse
                obtain ⟨y2, hy2e⟩ : ∃ y, Hau.trn ws (G ++ p :: R' ++ X) x = y := ⟨_, rfl⟩
                rw [hy2e] at hse
                rw [hy2e]
                have hcg3 : (T ++ Hau.raw ws X)[s]? = some x := by rw [List.getElem?_append_left hsl]; exact HM.out.2.2.2.2.2
                obtain ⟨T3, hT3⟩ : ∃ T3, T ++ Hau.raw ws X = T3 := ⟨_, rfl⟩
                rw [hT3] at hst3 hse hcg3
                have hsl3 := (List.getElem?_eq_some_iff.1 hcg3).1
                obtain ⟨g3, rfl, -, -⟩ := hst3.1.2.1.some_ (by omega)
                have c13 := hst3.1.1.cell 1 (v := .slice (some ⟨g3, 0, none⟩) T3.length tc3) rfl
                have q13 := hst3.1.2.1.cell_u64 hcg3
                have z13 := hst3.1.2.1.frozen (g := g3) rfl s
                have hs3' : (s : Int) < (T3.length : Int) := by omega
                have hput := hst3.put hsl3 y2
                rw [hse, show G ++ p :: R' ++ X = G ++ p :: (R' ++ X) by simp] at hput
                have HQ := Lib.hid (And.intro hput hnx); clear hput hnx hst3 hse hcg3 hp e1 HM hT3 hy2e
                clear c1 q1
                go_wp2_with fail
                go_roundg (q + 1 - (j + 1))
                case measure => omega
                case rel => exact ⟨j + 1, s + 1, R' ++ X, some ⟨g3, 0, none⟩, tc3, LA3, lc3, by omega, by rw [HSJ.out]; omega, rfl, by go_num, HQ.out⟩
              · obtain rfl : j = q := by omega
                have hou := hkeep.out.2.out HP.out.1 (Nat.le_of_eq HC.out.2.2.2.2.2.2.1)
                have hst := hkeep.out.1
                rw [Hau.cont_mid (Nat.le_of_eq HC.out.2.2.2.2.2.2.1), show G ++ p :: R' = (G ++ [p]) ++ R' by simp] at hst
                have hae : a + (1 + j) = ((G ++ [p]).map (Hau.sz ws)).sum := by rw [List.map_append, List.sum_append, ← HC.out.2.2.1]; simp [HC.out.2.2.2.2.2.2.2.1]
                have hle : ¬ (s : Int) ≤ (m : Int) := by omega
                have HE := Lib.hid (And.intro hst (And.intro hou hae)); clear hst hou hae hkeep hall
                go_wp2_with fail
                go_roundg (ws.length - (a + (1 + j)))
                case measure => omega
                case rel => exact ⟨a + (1 + j), G ++ [p], R', TA2, tc2, LA2, lc2, by omega, rfl, by go_num, HE.out⟩
  · have hd : (er != 0) = true := by simpa using he
    have r0 := hR1.cell 0 (v := .slice none 0 0) rfl
    have r1 := hR1.cell 1 (v := .slice none 0 0) rfl
    have z0 := hR1.frozen 0
    have z1 := hR1.frozen 1
    have HE := Lib.hid (And.intro he ((hR1.set_ 0 (.slice none 0 0)).set_ 1 (.slice none 0 0))); clear he her hG1 hR1
    go_wp2_with fail
    have q0 := HE.out.2.cell 0 (v := .slice none 0 0) rfl
    have q1 := HE.out.2.cell 1 (v := .slice none 0 0) rfl
    clear q0 q1
    refine bodyPost_ret (results_cell_tmp2 rfl _ _ (w.heap.size + 1) _ _ _ rfl HE.out.2 Tryz.underlying56 rfl (by kernel_rfl)) rfl ?_
    exact ⟨(hb01.setCell (by simp) _).setCell (by simp) _, .inr ⟨HE.out.1, rfl⟩⟩

end Go.Proofs.YtdlcooplllimeaaGreatDoor
