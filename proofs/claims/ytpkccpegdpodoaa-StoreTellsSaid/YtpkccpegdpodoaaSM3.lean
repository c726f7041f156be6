/- SM: Haul8, StoA, StoB, StoC, ShB, StoJ, StoS, StoD, StoE, StoG, StoH, StoI, StoK, StoO, StoT, StoU, StoV. -/
import Derived.Test.YtpkccpegdpodoaaSM1
import Derived.Test.YtpkccpegdpodoaaSM2
import Derived.Maps.RangeWalk
import Derived.Deep.DeepCutAuto
import Derived.Handy
import Derived.Shelf.GgClosure.Gives
/- haul.Collect. -/
namespace Go.Proofs.Ytpkccpegdpodoaa
open Go.RowKit Go.Maps

attribute [local go_sem ↓] Go.wp_at_zero Go.wp_at_succ

def HcPost (er : Int) (ws roots : List U64) (w : World) (e : Ending) (w' : World) : Prop := Below w.heap.size w w' ∧
  ((er = 0 ∧ ∃ (TA : Option Addr) (tc : Nat) (RA : Option Addr) (rc : Nat) (LA : Option Addr) (lc : Nat), e = .returned (.tuple #[.agg #[.slice TA (Hau.newWords ws roots).length tc, .slice RA (Hau.newRoots ws roots).length rc], .slice LA (Hau.told ws roots).length lc, .int .i64 0]) ∧
      Own w' w.heap.size 24 TA tc (Hau.newWords ws roots) ∧ Own w' w.heap.size 24 RA rc (Hau.newRoots ws roots) ∧ Own w' w.heap.size 82 LA lc (Hau.mv ws (Hau.told ws roots))) ∨
    (er ≠ 0 ∧ e = .returned (.tuple #[.agg #[.slice none 0 0, .slice none 0 0], .slice none 0 0, .int .i64 er])))

/-- a struct in a cell and two plain values handed back -/
theorem results_cell_tmp2 {P : Program} {fn : Func} {p q r : Tmp} {ty : TypeId} (h : fn.results = #[.cell p ty, .tmp q, .tmp r]) (tmps : Array Value) (w : World) (g : Nat) (t : TypeId) (cs : Array Value) (d : TypeDesc)
    (hp : tmps.getD p undef = .pointer (some ⟨g, 0, none⟩)) (hg : Blk w g t cs)
    (hu : P.underlying ty = some d) (hd : (match d with | .struct _ | .array _ _ => true | _ => false) = true) (hi : (P.info? ty).map (·.size) = some cs.size) :
    (results fn tmps).run P w = .ok (.tuple #[.agg cs, tmps.getD q undef, tmps.getD r undef]) w := by
  have hp' : tmps[p]?.getD undef = .pointer (some ⟨g, 0, none⟩) := by simpa using hp
  simp [results, h, hp', asAddr, run_loadVar_row w g t ty cs (0, 0) d hg hu hd hi]
theorem Hau.refW_flat (t : Nat) : Flat.ok (Hau.refW t) := by
  show 0 ≤ (boxL 5 t).1 ∧ (boxL 5 t).1 ≤ 18446744073709551615
  unfold boxL
  rw [if_neg (by omega), if_neg (by omega)]
  split
  · simp
  · have : tagL 5 = 65534 ∨ True := .inr trivial
    simp only [tagL]
    omega
theorem Hau.trn_flat {ws : List U64} {F : List Nat} {x : U64} (hx : Flat.ok x) : Flat.ok (Hau.trn ws F x) := by
  unfold Hau.trn
  split
  · exact hx
  · exact Hau.refW_flat _

theorem own_two {α : Type} [Flat α] {w : World} {base g : Nat} {e : TypeId} {A : Option Addr} {c : Nat} {l : List α} {u v : Value} (h : Own w base e A c l) (hg : g < base) : Own ((w.setCell ⟨g, 0, none⟩ u).setCell ⟨g, 1, none⟩ v) base e A c l := by
  have h1 := h.setCell ⟨g, 0, none⟩ u (own_ne_blk h hg)
  exact h1.setCell ⟨g, 1, none⟩ v (own_ne_blk h1 hg)
theorem collect_end {w w1 wr : World} {Z wc tc lc rc a : Nat} {WA TA LA RA : Option Addr} {ws roots T out : List U64} {G : List Nat} (hst : Hau.St w1 wr Z (Z + 1) Z wc tc lc rc WA TA LA RA ws T G out) (_hZ : w1.heap.size = Z) (hwZ : w.heap.size + 1 < Z) (hb : Below w.heap.size w wr.drew)
    (hG : G = Hau.told ws roots) (hme : T = G.flatMap (Hau.tobj ws G)) (hTa : T.length = a) (hre : roots.map (Hau.trn ws G) = out) (hol : out.length = roots.length) :
    HcPost 0 ws roots w (.returned (.tuple #[.agg #[.slice TA a tc, .slice RA roots.length rc], .slice LA G.length lc, .int .i64 0])) ((wr.drew.setCell ⟨w.heap.size + 1, 0, none⟩ (.slice TA a tc)).setCell ⟨w.heap.size + 1, 1, none⟩ (.slice RA roots.length rc)) := by
  have e1 : Hau.newWords ws roots = T := by unfold Hau.newWords; rw [← hG]; exact hme.symm
  have e2 : Hau.newRoots ws roots = out := by unfold Hau.newRoots; rw [← hG]; exact hre
  obtain ⟨⟨c1, c2, c3, c4, c5⟩, h2, h3, h4⟩ := hst
  refine ⟨(hb.setCell (by simp) _).setCell (by simp) _, .inl ⟨rfl, TA, tc, RA, rc, LA, lc, ?_, ?_, ?_, ?_⟩⟩
  · rw [e1, e2, ← hG, hTa, hol]
  · rw [e1]; exact (own_two c2.drew hwZ).base_le (by omega)
  · rw [e2]; exact (own_two h2.drew hwZ).base_le (by omega)
  · rw [← hG]; exact (own_two c3.drew hwZ).base_le (by omega)

set_option maxHeartbeats 3200000 in
set_option maxRecDepth 100000 in
theorem hcollect_any (B wc gc : Nat) (WA GA : Option Addr) (ws roots : List U64) (w : World) (hh : HpAt w B ⟨ws, roots⟩ WA GA) (hB : B ≤ w.heap.size) (hwc : ws.length ≤ wc) :
    Calls Try.prog 39 #[.agg #[.slice WA ws.length wc, .slice GA roots.length gc]] w (HcPost (Hau.heapErr ⟨ws, roots⟩) ws roots w) := by
  have H := Lib.hid (show At w B WA ws ∧ At w B GA roots from hh); clear hh
  obtain ⟨er, her⟩ : ∃ e, Hau.heapErr ⟨ws, roots⟩ = e := ⟨_, rfl⟩
  rw [her]
  go_enter Try.func39, Try.ntmps39
  go_wp2_with fail
  refine calls_world (fun W => Blk W w.heap.size 70 #[.slice WA ws.length wc, .slice GA roots.length gc] ∧ Blk W (w.heap.size + 1) 70 #[.slice none 0 0, .slice none 0 0] ∧ Below w.heap.size w W ∧ w.heap.size + 2 ≤ W.heap.size) ⟨(Blk.new _ _ _).alloc _, Blk.at_ _ _ _ (by simp), ((Below.refl _ _).alloc (Nat.le_refl _) _).alloc (by simp) _, by simp⟩ ?_
  rintro W ⟨hG, hR, hb0, hs0⟩
  have hc := hcheck_any B wc gc WA GA ⟨ws, roots⟩ W ⟨H.out.1.below (hb0.mono hB), H.out.2.below (hb0.mono hB)⟩ (by omega)
  rw [her] at hc
  refine hc.mono ?_
  rintro e w1 ⟨rfl, hb1⟩
  have hs1 := hb1.size
  have hb01 : Below w.heap.size w w1 := hb0.trans (hb1.mono (by omega))
  have hG1 := hG.fresh hb1
  have hR1 := hR.fresh hb1
  clear hc hG hb0 hR
  by_cases he : er = 0
  · subst he
    obtain ⟨hl1, hl2, hok, hwo, hro⟩ : ws.length ≤ 2000 ∧ roots.length ≤ 100 ∧ Hau.okW ws = true ∧ Hau.wordsOk ws = true ∧ Hau.rootsOk ws roots = true := by
      unfold Hau.heapErr at her
      simp only at her
      split at her
      · cases her
      · rename_i h1
        split at her
        · cases her
        · rename_i h2
          split at her
          · cases her
          · rename_i h3
            split at her
            · cases her
            · rename_i h4
              exact ⟨by omega, by omega, by simpa using h2, by simpa using h3, by simpa using h4⟩
    have hmm := @run_makeMap Try.prog
    have g0 := hG1.cell 0 (v := .slice WA ws.length wc) rfl
    have HP := Lib.hid (And.intro hok (And.intro hwo (And.intro hro (And.intro hG1 hR1)))); clear hok hwo hro her hG1 hR1
    go_upto_region 6 with fail
    obtain ⟨Z, hZ⟩ : ∃ Z, w1.heap.size = Z := ⟨_, rfl⟩
    have hBZ : B ≤ Z := by omega
    rw [hZ]
    refine wp_world (fun V => Hid (Hau.St w1 V Z (Z + 1) Z wc 0 0 0 WA none none none ws [] [] [])) ?_ ?_
    · unfold Hid
      subst hZ
      exact ⟨⟨Blk.at_ _ _ _ (by simp), Own.nil_, Own.nil_, (World.ownsMap_made _ _ _ _).alloc _, by omega, Nat.le_refl _⟩, Own.nil_, by simp [rowOf], ((Below.refl _ _).alloc (Nat.le_refl _) _).alloc (by simp) _⟩
    intro V HV
    clear hmm
    have hbV := HV.out.2.2.2
    rw [← hZ] at hbV
    have g1 := (HP.out.2.2.2.1.fresh hbV).cell 1 (v := .slice GA roots.length gc) rfl
    obtain ⟨j0, hj, hy0, hy1, hy2⟩ := info_partsH infoU64H
    have hFp : ∀ k, ∀ p ∈ Hau.addAll [] (roots.take k), p ∈ Hau.places ws := fun k => Hau.addAll_sub _ (by simp) (fun x hx => List.all_eq_true.1 HP.out.2.2.1 x (List.mem_of_mem_take hx))
    have hFd : ∀ k, (Hau.addAll [] (roots.take k)).Nodup := fun k => Hau.addAll_nodup _ List.nodup_nil
    have hpsz := (Hau.places_spec HP.out.1).1
    have HF := Lib.hid (And.intro hFp (And.intro hFd hpsz)); clear hFp hFd hpsz g0
    go_wp2_with fail
    go_loopg [7, 9, 28] roots.length (fun gk v7 v9 v28 wr => ∃ (k : Nat) (F : List Nat) (TA : Option Addr) (tc : Nat) (LA : Option Addr) (lc : Nat) (RA : Option Addr) (rc : Nat), k ≤ roots.length ∧ gk = roots.length - k ∧ v28 = .int .i64 k ∧ v7 = .slice RA k rc ∧
      Hid (Hau.St w1 wr Z (Z + 1) Z wc tc lc rc WA TA LA RA ws (Hau.raw ws F) F ((roots.take k).map (Hau.trn ws F)) ∧ F = Hau.addAll [] (roots.take k)))
    case atStart => exact ⟨0, [], none, 0, none, 0, none, 0, by omega, rfl, rfl, rfl, ⟨by simpa [Hau.raw] using HV.out, by simp [Hau.addAll]⟩⟩
    case round =>
      obtain ⟨k, F, TA, tc, LA, lc, RA, rc, hk, rfl, rfl, rfl, hkeep⟩ := hrel
      clear g1
      have hbr := hkeep.out.1.2.2.2
      rw [← hZ] at hbr
      have hsr := hbr.size
      have hbr2 : Below w.heap.size w wr := hb01.trans (hbr.mono (by omega))
      by_cases hlt : k < roots.length
      · obtain ⟨b, o, rfl, hbB, hokx, q1⟩ := (H.out.2.below (hbr2.mono hB)).u64H hlt
        have hlt2 : (k : Int) < (roots.length : Int) := by omega
        have hgx : roots[k]? = some (Hau.wat roots k) := by unfold Hau.wat; rw [List.getD_eq_getElem?_getD, List.getElem?_eq_getElem hlt]; rfl
        obtain ⟨x, hx⟩ : ∃ x, Hau.wat roots k = x := ⟨_, rfl⟩
        rw [hx] at q1 hokx hgx
        have hfx := List.all_eq_true.1 HP.out.2.2.1 x (List.mem_of_getElem? hgx)
        have hFe := hkeep.out.2
        have hm := hmoved_any B Z (Z + 1) Z wc tc lc WA TA LA ws (Hau.raw ws F) F x wr hokx (H.out.1.below (hbr2.mono hB)) hBZ hkeep.out.1.1 hwc hl1 HP.out.1 (by rw [hFe]; exact HF.out.2.1 k) (by rw [hFe]; exact HF.out.1 k) hfx (Hau.raw_length (fun p hp => HF.out.2.2 p (HF.out.1 k p (by rw [← hFe]; exact hp))))
        have hlen : ((roots.take k).map (Hau.trn ws F)).length = k := by rw [List.length_map, List.length_take]; omega
        have HM := Lib.hid (And.intro hm (And.intro hkeep.out.1 (And.intro hFe (And.intro hokx (And.intro hgx hlen))))); clear hm hkeep hFe hokx hgx hlen hfx hx
        go_wp2_with fail
        refine HM.out.1.mono ?_
        intro e w2 hp
        obtain ⟨X, TA', tc', LA', lc', e1, rfl, hst⟩ := HM.out.2.1.moved hp
        have hy := Hau.trn_flat (ws := ws) (F := F ++ X) HM.out.2.2.2.1
        have hnx := Hau.roots_next (ws := ws) HM.out.2.2.1 HM.out.2.2.2.2.1 e1
        have hax : F ++ X = Hau.addAll [] (roots.take (k + 1)) := by rw [← e1]; exact Hau.addW_app HM.out.2.2.1 HM.out.2.2.2.2.1
        obtain ⟨y, hyy⟩ : ∃ y, Hau.trn ws (F ++ X) x = y := ⟨_, rfl⟩
        rw [hyy] at hy hnx
        rw [hyy]
        have hZ2 : Z ≤ w2.heap.size := by have := hst.2.2.2.size; omega
        have HS := Lib.hid (And.intro hst (And.intro hy (And.intro hnx hax))); clear hst hy hnx hax hp e1 hyy
        go_wp2_with (at_builtin; go_must (refine wpList_app (α := U64) (n := k) (m := 1) (B := w2.heap.size + 1) (r := [y]) rfl (.tmp 32) (.tmp 36) _ rfl Z 24 j0 _ 8 Try.underlying39 hj hy0 hy1 hy2 rfl (by decide) u64_oneH (by rfl) HM.out.2.2.2.2.2 (HS.out.1.2.1.alloc _) (by rfl) ?_ rfl (by omega) (by simp only [maxLen]; omega) (by simp; omega) ?_))
        · exact At.built w2 #[.int .u64 y.val] 24 [y] rfl (by intro u hu; simp at hu; subst hu; exact HS.out.2.1)
        intro A3 c3 w3 hown3 hgr3 hat3
        have hown3' : Own w3 Z 24 A3 c3 ((roots.take k).map (Hau.trn ws F) ++ [y]) := by simpa using hown3
        have hst3 := HS.out.1.rooted (w' := w3) ((Below.refl _ _).alloc (Nat.le_refl _) (.cells #[.int .u64 y.val] 24)) hown3' hgr3 (by simpa using hat3)
        rw [HS.out.2.2.1, ← Hau.raw_append] at hst3
        have HT := Lib.hid (And.intro hst3 HS.out.2.2.2); clear hst3 hown3 hown3' hgr3 hat3 HS HM
        go_wp2_with fail
        go_roundg (roots.length - (k + 1))
        case measure => omega
        case rel => exact ⟨k + 1, F ++ X, TA', tc', LA', lc', A3, c3, by omega, rfl, by go_num, rfl, HT.out⟩
      · obtain rfl : k = roots.length := by omega
        have hst := hkeep.out.1
        have hFe := hkeep.out.2
        rw [List.take_length] at hst hFe
        obtain ⟨out, hout⟩ : ∃ out, roots.map (Hau.trn ws F) = out := ⟨_, rfl⟩
        rw [hout] at hst
        have hol : out.length = roots.length := by rw [← hout, List.length_map]
        have hou := Hau.Ou.start HP.out.1 HP.out.2.2.1 (roots := roots)
        rw [← hFe] at hou
        have hmn := Hau.mid_nil ws F
        obtain ⟨wo, rfl⟩ : ∃ x, x = wr := ⟨_, rfl⟩
        have HA := Lib.hid (And.intro hst (And.intro hou (And.intro hmn (And.intro hFe (And.intro hout hol))))); clear hst hou hmn hFe hout hol hkeep
        go_wp2_with fail
        go_loopg [10, 11, 12, 13] ws.length (fun gk v10 v11 v12 v13 wr => ∃ (a : Nat) (G R : List Nat) (TA : Option Addr) (tc : Nat) (LA : Option Addr) (lc : Nat), a ≤ ws.length ∧ gk = ws.length - a ∧ v10 = .int .i64 a ∧
          Hid (Hau.St w1 wr Z (Z + 1) Z wc tc lc rc WA TA LA RA ws (Hau.mid ws G R) (G ++ R) out ∧ Hau.Ou ws roots F G R ∧ a = (G.map (Hau.sz ws)).sum))
        case atStart => exact ⟨0, [], F, TA, tc, LA, lc, by omega, rfl, rfl, ⟨by rw [HA.out.2.2.1]; exact HA.out.1, HA.out.2.1, rfl⟩⟩
        case round =>
          obtain ⟨a, G, R, TA', tc', LA', lc', hal, rfl, rfl, hkeep⟩ := hrel
          have hbo := hkeep.out.1.2.2.2
          rw [← hZ] at hbo
          have hso := hbo.size
          have hbo2 : Below w.heap.size w wr := hb01.trans (hbo.mono (by omega))
          have hall : ∀ p ∈ G ++ R, p + Hau.sz ws p ≤ ws.length := fun p hp => HF.out.2.2 p (hkeep.out.2.1.2.1 p hp)
          have hml := Hau.mid_length hall
          have hsum := Hau.len_le HP.out.1 hkeep.out.2.1.1 hkeep.out.2.1.2.1
          rw [List.map_append, List.sum_append, ← hkeep.out.2.2] at hml hsum
          cases R with
          | nil =>
            have hst := hkeep.out.1
            have hou := hkeep.out.2.1
            have hG := hou.done
            have hme := Hau.mid_end ws G
            obtain ⟨T, hT⟩ : ∃ T, Hau.mid ws G [] = T := ⟨_, rfl⟩
            rw [hT] at hst hml hme
            rw [List.append_nil] at hst
            have hTa : T.length = a := by simpa using hml
            obtain ⟨X, hX⟩ := hou.2.2.2.1
            rw [List.append_nil] at hX
            have hre : roots.map (Hau.trn ws G) = out := by rw [hX, ← Hau.roots_end HA.out.2.2.2.1, HA.out.2.2.2.2.1]
            have hRr := HP.out.2.2.2.2.fresh hbo
            have c1 := hst.1.1.cell 1 (v := .slice TA' a tc') (by rw [← hTa]; rfl)
            have c3 := hst.1.1.cell 3 (v := .slice LA' G.length lc') rfl
            have r0 := hRr.cell 0 (v := .slice none 0 0) rfl
            have r1 := hRr.cell 1 (v := .slice none 0 0) rfl
            have z0 := hRr.frozen 0
            have z1 := hRr.frozen 1
            have HN := Lib.hid (And.intro hst (And.intro hG (And.intro hme (And.intro hTa (And.intro hre hRr))))); clear hst hou hG hme hTa hre hRr hkeep hT hX hml hsum hall
            go_upto_region 20 with fail
            have hd1 : (⟨Z + 1, 1, none⟩ : Addr) ≠ ⟨w.heap.size + 1, 0, none⟩ := by intro e; injection e with e; omega
            have q1 : ((wr.drew.setCell ⟨w.heap.size + 1, 0, none⟩ (.slice TA' a tc')).setCell ⟨w.heap.size + 1, 1, none⟩ (.slice RA roots.length rc)).cell? ⟨Z + 1, 1, none⟩ = some (.slice TA' a tc') := by
              rw [World.cell?_setCell_other _ _ _ _ (by intro e; injection e with e; omega), World.cell?_setCell_other _ _ _ _ (by intro e; injection e with e; omega)]; exact c1
            have q3 : ((wr.drew.setCell ⟨w.heap.size + 1, 0, none⟩ (.slice TA' a tc')).setCell ⟨w.heap.size + 1, 1, none⟩ (.slice RA roots.length rc)).cell? ⟨Z + 1, 3, none⟩ = some (.slice LA' G.length lc') := by
              rw [World.cell?_setCell_other _ _ _ _ (by intro e; injection e with e; omega), World.cell?_setCell_other _ _ _ _ (by intro e; injection e with e; omega)]; exact c3
            refine wp_region_held_drew (S := (fun w' => w'.cell? ⟨Z + 1, 1, none⟩ = some (.slice TA' a tc') ∧ w'.cell? ⟨Z + 1, 3, none⟩ = some (.slice LA' G.length lc'))) (by kernel_rfl) ?_ (fun hHeld0 => ?_)
            · first | trivial | ((try dsimp only); (exact ⟨c1, c3⟩))
            refine held_take (v := ?_) 0 rfl (by kernel_rfl) (by kernel_rfl) (by kernel_rfl) (fun _ _ _ h => h) (by rfl) ?_ (by assumption) ?_
            rotate_left
            · (intro w hSw; (try dsimp only at hSw); go_simp; try with_reducible rfl)
            try simp only [Act.put, List.setIfInBounds_toArray, List.set_cons_zero, List.set_cons_succ]
            refine held_take (v := ?_) 1 rfl (by kernel_rfl) (by kernel_rfl) (by kernel_rfl) (fun _ _ _ h => h) (by rfl) ?_ (by assumption) ?_
            rotate_left
            · (intro w hSw; (try dsimp only at hSw); go_simp; try with_reducible rfl)
            try simp only [Act.put, List.setIfInBounds_toArray, List.set_cons_zero, List.set_cons_succ]
            refine held_take (v := ?_) 2 rfl (by kernel_rfl) (by kernel_rfl) (by kernel_rfl) (fun _ _ _ h => h) (by rfl) ?_ (by assumption) ?_
            rotate_left
            · (intro w hSw; (try dsimp only at hSw); go_simp; try with_reducible rfl)
            try simp only [Act.put, List.setIfInBounds_toArray, List.set_cons_zero, List.set_cons_succ]
            refine held_take (v := ?_) 3 rfl (by kernel_rfl) (by kernel_rfl) (by kernel_rfl) (fun _ _ _ h => h) (by rfl) ?_ (by assumption) ?_
            rotate_left
            · (intro w hSw; (try dsimp only at hSw); go_simp; try with_reducible rfl)
            try simp only [Act.put, List.setIfInBounds_toArray, List.set_cons_zero, List.set_cons_succ]
            refine held_take (v := ?_) 4 rfl (by kernel_rfl) (by kernel_rfl) (by kernel_rfl) (fun _ _ _ h => h) (by rfl) ?_ (by assumption) ?_
            rotate_left
            · (intro w hSw; (try dsimp only at hSw); go_simp; try with_reducible rfl)
            try simp only [Act.put, List.setIfInBounds_toArray, List.set_cons_zero, List.set_cons_succ]
            refine held_take (v := ?_) 5 rfl (by kernel_rfl) (by kernel_rfl) (by kernel_rfl) (fun _ _ _ h => h) (by rfl) ?_ (by assumption) ?_
            rotate_left
            · (intro w hSw; (try dsimp only at hSw); go_simp; try with_reducible rfl)
            try simp only [Act.put, List.setIfInBounds_toArray, List.set_cons_zero, List.set_cons_succ]
            refine held_take (v := ?_) 6 rfl (by kernel_rfl) (by kernel_rfl) (by kernel_rfl) (fun _ _ _ h => h) (by rfl) ?_ (by assumption) ?_
            rotate_left
            · (intro w hSw; (try dsimp only at hSw); go_simp; try with_reducible rfl)
            try simp only [Act.put, List.setIfInBounds_toArray, List.set_cons_zero, List.set_cons_succ]
            refine held_take (v := ?_) 7 rfl (by kernel_rfl) (by kernel_rfl) (by kernel_rfl) (fun _ _ _ h => h) (by rfl) ?_ (by assumption) ?_
            rotate_left
            · (intro w hSw; (try dsimp only at hSw); go_simp; try with_reducible rfl)
            try simp only [Act.put, List.setIfInBounds_toArray, List.set_cons_zero, List.set_cons_succ]
            refine held_take (v := ?_) 8 rfl (by kernel_rfl) (by kernel_rfl) (by kernel_rfl) (fun _ _ _ h => h) (by rfl) ?_ (by assumption) ?_
            rotate_left
            · (intro w hSw; (try dsimp only at hSw); go_simp; try with_reducible rfl)
            try simp only [Act.put, List.setIfInBounds_toArray, List.set_cons_zero, List.set_cons_succ]
            refine held_take (v := ?_) 9 rfl (by kernel_rfl) (by kernel_rfl) (by kernel_rfl) (fun _ _ _ h => h) (by rfl) ?_ (by assumption) ?_
            rotate_left
            · (intro w hSw; (try dsimp only at hSw); go_simp; try with_reducible rfl)
            try simp only [Act.put, List.setIfInBounds_toArray, List.set_cons_zero, List.set_cons_succ]
            refine held_call 10 (by kernel_rfl) rfl (fun K hK => ?_)
            go_simp
            skip
            refine hK.out _ _ ?_ (fun hHeld1 => ?_)
            · first | trivial | ((try dsimp only); (exact ⟨q1, q3⟩))
            clear hK K hHeld0
            try simp only [Act.put, List.setIfInBounds_toArray, List.set_cons_zero, List.set_cons_succ]
            refine held_take (v := ?_) 11 rfl (by kernel_rfl) (by kernel_rfl) (by kernel_rfl) (fun _ _ _ h => h) (by rfl) ?_ (by assumption) ?_
            rotate_left
            · (intro w hSw; (try dsimp only at hSw); go_simp; try with_reducible rfl)
            try simp only [Act.put, List.setIfInBounds_toArray, List.set_cons_zero, List.set_cons_succ]
            refine held_take (v := ?_) 12 rfl (by kernel_rfl) (by kernel_rfl) (by kernel_rfl) (fun _ _ _ h => h) (by rfl) ?_ (by assumption) ?_
            rotate_left
            · (intro w hSw; (try dsimp only at hSw); go_simp; try with_reducible rfl)
            try simp only [Act.put, List.setIfInBounds_toArray, List.set_cons_zero, List.set_cons_succ]
            refine wpAnyH_done (by kernel_rfl) ?_ _
            go_wp2_with fail
            refine bodyPost_ret (results_cell_tmp2 rfl _ _ (w.heap.size + 1) _ _ _ rfl ((HN.out.2.2.2.2.2.drew.set_ 0 (.slice TA' a tc')).set_ 1 (.slice RA roots.length rc)) Try.underlying70 rfl (by kernel_rfl)) rfl ?_
            exact collect_end HN.out.1 hZ (by omega) (hbo2.drew) HN.out.2.1 HN.out.2.2.1 HN.out.2.2.2.1 HN.out.2.2.2.2.1 HA.out.2.2.2.2.2
          | cons p R =>
            have hst := hkeep.out.1
            have hou := hkeep.out.2.1
            have hae := hkeep.out.2.2
            have hpp := hou.2.1 p (by simp)
            have hpe := hall p (by simp)
            have hallG : ∀ g ∈ G, g + Hau.sz ws g ≤ ws.length := fun g hg => hall g (by simp [hg])
            have hpl := Hau.places_lt ws p hpp
            have hszp := Hau.sz_pos ws p
            obtain ⟨bw, ow, -, -, hoky, -⟩ := (H.out.1.below (hbo2.mono hB)).u64H hpl
            rw [Hau.mid_cont] at hst hml
            have hch := Hau.cont_head (R := R) (q := 0) hallG hpe
            rw [← hae] at hch
            have hzl : a + Hau.sz ws p ≤ (Hau.cont ws G p R 0).length := by rw [hml]; simp only [List.map_cons, List.sum_cons]; omega
            have hzl2 : a + Hau.sz ws p ≤ ws.length := by simp only [List.map_cons, List.sum_cons] at hsum; omega
            obtain ⟨T, hT⟩ : ∃ T, Hau.cont ws G p R 0 = T := ⟨_, rfl⟩
            rw [hT] at hst hch hzl
            obtain ⟨gT, rfl, -, -⟩ := hst.1.2.1.some_ (by omega)
            have c1 := hst.1.1.cell 1 (v := .slice (some ⟨gT, 0, none⟩) T.length tc') rfl
            have q1 := hst.1.2.1.cell_u64 hch
            have hlt : (a : Int) < (T.length : Int) := by omega
            have ha0 : (0 : Int) ≤ (a : Int) := by omega
            obtain ⟨y, hy⟩ : ∃ y, Hau.wat ws p = y := ⟨_, rfl⟩
            have hsy : Hau.sz ws p = 1 + Hau.lg y := by unfold Hau.sz; rw [hy]
            have htl := Hau.tail_length hpe
            rw [hy] at hoky q1 htl
            obtain ⟨q, hq⟩ : ∃ q, Hau.lg y = q := ⟨_, rfl⟩
            have hlg := fun V => hlong_any y V hoky
            rw [hq] at hsy hlg htl
            rw [hsy] at hzl hzl2
            have hin := hou.into
            have hstT := hst
            rw [← hT] at hstT
            have HC := Lib.hid (And.intro hstT (And.intro hin (And.intro hae (And.intro hpe (And.intro hallG (And.intro hlg (And.intro htl (And.intro hsy hpp)))))))); clear hst hstT hin hou hae hpe hallG hlg htl hkeep hall hch hml hsum hoky hy hq hT
            go_wp2_with fail
            refine (HC.out.2.2.2.2.2.1 _).mono ?_
            rintro e wi ⟨rfl, rfl⟩
            have hw1 : IntKind.i64.wrap ((a : Int) + 1) = (a : Int) + 1 := IntWalk.i64_in _ (by omega)
            obtain ⟨m, hm⟩ : ∃ m, a + q = m := ⟨_, rfl⟩
            have hw2 : IntKind.i64.wrap ((a : Int) + (q : Int)) = (m : Int) := by rw [IntWalk.i64_in _ (by omega)]; omega
            have hw3 : IntKind.i64.wrap (1 + (q : Int)) = 1 + (q : Int) := IntWalk.i64_in _ (by omega)
            have hw4 : IntKind.i64.wrap ((a : Int) + (1 + (q : Int))) = (a : Int) + (1 + (q : Int)) := IntWalk.i64_in _ (by omega)
            clear c1 q1
            go_wp2_with fail
            go_loopg [12, 13] (q + 1) (fun gk v12 v13 wr => ∃ (j s : Nat) (R' : List Nat) (TA2 : Option Addr) (tc2 : Nat) (LA2 : Option Addr) (lc2 : Nat), j ≤ q ∧ s = a + 1 + j ∧ gk = q + 1 - j ∧ v12 = .int .i64 s ∧
              Hid (Hau.St w1 wr Z (Z + 1) Z wc tc2 lc2 rc WA TA2 LA2 RA ws (Hau.cont ws G p R' j) (G ++ p :: R') out ∧ Hau.In ws roots F (G ++ p :: R) G p R' j))
            case atStart => exact ⟨0, a + 1, R, some ⟨gT, 0, none⟩, tc', LA', lc', by omega, rfl, rfl, by go_num, ⟨HC.out.1, HC.out.2.1⟩⟩
            case round =>
              obtain ⟨j, s, R', TA2, tc2, LA2, lc2, hjq, hs, rfl, rfl, hkeep⟩ := hrel
              have hbi := hkeep.out.1.2.2.2
              rw [← hZ] at hbi
              have hsi := hbi.size
              have hbi2 : Below w.heap.size w wr := hb01.trans (hbi.mono (by omega))
              have hws1 : IntKind.i64.wrap ((s : Int) + 1) = (s : Int) + 1 := IntWalk.i64_in _ (by omega)
              have hall : ∀ r ∈ G ++ p :: R', r + Hau.sz ws r ≤ ws.length := fun r hr => HF.out.2.2 r (hkeep.out.2.2.1 r hr)
              by_cases hlt2 : j < q
              · have hle : (s : Int) ≤ (m : Int) := by omega
                obtain ⟨x, hx⟩ : ∃ x, (Hau.tail ws p)[j]? = some x := ⟨_, List.getElem?_eq_getElem (by rw [HC.out.2.2.2.2.2.2.1]; exact hlt2)⟩
                have hxm := List.mem_of_getElem? hx
                have hokx : Flat.ok x := H.out.1.ok_ x (List.mem_of_mem_drop (List.mem_of_mem_take (List.mem_of_mem_drop hxm)))
                have hfx := Hau.wordsOk_tail HP.out.1 HP.out.2.1 HC.out.2.2.2.2.2.2.2.2 x hxm
                have hcl := Hau.cont_length (ws := ws) (G := G) (p := p) (R := R') (q := j) hall
                have hcg := Hau.cont_get (R := R') HC.out.2.2.2.2.1 HC.out.2.2.2.1 hx
                rw [← HC.out.2.2.1, show a + (1 + j) = s by omega] at hcg
                have hin := hkeep.out.2
                have hst := hkeep.out.1
                have hstep := fun X hX => (Hau.cont_step (R := R') HC.out.2.2.2.2.1 HC.out.2.2.2.1 hx hin.2.2.1 hin.2.2.2.1 X hX).1
                rw [← HC.out.2.2.1, show a + (1 + j) = s by omega] at hstep
                obtain ⟨T, hT⟩ : ∃ T, Hau.cont ws G p R' j = T := ⟨_, rfl⟩
                rw [hT] at hst hcg hcl hstep
                have hsl := (List.getElem?_eq_some_iff.1 hcg).1
                obtain ⟨g2, rfl, -, -⟩ := hst.1.2.1.some_ (by omega)
                have c1 := hst.1.1.cell 1 (v := .slice (some ⟨g2, 0, none⟩) T.length tc2) rfl
                have q1 := hst.1.2.1.cell_u64 hcg
                have hs0 : (0 : Int) ≤ (s : Int) := by omega
                have hs1' : (s : Int) < (T.length : Int) := by omega
                have hm' := hmoved_any B Z (Z + 1) Z wc tc2 lc2 WA (some ⟨g2, 0, none⟩) LA2 ws T (G ++ p :: R') x wr hokx (H.out.1.below (hbi2.mono hB)) hBZ hst.1 hwc hl1 HP.out.1 hin.1 hin.2.1 hfx hcl
                have HM := Lib.hid (And.intro hm' (And.intro hst (And.intro hin (And.intro hstep (And.intro hx hcg))))); clear hm' hst hin hstep hx hcg hkeep hall hfx hcl hxm hT
                have HSJ := Lib.hid hs; clear hs
                go_wp2_with fail
                refine HM.out.1.mono ?_
                intro e w2 hp
                obtain ⟨X, TA3, tc3, LA3, lc3, e1, rfl, hst3⟩ := HM.out.2.1.moved hp
                have hnx := HM.out.2.2.1.next HP.out.1 HP.out.2.1 HM.out.2.2.2.2.1 e1
                have hse := HM.out.2.2.2.1 X e1
                rw [show G ++ p :: (R' ++ X) = G ++ p :: R' ++ X by simp] at hse
                obtain ⟨y2, hy2e⟩ : ∃ y, Hau.trn ws (G ++ p :: R' ++ X) x = y := ⟨_, rfl⟩
                rw [hy2e] at hse
                rw [hy2e]
                have hcg3 : (T ++ Hau.raw ws X)[s]? = some x := by rw [List.getElem?_append_left hsl]; exact HM.out.2.2.2.2.2
                obtain ⟨T3, hT3⟩ : ∃ T3, T ++ Hau.raw ws X = T3 := ⟨_, rfl⟩
                rw [hT3] at hst3 hse hcg3
                have hsl3 := (List.getElem?_eq_some_iff.1 hcg3).1
                obtain ⟨g3, rfl, -, -⟩ := hst3.1.2.1.some_ (by omega)
                have c13 := hst3.1.1.cell 1 (v := .slice (some ⟨g3, 0, none⟩) T3.length tc3) rfl
                have q13 := hst3.1.2.1.cell_u64 hcg3
                have z13 := hst3.1.2.1.frozen (g := g3) rfl s
                have hs3' : (s : Int) < (T3.length : Int) := by omega
                have hput := hst3.put hsl3 y2
                rw [hse, show G ++ p :: R' ++ X = G ++ p :: (R' ++ X) by simp] at hput
                have HQ := Lib.hid (And.intro hput hnx); clear hput hnx hst3 hse hcg3 hp e1 HM hT3 hy2e
                clear c1 q1
                go_wp2_with fail
                go_roundg (q + 1 - (j + 1))
                case measure => omega
                case rel => exact ⟨j + 1, s + 1, R' ++ X, some ⟨g3, 0, none⟩, tc3, LA3, lc3, by omega, by rw [HSJ.out]; omega, rfl, by go_num, HQ.out⟩
              · obtain rfl : j = q := by omega
                have hou := hkeep.out.2.out HP.out.1 (Nat.le_of_eq HC.out.2.2.2.2.2.2.1)
                have hst := hkeep.out.1
                rw [Hau.cont_mid (Nat.le_of_eq HC.out.2.2.2.2.2.2.1), show G ++ p :: R' = (G ++ [p]) ++ R' by simp] at hst
                have hae : a + (1 + j) = ((G ++ [p]).map (Hau.sz ws)).sum := by rw [List.map_append, List.sum_append, ← HC.out.2.2.1]; simp [HC.out.2.2.2.2.2.2.2.1]
                have hle : ¬ (s : Int) ≤ (m : Int) := by omega
                have HE := Lib.hid (And.intro hst (And.intro hou hae)); clear hst hou hae hkeep hall
                go_wp2_with fail
                go_roundg (ws.length - (a + (1 + j)))
                case measure => omega
                case rel => exact ⟨a + (1 + j), G ++ [p], R', TA2, tc2, LA2, lc2, by omega, rfl, by go_num, HE.out⟩
  · have hd : (er != 0) = true := by simpa using he
    have r0 := hR1.cell 0 (v := .slice none 0 0) rfl
    have r1 := hR1.cell 1 (v := .slice none 0 0) rfl
    have z0 := hR1.frozen 0
    have z1 := hR1.frozen 1
    have HE := Lib.hid (And.intro he ((hR1.set_ 0 (.slice none 0 0)).set_ 1 (.slice none 0 0))); clear he her hG1 hR1
    go_wp2_with fail
    have q0 := HE.out.2.cell 0 (v := .slice none 0 0) rfl
    have q1 := HE.out.2.cell 1 (v := .slice none 0 0) rfl
    clear q0 q1
    refine bodyPost_ret (results_cell_tmp2 rfl _ _ (w.heap.size + 1) _ _ _ rfl HE.out.2 Try.underlying70 rfl (by kernel_rfl)) rfl ?_
    exact ⟨(hb01.setCell (by simp) _).setCell (by simp) _, .inr ⟨HE.out.1, rfl⟩⟩

end Go.Proofs.Ytpkccpegdpodoaa

/- store: a store as it lies; long, Used, cell; what it holds; its roots. -/
namespace Go.Proofs.Ytpkccpegdpodoaa
open Go.RowKit Go.Maps

attribute [local go_sem ↓] Go.wp_at_zero Go.wp_at_succ

/-- a store at block p: its words, places, and what is held -/
structure SoL (w : World) (base : Nat) (F : Nat → Prop) (p : Nat) (ws : List U64) (pl : List Int) (hd : List Bool) (WA AA HA : Option Addr) (wc ac hc : Nat) : Prop where
  blk : Blk w p 191 #[.slice WA ws.length wc, .slice AA pl.length ac, .slice HA hd.length hc]
  words : Own w base 24 WA wc ws
  places : Own w base 3 AA ac pl
  helds : Own w base 4 HA hc hd
  foot : F p ∧ base ≤ p
  footW : ∀ g, rowOf WA = some g → F g
  footA : ∀ g, rowOf AA = some g → F g
  footH : ∀ g, rowOf HA = some g → F g
  okW : ∀ x ∈ ws, Flat.ok x
  okA : ∀ x ∈ pl, Flat.ok x
def So (w : World) (base : Nat) (F : Nat → Prop) (p : Nat) (ws : List U64) (pl : List Int) (hd : List Bool) : Prop := ∃ WA AA HA wc ac hc, SoL w base F p ws pl hd WA AA HA wc ac hc

section
variable {w w' : World} {base p : Nat} {F G : Nat → Prop} {ws : List U64} {pl : List Int} {hd : List Bool} {WA AA HA : Option Addr} {wc ac hc : Nat}
theorem SoL.keep (h : SoL w base F p ws pl hd WA AA HA wc ac hc) (hk : ∀ g, F g → g < w.heap.size → w'.heap[g]? = w.heap[g]?) : SoL w' base F p ws pl hd WA AA HA wc ac hc :=
  ⟨(hk p h.foot.1 h.blk.lt).trans h.blk, h.words.block_ fun g hg => hk g (h.footW g hg) (h.words.lt g hg).2, h.places.block_ fun g hg => hk g (h.footA g hg) (h.places.lt g hg).2,
    h.helds.block_ fun g hg => hk g (h.footH g hg) (h.helds.lt g hg).2, h.foot, h.footW, h.footA, h.footH, h.okW, h.okA⟩
theorem SoL.fresh (h : SoL w base F p ws pl hd WA AA HA wc ac hc) (hb : Below w.heap.size w w') : SoL w' base F p ws pl hd WA AA HA wc ac hc := h.keep fun g _ hg => hb.block g hg
theorem So.fresh (h : So w base F p ws pl hd) (hb : Below w.heap.size w w') : So w' base F p ws pl hd := by
  obtain ⟨WA, AA, HA, wc, ac, hc, h⟩ := h
  exact ⟨WA, AA, HA, wc, ac, hc, h.fresh hb⟩
theorem So.touch (h : So w base F p ws pl hd) (ht : Touch G w w') (hn : ∀ g, F g → ¬ G g) : So w' base F p ws pl hd := by
  obtain ⟨WA, AA, HA, wc, ac, hc, h⟩ := h
  exact ⟨WA, AA, HA, wc, ac, hc, h.keep fun g hg hl => ht.block g hl (hn g hg)⟩
theorem So.drewN (h : So w base F p ws pl hd) (n : Nat) : So (w.drewN n) base F p ws pl hd := by
  obtain ⟨WA, AA, HA, wc, ac, hc, h⟩ := h
  exact ⟨WA, AA, HA, wc, ac, hc, h.keep fun _ _ _ => rfl⟩
theorem So.mono (h : So w base F p ws pl hd) (hF : ∀ g, F g → G g) : So w base G p ws pl hd := by
  obtain ⟨WA, AA, HA, wc, ac, hc, h⟩ := h
  exact ⟨WA, AA, HA, wc, ac, hc, h.blk, h.words, h.places, h.helds, ⟨hF p h.foot.1, h.foot.2⟩, fun g hg => hF g (h.footW g hg), fun g hg => hF g (h.footA g hg), fun g hg => hF g (h.footH g hg), h.okW, h.okA⟩
theorem SoL.so (h : SoL w base F p ws pl hd WA AA HA wc ac hc) : So w base F p ws pl hd := ⟨WA, AA, HA, wc, ac, hc, h⟩
theorem SoL.atW (h : SoL w base F p ws pl hd WA AA HA wc ac hc) : At w w.heap.size WA ws := h.words.at_ h.okW
theorem SoL.atA (h : SoL w base F p ws pl hd WA AA HA wc ac hc) : At w w.heap.size AA pl := h.places.at_ h.okA
theorem SoL.atH (h : SoL w base F p ws pl hd WA AA HA wc ac hc) : At w w.heap.size HA hd := h.helds.at_ (fun _ _ => trivial)
/-- a word's cell -/
theorem SoL.word (h : SoL w base F p ws pl hd WA AA HA wc ac hc) {k : Nat} (hk : k < ws.length) : ∃ g, WA = some ⟨g, 0, none⟩ ∧ base ≤ g ∧ g < w.heap.size ∧ Flat.ok (Hau.wat ws k) ∧ w.cell? ⟨g, k, none⟩ = some (.int .u64 (Hau.wat ws k).val) := by
  obtain ⟨g, rfl, h1, h2⟩ := h.words.some_ (by omega)
  obtain ⟨x, hx⟩ : ∃ x, ws[k]? = some x := ⟨_, List.getElem?_eq_getElem hk⟩
  have e : Hau.wat ws k = x := by unfold Hau.wat; rw [List.getD_eq_getElem?_getD, hx]; rfl
  exact ⟨g, rfl, h1, h2, by rw [e]; exact h.okW x (List.mem_of_getElem? hx), by rw [e]; exact h.words.cell_u64 hx⟩
theorem SoL.place (h : SoL w base F p ws pl hd WA AA HA wc ac hc) {k : Nat} {x : Int} (hx : pl[k]? = some x) : ∃ g, AA = some ⟨g, 0, none⟩ ∧ base ≤ g ∧ g < w.heap.size ∧ w.cell? ⟨g, k, none⟩ = some (.int .i64 x) := by
  obtain ⟨g, rfl, h1, h2⟩ := h.places.some_ (by have := (List.getElem?_eq_some_iff.1 hx).1; omega)
  exact ⟨g, rfl, h1, h2, h.places.cell_int hx⟩
theorem SoL.held (h : SoL w base F p ws pl hd WA AA HA wc ac hc) {k : Nat} {x : Bool} (hx : hd[k]? = some x) : ∃ g, HA = some ⟨g, 0, none⟩ ∧ base ≤ g ∧ g < w.heap.size ∧ w.cell? ⟨g, k, none⟩ = some (.bool x) := by
  obtain ⟨g, rfl, h1, h2⟩ := h.helds.some_ (by have := (List.getElem?_eq_some_iff.1 hx).1; omega)
  exact ⟨g, rfl, h1, h2, h.helds.cell_bool hx⟩
end

set_option maxRecDepth 100000 in
theorem slong_any (w : World) (base p k : Nat) (F : Nat → Prop) (ws : List U64) (pl : List Int) (hd : List Bool) (h : So w base F p ws pl hd) (hk : k < ws.length) (_hl : ws.length ≤ 3000) :
    Calls Try.prog 142 #[.pointer (some ⟨p, 0, none⟩), .int .i64 k] w fun e w' => e = .returned (.int .i64 (Hau.lg (Hau.wat ws k))) ∧ w = w' := by
  obtain ⟨WA, AA, HA, wc, ac, hc, h⟩ := h
  obtain ⟨g, rfl, hg1, hg2, hok, hcell⟩ := h.word hk
  have c0 := h.blk.cell 0 (v := .slice (some ⟨g, 0, none⟩) ws.length wc) rfl
  obtain ⟨x, hx⟩ : ∃ x, Hau.wat ws k = x := ⟨_, rfl⟩
  rw [hx] at hok hcell
  rw [hx]
  obtain ⟨h0, h1⟩ : 0 ≤ x.val ∧ x.val ≤ 18446744073709551615 := hok
  have e1 : IntKind.u32.wrap x.val = x.val % 4294967296 := by rw [IntKind.wrap_u32]
  have e2 : IntKind.i64.wrap (x.val % 4294967296) = x.val % 4294967296 := IntWalk.i64_in _ (by omega)
  have e3 : x.val % 4294967296 = ((Hau.lg x : Nat) : Int) := by unfold Hau.lg; omega
  rw [e3] at e1 e2
  have k1 : (k : Int) < (ws.length : Int) := by omega
  clear h hx hk
  go_enter Try.func142, Try.ntmps142
  go_wp2_with fail
  go_returns
  exact ⟨rfl, rfl⟩

set_option maxRecDepth 100000 in
theorem sused_any (w : World) (base p : Nat) (F : Nat → Prop) (ws : List U64) (pl : List Int) (hd : List Bool) (h : So w base F p ws pl hd) :
    Calls Try.prog 73 #[.pointer (some ⟨p, 0, none⟩)] w fun e w' => e = .returned (.int .i64 ws.length) ∧ w = w' := by
  obtain ⟨WA, AA, HA, wc, ac, hc, h⟩ := h
  have c0 := h.blk.cell 0 (v := .slice WA ws.length wc) rfl
  clear h
  go_enter Try.func73, Try.ntmps73
  go_wp2_with fail
  go_returns
  exact ⟨rfl, rfl⟩

set_option maxRecDepth 100000 in
theorem snew_any (w : World) : Calls Try.prog 60 #[] w fun e w' => e = .returned (.pointer (some ⟨w.heap.size, 0, none⟩)) ∧ So w' w.heap.size (fun g => g = w.heap.size) w.heap.size [] [] [] ∧ Below w.heap.size w w' ∧ w'.heap.size = w.heap.size + 1 := by
  have H : So (w.alloc (.cells #[.slice none 0 0, .slice none 0 0, .slice none 0 0] 191)) w.heap.size (fun g => g = w.heap.size) w.heap.size [] [] [] :=
    ⟨none, none, none, 0, 0, 0, Blk.new _ _ _, Own.nil_, Own.nil_, Own.nil_, ⟨rfl, Nat.le_refl _⟩, (fun g hg => by cases hg), (fun g hg => by cases hg), (fun g hg => by cases hg), (by simp), (by simp)⟩
  have HH := Lib.hid H; clear H
  go_enter Try.func60, Try.ntmps60
  go_wp2_with fail
  go_returns
  exact ⟨rfl, HH.out, (Below.refl _ _).alloc (Nat.le_refl _) _, by simp⟩

/-- the first place at which x stands, or -1 -/
def idxS (l : List Int) (x : Int) : Int := if l.contains x then (l.findIdx (fun y => y == x) : Int) else -1
theorem idxS_hit (l : List Int) (k : Nat) (x : Int) (h : l[k]? = some x) (hno : (l.take k).contains x = false) : idxS l x = (k : Int) := by
  have hk : k < l.length := (List.getElem?_eq_some_iff.1 h).1
  have hf : l.findIdx (fun y => y == x) = k := by
    rw [List.findIdx_eq hk]
    refine ⟨by rw [List.getElem?_eq_getElem hk] at h; rw [Option.some.inj h]; simp, fun j hj => ?_⟩
    have hnm : x ∉ l.take k := fun hm => by rw [List.contains_iff_mem.2 hm] at hno; cases hno
    have : l[j] ≠ x := fun e => hnm (by rw [List.mem_take_iff_getElem]; exact ⟨j, by omega, e⟩)
    simpa using this
  unfold idxS
  rw [if_pos (List.contains_iff_mem.2 (List.mem_of_getElem? h)), hf]
theorem contains_snocS (l : List Int) (k : Nat) (x y : Int) (h : l[k]? = some y) (hn : (l.take k).contains x = false) (hxy : ¬ x = y) : (l.take (k + 1)).contains x = false := by
  rw [List.take_add_one, h, Option.toList_some]
  simp only [List.contains_eq_mem, List.mem_append, List.mem_singleton, decide_eq_false_iff_not] at hn ⊢
  rintro (h1 | h1)
  · exact hn h1
  · exact hxy h1

set_option maxHeartbeats 800000 in
set_option maxRecDepth 100000 in
theorem indexS_any (A : Option Addr) (c B n : Nat) (l : List Int) (x : Int) (w : World) (hn : l.length = n) (h : At w B A l) (hl : n ≤ 9223372036854775807) :
    Calls Try.prog 185 #[.slice A n c, .int .i64 x] w fun e w' => e = .returned (.int .i64 (idxS l x)) ∧ w = w' := by
  have H := Lib.hid (And.intro h hn); clear h hn
  go_enter Try.func185, Try.ntmps185
  go_wp2
  go_loopg [8] n (fun gk i wr => ∃ k : Nat, k ≤ n ∧ gk = n - k ∧ i = .int .i64 k ∧ Hid ((l.take k).contains x = false) ∧ w = wr)
  case atStart => exact ⟨0, Nat.zero_le _, rfl, rfl, by simp [Hid], rfl⟩
  case round =>
    obtain ⟨k, hk, rfl, rfl, hno, rfl⟩ := hrel
    by_cases hlt : k < n
    · obtain ⟨b, o, y, rfl, hb, hx, hox, h0⟩ := H.out.1.int_ (k := k) (by have := H.out.2; omega)
      have hk0 : (0 : Int) ≤ (k : Int) := by omega
      have hk1 : (k : Int) < (n : Int) := by omega
      by_cases hq : x = y
      · subst hq
        have HX := Lib.hid hx; clear hx
        go_wp2
        go_ret
        exact ⟨by rw [idxS_hit l k x HX.out hno.out]; rfl, rfl⟩
      · have d0 : (x == y) = false := by simpa using hq
        have d1 : (y == x) = false := by simpa using fun e : y = x => hq e.symm
        have HX := Lib.hid (And.intro hx (And.intro d1 hq)); clear hx d1 hq
        go_wp2
        go_roundg (n - (k + 1))
        case measure => omega
        case rel => exact ⟨k + 1, by omega, rfl, by go_num, by unfold Hid; exact contains_snocS _ _ _ _ HX.out.1 hno.out HX.out.2.2, rfl⟩
    · go_wp2
      go_ret
      exact ⟨by have h1 := hno.out; rw [List.take_of_length_le (by have := H.out.2; omega)] at h1; unfold idxS; rw [h1]; rfl, rfl⟩

set_option maxRecDepth 100000 in
theorem scell_any (w : World) (base p : Nat) (x : Int) (F : Nat → Prop) (ws : List U64) (pl : List Int) (hd : List Bool) (h : So w base F p ws pl hd) (hl : pl.length ≤ 1000) :
    Calls Try.prog 145 #[.pointer (some ⟨p, 0, none⟩), .int .i64 x] w fun e w' => e = .returned (.int .i64 (idxS pl x)) ∧ w = w' := by
  obtain ⟨WA, AA, HA, wc, ac, hc, h⟩ := h
  have c0 := h.blk.cell 1 (v := .slice AA pl.length ac) rfl
  have hi := indexS_any AA ac w.heap.size pl.length pl x w rfl h.atA (by omega)
  have HI := Lib.hid hi; clear hi h
  go_enter Try.func145, Try.ntmps145
  go_wp2_with fail
  refine HI.out.mono ?_
  rintro e w1 ⟨rfl, rfl⟩
  go_wp2_with fail
  go_returns
  exact ⟨rfl, rfl⟩

end Go.Proofs.Ytpkccpegdpodoaa

/- store: the roots. -/
namespace Go.Proofs.Ytpkccpegdpodoaa
open Go.RowKit Go.Maps

attribute [local go_sem ↓] Go.wp_at_zero Go.wp_at_succ

namespace Sto
theorem rootsFrom_snoc : ∀ (pl : List Int) (hd : List Bool) (k : Nat) (x : Int) (b : Bool), pl[k]? = some x → hd[k]? = some b → rootsFrom pl (hd.take (k + 1)) = rootsFrom pl (hd.take k) ++ if b = true then [Hau.refW x.toNat] else []
  | [], hd, k, x, b, h, _ => by simp at h
  | y :: pl, [], k, x, b, _, h => by simp at h
  | y :: pl, c :: hd, 0, x, b, h1, h2 => by
    simp at h1 h2
    subst h1 h2
    cases pl <;> simp [rootsFrom]
  | y :: pl, c :: hd, k + 1, x, b, h1, h2 => by
    have ih := rootsFrom_snoc pl hd k x b (by simpa using h1) (by simpa using h2)
    rw [List.take_succ_cons, List.take_succ_cons]
    unfold rootsFrom
    rw [ih]
    split <;> simp
end Sto

set_option maxHeartbeats 1600000 in
set_option maxRecDepth 100000 in
theorem sroots_any (w : World) (base p : Nat) (F : Nat → Prop) (ws : List U64) (pl : List Int) (hd : List Bool) (h : So w base F p ws pl hd) (hlen : hd.length = pl.length) (hsm : pl.length ≤ 1000)
    (hp : ∀ (n : Nat) (x : Int), hd[n]? = some true → pl[n]? = some x → 0 ≤ x ∧ x < 4294967296) :
    Calls Try.prog 146 #[.pointer (some ⟨p, 0, none⟩)] w fun e w' => ∃ OA c, e = .returned (.slice OA (Sto.rootsFrom pl hd).length c) ∧ Own w' w.heap.size 24 OA c (Sto.rootsFrom pl hd) ∧ (∀ x ∈ Sto.rootsFrom pl hd, Flat.ok x) ∧ Below w.heap.size w w' := by
  have hok : ∀ x ∈ Sto.rootsFrom pl hd, Flat.ok x := by
    intro x hx
    obtain ⟨n, y, _, _, rfl⟩ := Sto.mem_rootsFrom.1 hx
    exact Hau.refW_flat _
  obtain ⟨i0, hi, hz0, hz1, hz2⟩ := info_partsH infoU64H
  obtain ⟨WA, AA, HA, wc, ac, hc, h⟩ := h
  have c2 := h.blk.cell 2 (v := .slice HA hd.length hc) rfl
  obtain ⟨n, hn⟩ : ∃ n, hd.length = n := ⟨_, rfl⟩
  have hpn : pl.length = n := by omega
  rw [hn] at c2
  have H := Lib.hid (And.intro h (And.intro hp (And.intro hok (And.intro hn hpn)))); clear h hp hok hlen hn
  go_enter Try.func146, Try.ntmps146
  go_wp2_with fail
  clear c2
  go_loopg [3, 13] n (fun gk ov iv wr => ∃ (k : Nat) (OA : Option Addr) (c : Nat) (o : List U64), k ≤ n ∧ gk = n - k ∧ iv = .int .i64 k ∧ ov = .slice OA o.length c ∧ o.length ≤ k ∧ Hid (o = Sto.rootsFrom pl (hd.take k) ∧ Own wr w.heap.size 24 OA c o) ∧ Below w.heap.size w wr)
  case atStart => exact ⟨0, none, 0, [], Nat.zero_le _, rfl, rfl, rfl, Nat.zero_le _, ⟨by cases pl <;> simp [Sto.rootsFrom], Own.nil_⟩, Below.refl _ _⟩
  case round =>
    obtain ⟨k, OA, c, o, hk, rfl, rfl, rfl, hol, hkeep, hbl⟩ := hrel
    have hsz := hbl.size
    have hS := H.out.1.fresh hbl
    by_cases hlt : k < n
    · obtain ⟨b, hb⟩ : ∃ b, hd[k]? = some b := ⟨_, List.getElem?_eq_getElem (by have := H.out.2.2.2.1; omega)⟩
      obtain ⟨x, hx⟩ : ∃ x, pl[k]? = some x := ⟨_, List.getElem?_eq_getElem (by have := H.out.2.2.2.2; omega)⟩
      obtain ⟨g, rfl, hg1, hg2, h0⟩ := hS.held hb
      obtain ⟨ga, rfl, hga1, hga2, h1⟩ := hS.place hx
      have k1 : (k : Int) < (n : Int) := by omega
      have hsn := Sto.rootsFrom_snoc pl hd k x b hx hb
      have a1 := hS.blk.cell 1 (v := .slice (some ⟨ga, 0, none⟩) pl.length ac) rfl
      have k2 : (k : Int) < (pl.length : Int) := by omega
      cases b with
      | false =>
        have HX := Lib.hid hsn; clear hsn hb hx hS
        go_wp2_with fail
        go_roundg (n - (k + 1))
        case measure => omega
        case rel => exact ⟨k + 1, OA, c, o, by omega, rfl, by go_num, rfl, by omega, ⟨by rw [HX.out, hkeep.out.1]; simp, hkeep.out.2⟩, hbl⟩
      | true =>
        obtain ⟨q1, q2⟩ := H.out.2.1 k x hb hx
        obtain ⟨q, rfl⟩ : ∃ q : Nat, x = (q : Int) := ⟨x.toNat, by omega⟩
        have hi64 : I64 (q : Int) := by unfold I64; omega
        have HX := Lib.hid (And.intro hsn hi64); clear hsn hb hx hS hi64
        go_wp2_with fail
        refine (box_any 5 (q : Int) wr (by unfold I64; omega) HX.out.2).mono ?_
        rintro e w2 ⟨rfl, hb2⟩
        have hs2 := hb2.size
        have hbl2 : Below w.heap.size w w2 := hbl.trans (hb2.mono hsz)
        have hown2 : Own w2 w.heap.size 24 OA c o := hkeep.out.2.fresh hb2
        have hrv : (boxL 5 (q : Int)).1 = (Hau.refW q).val := rfl
        rw [hrv]
        have HO := Lib.hid hown2; clear hown2 hrv
        obtain ⟨ev, hev⟩ : ∃ v, (boxL 5 (q : Int)).2 = v := ⟨_, rfl⟩
        rw [hev]
        clear h0 h1 a1
        go_wp2_with (at_builtin; go_must (refine wpList_app (α := U64) (n := o.length) (m := 1) (B := w2.heap.size + 1) (r := [Hau.refW q]) rfl (.tmp 31) (.tmp 33) _ rfl w.heap.size 24 i0 _ 8 Try.underlying39 hi hz0 hz1 hz2 rfl (by decide) u64_oneH (by rfl) rfl (HO.out.alloc _) (by rfl) ?_ rfl (by omega) (by simp only [maxLen]; omega) (by simp; omega) ?_))
        · exact At.built w2 #[.int .u64 (Hau.refW q).val] 24 [Hau.refW q] rfl (by intro u hu; simp at hu; subst hu; exact Hau.refW_flat _)
        intro A2 c2 w3 hown3 hgr3 hat3
        have hbl3 : Below w.heap.size w w3 := (hbl2.alloc (by omega) _).grown hgr3 (by simp; omega) (fun g hg => (HO.out.lt g hg).1)
        have HO3 := Lib.hid hown3; clear hown3 hgr3 hat3
        go_wp2_with fail
        go_roundg (n - (k + 1))
        case measure => omega
        case rel => exact ⟨k + 1, A2, c2, o ++ [Hau.refW q], by omega, rfl, by go_num, by simp, by simp; omega, ⟨by rw [HX.out.1, hkeep.out.1]; simp, HO3.out⟩, hbl3⟩
    · obtain rfl : k = n := by omega
      have hfin := hkeep.out
      rw [List.take_of_length_le (by have := H.out.2.2.2.1; omega)] at hfin
      have HF := Lib.hid hfin; clear hfin hkeep
      go_wp2_with fail
      go_returns
      exact ⟨OA, c, by rw [← HF.out.1]; rfl, by rw [← HF.out.1]; exact HF.out.2, H.out.2.2.1, hbl⟩

end Go.Proofs.Ytpkccpegdpodoaa

/- store: the needed cells' places. -/
namespace Go.Proofs.Ytpkccpegdpodoaa
open Go.RowKit Go.Maps

attribute [local go_sem ↓] Go.wp_at_zero Go.wp_at_succ

theorem Hau.mv_take (ws : List U64) (F : List Nat) (k : Nat) (hk : k ≤ F.length) : Hau.mv ws (F.take k) = (Hau.mv ws F).take k := by
  have e : Hau.mv ws F = Hau.mv ws (F.take k) ++ (Hau.cum ws (0 + ((F.take k).map (Hau.sz ws)).sum) (F.drop k)).map fun m => ((m.1 : Int), (m.2 : Int)) := by
    conv => lhs; rw [← List.take_append_drop k F]
    unfold Hau.mv
    rw [Hau.cum_append, List.map_append]
  rw [e, List.take_left' (by rw [Hau.mv_length, List.length_take]; omega)]
theorem Hau.mv_get {ws : List U64} {F : List Nat} {k q : Nat} (h : F[k]? = some q) : (Hau.mv ws F)[k]? = some (((((F.take k).map (Hau.sz ws)).sum : Nat) : Int), (q : Int)) := by
  have hk := (List.getElem?_eq_some_iff.1 h).1
  have e1 := Hau.mv_take ws F (k + 1) hk
  rw [take_snocH F k q h, Hau.mv_snoc] at e1
  have e2 : ((Hau.mv ws F).take (k + 1))[k]? = (Hau.mv ws F)[k]? := by rw [List.getElem?_take, if_pos (by omega)]
  rw [← e2, ← e1, List.getElem?_append_right (by rw [Hau.mv_length, List.length_take]; omega), Hau.mv_length, List.length_take, show k - min k F.length = 0 by omega]
  rfl
theorem Hau.sum_take_le (f : Nat → Nat) : ∀ (F : List Nat) (k : Nat), ((F.take k).map f).sum ≤ (F.map f).sum
  | [], k => by simp
  | x :: F, 0 => by simp
  | x :: F, k + 1 => by
    rw [List.take_succ_cons, List.map_cons, List.map_cons, List.sum_cons, List.sum_cons]
    have := Hau.sum_take_le f F k
    omega

/-- what is told, in bounds -/
structure TB (ws roots : List U64) : Prop where
  err : Hau.heapErr ⟨ws, roots⟩ = 0
  nod : (Hau.told ws roots).Nodup
  lt : ∀ q ∈ Hau.told ws roots, q + Hau.sz ws q ≤ ws.length
  sum : ((Hau.told ws roots).map (Hau.sz ws)).sum ≤ ws.length
  many : (Hau.told ws roots).length ≤ ws.length
  small : ws.length ≤ 2000
theorem TB.of {ws roots : List U64} (h : Hau.heapErr ⟨ws, roots⟩ = 0) : TB ws roots := by
  have h0 := h
  unfold Hau.heapErr at h
  split at h
  · cases h
  rename_i hs
  split at h
  · cases h
  rename_i hok
  split at h
  · cases h
  rename_i hw
  split at h
  · cases h
  rename_i hr
  have hok' : Hau.okW ws = true := by simpa using hok
  obtain ⟨h1, h2, -, -⟩ := Sto.told_closed hok' (by simpa using hw) (by simpa using hr)
  have hl := Hau.len_le hok' h1 h2
  refine ⟨h0, h1, fun q hq => (Hau.places_spec hok').1 q (h2 q hq), hl.1, by omega, by simp only at hs; omega⟩
theorem TB.plt {ws roots : List U64} (h : TB ws roots) {q : Nat} (hq : q ∈ Hau.told ws roots) : q < ws.length := by
  have := h.lt q hq
  have := Hau.sz_pos ws q
  omega
theorem TB.mvok {ws roots : List U64} (h : TB ws roots) : ∀ m ∈ Hau.mv ws (Hau.told ws roots), Flat.ok m := by
  intro m hm
  obtain ⟨k, hk⟩ := List.mem_iff_getElem?.1 hm
  have hkl : k < (Hau.told ws roots).length := by have := (List.getElem?_eq_some_iff.1 hk).1; rwa [Hau.mv_length] at this
  obtain ⟨q, hq⟩ : ∃ q, (Hau.told ws roots)[k]? = some q := ⟨_, List.getElem?_eq_getElem hkl⟩
  rw [Hau.mv_get hq] at hk
  injection hk with hk
  subst hk
  have h1 := Hau.sum_take_le (Hau.sz ws) (Hau.told ws roots) k
  have h2 := h.sum
  have h3 := h.small
  have h4 := h.plt (List.mem_of_getElem? hq)
  show I64 _ ∧ I64 _
  simp only
  unfold I64
  omega

/-- haul.Collect of a store's words -/
theorem scol_any (w : World) (base p b2 oc : Nat) (F : Nat → Prop) (ws roots : List U64) (pl : List Int) (hd : List Bool) (WA AA HA OA : Option Addr) (wc ac hc : Nat) (h : SoL w base F p ws pl hd WA AA HA wc ac hc) (ho : Own w b2 24 OA oc roots) (hro : ∀ x ∈ roots, Flat.ok x) (htb : TB ws roots) :
    Calls Try.prog 39 #[.agg #[.slice WA ws.length wc, .slice OA roots.length oc]] w fun e w' => ∃ (TA : Option Addr) (tc : Nat) (RA : Option Addr) (rc : Nat) (LA : Option Addr) (lc : Nat), e = .returned (.tuple #[.agg #[.slice TA (Hau.newWords ws roots).length tc, .slice RA (Hau.newRoots ws roots).length rc], .slice LA (Hau.told ws roots).length lc, .int .i64 0]) ∧
      Own w' w.heap.size 24 TA tc (Hau.newWords ws roots) ∧ Own w' w.heap.size 82 LA lc (Hau.mv ws (Hau.told ws roots)) ∧ Below w.heap.size w w' := by
  have hcap : ws.length ≤ wc := h.words.le_cap.1
  refine (hcollect_any w.heap.size wc oc WA OA ws roots w ⟨h.atW, ho.at_ hro⟩ (Nat.le_refl _) hcap).mono ?_
  rintro e w' ⟨hb, hh⟩
  rw [htb.err] at hh
  rcases hh with ⟨_, TA, tc, RA, rc, LA, lc, rfl, h1, h2, h3⟩ | ⟨hne, -⟩
  · exact ⟨TA, tc, RA, rc, LA, lc, rfl, h1, h3, hb⟩
  · exact absurd rfl hne

theorem At.pairS {w : World} {B : Nat} {A : Option Addr} {l : List (Int × Int)} {k : Nat} {x : Int × Int} (h : At w B A l) (hx : l[k]? = some x) :
    ∃ b o, A = some ⟨b, o, none⟩ ∧ b < B ∧ I64 x.1 ∧ I64 x.2 ∧ w.cell? ⟨b, o + k * 2, none⟩ = some (.int .i64 x.1) ∧ w.cell? ⟨b, o + k * 2 + 1, none⟩ = some (.int .i64 x.2) := by
  obtain ⟨b, o, cs, rfl, hb, hc, rfl, h1, h2⟩ := h k x hx
  have h0 := hc 0 _ rfl
  have h1' := hc 1 _ rfl
  simp only [Enc.sz, Flat.sz, Nat.add_zero] at h0 h1'
  exact ⟨b, o, rfl, hb, h1, h2, h0, h1'⟩

/-- a map whose keys are the needed cells' places -/
def NdMap (w : World) (M N : Nat) (l : List Nat) : Prop := w.ownsMap Try.prog 3 unitElem M N (setI (ints l))

set_option maxHeartbeats 3200000 in
set_option maxRecDepth 100000 in
theorem sneeded_any (w : World) (base p : Nat) (F : Nat → Prop) (ws : List U64) (pl : List Int) (hd : List Bool) (h : So w base F p ws pl hd) (hlen : hd.length = pl.length) (hsm : pl.length ≤ 1000)
    (hp : ∀ (n : Nat) (x : Int), hd[n]? = some true → pl[n]? = some x → 0 ≤ x ∧ x < 4294967296) (htb : TB ws (Sto.rootsFrom pl hd)) :
    Calls Try.prog 182 #[.pointer (some ⟨p, 0, none⟩)] w fun e w' => ∃ M, e = .returned (.map (some M)) ∧ w.heap.size ≤ M ∧ NdMap w' M (Hau.told ws (Sto.rootsFrom pl hd)).length (Hau.told ws (Sto.rootsFrom pl hd)) ∧ Below w.heap.size w w' := by
  have hroots := fun V (hV : So V base F p ws pl hd) => sroots_any V base p F ws pl hd hV hlen hsm hp
  obtain ⟨rt, hrt⟩ : ∃ r, Sto.rootsFrom pl hd = r := ⟨_, rfl⟩
  rw [hrt] at hroots htb
  rw [hrt]
  obtain ⟨WA, AA, HA, wc, ac, hc, h⟩ := h
  obtain ⟨L, hL⟩ : ∃ l, Hau.told ws rt = l := ⟨_, rfl⟩
  have hmany := htb.many
  have hws := htb.small
  rw [hL] at hmany
  obtain ⟨n, hn⟩ : ∃ n, L.length = n := ⟨_, rfl⟩
  rw [hn] at hmany
  have hcol := fun V hV OA oc b2 ho hro => scol_any V base p b2 oc F ws rt pl hd WA AA HA OA wc ac hc hV ho hro htb
  have hml : (Hau.mv ws L).length = n := by rw [Hau.mv_length, hn]
  have hmok := htb.mvok
  have hplt : ∀ q ∈ L, q < ws.length := fun q hq => htb.plt (by rw [hL]; exact hq)
  rw [hL] at hcol hmok
  rw [hn] at hcol
  have H := Lib.hid (And.intro h (And.intro hroots (And.intro hcol (And.intro hn (And.intro hml (And.intro hmok hplt)))))); clear h hroots hcol hml hmok hplt hp hlen hrt htb
  rw [hL, hn]
  clear hL hn
  have hmm := @run_makeMap Try.prog
  go_enter Try.func182, Try.ntmps182
  go_upto_region 2 with fail
  clear hmm
  refine wp_world (fun W => W.ownsMap Try.prog 3 unitElem w.heap.size 0 (setI []) ∧ Below w.heap.size w W ∧ W.heap.size = w.heap.size + 1) ⟨World.ownsMap_made _ _ _ _, (Below.refl _ _).alloc (Nat.le_refl _) _, by simp⟩ ?_
  rintro W ⟨hM, hb0, hs0⟩
  have hSW := H.out.1.fresh hb0
  have HM := Lib.hid hM; clear hM
  go_cut [4, 5, 6] from 10 to 22 (fun v4 v5 v6 W2 => ∃ (LA : Option Addr) (lc : Nat), v5 = .slice LA n lc ∧ Hid (Own W2 W.heap.size 82 LA lc (Hau.mv ws L)) ∧ Below W.heap.size W W2)
  case first =>
    have BX : Below W.heap.size W W.drew := (Below.refl _ _).drew
    refine wp_region_held_drew (S := (fun w' => w'.cell? ⟨p, 0, none⟩ = some (.slice WA ws.length wc))) (by kernel_rfl) ?_ (fun hHeld0 => ?_)
    · first | trivial | ((try dsimp only); (first | exact (hSW.fresh BX).blk.cell 0 rfl | exact (hSW.fresh (BX.alloc BX.size _)).blk.cell 0 rfl | exact (hSW.fresh ((BX.setCell (p := ⟨_, 0, none⟩) hgt _).setCell (p := ⟨_, 1, none⟩) hgt _)).blk.cell 0 rfl))
    refine held_take (v := ?_) 0 rfl (by kernel_rfl) (by kernel_rfl) (by kernel_rfl) (fun _ _ _ h => h) (by rfl) ?_ (by assumption) ?_
    rotate_left
    · (intro w hSw; (try dsimp only at hSw); go_simp; try with_reducible rfl)
    try simp only [Act.put, List.setIfInBounds_toArray, List.set_cons_zero, List.set_cons_succ]
    refine held_take (v := ?_) 1 rfl (by kernel_rfl) (by kernel_rfl) (by kernel_rfl) (fun _ _ _ h => h) (by rfl) ?_ (by assumption) ?_
    rotate_left
    · (intro w hSw; (try dsimp only at hSw); go_simp; try with_reducible rfl)
    try simp only [Act.put, List.setIfInBounds_toArray, List.set_cons_zero, List.set_cons_succ]
    refine held_take (v := ?_) 2 rfl (by kernel_rfl) (by kernel_rfl) (by kernel_rfl) (fun _ _ _ h => h) (by rfl) ?_ (by assumption) ?_
    rotate_left
    · (intro w hSw; (try dsimp only at hSw); go_simp; try with_reducible rfl)
    try simp only [Act.put, List.setIfInBounds_toArray, List.set_cons_zero, List.set_cons_succ]
    refine held_take (v := ?_) 3 rfl (by kernel_rfl) (by kernel_rfl) (by kernel_rfl) (fun _ _ _ h => h) (by rfl) ?_ (by assumption) ?_
    rotate_left
    · (intro w hSw; (try dsimp only at hSw); go_simp; try with_reducible rfl)
    try simp only [Act.put, List.setIfInBounds_toArray, List.set_cons_zero, List.set_cons_succ]
    refine held_take (v := ?_) 4 rfl (by kernel_rfl) (by kernel_rfl) (by kernel_rfl) (fun _ _ _ h => h) (by rfl) ?_ (by assumption) ?_
    rotate_left
    · (intro w hSw; (try dsimp only at hSw); go_simp; try with_reducible rfl)
    try simp only [Act.put, List.setIfInBounds_toArray, List.set_cons_zero, List.set_cons_succ]
    refine held_call2 5 12 (by kernel_rfl) rfl rfl (fun K hK => ?_) (fun K hK => ?_)
    · go_simp
      go_at_call 146; refine (H.out.2.1 _ (hSW.fresh BX).so).mono ?_; rintro e wA ⟨OA, oc, rfl, hoA, hrA, hbA⟩; have BY := BX.trans (hbA.mono BX.size); clear BX; have BX := BY; clear BY
      try (go_wp2_with fail)
      refine hK.out _ _ ?_ (fun hHeld1 => ?_)
      · first | trivial | ((try dsimp only); (first | exact (hSW.fresh BX).blk.cell 0 rfl | exact (hSW.fresh (BX.alloc BX.size _)).blk.cell 0 rfl | exact (hSW.fresh ((BX.setCell (p := ⟨_, 0, none⟩) hgt _).setCell (p := ⟨_, 1, none⟩) hgt _)).blk.cell 0 rfl))
      clear hK K hHeld0
      try simp only [Act.put, List.setIfInBounds_toArray, List.set_cons_zero, List.set_cons_succ]
      refine held_take (v := ?_) 6 rfl (by kernel_rfl) (by kernel_rfl) (by kernel_rfl) (fun _ _ _ h => h) (by rfl) ?_ (by assumption) ?_
      rotate_left
      · (intro w hSw; (try dsimp only at hSw); go_simp; try with_reducible rfl)
      try simp only [Act.put, List.setIfInBounds_toArray, List.set_cons_zero, List.set_cons_succ]
      refine held_call2 7 12 (by kernel_rfl) rfl rfl (fun K hK => ?_) (fun K hK => ?_)
      · go_simp
        have hSA : W.heap.size ≤ wA.heap.size := BX.size; have hbA2 := hbA; go_at_call 39; refine (H.out.2.2.1 _ (hSW.fresh BX) OA oc _ hoA hrA).mono ?_; rintro e wB ⟨TA, tc, RA, rc, LA, lc, rfl, hoT, hoL, hbB⟩; have BY := BX.trans (hbB.mono BX.size); clear BX; have BX := BY; clear BY
        try (go_wp2_with fail)
        refine hK.out _ _ ?_ (fun hHeld2 => ?_)
        · first | trivial | ((try dsimp only); (first | exact (hSW.fresh BX).blk.cell 0 rfl | exact (hSW.fresh (BX.alloc BX.size _)).blk.cell 0 rfl | exact (hSW.fresh ((BX.setCell (p := ⟨_, 0, none⟩) hgt _).setCell (p := ⟨_, 1, none⟩) hgt _)).blk.cell 0 rfl))
        clear hK K hHeld1
        try simp only [Act.put, List.setIfInBounds_toArray, List.set_cons_zero, List.set_cons_succ]
        refine held_take (v := ?_) 8 rfl (by kernel_rfl) (by kernel_rfl) (by kernel_rfl) (fun _ _ _ h => h) (by rfl) ?_ (by assumption) ?_
        rotate_left
        · (intro w hSw; (try dsimp only at hSw); go_simp; try with_reducible rfl)
        try simp only [Act.put, List.setIfInBounds_toArray, List.set_cons_zero, List.set_cons_succ]
        refine held_take (v := ?_) 9 rfl (by kernel_rfl) (by kernel_rfl) (by kernel_rfl) (fun _ _ _ h => h) (by rfl) ?_ (by assumption) ?_
        rotate_left
        · (intro w hSw; (try dsimp only at hSw); go_simp; try with_reducible rfl)
        try simp only [Act.put, List.setIfInBounds_toArray, List.set_cons_zero, List.set_cons_succ]
        refine held_take (v := ?_) 10 rfl (by kernel_rfl) (by kernel_rfl) (by kernel_rfl) (fun _ _ _ h => h) (by rfl) ?_ (by assumption) ?_
        rotate_left
        · (intro w hSw; (try dsimp only at hSw); go_simp; try with_reducible rfl)
        try simp only [Act.put, List.setIfInBounds_toArray, List.set_cons_zero, List.set_cons_succ]
        refine held_take (v := ?_) 11 rfl (by kernel_rfl) (by kernel_rfl) (by kernel_rfl) (fun _ _ _ h => h) (by rfl) ?_ (by assumption) ?_
        rotate_left
        · (intro w hSw; (try dsimp only at hSw); go_simp; try with_reducible rfl)
        try simp only [Act.put, List.setIfInBounds_toArray, List.set_cons_zero, List.set_cons_succ]
        refine held_call 12 (by kernel_rfl) rfl (fun K hK => ?_)
        go_simp
        refine hK.out _ _ ?_ (fun hHeld3 => ?_)
        · first | trivial | ((try dsimp only); (first | exact (hSW.fresh BX).blk.cell 0 rfl | exact (hSW.fresh (BX.alloc BX.size _)).blk.cell 0 rfl | exact (hSW.fresh ((BX.setCell (p := ⟨_, 0, none⟩) hgt _).setCell (p := ⟨_, 1, none⟩) hgt _)).blk.cell 0 rfl))
        clear hK K hHeld2
        try simp only [Act.put, List.setIfInBounds_toArray, List.set_cons_zero, List.set_cons_succ]
        refine held_call 13 (by kernel_rfl) rfl (fun K hK => ?_)
        go_simp
        refine hK.out _ _ ?_ (fun hHeld4 => ?_)
        · first | trivial | ((try dsimp only); (first | exact (hSW.fresh BX).blk.cell 0 rfl | exact (hSW.fresh (BX.alloc BX.size _)).blk.cell 0 rfl | exact (hSW.fresh ((BX.setCell (p := ⟨_, 0, none⟩) hgt _).setCell (p := ⟨_, 1, none⟩) hgt _)).blk.cell 0 rfl))
        clear hK K hHeld3
        try simp only [Act.put, List.setIfInBounds_toArray, List.set_cons_zero, List.set_cons_succ]
        refine held_take (v := ?_) 14 rfl (by kernel_rfl) (by kernel_rfl) (by kernel_rfl) (fun _ _ _ h => h) (by rfl) ?_ (by assumption) ?_
        rotate_left
        · (intro w hSw; (try dsimp only at hSw); go_simp; try with_reducible rfl)
        try simp only [Act.put, List.setIfInBounds_toArray, List.set_cons_zero, List.set_cons_succ]
        refine held_take (v := ?_) 15 rfl (by kernel_rfl) (by kernel_rfl) (by kernel_rfl) (fun _ _ _ h => h) (by rfl) ?_ (by assumption) ?_
        rotate_left
        · (intro w hSw; (try dsimp only at hSw); go_simp; try with_reducible rfl)
        try simp only [Act.put, List.setIfInBounds_toArray, List.set_cons_zero, List.set_cons_succ]
        refine wpAnyH_done (by kernel_rfl) ?_ _
        go_wp2_with fail
        go_meet
        exact ⟨LA, lc, rfl, by unfold Hid; exact (hoL.alloc _).base_le hSA, BX.alloc BX.size _⟩
      · go_simp
        refine hK.out _ _ ?_ (fun hHeld2 => ?_)
        · first | trivial | ((try dsimp only); (first | exact (hSW.fresh BX).blk.cell 0 rfl | exact (hSW.fresh (BX.alloc BX.size _)).blk.cell 0 rfl | exact (hSW.fresh ((BX.setCell (p := ⟨_, 0, none⟩) hgt _).setCell (p := ⟨_, 1, none⟩) hgt _)).blk.cell 0 rfl))
        clear hK K hHeld1
        try simp only [Act.put, List.setIfInBounds_toArray, List.set_cons_zero, List.set_cons_succ]
        refine held_call 7 (by kernel_rfl) rfl (fun K hK => ?_)
        go_simp
        have hgt : W.heap.size ≤ wA.heap.size := BX.size; go_at_call 39; refine (H.out.2.2.1 _ (hSW.fresh (BX.alloc BX.size _)) OA oc _ (hoA.alloc _) hrA).mono ?_; rintro e wB ⟨TA, tc, RA, rc, LA, lc, rfl, hoT, hoL, hbB⟩; have BY := (BX.alloc BX.size _).trans (hbB.mono (BX.alloc BX.size _).size); clear BX; have BX := BY; clear BY; have hlt0 : wA.heap.size < (wA.alloc (.cells #[.slice none 0 0, .slice none 0 0] 70)).heap.size := (by simp); have hN : Blk wB wA.heap.size 70 #[.slice none 0 0, .slice none 0 0] := (Blk.new wA _ _).fresh hbB; have n0 := hN.cell 0 (v := .slice none 0 0) rfl; have n1 := hN.cell 1 (v := .slice none 0 0) rfl; have z0 := hN.frozen 0; have z1 := hN.frozen 1
        try (go_wp2_with fail)
        refine hK.out _ _ ?_ (fun hHeld3 => ?_)
        · first | trivial | ((try dsimp only); (first | exact (hSW.fresh BX).blk.cell 0 rfl | exact (hSW.fresh (BX.alloc BX.size _)).blk.cell 0 rfl | exact (hSW.fresh ((BX.setCell (p := ⟨_, 0, none⟩) hgt _).setCell (p := ⟨_, 1, none⟩) hgt _)).blk.cell 0 rfl))
        clear hK K hHeld2
        try simp only [Act.put, List.setIfInBounds_toArray, List.set_cons_zero, List.set_cons_succ]
        refine held_take (v := ?_) 8 rfl (by kernel_rfl) (by kernel_rfl) (by kernel_rfl) (fun _ _ _ h => h) (by rfl) ?_ (by assumption) ?_
        rotate_left
        · (intro w hSw; (try dsimp only at hSw); go_simp; try with_reducible rfl)
        try simp only [Act.put, List.setIfInBounds_toArray, List.set_cons_zero, List.set_cons_succ]
        refine held_take (v := ?_) 9 rfl (by kernel_rfl) (by kernel_rfl) (by kernel_rfl) (fun _ _ _ h => h) (by rfl) ?_ (by assumption) ?_
        rotate_left
        · (intro w hSw; (try dsimp only at hSw); go_simp; try with_reducible rfl)
        try simp only [Act.put, List.setIfInBounds_toArray, List.set_cons_zero, List.set_cons_succ]
        refine held_take (v := ?_) 10 rfl (by kernel_rfl) (by kernel_rfl) (by kernel_rfl) (fun _ _ _ h => h) (by rfl) ?_ (by assumption) ?_
        rotate_left
        · (intro w hSw; (try dsimp only at hSw); go_simp; try with_reducible rfl)
        try simp only [Act.put, List.setIfInBounds_toArray, List.set_cons_zero, List.set_cons_succ]
        refine held_take (v := ?_) 11 rfl (by kernel_rfl) (by kernel_rfl) (by kernel_rfl) (fun _ _ _ h => h) (by rfl) ?_ (by assumption) ?_
        rotate_left
        · (intro w hSw; (try dsimp only at hSw); go_simp; try with_reducible rfl)
        try simp only [Act.put, List.setIfInBounds_toArray, List.set_cons_zero, List.set_cons_succ]
        refine held_call 13 (by kernel_rfl) rfl (fun K hK => ?_)
        go_simp
        refine hK.out _ _ ?_ (fun hHeld4 => ?_)
        · first | trivial | ((try dsimp only); (first | exact (hSW.fresh BX).blk.cell 0 rfl | exact (hSW.fresh (BX.alloc BX.size _)).blk.cell 0 rfl | exact (hSW.fresh ((BX.setCell (p := ⟨_, 0, none⟩) hgt _).setCell (p := ⟨_, 1, none⟩) hgt _)).blk.cell 0 rfl))
        clear hK K hHeld3
        try simp only [Act.put, List.setIfInBounds_toArray, List.set_cons_zero, List.set_cons_succ]
        refine held_take (v := ?_) 14 rfl (by kernel_rfl) (by kernel_rfl) (by kernel_rfl) (fun _ _ _ h => h) (by rfl) ?_ (by assumption) ?_
        rotate_left
        · (intro w hSw; (try dsimp only at hSw); go_simp; try with_reducible rfl)
        try simp only [Act.put, List.setIfInBounds_toArray, List.set_cons_zero, List.set_cons_succ]
        refine held_take (v := ?_) 15 rfl (by kernel_rfl) (by kernel_rfl) (by kernel_rfl) (fun _ _ _ h => h) (by rfl) ?_ (by assumption) ?_
        rotate_left
        · (intro w hSw; (try dsimp only at hSw); go_simp; try with_reducible rfl)
        try simp only [Act.put, List.setIfInBounds_toArray, List.set_cons_zero, List.set_cons_succ]
        refine wpAnyH_done (by kernel_rfl) ?_ _
        go_wp2_with fail
        go_meet
        exact ⟨LA, lc, rfl, by unfold Hid; exact (own_two hoL hlt0).base_le (by omega), (BX.setCell (p := ⟨_, 0, none⟩) hgt _).setCell (p := ⟨_, 1, none⟩) hgt _⟩
    · go_simp
      refine hK.out _ _ ?_ (fun hHeld1 => ?_)
      · first | trivial | ((try dsimp only); (first | exact (hSW.fresh BX).blk.cell 0 rfl | exact (hSW.fresh (BX.alloc BX.size _)).blk.cell 0 rfl | exact (hSW.fresh ((BX.setCell (p := ⟨_, 0, none⟩) hgt _).setCell (p := ⟨_, 1, none⟩) hgt _)).blk.cell 0 rfl))
      clear hK K hHeld0
      try simp only [Act.put, List.setIfInBounds_toArray, List.set_cons_zero, List.set_cons_succ]
      refine held_call 5 (by kernel_rfl) rfl (fun K hK => ?_)
      go_simp
      go_at_call 146; refine (H.out.2.1 _ (hSW.fresh (BX.alloc BX.size _)).so).mono ?_; rintro e wA ⟨OA, oc, rfl, hoA, hrA, hbA⟩; have BY := (BX.alloc BX.size _).trans (hbA.mono (BX.alloc BX.size _).size); have hgs := hbA.size; clear BX; have BX := BY; clear BY
      try (go_wp2_with fail)
      refine hK.out _ _ ?_ (fun hHeld2 => ?_)
      · first | trivial | ((try dsimp only); (first | exact (hSW.fresh BX).blk.cell 0 rfl | exact (hSW.fresh (BX.alloc BX.size _)).blk.cell 0 rfl | exact (hSW.fresh ((BX.setCell (p := ⟨_, 0, none⟩) hgt _).setCell (p := ⟨_, 1, none⟩) hgt _)).blk.cell 0 rfl))
      clear hK K hHeld1
      try simp only [Act.put, List.setIfInBounds_toArray, List.set_cons_zero, List.set_cons_succ]
      refine held_take (v := ?_) 6 rfl (by kernel_rfl) (by kernel_rfl) (by kernel_rfl) (fun _ _ _ h => h) (by rfl) ?_ (by assumption) ?_
      rotate_left
      · (intro w hSw; (try dsimp only at hSw); go_simp; try with_reducible rfl)
      try simp only [Act.put, List.setIfInBounds_toArray, List.set_cons_zero, List.set_cons_succ]
      refine held_call 7 (by kernel_rfl) rfl (fun K hK => ?_)
      go_simp
      have hgt : W.heap.size ≤ w.heap.size + 1 := (by omega); go_at_call 39; refine (H.out.2.2.1 _ (hSW.fresh BX) OA oc _ hoA hrA).mono ?_; rintro e wB ⟨TA, tc, RA, rc, LA, lc, rfl, hoT, hoL, hbB⟩; have BY := BX.trans (hbB.mono BX.size); clear BX; have BX := BY; clear BY; have hlt0 : w.heap.size + 1 < wA.heap.size := (by simp at hgs; omega); have hN : Blk wB W.heap.size 70 #[.slice none 0 0, .slice none 0 0] := ((Blk.new W.drew _ _).fresh hbA).fresh hbB; rw [hs0] at hN; have n0 := hN.cell 0 (v := .slice none 0 0) rfl; have n1 := hN.cell 1 (v := .slice none 0 0) rfl; have z0 := hN.frozen 0; have z1 := hN.frozen 1
      try (go_wp2_with fail)
      refine hK.out _ _ ?_ (fun hHeld3 => ?_)
      · first | trivial | ((try dsimp only); (first | exact (hSW.fresh BX).blk.cell 0 rfl | exact (hSW.fresh (BX.alloc BX.size _)).blk.cell 0 rfl | exact (hSW.fresh ((BX.setCell (p := ⟨_, 0, none⟩) hgt _).setCell (p := ⟨_, 1, none⟩) hgt _)).blk.cell 0 rfl))
      clear hK K hHeld2
      try simp only [Act.put, List.setIfInBounds_toArray, List.set_cons_zero, List.set_cons_succ]
      refine held_take (v := ?_) 8 rfl (by kernel_rfl) (by kernel_rfl) (by kernel_rfl) (fun _ _ _ h => h) (by rfl) ?_ (by assumption) ?_
      rotate_left
      · (intro w hSw; (try dsimp only at hSw); go_simp; try with_reducible rfl)
      try simp only [Act.put, List.setIfInBounds_toArray, List.set_cons_zero, List.set_cons_succ]
      refine held_take (v := ?_) 9 rfl (by kernel_rfl) (by kernel_rfl) (by kernel_rfl) (fun _ _ _ h => h) (by rfl) ?_ (by assumption) ?_
      rotate_left
      · (intro w hSw; (try dsimp only at hSw); go_simp; try with_reducible rfl)
      try simp only [Act.put, List.setIfInBounds_toArray, List.set_cons_zero, List.set_cons_succ]
      refine held_take (v := ?_) 10 rfl (by kernel_rfl) (by kernel_rfl) (by kernel_rfl) (fun _ _ _ h => h) (by rfl) ?_ (by assumption) ?_
      rotate_left
      · (intro w hSw; (try dsimp only at hSw); go_simp; try with_reducible rfl)
      try simp only [Act.put, List.setIfInBounds_toArray, List.set_cons_zero, List.set_cons_succ]
      refine held_take (v := ?_) 11 rfl (by kernel_rfl) (by kernel_rfl) (by kernel_rfl) (fun _ _ _ h => h) (by rfl) ?_ (by assumption) ?_
      rotate_left
      · (intro w hSw; (try dsimp only at hSw); go_simp; try with_reducible rfl)
      try simp only [Act.put, List.setIfInBounds_toArray, List.set_cons_zero, List.set_cons_succ]
      refine held_call 13 (by kernel_rfl) rfl (fun K hK => ?_)
      go_simp
      refine hK.out _ _ ?_ (fun hHeld4 => ?_)
      · first | trivial | ((try dsimp only); (first | exact (hSW.fresh BX).blk.cell 0 rfl | exact (hSW.fresh (BX.alloc BX.size _)).blk.cell 0 rfl | exact (hSW.fresh ((BX.setCell (p := ⟨_, 0, none⟩) hgt _).setCell (p := ⟨_, 1, none⟩) hgt _)).blk.cell 0 rfl))
      clear hK K hHeld3
      try simp only [Act.put, List.setIfInBounds_toArray, List.set_cons_zero, List.set_cons_succ]
      refine held_take (v := ?_) 14 rfl (by kernel_rfl) (by kernel_rfl) (by kernel_rfl) (fun _ _ _ h => h) (by rfl) ?_ (by assumption) ?_
      rotate_left
      · (intro w hSw; (try dsimp only at hSw); go_simp; try with_reducible rfl)
      try simp only [Act.put, List.setIfInBounds_toArray, List.set_cons_zero, List.set_cons_succ]
      refine held_take (v := ?_) 15 rfl (by kernel_rfl) (by kernel_rfl) (by kernel_rfl) (fun _ _ _ h => h) (by rfl) ?_ (by assumption) ?_
      rotate_left
      · (intro w hSw; (try dsimp only at hSw); go_simp; try with_reducible rfl)
      try simp only [Act.put, List.setIfInBounds_toArray, List.set_cons_zero, List.set_cons_succ]
      refine wpAnyH_done (by kernel_rfl) ?_ _
      go_wp2_with fail
      go_meet
      exact ⟨LA, lc, rfl, by unfold Hid; exact (own_two hoL hlt0).base_le (by omega), (BX.setCell (p := ⟨_, 0, none⟩) hgt _).setCell (p := ⟨_, 1, none⟩) hgt _⟩
  case rest =>
    obtain ⟨LA, lc, rfl, hL, hbc⟩ := hcut
    have hsc := hbc.size
    have hbwc : Below w.heap.size w wc := hb0.trans (hbc.mono (by omega))
    have hmp := HM.out.kept (grownBy_below none hbc) (by simp)
    have HT := Lib.hid (And.intro hL.out hmp); clear hmp hSW HM hL
    go_wp2_with fail
    go_loopg [8, 24] n (fun gk v8 iv wr => ∃ k : Nat, k ≤ n ∧ gk = n - k ∧ iv = .int .i64 k ∧ Hid (wr.ownsMap Try.prog 3 unitElem w.heap.size k (setI (ints (L.take k))) ∧ (∀ g, g < wc.heap.size → g ≠ w.heap.size → wr.heap[g]? = wc.heap[g]?)) ∧ Below w.heap.size w wr ∧ wc.heap.size ≤ wr.heap.size)
    case atStart => exact ⟨0, Nat.zero_le _, rfl, rfl, ⟨HT.out.2, fun _ _ _ => rfl⟩, hbwc, Nat.le_refl _⟩
    case round =>
      obtain ⟨k, hk, rfl, rfl, hkeep, hbl, hsz⟩ := hrel
      by_cases hlt : k < n
      · obtain ⟨q, hq⟩ : ∃ q, L[k]? = some q := ⟨_, List.getElem?_eq_getElem (by have := H.out.2.2.2.1; omega)⟩
        have hmq := Hau.mv_get (ws := ws) hq
        have hql := H.out.2.2.2.2.2.2 q (List.mem_of_getElem? hq)
        have hor : Own wr W.heap.size 82 LA lc (Hau.mv ws L) := HT.out.1.block_ (fun g hg => hkeep.out.2 g (HT.out.1.lt g hg).2 (by have := (HT.out.1.lt g hg).1; omega))
        obtain ⟨b, o, rfl, hb', -, -, q0, q1⟩ := (hor.at_ H.out.2.2.2.2.2.1).pairS hmq
        have hlt2 : (k : Int) < (n : Int) := by omega
        obtain ⟨t, ht⟩ : ∃ t, ((L.take k).map (Hau.sz ws)).sum = t := ⟨_, rfl⟩
        simp only [ht] at q0 q1
        have hkey : keyOf Try.prog 3 (.int .i64 (q : Int)) = some (.int .i64 (q : Int)) := keyOf_int_mk Try.underlying3 (wf_i64H ⟨by omega, by omega⟩)
        have hsn : setI (ints (L.take (k + 1))) = (setI (ints (L.take k))).put (.int .i64 (q : Int)) (.agg []) := by rw [take_snocH _ _ _ hq, ints_append, show ints [q] = [(q : Int)] from rfl, setI_snoc]
        have hmo : (wr.alloc (.cells #[.int .i64 (t : Int), .int .i64 (q : Int)] 82)).ownsMap Try.prog 3 unitElem w.heap.size k (setI (ints (L.take k))) := hkeep.out.1.kept (grownBy_below none ((Below.refl wr.heap.size wr).alloc (Nat.le_refl _) _)) (by simp)
        have HKEY := Lib.hid (And.intro hkey (And.intro hsn (And.intro hmo hkeep.out.2))); clear hkey hsn hmo hkeep hq hmq hor ht
        go_wp2_with (first | (at_mapUpdate; refine wpList_mapUpdate_own _ rfl _ _ _ 166 rfl 3 167 lawIntH Try.underlying166 (unitElem (H := Unit)) w.heap.size k _ rfl HKEY.out.2.2.1 (by unfold maxLen; omega) _ _ _ rfl rfl HKEY.out.1 _ [] unitElem_mk ?_; intro w3 hown3 hgrow3) | fail)
        have hs3 := hgrow3.size
        have hl2 : Below w.heap.size w (wr.alloc (.cells #[.int .i64 (t : Int), .int .i64 (q : Int)] 82)) := hbl.alloc hbl.size _
        simp only [World.size_alloc] at hs3
        go_roundg (n - (k + 1))
        case measure => omega
        case rel => exact ⟨k + 1, by omega, rfl, by go_num, ⟨by rw [HKEY.out.2.1]; exact hown3, fun g hg hne => ((hgrow3.block g (by simp <;> omega) (fun e => hne (by simpa using e))).trans (Below.heap_alloc wr _ g (by omega))).trans (HKEY.out.2.2.2 g hg hne)⟩, hl2.grown hgrow3 hl2.size (fun j hj => by cases hj; exact Nat.le_refl _), by omega⟩
      · obtain rfl : k = n := by omega
        have hO := hkeep.out.1
        rw [List.take_of_length_le (by have := H.out.2.2.2.1; omega)] at hO
        have HO := Lib.hid hO; clear hO hkeep
        go_wp2_with fail
        go_returns
        exact ⟨w.heap.size, rfl, Nat.le_refl _, HO.out, hbl⟩
end Go.Proofs.Ytpkccpegdpodoaa

/- The law's shelf: which cells are needed. -/
namespace Go.Proofs.Ytpkccpegdpodoaa
open Go.RowKit

attribute [local go_sem ↓] Go.wp_at_zero Go.wp_at_succ

namespace Sto
set_option maxHeartbeats 1600000 in
set_option maxRecDepth 100000 in
theorem hneeded_any (w : World) (base p : Nat) (F : Nat → Prop) (cs : List Kp) (h : Shf w base F p cs) (hk : Kok cs) :
    Calls Try.prog 147 #[.pointer (some ⟨p, 0, none⟩)] w fun e w' => ∃ S c, e = .returned (.slice S cs.length c) ∧ Own w' w.heap.size 4 S c (sNeed cs) ∧ Below w.heap.size w w' := by
  obtain ⟨i0, hi, hz0, hz1, hz2⟩ := info_partsH infoIntH
  obtain ⟨j0, hj, hy0, hy1, hy2⟩ := info_partsH infoIntsG
  obtain ⟨A, c, l, h1, h2, h3, h4, h5⟩ := h
  have hl : cs.length = l.length := by rw [← h5, kps_length]
  obtain ⟨N, hN⟩ : ∃ N, l.length = N := ⟨_, rfl⟩
  rw [hN] at h1 hl
  have hs : N ≤ 100 := by rw [← hl]; exact hk.small
  have c2 := h1.cell 0 (v := .slice A N c) rfl
  have hplt := h1.lt
  rw [hl]
  have H := Lib.hid (And.intro h1 (And.intro h2 (And.intro h5 (And.intro hk (And.intro hl hN))))); clear h1 h2 h5 hl hk hN
  go_enter Try.func147, Try.ntmps147
  go_wp2_with fail
  clear c2
  go_loopg [15] N (fun gk iv wr => ∃ (k m : Nat), k ≤ N ∧ gk = N - k ∧ iv = .int .i64 k ∧ m ≤ k ∧ Hid (GrB wr w.heap.size w.heap.size k m cs) ∧ Below w.heap.size w wr)
  case atStart =>
    exact ⟨0, 0, Nat.zero_le _, rfl, rfl, Nat.le_refl _, ⟨none, none, 0, 0, [], Blk.at_ _ _ _ rfl, GrS.start _ _, by simp [sHas], rfl, by simp [sRoots, rising, risingFrom]⟩, (Below.refl _ _).alloc (Nat.le_refl _) _⟩
  case round =>
    obtain ⟨k, m, hk, rfl, rfl, hm, hkeep, hbl⟩ := hrel
    obtain ⟨wo, rfl⟩ : ∃ wo : World, wo = wr := ⟨_, rfl⟩
    have hsz := hbl.size
    by_cases hlt : k < N
    · obtain ⟨x, hx⟩ : ∃ x, l[k]? = some x := ⟨_, List.getElem?_eq_getElem (by have := H.out.2.2.2.2.2; omega)⟩
      have hits := H.out.2.1.fresh hbl
      obtain ⟨g, rfl, hg1, hg2, q0, q1, q2⟩ := hits.cells hx
      obtain ⟨hxo, -, hxi, hxs⟩ := hits.sub k x hx
      obtain ⟨xm, XA, xc, xv, xb⟩ := x
      simp only at q0 q1 q2 hxo hxi hxs
      have hsx : cs[k]? = some ⟨xm, xv, xb⟩ := by have := kps_get hx; rw [H.out.2.2.1] at this; exact this
      have hx10 : xv.length ≤ 100 := H.out.2.2.2.1.vlen _ (List.mem_of_getElem? hsx)
      have b0 : (0 : Int) ≤ (k : Int) := by omega
      have b1 : (k : Int) < (N : Int) := by omega
      have ht1 := sHas_take cs k _ hsx
      have ht2 := sRoots_take cs k _ hsx
      simp only at ht1 ht2
      obtain ⟨XN, hXN⟩ : ∃ n, xv.length = n := ⟨_, rfl⟩
      rw [hXN] at q1 hx10
      have HX := Lib.hid (And.intro ht1 (And.intro ht2 (And.intro hXN (And.intro hxi hkeep.out))))
      have HO := Lib.hid hxo
      clear ht1 ht2 hxi hxo hsx hx hits hkeep hXN
      go_wp2_with fail
      refine wp_world (fun W => GrB W w.heap.size w.heap.size k m cs ∧ Blk W wo.heap.size 121 #[.int .i64 xm, .slice XA XN xc, .bool xb] ∧ Below wo.heap.size wo W ∧ wo.heap.size < W.heap.size) ⟨?_, Blk.new _ _ _, (Below.refl _ _).alloc (Nat.le_refl _) _, by simp⟩ ?_
      · obtain ⟨HA, RA, hc, rc, hs', d1, d2, d3⟩ := HX.out.2.2.2.2
        exact ⟨HA, RA, hc, rc, hs', d1.alloc _, d2.alloc _, d3⟩
      rintro W ⟨⟨HA, RA, hc, rc, hs', d1, d2, d3, d4, d5⟩, d7, d8, d9⟩
      have hGX : w.heap.size ≠ wo.heap.size := fun e => by have := d7; rw [← e] at this; have h0 := d1; unfold Blk at this h0; rw [h0] at this; injection this with this; injection this with _ this _; exact absurd this (by decide)
      have hGW := d1.lt
      have HW := Lib.hid (And.intro d1 (And.intro d2 (And.intro d3 (And.intro d4 (And.intro d5 (And.intro d7 (And.intro d8 ((HO.out.fresh d8).at_ HX.out.2.2.2.1))))))))
      clear q0 q1 q2
      have q1 := d7.cell 1 (v := .slice XA XN xc) rfl
      clear d1 d2 d3 d4 d5 d7 d8
      go_loopg [6, 23] XN (fun gk lv jv wj => ∃ (j q : Nat) (LA : Option Addr) (lc : Nat), j ≤ XN ∧ gk = XN - j ∧ jv = .int .i64 j ∧ lv = .slice LA q lc ∧ q ≤ j ∧ Hid (Own wj W.heap.size 3 LA lc (refsV (xv.take j)) ∧ (refsV (xv.take j)).length = q) ∧ Below W.heap.size W wj)
      case atStart => exact ⟨0, 0, none, 0, Nat.zero_le _, rfl, rfl, rfl, Nat.le_refl _, ⟨Own.nil_, rfl⟩, Below.refl _ _⟩
      case round =>
        obtain ⟨j, q, LA, lc, hjl, rfl, rfl, rfl, hq, hkeep, hbj⟩ := hrel
        have hsj := hbj.size
        by_cases hltj : j < XN
        · obtain ⟨z, hz⟩ : ∃ z, xv[j]? = some z := ⟨_, List.getElem?_eq_getElem (by have := HX.out.2.2.1; omega)⟩
          obtain ⟨b, o, rfl, hbB, hz1', hz2', p0, p1⟩ := (HW.out.2.2.2.2.2.2.2.below hbj).pairS hz
          obtain ⟨z1, z2⟩ := z
          simp only at hz1' hz2' p0 p1
          have hsn := refsV_take xv j _ hz
          simp only at hsn
          have c0 : (0 : Int) ≤ (j : Int) := by omega
          have c1 : (j : Int) < (XN : Int) := by omega
          by_cases h5 : z1 = 5
          · subst h5
            rw [if_pos rfl] at hsn
            have HS := Lib.hid (And.intro hsn hkeep.out); clear hsn hz hkeep q1
            go_upto_region 10 with fail
            refine wp_world (fun V => Own V W.heap.size 3 LA lc (refsV (xv.take j)) ∧ Below W.heap.size W V ∧ wr.heap.size < V.heap.size ∧ Blk V wr.heap.size 23 #[.int .i64 5, .int .i64 z2]) ⟨HS.out.2.1.alloc _, hbj.alloc hsj _, by simp, Blk.new _ _ _⟩ ?_
            rintro V ⟨hoV, hbV, hsV, hVv⟩
            clear p0 p1
            have p1 := hVv.cell 1 (v := .int .i64 z2) rfl
            have HV := Lib.hid hoV; clear hoV hVv
            go_wp2_with (at_builtin; go_must (refine wpList_app (α := Int) (n := q) (m := 1) (B := V.heap.size + 1) (r := [z2]) rfl (.tmp 30) (.tmp 33) _ rfl W.heap.size 3 i0 _ 8 Try.underlying47 hi hz0 hz1 hz2 rfl (by decide) int_oneH (by rfl) HS.out.2.2 (HV.out.alloc _) (by rfl) (At.built V _ _ [z2] rfl (by intro u hu; simp at hu; subst hu; exact hz2')) rfl (by omega) (by simp only [maxLen]; omega) (by simp; omega) ?_); intro A2 c2 w2 hown2 hgr2 hat2; have hb2 : Below W.heap.size W w2 := (hbV.alloc (by omega) _).grown hgr2 (by simp; omega) (fun g hg => (HV.out.lt g hg).1); have HO2 := Lib.hid hown2; clear hown2 hgr2 hat2)
            have q1 := (HW.out.2.2.2.2.2.1.fresh hb2).cell 1 (v := .slice (some ⟨b, o, none⟩) XN xc) rfl
            go_roundg (XN - (j + 1))
            case measure => omega
            case rel => exact ⟨j + 1, q + 1, A2, c2, by omega, rfl, by go_num, rfl, by omega, ⟨by rw [HS.out.1]; exact HO2.out, by rw [HS.out.1, List.length_append, HS.out.2.2]; rfl⟩, hb2⟩
          · rw [if_neg h5, List.append_nil] at hsn
            have d0 : (z1 == 5) = false := by simpa using h5
            have HS := Lib.hid (And.intro hsn hkeep.out); clear hsn hz hkeep h5 q1
            go_wp2_with fail
            go_roundg (XN - (j + 1))
            case measure => omega
            case rel => exact ⟨j + 1, q, LA, lc, by omega, rfl, by go_num, rfl, by omega, ⟨by rw [HS.out.1]; exact HS.out.2.1.alloc _, by rw [HS.out.1]; exact HS.out.2.2⟩, hbj.alloc hsj _⟩
        · obtain rfl : j = XN := by omega
          obtain ⟨f1, f2⟩ := hkeep.out
          rw [List.take_of_length_le (by have := HX.out.2.2.1; omega)] at f1 f2
          obtain ⟨y, hy⟩ : ∃ y, refsV xv = y := ⟨_, rfl⟩
          rw [hy] at f1 f2
          have hyi : ∀ k ∈ y, I64 k := fun k hk => by rw [← hy] at hk; exact (HX.out.2.2.2.1 _ (mem_refsV.1 hk)).2
          have hbw : Below w.heap.size w wr := hbl.trans ((HW.out.2.2.2.2.2.2.1.mono hsz).trans (hbj.mono (by omega)))
          have e1 := HW.out.1.fresh hbj
          have e2 := HW.out.2.1.fresh hbj
          have e7 := HW.out.2.2.2.2.2.1.fresh hbj
          have hap : ∀ g, rowOf LA = some g → rowOf RA ≠ some g := fun g hg e => by have h1 := (f1.lt g hg).1; have h2 := (HW.out.2.1.roots.lt g e).2; omega
          have hcs : (#[Value.slice LA q lc] : Array Value).toList = flat [(⟨LA, lc, y⟩ : SlR)] := by simp [flat, Flat.cells, f2]
          have g0 := e1.cell 0 (v := .slice HA k hc) rfl
          have x2 := e7.cell 2 (v := .bool xb) rfl
          have hXlt := e7.lt
          have hGlt := e1.lt
          have ht1' : sHas (cs.take (k + 1)) = sHas (cs.take k) ++ [y] := by rw [HX.out.1, hy]
          have HV := Lib.hid (And.intro e1 (And.intro e2 (And.intro e7 (And.intro (f1.base_le (by omega : w.heap.size ≤ W.heap.size)) (And.intro hyi (And.intro hap (And.intro hcs (And.intro ht1' (And.intro HX.out.2.1 (And.intro HW.out.2.2.1 (And.intro HW.out.2.2.2.1 HW.out.2.2.2.2.1)))))))))))
          clear e1 e2 e7 f1 f2 hy hyi hap hcs ht1' hkeep hbj HW q1
          go_upto_region 13 with (at_builtin; go_must (refine wpList_app (α := SlR) (n := k) (m := 1) (B := wr.heap.size + 1) (r := [⟨LA, lc, y⟩]) rfl (.tmp 37) (.tmp 39) _ rfl w.heap.size 47 j0 _ 24 Try.underlying46 hj hy0 hy1 hy2 rfl (by decide) slr_one (by rfl) HV.out.2.2.2.2.2.2.2.2.2.2.1 (HV.out.2.1.row.alloc _) (by rfl) (At.built wr _ _ [(⟨LA, lc, y⟩ : SlR)] HV.out.2.2.2.2.2.2.1 (fun _ _ => trivial)) rfl (by omega) (by simp only [maxLen]; omega) (by simp; omega) ?_); intro A3 c3 w3 ho3 hgr3 hat3; have s3 := hgr3.size; simp only [World.size_alloc] at s3; have n1 := (HV.out.1.alloc (.cells #[.slice LA q lc] 47)).grown hgr3 (fun e => own_ne_ty (HV.out.2.1.row.alloc (.cells #[.slice LA q lc] 47)) (HV.out.1.alloc (.cells #[.slice LA q lc] 47)) (by decide) e); have n3 := (HV.out.2.2.1.alloc (.cells #[.slice LA q lc] 47)).grown hgr3 (fun e => own_ne_ty (HV.out.2.1.row.alloc (.cells #[.slice LA q lc] 47)) (HV.out.2.2.1.alloc (.cells #[.slice LA q lc] 47)) (by decide) e); have n6 := (HV.out.2.1.alloc (.cells #[.slice LA q lc] 47)).push ho3 hgr3 (HV.out.2.2.2.1.alloc _) HV.out.2.2.2.2.1 HV.out.2.2.2.2.2.1; have hb3 : Below w.heap.size w w3 := (hbw.alloc (by omega) _).grown hgr3 (by simp; omega) (fun g hg => (HV.out.2.1.row.lt g hg).1); have z0 := n1.frozen 0; have g0' := n1.cell 0 (v := .slice HA k hc) rfl; have g1 := (n1.set_ 0 (.slice A3 (k + 1) c3)).cell 1 (v := .slice RA m rc) rfl; have x2' := (n3.far (p := ⟨w.heap.size, 0, none⟩) (fun e => hGX e.symm) (.slice A3 (k + 1) c3)).cell 2 (v := .bool xb) rfl; have HZ := Lib.hid (And.intro n1 (And.intro n3 (And.intro n6 hb3))); clear n1 n3 n6 hb3 ho3 hgr3 hat3 g0 x2)
          refine wp_world (fun V => Hid (Blk V w.heap.size 49 #[.slice A3 (k + 1) c3, .slice RA m rc] ∧ GrS V w.heap.size A3 c3 RA rc (hs' ++ [⟨LA, lc, y⟩]) (sRoots (cs.take k)) ∧ Blk V wo.heap.size 121 #[.int .i64 xm, .slice XA j xc, .bool xb]) ∧ Below w.heap.size w V) ⟨⟨HZ.out.1.set_ 0 _, HZ.out.2.2.1.blk HZ.out.1 (by decide) (by decide) _ _, HZ.out.2.1.far (fun e => hGX e.symm) _⟩, HZ.out.2.2.2.setCell (by simp) _⟩ ?_
          rintro V ⟨hV, hbV⟩
          clear HZ g0' g1 x2' z0
          have hsV := hbV.size
          have hVX := hV.out.2.2.lt
          have hVG := hV.out.1.lt
          have g1 := hV.out.1.cell 1 (v := .slice RA m rc) rfl
          have x2 := hV.out.2.2.cell 2 (v := .bool xb) rfl
          obtain ⟨-, -, -, -, -, -, -, ht1, ht2, hm1, hm2, hm3⟩ := HV.out
          have hhl : (hs' ++ [(⟨LA, lc, y⟩ : SlR)]).length = k + 1 := by rw [List.length_append, hm2]; rfl
          have hhm : (hs' ++ [(⟨LA, lc, y⟩ : SlR)]).map SlR.l = sHas (cs.take (k + 1)) := by rw [List.map_append, hm1, ht1]; rfl
          have HR := Lib.hid (And.intro hm3 (And.intro hhl (And.intro hhm ht2))); clear hm1 hm2 hm3 hhl hhm ht1 ht2 HV
          cases xb with
          | false =>
            go_wp2_with fail
            go_roundg (N - (k + 1))
            case measure => omega
            case rel => exact ⟨k + 1, m, by omega, rfl, by go_num, by omega, ⟨A3, RA, c3, rc, _, hV.out.1, by rw [HR.out.2.2.2]; simpa using hV.out.2.1, HR.out.2.2.1, HR.out.2.1, by rw [HR.out.2.2.2]; simpa using HR.out.1⟩, hbV⟩
          | true =>
            go_wp2_with (at_builtin; go_must (refine wpList_app (α := Int) (n := m) (m := 1) (B := V.heap.size + 1) (r := [(k : Int)]) rfl (.tmp 45) (.tmp 47) _ rfl w.heap.size 3 i0 _ 8 Try.underlying47 hi hz0 hz1 hz2 rfl (by decide) int_oneH (by rfl) HR.out.1 (hV.out.2.1.roots.alloc _) (by rfl) (At.built V _ _ [(k : Int)] rfl (by intro z hz; simp at hz; subst hz; exact (by unfold I64; omega : I64 (k : Int)))) rfl (by omega) (by simp only [maxLen]; omega) (by simp; omega) ?_); intro A5 c5 w5 ho5 hgr5 hat5; have p1 := (hV.out.1.alloc (.cells #[.int .i64 (k : Int)] 3)).grown hgr5 (fun e => own_ne_ty (hV.out.2.1.roots.alloc (.cells #[.int .i64 (k : Int)] 3)) (hV.out.1.alloc (.cells #[.int .i64 (k : Int)] 3)) (by decide) e); have p3 := (hV.out.2.1.alloc (.cells #[.int .i64 (k : Int)] 3)).root ho5 hgr5 hat5; have p4 : Below w.heap.size w w5 := (hbV.alloc (by omega) _).grown hgr5 (by simp; omega) (fun g hg => (hV.out.2.1.roots.lt g hg).1); have s5 := hgr5.size; have q1 := p1.cell 1 (v := .slice RA m rc) rfl; have z1 := p1.frozen 1; have HP := Lib.hid (And.intro p1 (And.intro p3 p4)); clear p1 p3 p4 ho5 hgr5 hat5)
            go_roundg (N - (k + 1))
            case measure => omega
            case rel =>
              refine ⟨k + 1, m + 1, by omega, rfl, by go_num, by omega, ⟨A3, A5, c3, c5, _, HP.out.1.set_ 1 _, ?_, HR.out.2.2.1, HR.out.2.1, by rw [HR.out.2.2.2]; simpa using HR.out.1⟩, HP.out.2.2.setCell (by simp) _⟩
              rw [HR.out.2.2.2]
              simpa using HP.out.2.1.blk HP.out.1 (by decide) (by decide) 1 _
    · obtain rfl : k = N := by omega
      have hkk := hkeep.out
      have HKK := Lib.hid hkk; clear hkk hkeep
      obtain ⟨HA, RA, hc, rc, hs', b1, b2, b3, b4, b5⟩ := HKK.out
      rw [List.take_of_length_le (by have := H.out.2.2.2.2.1; omega)] at b2 b3 b5
      have g0 := b1.cell 0 (v := .slice HA k hc) rfl
      have g1 := b1.cell 1 (v := .slice RA m rc) rfl
      have hKok := H.out.2.2.2.1
      have hm100 : m ≤ 100 := by omega
      have hrI : ∀ x ∈ sRoots cs, I64 x := by
        intro x hx
        obtain ⟨n, rfl, hn⟩ := hKok.rightL x hx
        rw [sHas_length] at hn
        have := hKok.small
        unfold I64; omega
      have hhas : At wo wo.heap.size HA (sHas cs) := by rw [← b3]; exact b2.at_
      have hroot : At wo wo.heap.size RA (sRoots cs) := b2.roots.at_ hrI
      have hcall := fun V (hb : Below wo.heap.size wo V) => sfrom_any wo.heap.size hc rc rc 0 m HA RA RA none (sHas cs) (sRoots cs) [] V (hhas.below hb) (hroot.below hb) At.nil_ hb.size hKok.right hKok.rightL (fun p hp => by simp at hp) (by rw [sHas_length]; exact hKok.small) (by have := sRoots_len cs; have := hKok.small; omega) (by simp) hKok.hlen
      rw [sHas_length, H.out.2.2.2.2.1, b5] at hcall
      have hcall : ∀ V, Below wo.heap.size wo V → Calls Try.prog 33 #[.agg #[.slice HA k hc, .slice RA m rc], .slice RA m rc, .slice none 0 0] V fun e w' => ∃ S c, e = .returned (.slice S k c) ∧ Own w' V.heap.size 4 S c (sNeed cs) ∧ Below V.heap.size V w' := hcall
      have HC := Lib.hid (And.intro hcall b1); clear hcall b1 b2 b3 b4 b5 HKK hhas hroot hrI
      go_wp2_with fail
      refine Calls.mono (HC.out.1 _ (Below.refl _ _)) ?_
      rintro e w1 ⟨S, c, rfl, ho1, hb1⟩
      go_wp2_with fail
      go_returns
      exact ⟨S, c, rfl, ho1.base_le hsz, hbl.trans (hb1.mono hsz)⟩
end Sto
end Go.Proofs.Ytpkccpegdpodoaa

/- Places turned into others: what turn leaves of places and words. No walk. -/
namespace Go.Proofs.Ytpkccpegdpodoaa
open Go.RowKit

namespace Sto
open Hau
/-- a word whose place is turned -/
def turnW (f : Nat → Nat) (x : U64) : U64 := match refOf x with | none => x | some q => refW (f q)
def turnP (f : Nat → Nat) (x : Int) : Int := if x < 0 then x else (f x.toNat : Int)
/-- the words ahead of place k are turned, but for those at S -/
def twd (S : List Nat) (f : Nat → Nat) (k : Nat) (ws : List U64) : List U64 := ws.mapIdx fun i x => if i < k ∧ i ∉ S then turnW f x else x
theorem twd_length {S : List Nat} {f : Nat → Nat} {k : Nat} {ws : List U64} : (twd S f k ws).length = ws.length := by unfold twd; rw [List.length_mapIdx]
theorem twd_get {S : List Nat} {f : Nat → Nat} {k i : Nat} {ws : List U64} {x : U64} (h : ws[i]? = some x) : (twd S f k ws)[i]? = some (if i < k ∧ i ∉ S then turnW f x else x) := by
  unfold twd; rw [List.getElem?_mapIdx, h]; rfl
theorem twd_none {S : List Nat} {f : Nat → Nat} {k i : Nat} {ws : List U64} (h : ws[i]? = none) : (twd S f k ws)[i]? = none := by
  unfold twd; rw [List.getElem?_mapIdx, h]; rfl
theorem twd_zero {S : List Nat} {f : Nat → Nat} {ws : List U64} : twd S f 0 ws = ws := by
  apply List.ext_getElem?
  intro i
  cases h : ws[i]? with
  | none => rw [twd_none h]
  | some x => rw [twd_get h, if_neg (by omega)]
theorem twd_start {S : List Nat} {f : Nat → Nat} {k : Nat} {ws : List U64} (hk : k ∈ S) : twd S f (k + 1) ws = twd S f k ws := by
  apply List.ext_getElem?
  intro i
  cases h : ws[i]? with
  | none => rw [twd_none h, twd_none h]
  | some x =>
    rw [twd_get h, twd_get h]
    by_cases e : i = k
    · subst e; rw [if_neg (fun h => h.2 hk), if_neg (fun h => h.2 hk)]
    · have : (i < k + 1 ∧ i ∉ S) ↔ (i < k ∧ i ∉ S) := by constructor <;> (rintro ⟨h1, h2⟩; exact ⟨by omega, h2⟩)
      simp only [this]
theorem twd_set {S : List Nat} {f : Nat → Nat} {k : Nat} {ws : List U64} {x : U64} (hk : k ∉ S) (hx : ws[k]? = some x) : (twd S f k ws).set k (turnW f x) = twd S f (k + 1) ws := by
  have hkl := (List.getElem?_eq_some_iff.1 hx).1
  apply List.ext_getElem?
  intro i
  by_cases e : i = k
  · subst e
    rw [List.getElem?_set_self (by rw [twd_length]; exact hkl), twd_get hx, if_pos ⟨by omega, hk⟩]
  · rw [List.getElem?_set_ne (fun h => e h.symm)]
    cases h : ws[i]? with
    | none => rw [twd_none h, twd_none h]
    | some y =>
      rw [twd_get h, twd_get h]
      have : (i < k + 1 ∧ i ∉ S) ↔ (i < k ∧ i ∉ S) := by constructor <;> (rintro ⟨h1, h2⟩; exact ⟨by omega, h2⟩)
      simp only [this]
theorem twd_same {S : List Nat} {f : Nat → Nat} {k : Nat} {ws : List U64} {x : U64} (hk : k ∉ S) (hx : ws[k]? = some x) (ht : turnW f x = x) : twd S f (k + 1) ws = twd S f k ws := by
  rw [← twd_set hk hx, ht]
  have h := twd_get (S := S) (f := f) (k := k) hx
  rw [if_neg (by omega)] at h
  apply List.ext_getElem?
  intro i
  by_cases e : i = k
  · subst e
    rw [h, List.getElem?_set_self (List.getElem?_eq_some_iff.1 h).1]
  · rw [List.getElem?_set_ne (fun h => e h.symm)]
theorem turnW_ref {f : Nat → Nat} {x : U64} {q : Nat} (h : refOf x = some q) : turnW f x = refW (f q) := by unfold turnW; rw [h]
theorem turnW_none {f : Nat → Nat} {x : U64} (h : refOf x = none) : turnW f x = x := by unfold turnW; rw [h]

/-- an object whose followers are turned -/
def turnO (f : Nat → Nat) (o : List U64) : List U64 := o.take 1 ++ (o.drop 1).map (turnW f)
theorem turnO_length {f : Nat → Nat} {o : List U64} : (turnO f o).length = o.length := by
  unfold turnO; rw [List.length_append, List.length_map, List.length_take, List.length_drop]; omega
theorem starts_turn (f : Nat → Nat) (l : List (List U64)) (a : Nat) : starts a (l.map (turnO f)) = starts a l := by
  induction l generalizing a with
  | nil => rfl
  | cons o l ih => rw [List.map_cons, starts, starts, ih, turnO_length]
theorem flat_turn_length (f : Nat → Nat) (l : List (List U64)) : (l.map (turnO f)).flatten.length = l.flatten.length := by
  induction l with
  | nil => rfl
  | cons o l ih => rw [List.map_cons, List.flatten_cons, List.flatten_cons, List.length_append, List.length_append, ih, turnO_length]
theorem st_turn (f : Nat → Nat) (l : List (List U64)) (j : Nat) : st (l.map (turnO f)) j = st l j := by
  unfold st; rw [← List.map_take, flat_turn_length]
theorem starts_ge {a : Nat} : ∀ {l : List (List U64)} {q : Nat}, q ∈ starts a l → a ≤ q
  | [], q, h => by cases h
  | o :: l, q, h => by
    rw [starts] at h
    rcases List.mem_cons.1 h with rfl | h
    · exact Nat.le_refl _
    · have := starts_ge h; omega
/-- all words turned: each object turned -/
theorem twd_all {f : Nat → Nat} {l : List (List U64)} (hg : ∀ o ∈ l, Good o) : twd (starts 0 l) f l.flatten.length l.flatten = (l.map (turnO f)).flatten := by
  have key : ∀ (l : List (List U64)) (a : Nat), (∀ o ∈ l, Good o) → (l.flatten.mapIdx fun i x => if a + i ∉ starts a l then turnW f x else x) = (l.map (turnO f)).flatten := by
    intro l
    induction l with
    | nil => intro a _; rfl
    | cons o l ih =>
      intro a hg
      obtain ⟨h, b, rfl, hb⟩ := hg o (by simp)
      rw [List.flatten_cons, List.map_cons, List.flatten_cons, List.mapIdx_append, ← ih (a + (h :: b).length) (fun o ho => hg o (by simp [ho]))]
      congr 1
      · unfold turnO
        simp only [List.take_succ_cons, List.take_zero, List.drop_succ_cons, List.drop_zero, List.cons_append, List.nil_append, List.mapIdx_cons, Nat.add_zero]
        congr 1
        · rw [if_neg (by simp [starts])]
        · apply List.ext_getElem?
          intro i
          rw [List.getElem?_mapIdx, List.getElem?_map]
          cases hx : b[i]? with
          | none => rfl
          | some x =>
            have hi := (List.getElem?_eq_some_iff.1 hx).1
            simp only [Option.map_some]
            rw [if_pos]
            intro hm
            rw [starts] at hm
            rcases List.mem_cons.1 hm with e | hm
            · omega
            · have := starts_ge hm
              rw [List.length_cons] at this
              omega
      · apply List.ext_getElem?
        intro i
        rw [List.getElem?_mapIdx, List.getElem?_mapIdx]
        cases hx : l.flatten[i]? with
        | none => rfl
        | some x =>
          simp only [Option.map_some]
          have : (a + (i + (h :: b).length) ∉ starts a ((h :: b) :: l)) ↔ (a + (h :: b).length + i ∉ starts (a + (h :: b).length) l) := by
            rw [starts, List.mem_cons, show a + (i + (h :: b).length) = a + (h :: b).length + i by omega]
            constructor
            · intro h1 h2; exact h1 (.inr h2)
            · rintro h1 (h2 | h2)
              · rw [List.length_cons] at h2; omega
              · exact h1 h2
          simp only [this]
  rw [← key l 0 hg]
  apply List.ext_getElem?
  intro i
  cases hx : l.flatten[i]? with
  | none => rw [twd_none hx, List.getElem?_mapIdx, hx]; rfl
  | some x =>
    have hi := (List.getElem?_eq_some_iff.1 hx).1
    rw [twd_get hx, List.getElem?_mapIdx, hx]
    simp only [Option.map_some, Nat.zero_add]
    have : (i < l.flatten.length ∧ i ∉ starts 0 l) ↔ (i ∉ starts 0 l) := ⟨fun h => h.2, fun h => ⟨hi, h⟩⟩
    simp only [this]
end Sto

end Go.Proofs.Ytpkccpegdpodoaa

/- Store and shelf: the relation behind a turn of all places. No walk. -/
namespace Go.Proofs.Ytpkccpegdpodoaa
open Go.RowKit

namespace Sto
open Hau
theorem fits_other {l l' : List Nat} {y : U64} (h : fits l y = true) (hr : refOf y = none) : fits l' y = true := by
  unfold fits at h ⊢
  unfold refOf at hr
  split at h
  · rename_i k n hu
    rw [hu] at hr
    simp only at hr
    split at hr
    · cases hr
    · rename_i h5
      simp [h5]
  · cases h
theorem fits_refW {l : List Nat} {p : Nat} (hp : p < 4294967296) (h : p ∈ l) : fits l (refW p) = true := by
  unfold fits
  rw [unb_refW hp]
  simp only [ne_eq, not_true_eq_false, decide_false, Bool.false_or, Int.toNat_natCast]
  exact List.contains_iff_mem.2 h
theorem turnP_neg {f : Nat → Nat} : turnP f (-1) = -1 := rfl
theorem turnP_nat {f : Nat → Nat} (p : Nat) : turnP f (p : Int) = (f p : Int) := by unfold turnP; rw [if_neg (by omega), Int.toNat_natCast]
theorem turnO_cons {f : Nat → Nat} {h : U64} {b : List U64} : turnO f (h :: b) = h :: b.map (turnW f) := rfl
theorem turnO_good {f : Nat → Nat} {o : List U64} (h : Good o) : Good (turnO f o) := by
  obtain ⟨a, b, rfl, hb⟩ := h
  exact ⟨a, b.map (turnW f), rfl, by rw [List.length_map]; exact hb⟩
theorem turnO_tail {f : Nat → Nat} {o : List U64} (h : Good o) {x : U64} (hx : x ∈ (turnO f o).tail) : ∃ y ∈ o.tail, x = turnW f y := by
  obtain ⟨a, b, rfl, hb⟩ := h
  rw [turnO_cons, List.tail_cons] at hx
  obtain ⟨y, hy, rfl⟩ := List.mem_map.1 hx
  exact ⟨y, hy, rfl⟩

theorem Sr.turn {obs obs2 : List (List U64)} {pl : List Int} {cs : List Kp} (h : Sr obs pl cs) (f e : Nat → Nat) (h1 : ∀ (j : Nat) (o : List U64), obs[j]? = some o → obs2[e j]? = some o ∧ f (st obs j) = st obs2 (e j)) (h2 : ∀ o ∈ obs2, o ∈ obs)
    (hinj : ∀ j j', j < obs.length → j' < obs.length → e j = e j' → j = j') (hs : obs2.flatten.length ≤ 2000) : Sr (obs2.map (turnO f)) (pl.map (turnP f)) cs := by
  have hg2 : ∀ o ∈ obs2, Good o := fun o ho => h.good o (h2 o ho)
  have hst2 : ∀ j, st obs2 j ≤ 2000 := fun j => Nat.le_trans (st_le j) hs
  have hat : ∀ j, j < obs.length → e j < obs2.length ∧ f (st obs j) = st obs2 (e j) := fun j hj => by
    obtain ⟨a, b⟩ := h1 j _ (List.getElem?_eq_getElem hj)
    exact ⟨(List.getElem?_eq_some_iff.1 a).1, b⟩
  have hgm : ∀ o ∈ obs2.map (turnO f), Good o := fun o ho => by
    obtain ⟨o', ho', rfl⟩ := List.mem_map.1 ho
    exact turnO_good (hg2 o' ho')
  refine ⟨hgm, fun o ho x hx => ?_, fun o ho x hx => ?_, by rw [flat_turn_length]; exact hs, by rw [List.length_map]; exact h.len, h.many, fun n x hx => ?_, fun n m x hx hy hne => ?_, h.mark, h.vlen, h.vals, fun n c hn hc => ?_⟩
  · obtain ⟨o', ho', rfl⟩ := List.mem_map.1 ho
    obtain ⟨y, hy, rfl⟩ := turnO_tail (hg2 o' ho') hx
    have hf := h.body o' (h2 o' ho') y hy
    rw [starts_turn]
    cases hr : refOf y with
    | none => rw [turnW_none hr]; exact fits_other hf hr
    | some q =>
      obtain ⟨j, hj, rfl⟩ := mem_starts.1 (fits_ref hf hr)
      obtain ⟨a, b⟩ := hat j hj
      rw [turnW_ref hr, b]
      have := hst2 (e j)
      exact fits_refW (by omega) (mem_starts.2 ⟨e j, a, rfl⟩)
  · obtain ⟨o', ho', rfl⟩ := List.mem_map.1 ho
    obtain ⟨a, b, rfl, hb⟩ := hg2 o' ho'
    have hfl := h.flat _ (h2 _ ho')
    rw [turnO_cons] at hx
    rcases List.mem_cons.1 hx with rfl | hx
    · exact hfl x (by simp)
    · obtain ⟨y, hy, rfl⟩ := List.mem_map.1 hx
      unfold turnW
      split
      · exact hfl y (by simp [hy])
      · exact Hau.refW_flat _
  · rw [List.getElem?_map] at hx
    cases hx0 : pl[n]? with
    | none => rw [hx0] at hx; cases hx
    | some x0 =>
      rw [hx0] at hx
      injection hx with hx
      subst hx
      rcases h.plc n x0 hx0 with rfl | ⟨j, hj, rfl⟩
      · exact .inl turnP_neg
      · obtain ⟨a, b⟩ := hat j hj
        exact .inr ⟨e j, by rw [List.length_map]; exact a, by rw [turnP_nat, b, st_turn]⟩
  · rw [List.getElem?_map] at hx hy
    cases hx0 : pl[n]? with
    | none => rw [hx0] at hx; cases hx
    | some x0 =>
      cases hy0 : pl[m]? with
      | none => rw [hy0] at hy; cases hy
      | some y0 =>
        rw [hx0] at hx
        rw [hy0] at hy
        injection hx with hx
        injection hy with hy
        rcases h.plc n x0 hx0 with rfl | ⟨j, hj, rfl⟩
        · exact absurd hx.symm hne
        rcases h.plc m y0 hy0 with rfl | ⟨j2, hj2, rfl⟩
        · exact absurd hy.symm hne
        obtain ⟨a, b⟩ := hat j hj
        obtain ⟨a2, b2⟩ := hat j2 hj2
        rw [turnP_nat, b] at hx
        rw [turnP_nat, b2, ← hx] at hy
        have : e j2 = e j := st_inj hg2 a2 a (by omega)
        have := hinj j2 j hj2 hj this
        subst this
        exact h.inj n m _ hx0 hy0 (by omega)
  · obtain ⟨j, o, g1, g2, hd, b, rfl, g4, g5, g6⟩ := h.need n c hn hc
    obtain ⟨a, b2⟩ := h1 j _ g1
    refine ⟨e j, turnO f (hd :: b), by rw [List.getElem?_map, a]; rfl, by rw [List.getElem?_map, g2, st_turn, ← b2, ← turnP_nat]; rfl, hd, b.map (turnW f), rfl, by rw [List.length_map]; exact g4, by rw [List.length_map]; exact g5, fun i v x hv hx => ?_⟩
    rw [List.getElem?_map] at hx
    cases hb : b[i]? with
    | none => rw [hb] at hx; cases hx
    | some y =>
      rw [hb] at hx
      injection hx with hx
      subst hx
      rcases g6 i v y hv hb with ⟨k1, q, k2, rfl⟩ | ⟨k1, k2⟩
      · have hq := h.psm _ _ k2
        exact .inl ⟨k1, f q, by rw [List.getElem?_map, k2, ← turnP_nat]; rfl, turnW_ref (refOf_refW hq)⟩
      · obtain ⟨v1, v2⟩ := v
        have : refOf y = none := by rw [refOf_of k2]; exact if_neg k1
        exact .inr ⟨k1, by rw [turnW_none this]; exact k2⟩
end Sto

end Go.Proofs.Ytpkccpegdpodoaa

/- store: may a cell be named? -/
namespace Go.Proofs.Ytpkccpegdpodoaa
open Go.RowKit Go.Maps

attribute [local go_sem ↓] Go.wp_at_zero Go.wp_at_succ

/-- a look into a set, as a step of a region that draws -/
theorem step_lookup_unit {H : Type} {P : Program} {w : World} {ops : Array Oper} {o : Oper} {a : Act} {K : Act → World → Prop} {Q : Exit → Act → World → Prop} {E : Prop} (hgd : o.guard = none) (m x : Operand) (t : TypeId) (ho : o.op = Op.lookup t m x true)
    (k e : TypeId) (Kk : Keyed P k) (ht : P.underlying t = some (.map k e)) (hz : (zeroValue e).run P w = .ok (.agg #[]) w) (b n : Nat) (D : DataW H)
    (hm : a.eval m = .map (some b)) (hown : w.ownsMap P k unitElem b n D) (key : Value) (kl : Lit) (hx : a.eval x = key) (hkey : keyOf P k key = some kl)
    (h : K (a.put o.dst (.tuple #[.agg #[], .bool (Maps.has D kl)])) w) :
    if Region.wanted o (yielded ops a.tmps) = true then Oper.wp P o a w K Q else E := by
  have hw : Region.wanted o (yielded ops a.tmps) = true := by simp [Region.wanted, hgd]
  rw [if_pos hw]
  obtain ⟨v, ps, hrun, hv⟩ := hown.look_ok Kk ht hz (zd := .agg []) (zp := []) unitElem_mk hkey
  obtain ⟨rfl, _⟩ := unitElem_inv hv
  unfold Oper.wp
  simp [execOp, ho, hm, hx, hrun, Result.andThen]
  exact h

/-- what naming a cell tells -/
def nmE (pl : List Int) (L : List Nat) (of_ : Int) : Int := if of_ < 0 ∨ (pl.length : Int) ≤ of_ then 5 else if (ints L).contains (pl.getD of_.toNat 0) = true then 0 else 8
theorem nmE_none {pl : List Int} {L : List Nat} {of_ : Int} (h : of_ < 0 ∨ (pl.length : Int) ≤ of_) : nmE pl L of_ = 5 := if_pos h
theorem nmE_ok {pl : List Int} {L : List Nat} {k : Nat} {x : Int} (hx : pl[k]? = some x) (h : (ints L).contains x = true) : nmE pl L (k : Int) = 0 := by
  have := (List.getElem?_eq_some_iff.1 hx).1
  unfold nmE
  rw [if_neg (by omega), Int.toNat_natCast, List.getD_eq_getElem?_getD, hx]
  exact if_pos h
theorem nmE_state {pl : List Int} {L : List Nat} {k : Nat} {x : Int} (hx : pl[k]? = some x) (h : (ints L).contains x = false) : nmE pl L (k : Int) = 8 := by
  have := (List.getElem?_eq_some_iff.1 hx).1
  unfold nmE
  rw [if_neg (by omega), Int.toNat_natCast, List.getD_eq_getElem?_getD, hx]
  exact if_neg (by simp only [Option.getD_some]; rw [h]; decide)

/-- a store whose words may be collected -/
structure Sx (w : World) (base : Nat) (F : Nat → Prop) (p : Nat) (ws : List U64) (pl : List Int) (hd : List Bool) : Prop where
  so : So w base F p ws pl hd
  len : hd.length = pl.length
  small : pl.length ≤ 1000
  helds : ∀ (n : Nat) (x : Int), hd[n]? = some true → pl[n]? = some x → 0 ≤ x ∧ x < 4294967296
  tb : TB ws (Sto.rootsFrom pl hd)
theorem Sx.fresh {w w' : World} {base p : Nat} {F : Nat → Prop} {ws : List U64} {pl : List Int} {hd : List Bool} (h : Sx w base F p ws pl hd) (hb : Below w.heap.size w w') : Sx w' base F p ws pl hd := ⟨h.so.fresh hb, h.len, h.small, h.helds, h.tb⟩
abbrev tl (ws : List U64) (pl : List Int) (hd : List Bool) : List Nat := Hau.told ws (Sto.rootsFrom pl hd)

set_option maxHeartbeats 3200000 in
set_option maxRecDepth 100000 in
theorem snamed_any (w : World) (base p : Nat) (of_ : Int) (F : Nat → Prop) (ws : List U64) (pl : List Int) (hd : List Bool) (h : Sx w base F p ws pl hd) :
    Calls Try.prog 140 #[.pointer (some ⟨p, 0, none⟩), .int .i64 of_] w fun e w' => e = .returned (.int .i64 (nmE pl (tl ws pl hd) of_)) ∧ Below w.heap.size w w' := by
  obtain ⟨hso, hlen, hsm, hhd, htb⟩ := h
  have hneed := fun V (hV : So V base F p ws pl hd) => sneeded_any V base p F ws pl hd hV hlen hsm hhd htb
  obtain ⟨L, hL⟩ : ∃ L, tl ws pl hd = L := ⟨_, rfl⟩
  rw [hL]
  simp only [show Hau.told ws (Sto.rootsFrom pl hd) = L from hL] at hneed
  obtain ⟨WA, AA, HA, wc, ac, hc, h⟩ := hso
  have c1 := h.blk.cell 1 (v := .slice AA pl.length ac) rfl
  obtain ⟨E, hE⟩ : ∃ E, nmE pl L of_ = E := ⟨_, rfl⟩
  rw [hE]
  by_cases h0 : of_ < 0
  · have d0 : decide (of_ < 0) = true := by simpa using h0
    have hEE : E = 5 := by rw [← hE]; exact nmE_none (.inl h0)
    subst hEE
    clear h hneed hE
    go_enter Try.func140, Try.ntmps140
    go_wp2_with fail
    go_returns
    exact ⟨rfl, Below.refl _ _⟩
  obtain ⟨k, rfl⟩ : ∃ k : Nat, of_ = (k : Int) := ⟨of_.toNat, by omega⟩
  have d0 : decide ((k : Int) < 0) = false := by simp
  by_cases h1 : pl.length ≤ k
  · have hEE : E = 5 := by rw [← hE]; exact nmE_none (.inr (by omega))
    subst hEE
    have k1 : (pl.length : Int) ≤ (k : Int) := by omega
    clear h hneed hE
    go_enter Try.func140, Try.ntmps140
    go_wp2_with fail
    go_returns
    exact ⟨rfl, Below.refl _ _⟩
  obtain ⟨x, hx⟩ : ∃ x, pl[k]? = some x := ⟨_, List.getElem?_eq_getElem (by omega)⟩
  obtain ⟨g, rfl, hg1, hg2, c2⟩ := h.place hx
  have hxok : Flat.ok x := h.okA x (List.mem_of_getElem? hx)
  have k1 : ¬ (pl.length : Int) ≤ (k : Int) := by omega
  have k2 : (k : Int) < (pl.length : Int) := by omega
  have hkey : keyOf Try.prog 3 (.int .i64 x) = some (.int .i64 x) := keyOf_int_mk Try.underlying3 (wf_i64H hxok)
  obtain ⟨r, hr⟩ : ∃ r, (ints L).contains x = r := ⟨_, rfl⟩
  have hh : Maps.has (setI (ints L)) (.int .i64 x) = r := by rw [has_setI, hr]
  have hEE : E = if r = true then 0 else 8 := by
    rw [← hE]
    cases r with
    | true => exact nmE_ok hx hr
    | false => exact nmE_state hx hr
  have H := Lib.hid (And.intro h (And.intro hneed (And.intro hx (And.intro hkey (And.intro hh hEE))))); clear h hneed hx hkey hh hEE hE hr hL hhd htb hxok
  go_enter Try.func140, Try.ntmps140
  go_upto_region 3 with fail
  go_cut [5, 6] from 18 to 31 (fun v5 v6 W2 => v6 = .bool r ∧ Below w.heap.size w W2)
  case first =>
    clear c1 c2
    have BX : Below w.heap.size w w.drew := (Below.refl _ _).drew
    refine wp_region_held_drew (S := (fun w' => w'.cell? ⟨p, 1, none⟩ = some (.slice (some ⟨g, 0, none⟩) pl.length ac) ∧ w'.cell? ⟨g, k, none⟩ = some (.int .i64 x))) (by kernel_rfl) ?_ (fun hHeld0 => ?_)
    · first | trivial | ((try dsimp only); (first | exact ⟨(H.out.1.fresh BX).blk.cell 1 rfl, (H.out.1.fresh BX).places.cell_int H.out.2.2.1⟩ | exact ⟨(H.out.1.fresh (BX.alloc BX.size _)).blk.cell 1 rfl, (H.out.1.fresh (BX.alloc BX.size _)).places.cell_int H.out.2.2.1⟩))
    refine held_take (v := ?_) 0 rfl (by kernel_rfl) (by kernel_rfl) (by kernel_rfl) (fun _ _ _ h => h) (by rfl) ?_ (by assumption) ?_
    rotate_left
    · (intro w hSw; (try dsimp only at hSw); go_simp; try with_reducible rfl)
    try simp only [Act.put, List.setIfInBounds_toArray, List.set_cons_zero, List.set_cons_succ]
    refine held_take (v := ?_) 2 rfl (by kernel_rfl) (by kernel_rfl) (by kernel_rfl) (fun _ _ _ h => h) (by rfl) ?_ (by assumption) ?_
    rotate_left
    · (intro w hSw; (try dsimp only at hSw); go_simp; try with_reducible rfl)
    try simp only [Act.put, List.setIfInBounds_toArray, List.set_cons_zero, List.set_cons_succ]
    refine held_take (v := ?_) 3 rfl (by kernel_rfl) (by kernel_rfl) (by kernel_rfl) (fun _ _ _ h => h) (by rfl) ?_ (by assumption) ?_
    rotate_left
    · (intro w hSw; (try dsimp only at hSw); go_simp; try with_reducible rfl)
    try simp only [Act.put, List.setIfInBounds_toArray, List.set_cons_zero, List.set_cons_succ]
    refine held_take (v := ?_) 4 rfl (by kernel_rfl) (by kernel_rfl) (by kernel_rfl) (fun _ _ _ h => h) (by rfl) ?_ (by assumption) ?_
    rotate_left
    · (intro w hSw; (try dsimp only at hSw); go_simp; try with_reducible rfl)
    try simp only [Act.put, List.setIfInBounds_toArray, List.set_cons_zero, List.set_cons_succ]
    refine held_take (v := ?_) 5 rfl (by kernel_rfl) (by kernel_rfl) (by kernel_rfl) (fun _ _ _ h => h) (by rfl) ?_ (by assumption) ?_
    rotate_left
    · (intro w hSw; (try dsimp only at hSw); go_simp; try with_reducible rfl)
    try simp only [Act.put, List.setIfInBounds_toArray, List.set_cons_zero, List.set_cons_succ]
    refine held_take (v := ?_) 6 rfl (by kernel_rfl) (by kernel_rfl) (by kernel_rfl) (fun _ _ _ h => h) (by rfl) ?_ (by assumption) ?_
    rotate_left
    · (intro w hSw; (try dsimp only at hSw); go_simp; try with_reducible rfl)
    try simp only [Act.put, List.setIfInBounds_toArray, List.set_cons_zero, List.set_cons_succ]
    refine held_take (v := ?_) 7 rfl (by kernel_rfl) (by kernel_rfl) (by kernel_rfl) (fun _ _ _ h => h) (by rfl) ?_ (by assumption) ?_
    rotate_left
    · (intro w hSw; (try dsimp only at hSw); go_simp; try with_reducible rfl)
    try simp only [Act.put, List.setIfInBounds_toArray, List.set_cons_zero, List.set_cons_succ]
    refine held_take (v := ?_) 8 rfl (by kernel_rfl) (by kernel_rfl) (by kernel_rfl) (fun _ _ _ h => h) (by rfl) ?_ (by assumption) ?_
    rotate_left
    · (intro w hSw; (try dsimp only at hSw); go_simp; try with_reducible rfl)
    try simp only [Act.put, List.setIfInBounds_toArray, List.set_cons_zero, List.set_cons_succ]
    refine held_call2 1 13 (by kernel_rfl) rfl rfl (fun K hK => ?_) (fun K hK => ?_)
    · go_simp
      go_at_call 182; refine (H.out.2.1 _ (H.out.1.fresh BX).so).mono ?_; rintro e wA ⟨M, rfl, hMge, hMA, hbA⟩; have BY := BX.trans (hbA.mono BX.size); clear BX; have BX := BY; clear BY; have hMM : wA.ownsMap Try.prog 3 unitElem M L.length (setI (ints L)) := hMA
      try (go_wp2_with fail)
      refine hK.out _ _ ?_ (fun hHeld1 => ?_)
      · first | trivial | ((try dsimp only); (first | exact ⟨(H.out.1.fresh BX).blk.cell 1 rfl, (H.out.1.fresh BX).places.cell_int H.out.2.2.1⟩ | exact ⟨(H.out.1.fresh (BX.alloc BX.size _)).blk.cell 1 rfl, (H.out.1.fresh (BX.alloc BX.size _)).places.cell_int H.out.2.2.1⟩))
      clear hK K hHeld0
      try simp only [Act.put, List.setIfInBounds_toArray, List.set_cons_zero, List.set_cons_succ]
      refine held_call2 9 13 (by kernel_rfl) rfl rfl (fun K hK => ?_) (fun K hK => ?_)
      · refine step_lookup_unit (by rfl) (.tmp 20) (.tmp 27) 166 (by rfl) 3 167 lawIntH Try.underlying166 (zeroUnitH _) M L.length _ (by rfl) hMM (.int .i64 x) _ (by rfl) H.out.2.2.2.1 ?_; rw [H.out.2.2.2.2.1]
        refine hK.out _ _ ?_ (fun hHeld2 => ?_)
        · first | trivial | ((try dsimp only); (first | exact ⟨(H.out.1.fresh BX).blk.cell 1 rfl, (H.out.1.fresh BX).places.cell_int H.out.2.2.1⟩ | exact ⟨(H.out.1.fresh (BX.alloc BX.size _)).blk.cell 1 rfl, (H.out.1.fresh (BX.alloc BX.size _)).places.cell_int H.out.2.2.1⟩))
        clear hK K hHeld1
        try simp only [Act.put, List.setIfInBounds_toArray, List.set_cons_zero, List.set_cons_succ]
        refine held_take (v := ?_) 10 rfl (by kernel_rfl) (by kernel_rfl) (by kernel_rfl) (fun _ _ _ h => h) (by rfl) ?_ (by assumption) ?_
        rotate_left
        · (intro w hSw; (try dsimp only at hSw); go_simp; try with_reducible rfl)
        try simp only [Act.put, List.setIfInBounds_toArray, List.set_cons_zero, List.set_cons_succ]
        refine held_take (v := ?_) 11 rfl (by kernel_rfl) (by kernel_rfl) (by kernel_rfl) (fun _ _ _ h => h) (by rfl) ?_ (by assumption) ?_
        rotate_left
        · (intro w hSw; (try dsimp only at hSw); go_simp; try with_reducible rfl)
        try simp only [Act.put, List.setIfInBounds_toArray, List.set_cons_zero, List.set_cons_succ]
        refine held_take (v := ?_) 12 rfl (by kernel_rfl) (by kernel_rfl) (by kernel_rfl) (fun _ _ _ h => h) (by rfl) ?_ (by assumption) ?_
        rotate_left
        · (intro w hSw; (try dsimp only at hSw); go_simp; try with_reducible rfl)
        try simp only [Act.put, List.setIfInBounds_toArray, List.set_cons_zero, List.set_cons_succ]
        refine held_call 13 (by kernel_rfl) rfl (fun K hK => ?_)
        go_simp
        refine hK.out _ _ ?_ (fun hHeld3 => ?_)
        · first | trivial | ((try dsimp only); (first | exact ⟨(H.out.1.fresh BX).blk.cell 1 rfl, (H.out.1.fresh BX).places.cell_int H.out.2.2.1⟩ | exact ⟨(H.out.1.fresh (BX.alloc BX.size _)).blk.cell 1 rfl, (H.out.1.fresh (BX.alloc BX.size _)).places.cell_int H.out.2.2.1⟩))
        clear hK K hHeld2
        try simp only [Act.put, List.setIfInBounds_toArray, List.set_cons_zero, List.set_cons_succ]
        refine held_call 14 (by kernel_rfl) rfl (fun K hK => ?_)
        go_simp
        refine hK.out _ _ ?_ (fun hHeld4 => ?_)
        · first | trivial | ((try dsimp only); (first | exact ⟨(H.out.1.fresh BX).blk.cell 1 rfl, (H.out.1.fresh BX).places.cell_int H.out.2.2.1⟩ | exact ⟨(H.out.1.fresh (BX.alloc BX.size _)).blk.cell 1 rfl, (H.out.1.fresh (BX.alloc BX.size _)).places.cell_int H.out.2.2.1⟩))
        clear hK K hHeld3
        try simp only [Act.put, List.setIfInBounds_toArray, List.set_cons_zero, List.set_cons_succ]
        refine held_take (v := ?_) 15 rfl (by kernel_rfl) (by kernel_rfl) (by kernel_rfl) (fun _ _ _ h => h) (by rfl) ?_ (by assumption) ?_
        rotate_left
        · (intro w hSw; (try dsimp only at hSw); go_simp; try with_reducible rfl)
        try simp only [Act.put, List.setIfInBounds_toArray, List.set_cons_zero, List.set_cons_succ]
        refine wpAnyH_done (by kernel_rfl) ?_ _
        go_wp2_with fail
        go_meet
        exact ⟨rfl, BX.alloc BX.size _⟩
      · go_simp
        refine hK.out _ _ ?_ (fun hHeld2 => ?_)
        · first | trivial | ((try dsimp only); (first | exact ⟨(H.out.1.fresh BX).blk.cell 1 rfl, (H.out.1.fresh BX).places.cell_int H.out.2.2.1⟩ | exact ⟨(H.out.1.fresh (BX.alloc BX.size _)).blk.cell 1 rfl, (H.out.1.fresh (BX.alloc BX.size _)).places.cell_int H.out.2.2.1⟩))
        clear hK K hHeld1
        try simp only [Act.put, List.setIfInBounds_toArray, List.set_cons_zero, List.set_cons_succ]
        refine held_call 9 (by kernel_rfl) rfl (fun K hK => ?_)
        refine step_lookup_unit (by rfl) (.tmp 20) (.tmp 27) 166 (by rfl) 3 167 lawIntH Try.underlying166 (zeroUnitH _) M L.length _ (by rfl) (hMM.kept (grownBy_below none ((Below.refl _ _).alloc (Nat.le_refl _) _)) (by simp)) (.int .i64 x) _ (by rfl) H.out.2.2.2.1 ?_; rw [H.out.2.2.2.2.1]
        refine hK.out _ _ ?_ (fun hHeld3 => ?_)
        · first | trivial | ((try dsimp only); (first | exact ⟨(H.out.1.fresh BX).blk.cell 1 rfl, (H.out.1.fresh BX).places.cell_int H.out.2.2.1⟩ | exact ⟨(H.out.1.fresh (BX.alloc BX.size _)).blk.cell 1 rfl, (H.out.1.fresh (BX.alloc BX.size _)).places.cell_int H.out.2.2.1⟩))
        clear hK K hHeld2
        try simp only [Act.put, List.setIfInBounds_toArray, List.set_cons_zero, List.set_cons_succ]
        refine held_take (v := ?_) 10 rfl (by kernel_rfl) (by kernel_rfl) (by kernel_rfl) (fun _ _ _ h => h) (by rfl) ?_ (by assumption) ?_
        rotate_left
        · (intro w hSw; (try dsimp only at hSw); go_simp; try with_reducible rfl)
        try simp only [Act.put, List.setIfInBounds_toArray, List.set_cons_zero, List.set_cons_succ]
        refine held_take (v := ?_) 11 rfl (by kernel_rfl) (by kernel_rfl) (by kernel_rfl) (fun _ _ _ h => h) (by rfl) ?_ (by assumption) ?_
        rotate_left
        · (intro w hSw; (try dsimp only at hSw); go_simp; try with_reducible rfl)
        try simp only [Act.put, List.setIfInBounds_toArray, List.set_cons_zero, List.set_cons_succ]
        refine held_take (v := ?_) 12 rfl (by kernel_rfl) (by kernel_rfl) (by kernel_rfl) (fun _ _ _ h => h) (by rfl) ?_ (by assumption) ?_
        rotate_left
        · (intro w hSw; (try dsimp only at hSw); go_simp; try with_reducible rfl)
        try simp only [Act.put, List.setIfInBounds_toArray, List.set_cons_zero, List.set_cons_succ]
        refine held_call 14 (by kernel_rfl) rfl (fun K hK => ?_)
        go_simp
        refine hK.out _ _ ?_ (fun hHeld4 => ?_)
        · first | trivial | ((try dsimp only); (first | exact ⟨(H.out.1.fresh BX).blk.cell 1 rfl, (H.out.1.fresh BX).places.cell_int H.out.2.2.1⟩ | exact ⟨(H.out.1.fresh (BX.alloc BX.size _)).blk.cell 1 rfl, (H.out.1.fresh (BX.alloc BX.size _)).places.cell_int H.out.2.2.1⟩))
        clear hK K hHeld3
        try simp only [Act.put, List.setIfInBounds_toArray, List.set_cons_zero, List.set_cons_succ]
        refine held_take (v := ?_) 15 rfl (by kernel_rfl) (by kernel_rfl) (by kernel_rfl) (fun _ _ _ h => h) (by rfl) ?_ (by assumption) ?_
        rotate_left
        · (intro w hSw; (try dsimp only at hSw); go_simp; try with_reducible rfl)
        try simp only [Act.put, List.setIfInBounds_toArray, List.set_cons_zero, List.set_cons_succ]
        refine wpAnyH_done (by kernel_rfl) ?_ _
        go_wp2_with fail
        go_meet
        exact ⟨rfl, BX.alloc BX.size _⟩
    · go_simp
      refine hK.out _ _ ?_ (fun hHeld1 => ?_)
      · first | trivial | ((try dsimp only); (first | exact ⟨(H.out.1.fresh BX).blk.cell 1 rfl, (H.out.1.fresh BX).places.cell_int H.out.2.2.1⟩ | exact ⟨(H.out.1.fresh (BX.alloc BX.size _)).blk.cell 1 rfl, (H.out.1.fresh (BX.alloc BX.size _)).places.cell_int H.out.2.2.1⟩))
      clear hK K hHeld0
      try simp only [Act.put, List.setIfInBounds_toArray, List.set_cons_zero, List.set_cons_succ]
      refine held_call 1 (by kernel_rfl) rfl (fun K hK => ?_)
      go_simp
      go_at_call 182; refine (H.out.2.1 _ (H.out.1.fresh (BX.alloc BX.size _)).so).mono ?_; rintro e wA ⟨M, rfl, hMge, hMA, hbA⟩; have BY := (BX.alloc BX.size _).trans (hbA.mono (BX.alloc BX.size _).size); clear BX; have BX := BY; clear BY; have hMM : wA.ownsMap Try.prog 3 unitElem M L.length (setI (ints L)) := hMA
      try (go_wp2_with fail)
      refine hK.out _ _ ?_ (fun hHeld2 => ?_)
      · first | trivial | ((try dsimp only); (first | exact ⟨(H.out.1.fresh BX).blk.cell 1 rfl, (H.out.1.fresh BX).places.cell_int H.out.2.2.1⟩ | exact ⟨(H.out.1.fresh (BX.alloc BX.size _)).blk.cell 1 rfl, (H.out.1.fresh (BX.alloc BX.size _)).places.cell_int H.out.2.2.1⟩))
      clear hK K hHeld1
      try simp only [Act.put, List.setIfInBounds_toArray, List.set_cons_zero, List.set_cons_succ]
      refine held_call 9 (by kernel_rfl) rfl (fun K hK => ?_)
      refine step_lookup_unit (by rfl) (.tmp 20) (.tmp 27) 166 (by rfl) 3 167 lawIntH Try.underlying166 (zeroUnitH _) M L.length _ (by rfl) hMM (.int .i64 x) _ (by rfl) H.out.2.2.2.1 ?_; rw [H.out.2.2.2.2.1]
      refine hK.out _ _ ?_ (fun hHeld3 => ?_)
      · first | trivial | ((try dsimp only); (first | exact ⟨(H.out.1.fresh BX).blk.cell 1 rfl, (H.out.1.fresh BX).places.cell_int H.out.2.2.1⟩ | exact ⟨(H.out.1.fresh (BX.alloc BX.size _)).blk.cell 1 rfl, (H.out.1.fresh (BX.alloc BX.size _)).places.cell_int H.out.2.2.1⟩))
      clear hK K hHeld2
      try simp only [Act.put, List.setIfInBounds_toArray, List.set_cons_zero, List.set_cons_succ]
      refine held_take (v := ?_) 10 rfl (by kernel_rfl) (by kernel_rfl) (by kernel_rfl) (fun _ _ _ h => h) (by rfl) ?_ (by assumption) ?_
      rotate_left
      · (intro w hSw; (try dsimp only at hSw); go_simp; try with_reducible rfl)
      try simp only [Act.put, List.setIfInBounds_toArray, List.set_cons_zero, List.set_cons_succ]
      refine held_take (v := ?_) 11 rfl (by kernel_rfl) (by kernel_rfl) (by kernel_rfl) (fun _ _ _ h => h) (by rfl) ?_ (by assumption) ?_
      rotate_left
      · (intro w hSw; (try dsimp only at hSw); go_simp; try with_reducible rfl)
      try simp only [Act.put, List.setIfInBounds_toArray, List.set_cons_zero, List.set_cons_succ]
      refine held_take (v := ?_) 12 rfl (by kernel_rfl) (by kernel_rfl) (by kernel_rfl) (fun _ _ _ h => h) (by rfl) ?_ (by assumption) ?_
      rotate_left
      · (intro w hSw; (try dsimp only at hSw); go_simp; try with_reducible rfl)
      try simp only [Act.put, List.setIfInBounds_toArray, List.set_cons_zero, List.set_cons_succ]
      refine held_call 14 (by kernel_rfl) rfl (fun K hK => ?_)
      go_simp
      refine hK.out _ _ ?_ (fun hHeld4 => ?_)
      · first | trivial | ((try dsimp only); (first | exact ⟨(H.out.1.fresh BX).blk.cell 1 rfl, (H.out.1.fresh BX).places.cell_int H.out.2.2.1⟩ | exact ⟨(H.out.1.fresh (BX.alloc BX.size _)).blk.cell 1 rfl, (H.out.1.fresh (BX.alloc BX.size _)).places.cell_int H.out.2.2.1⟩))
      clear hK K hHeld3
      try simp only [Act.put, List.setIfInBounds_toArray, List.set_cons_zero, List.set_cons_succ]
      refine held_take (v := ?_) 15 rfl (by kernel_rfl) (by kernel_rfl) (by kernel_rfl) (fun _ _ _ h => h) (by rfl) ?_ (by assumption) ?_
      rotate_left
      · (intro w hSw; (try dsimp only at hSw); go_simp; try with_reducible rfl)
      try simp only [Act.put, List.setIfInBounds_toArray, List.set_cons_zero, List.set_cons_succ]
      refine wpAnyH_done (by kernel_rfl) ?_ _
      go_wp2_with fail
      go_meet
      exact ⟨rfl, BX⟩
  case rest =>
    obtain ⟨rfl, hbc⟩ := hcut
    clear c1 c2
    cases r with
    | true =>
      have hEE : E = 0 := by rw [H.out.2.2.2.2.2]; rfl
      subst hEE
      go_wp2_with fail
      go_returns
      exact ⟨rfl, hbc⟩
    | false =>
      have hEE : E = 8 := by rw [H.out.2.2.2.2.2]; rfl
      subst hEE
      go_wp2_with fail
      go_returns
      exact ⟨rfl, hbc⟩
end Go.Proofs.Ytpkccpegdpodoaa

/- store: a boxed value. -/
namespace Go.Proofs.Ytpkccpegdpodoaa
open Go.RowKit Go.Maps

attribute [local go_sem ↓] Go.wp_at_zero Go.wp_at_succ

/-- what boxing a value tells: a word, an error -/
def bxL (pl : List Int) (L : List Nat) (k n : Int) : Int × Int :=
  if (boxL k n).2 ≠ 0 ∨ k ≠ 5 then boxL k n else if nmE pl L n ≠ 0 then (0, nmE pl L n) else boxL 5 (pl.getD n.toNat 0)
theorem bxL_box {pl : List Int} {L : List Nat} {k n : Int} (h : (boxL k n).2 ≠ 0 ∨ k ≠ 5) : bxL pl L k n = boxL k n := if_pos h
theorem bxL_named {pl : List Int} {L : List Nat} {n : Int} (h : (boxL 5 n).2 = 0) (h2 : nmE pl L n ≠ 0) : bxL pl L 5 n = (0, nmE pl L n) := by
  unfold bxL; rw [if_neg (by simp [h]), if_pos h2]
theorem bxL_ref {pl : List Int} {L : List Nat} {n : Int} (h : (boxL 5 n).2 = 0) (h2 : nmE pl L n = 0) : bxL pl L 5 n = boxL 5 (pl.getD n.toNat 0) := by
  unfold bxL; rw [if_neg (by simp [h]), if_neg (by simp [h2])]
theorem nmE_zero {pl : List Int} {L : List Nat} {n : Int} (h : nmE pl L n = 0) : ∃ k : Nat, n = (k : Int) ∧ ∃ p : Nat, pl[k]? = some (p : Int) ∧ p ∈ L := by
  unfold nmE at h
  split at h
  · cases h
  rename_i h1
  split at h
  · rename_i h2
    obtain ⟨k, rfl⟩ : ∃ k : Nat, n = (k : Int) := ⟨n.toNat, by omega⟩
    refine ⟨k, rfl, ?_⟩
    rw [Int.toNat_natCast] at h2
    obtain ⟨x, hx⟩ : ∃ x, pl[k]? = some x := ⟨_, List.getElem?_eq_getElem (by omega)⟩
    rw [List.getD_eq_getElem?_getD, hx, Option.getD_some] at h2
    have hm := List.contains_iff_mem.1 h2
    unfold ints at hm
    obtain ⟨q, hq, rfl⟩ := List.mem_map.1 hm
    exact ⟨q, hx, hq⟩
  · cases h

set_option maxHeartbeats 1600000 in
set_option maxRecDepth 100000 in
theorem sboxed_any (w : World) (base p : Nat) (k n : Int) (F : Nat → Prop) (ws : List U64) (pl : List Int) (hd : List Bool) (h : Sx w base F p ws pl hd) (hk : I64 k) (hn : I64 n) :
    Calls Try.prog 141 #[.pointer (some ⟨p, 0, none⟩), .agg #[.int .i64 k, .int .i64 n]] w fun e w' => e = .returned (.tuple #[.int .u64 (bxL pl (tl ws pl hd) k n).1, .int .i64 (bxL pl (tl ws pl hd) k n).2]) ∧ Below w.heap.size w w' := by
  obtain ⟨L, hL⟩ : ∃ L, tl ws pl hd = L := ⟨_, rfl⟩
  have hnm := fun V (hV : Sx V base F p ws pl hd) => snamed_any V base p n F ws pl hd hV
  have htb := h.tb
  rw [hL] at hnm ⊢
  have hplt : ∀ q ∈ L, q < ws.length := fun q hq => htb.plt (by rw [show Hau.told ws (Sto.rootsFrom pl hd) = L from hL]; exact hq)
  have hws := htb.small
  obtain ⟨X, hX⟩ : ∃ X, bxL pl L k n = X := ⟨_, rfl⟩
  rw [hX]
  obtain ⟨bx, be⟩ := X
  simp only
  have H := Lib.hid (And.intro h (And.intro hnm (And.intro hX (And.intro hplt hk)))); clear h hnm hX hplt htb hL
  obtain ⟨x1, hx1⟩ : ∃ x, (boxL k n).1 = x := ⟨_, rfl⟩
  obtain ⟨e1, he1⟩ : ∃ x, (boxL k n).2 = x := ⟨_, rfl⟩
  have hbox := fun V => box_any k n V hk hn
  have HB := Lib.hid (And.intro hbox (And.intro hx1 he1)); clear hbox hx1 he1 hk hn
  go_enter Try.func141, Try.ntmps141
  go_upto_region 1 with fail
  refine wp_world (fun W => Blk W w.heap.size 23 #[.int .i64 k, .int .i64 n] ∧ Below w.heap.size w W ∧ W.heap.size = w.heap.size + 1) ⟨Blk.new _ _ _, (Below.refl _ _).alloc (Nat.le_refl _) _, by simp⟩ ?_
  rintro W ⟨hB, hb0, hs0⟩
  have b0 := hB.cell 0 (v := .int .i64 k) rfl
  have b1 := hB.cell 1 (v := .int .i64 n) rfl
  have HBl := Lib.hid hB; clear hB
  go_wp2_with fail
  refine (HB.out.1 W).mono ?_
  rintro e w1 ⟨rfl, hb1⟩
  have hs1 := hb1.size
  have hb01 : Below w.heap.size w w1 := hb0.trans (hb1.mono (by omega))
  rw [HB.out.2.1, HB.out.2.2]
  clear b0 b1
  have b0 := (HBl.out.fresh hb1).cell 0 (v := .int .i64 k) rfl
  have b1 := (HBl.out.fresh hb1).cell 1 (v := .int .i64 n) rfl
  by_cases h1 : e1 = 0
  · by_cases h5 : k = 5
    · subst h5 h1
      have hcall := H.out.2.1 w1 (H.out.1.fresh hb01)
      obtain ⟨E, hE⟩ : ∃ E, nmE pl L n = E := ⟨_, rfl⟩
      rw [hE] at hcall
      have HC := Lib.hid (And.intro hcall hE); clear hcall hE
      go_wp2_with fail
      refine HC.out.1.mono ?_
      rintro e w2 ⟨rfl, hb2⟩
      have hs2 := hb2.size
      have hb02 : Below w.heap.size w w2 := hb01.trans (hb2.mono (by omega))
      clear b0 b1
      have hB2 := (HBl.out.fresh hb1).fresh hb2
      have b1 := hB2.cell 1 (v := .int .i64 n) rfl
      by_cases hE : E = 0
      · subst hE
        obtain ⟨m, rfl, q, hq, hqL⟩ := nmE_zero HC.out.2
        have hql := H.out.2.2.2.1 q hqL
        have hres := H.out.2.2.1
        rw [bxL_ref HB.out.2.2 HC.out.2, Int.toNat_natCast, List.getD_eq_getElem?_getD, hq, Option.getD_some] at hres
        obtain ⟨WA, AA, HA, wc, ac, hc, hS⟩ := (H.out.1.fresh hb02).so
        obtain ⟨g, rfl, hg1, hg2, c2⟩ := hS.place hq
        have c1 := hS.blk.cell 1 (v := .slice (some ⟨g, 0, none⟩) pl.length ac) rfl
        have m1 : (m : Int) < (pl.length : Int) := by have := (List.getElem?_eq_some_iff.1 hq).1; omega
        have hbq := fun V => box_any 5 (q : Int) V (by unfold I64; omega) (by unfold I64; omega)
        have HQ := Lib.hid (And.intro hres (And.intro hbq (And.intro hS (And.intro hq hB2)))); clear hres hbq hS hq hB2 hqL
        have BX : Below w2.heap.size w2 w2.drew := (Below.refl _ _).drew
        go_upto_region 7 with fail
        clear c1 c2 b1
        refine wp_region_held_drew (S := (fun w' => w'.cell? ⟨p, 1, none⟩ = some (.slice (some ⟨g, 0, none⟩) pl.length ac) ∧ w'.cell? ⟨w.heap.size, 1, none⟩ = some (.int .i64 (m : Int)) ∧ w'.cell? ⟨g, m, none⟩ = some (.int .i64 (q : Int)))) (by kernel_rfl) ?_ (fun hHeld0 => ?_)
        · first | trivial | ((try dsimp only); (exact ⟨(HQ.out.2.2.1.fresh BX).blk.cell 1 rfl, (HQ.out.2.2.2.2.fresh BX).cell 1 rfl, (HQ.out.2.2.1.fresh BX).places.cell_int HQ.out.2.2.2.1⟩))
        refine held_take (v := ?_) 0 rfl (by kernel_rfl) (by kernel_rfl) (by kernel_rfl) (fun _ _ _ h => h) (by rfl) ?_ (by assumption) ?_
        rotate_left
        · (intro w hSw; (try dsimp only at hSw); go_simp; try with_reducible rfl)
        try simp only [Act.put, List.setIfInBounds_toArray, List.set_cons_zero, List.set_cons_succ]
        refine held_take (v := ?_) 1 rfl (by kernel_rfl) (by kernel_rfl) (by kernel_rfl) (fun _ _ _ h => h) (by rfl) ?_ (by assumption) ?_
        rotate_left
        · (intro w hSw; (try dsimp only at hSw); go_simp; try with_reducible rfl)
        try simp only [Act.put, List.setIfInBounds_toArray, List.set_cons_zero, List.set_cons_succ]
        refine held_take (v := ?_) 2 rfl (by kernel_rfl) (by kernel_rfl) (by kernel_rfl) (fun _ _ _ h => h) (by rfl) ?_ (by assumption) ?_
        rotate_left
        · (intro w hSw; (try dsimp only at hSw); go_simp; try with_reducible rfl)
        try simp only [Act.put, List.setIfInBounds_toArray, List.set_cons_zero, List.set_cons_succ]
        refine held_take (v := ?_) 3 rfl (by kernel_rfl) (by kernel_rfl) (by kernel_rfl) (fun _ _ _ h => h) (by rfl) ?_ (by assumption) ?_
        rotate_left
        · (intro w hSw; (try dsimp only at hSw); go_simp; try with_reducible rfl)
        try simp only [Act.put, List.setIfInBounds_toArray, List.set_cons_zero, List.set_cons_succ]
        refine held_take (v := ?_) 4 rfl (by kernel_rfl) (by kernel_rfl) (by kernel_rfl) (fun _ _ _ h => h) (by rfl) ?_ (by assumption) ?_
        rotate_left
        · (intro w hSw; (try dsimp only at hSw); go_simp; try with_reducible rfl)
        try simp only [Act.put, List.setIfInBounds_toArray, List.set_cons_zero, List.set_cons_succ]
        refine held_take (v := ?_) 5 rfl (by kernel_rfl) (by kernel_rfl) (by kernel_rfl) (fun _ _ _ h => h) (by rfl) ?_ (by assumption) ?_
        rotate_left
        · (intro w hSw; (try dsimp only at hSw); go_simp; try with_reducible rfl)
        try simp only [Act.put, List.setIfInBounds_toArray, List.set_cons_zero, List.set_cons_succ]
        refine held_take (v := ?_) 6 rfl (by kernel_rfl) (by kernel_rfl) (by kernel_rfl) (fun _ _ _ h => h) (by rfl) ?_ (by assumption) ?_
        rotate_left
        · (intro w hSw; (try dsimp only at hSw); go_simp; try with_reducible rfl)
        try simp only [Act.put, List.setIfInBounds_toArray, List.set_cons_zero, List.set_cons_succ]
        refine held_take (v := ?_) 7 rfl (by kernel_rfl) (by kernel_rfl) (by kernel_rfl) (fun _ _ _ h => h) (by rfl) ?_ (by assumption) ?_
        rotate_left
        · (intro w hSw; (try dsimp only at hSw); go_simp; try with_reducible rfl)
        try simp only [Act.put, List.setIfInBounds_toArray, List.set_cons_zero, List.set_cons_succ]
        refine held_take (v := ?_) 8 rfl (by kernel_rfl) (by kernel_rfl) (by kernel_rfl) (fun _ _ _ h => h) (by rfl) ?_ (by assumption) ?_
        rotate_left
        · (intro w hSw; (try dsimp only at hSw); go_simp; try with_reducible rfl)
        try simp only [Act.put, List.setIfInBounds_toArray, List.set_cons_zero, List.set_cons_succ]
        refine held_call 9 (by kernel_rfl) rfl (fun K hK => ?_)
        go_simp
        refine (HQ.out.2.1 _).mono ?_; rintro e w3 ⟨rfl, hb3⟩; have BY := BX.trans (hb3.mono BX.size); clear BX; have BX := BY; clear BY; have hb03 : Below w.heap.size w w3 := hb02.drew.trans (hb3.mono (by have := hb02.size; simpa using this)); rw [HQ.out.1]
        try (go_wp2_with fail)
        refine hK.out _ _ ?_ (fun hHeld1 => ?_)
        · first | trivial | ((try dsimp only); (exact ⟨(HQ.out.2.2.1.fresh BX).blk.cell 1 rfl, (HQ.out.2.2.2.2.fresh BX).cell 1 rfl, (HQ.out.2.2.1.fresh BX).places.cell_int HQ.out.2.2.2.1⟩))
        clear hK K hHeld0
        try simp only [Act.put, List.setIfInBounds_toArray, List.set_cons_zero, List.set_cons_succ]
        refine held_take (v := ?_) 10 rfl (by kernel_rfl) (by kernel_rfl) (by kernel_rfl) (fun _ _ _ h => h) (by rfl) ?_ (by assumption) ?_
        rotate_left
        · (intro w hSw; (try dsimp only at hSw); go_simp; try with_reducible rfl)
        try simp only [Act.put, List.setIfInBounds_toArray, List.set_cons_zero, List.set_cons_succ]
        refine held_take (v := ?_) 11 rfl (by kernel_rfl) (by kernel_rfl) (by kernel_rfl) (fun _ _ _ h => h) (by rfl) ?_ (by assumption) ?_
        rotate_left
        · (intro w hSw; (try dsimp only at hSw); go_simp; try with_reducible rfl)
        try simp only [Act.put, List.setIfInBounds_toArray, List.set_cons_zero, List.set_cons_succ]
        refine held_take (v := ?_) 12 rfl (by kernel_rfl) (by kernel_rfl) (by kernel_rfl) (fun _ _ _ h => h) (by rfl) ?_ (by assumption) ?_
        rotate_left
        · (intro w hSw; (try dsimp only at hSw); go_simp; try with_reducible rfl)
        try simp only [Act.put, List.setIfInBounds_toArray, List.set_cons_zero, List.set_cons_succ]
        refine held_take (v := ?_) 13 rfl (by kernel_rfl) (by kernel_rfl) (by kernel_rfl) (fun _ _ _ h => h) (by rfl) ?_ (by assumption) ?_
        rotate_left
        · (intro w hSw; (try dsimp only at hSw); go_simp; try with_reducible rfl)
        try simp only [Act.put, List.setIfInBounds_toArray, List.set_cons_zero, List.set_cons_succ]
        refine wpAnyH_done (by kernel_rfl) ?_ _
        go_wp2_with fail
        go_returns
        exact ⟨rfl, hb03⟩
      · have d1 : (E != 0) = true := by simpa using hE
        have hres := H.out.2.2.1
        rw [bxL_named HB.out.2.2 (by rw [HC.out.2]; exact hE), HC.out.2] at hres
        injection hres with hr1 hr2
        subst hr1 hr2
        clear hE hB2
        go_wp2_with fail
        go_returns
        exact ⟨rfl, hb02⟩
    · have d1 : (k != 5) = true := by simpa using h5
      have hres := H.out.2.2.1
      rw [bxL_box (.inr h5), show boxL k n = (x1, e1) from Prod.ext HB.out.2.1 HB.out.2.2] at hres
      injection hres with hr1 hr2
      subst hr1 hr2 h1
      clear h5
      go_wp2_with fail
      go_returns
      exact ⟨rfl, hb01⟩
  · have d1 : (e1 != 0) = true := by simpa using h1
    have hres := H.out.2.2.1
    rw [bxL_box (.inl (by rw [HB.out.2.2]; exact h1)), show boxL k n = (x1, e1) from Prod.ext HB.out.2.1 HB.out.2.2] at hres
    injection hres with hr1 hr2
    subst hr1 hr2
    clear h1
    go_wp2_with fail
    go_returns
    exact ⟨rfl, hb01⟩
end Go.Proofs.Ytpkccpegdpodoaa

/- store: how many words the needed cells have. -/
namespace Go.Proofs.Ytpkccpegdpodoaa
open Go.RowKit Go.Maps

attribute [local go_sem ↓] Go.wp_at_zero Go.wp_at_succ

/-- the words of those that are still to come -/
def remS (ws : List U64) (L : List Nat) (left : Lit → Bool) : Nat := (L.map fun (q : Nat) => if left (.int .i64 (q : Int)) = true then Hau.sz ws q else 0).sum
theorem remS_start {ws : List U64} {L : List Nat} {left : Lit → Bool} (h : ∀ q ∈ L, left (.int .i64 (q : Int)) = true) : remS ws L left = (L.map (Hau.sz ws)).sum := by
  unfold remS
  rw [List.map_congr_left fun q hq => if_pos (h q hq)]
theorem remS_done {ws : List U64} {left : Lit → Bool} (h : ∀ z, left z = false) : ∀ L : List Nat, remS ws L left = 0
  | [] => rfl
  | q :: L => by
    have := remS_done (ws := ws) h L
    unfold remS at this ⊢
    rw [List.map_cons, List.sum_cons, this, h]; rfl
theorem sameKey_i64 (p q : Nat) : (Lit.int .i64 (p : Int)).sameKey (.int .i64 (q : Int)) = decide (p = q) := by
  show decide (IntKind.i64 = IntKind.i64 ∧ (p : Int) = (q : Int)) = _
  by_cases e : p = q
  · subst e; simp
  · have e' : ¬ (p : Int) = (q : Int) := by omega
    simp [e, e']
theorem remS_other {ws : List U64} {left : Lit → Bool} {q : Nat} : ∀ {L : List Nat}, q ∉ L → remS ws L (fun z => left z && !z.sameKey (.int .i64 (q : Int))) = remS ws L left
  | [], _ => rfl
  | a :: L, h => by
    have ih := remS_other (ws := ws) (left := left) (q := q) (L := L) (fun hm => h (by simp [hm]))
    have hne : ¬ a = q := fun e => h (by simp [e])
    unfold remS at ih ⊢
    rw [List.map_cons, List.map_cons, List.sum_cons, List.sum_cons, ih]
    simp [sameKey_i64, hne]
theorem remS_step {ws : List U64} {left : Lit → Bool} {q : Nat} (hl : left (.int .i64 (q : Int)) = true) : ∀ {L : List Nat}, L.Nodup → q ∈ L → remS ws L left = Hau.sz ws q + remS ws L (fun z => left z && !z.sameKey (.int .i64 (q : Int)))
  | [], _, h => by cases h
  | a :: L, hn, h => by
    obtain ⟨h1, h2⟩ := List.nodup_cons.1 hn
    by_cases e : a = q
    · subst e
      have ih := remS_other (ws := ws) (left := left) h1
      unfold remS at ih ⊢
      rw [List.map_cons, List.map_cons, List.sum_cons, List.sum_cons, ih, if_pos hl]
      simp [sameKey_i64]
    · have hm : q ∈ L := by
        rcases List.mem_cons.1 h with h | h
        · exact absurd h.symm e
        · exact h
      have ih := remS_step (ws := ws) hl h2 hm
      unfold remS at ih ⊢
      rw [List.map_cons, List.map_cons, List.sum_cons, List.sum_cons, ih]
      simp [sameKey_i64, e]
      omega
/-- how many words the told objects have -/
def wdsL (ws : List U64) (L : List Nat) : Nat := (L.map (Hau.sz ws)).sum

set_option maxHeartbeats 3200000 in
set_option maxRecDepth 100000 in
theorem sneeds_any (w : World) (base p : Nat) (F : Nat → Prop) (ws : List U64) (pl : List Int) (hd : List Bool) (h : Sx w base F p ws pl hd) :
    Calls Try.prog 138 #[.pointer (some ⟨p, 0, none⟩)] w fun e w' => e = .returned (.int .i64 (wdsL ws (tl ws pl hd))) ∧ Below w.heap.size w w' := by
  have hneed := sneeded_any w base p F ws pl hd h.so h.len h.small h.helds h.tb
  have hnod := h.tb.nod
  have hsum := h.tb.sum
  have hplt : ∀ q ∈ tl ws pl hd, q < ws.length := fun q hq => h.tb.plt hq
  have hws := h.tb.small
  obtain ⟨L, hL⟩ : ∃ L, tl ws pl hd = L := ⟨_, rfl⟩
  have hL' : Hau.told ws (Sto.rootsFrom pl hd) = L := hL
  rw [hL'] at hneed hnod hsum
  rw [hL] at hplt ⊢
  obtain ⟨tot, htot⟩ : ∃ t, wdsL ws L = t := ⟨_, rfl⟩
  rw [htot]
  have htl : tot ≤ 2000 := by rw [← htot]; unfold wdsL; omega
  have H := Lib.hid (And.intro h (And.intro hneed (And.intro hnod (And.intro hplt htot)))); clear h hneed hnod hplt htot hsum hL hL'
  go_enter Try.func138, Try.ntmps138
  go_wp2_with fail
  refine H.out.2.1.mono ?_
  rintro e w1 ⟨M, rfl, hMge, hM, hb1⟩
  have hs1 := hb1.size
  have hMM : w1.ownsMap Try.prog 3 unitElem M L.length (setI (ints L)) := hM
  clear hM
  go_wp2_with (first | (at_range; refine wpList_range_own _ rfl _ 166 rfl 3 167 lawIntH Try.underlying166 _ M L.length _ rfl hMM ?_; intro w0 hrg0 hg0 hs0) | fail)
  go_frame
  have hb0 : Below w.heap.size w w0 := hb1.grown hg0 hs1 (fun g hg => by cases hg)
  have hst := remS_start (ws := ws) (L := L) (left := Maps.has (setI (ints L))) (fun q hq => by rw [has_setI, ints_contains]; exact List.contains_iff_mem.2 hq)
  have HR := Lib.hid (And.intro hrg0 hst); clear hrg0 hst hMM
  go_loopg [3] (Maps.size (setI (ints L))) (fun gk sv wr => ∃ (left : Lit → Bool) (s : Nat), sv = .int .i64 s ∧ Hid (wr.ranges Try.prog 3 unitElem M w1.heap.size L.length (setI (ints L)) left gk ∧ (∀ z, left z = true → Maps.has (setI (ints L)) z = true) ∧ s + remS ws L left = tot) ∧ Below w.heap.size w wr ∧ w1.heap.size + 1 ≤ wr.heap.size)
  case atStart => exact ⟨Maps.has (setI (ints L)), 0, rfl, ⟨HR.out.1, fun _ h => h, by rw [HR.out.2]; have := H.out.2.2.2.2; unfold wdsL at this; omega⟩, hb0, by omega⟩
  case round =>
    obtain ⟨left, s, rfl, hkeep, hbl, hsz⟩ := hrel
    have hrg := hkeep.out.1
    have HK := Lib.hid hkeep.out; clear hkeep
    go_wp2_with (first | (at_next; refine wpList_next_ranges (α := Int) (β := Unit) _ rfl _ rfl 3 lawIntH unitElem (Value.int .i64) (fun _ => .agg #[]) (fun key kl hkey => by obtain ⟨x, rfl, _⟩ := Maps.keyOf_int_inv Try.underlying3 hkey; exact ⟨x, rfl⟩) (fun v y hv => ⟨(), (unitElem_inv hv).1⟩) M w1.heap.size L.length _ _ _ rfl hrg ?_ ?_) | fail)
    · intro hc0 hl0
      have h1 := HK.out.2.2
      rw [remS_done hl0 L] at h1
      have HE := Lib.hid h1; clear h1 hrg hl0
      go_wp2_with fail
      go_returns
      exact ⟨by rw [← HE.out]; rfl, hbl⟩
    · intro x c kl y w2 cnt2 hkey hlk hv hat hrg2 hlt hgr hsz2 hen
      obtain ⟨x', ex, rfl, -⟩ := Maps.keyOf_int_inv Try.underlying3 hkey
      injection ex with _ ex
      subst ex
      have hin := HK.out.2.1 _ hlk
      rw [has_setI] at hin
      have hin2 := List.contains_iff_mem.1 hin
      unfold ints at hin2
      obtain ⟨q, hq, rfl⟩ := List.mem_map.1 hin2
      have hstep := remS_step (ws := ws) hlk H.out.2.2.1 hq
      have hsum := HK.out.2.2
      rw [hstep] at hsum
      have hb2 : Below w.heap.size w w2 := hbl.grown hgr hbl.size (fun g hg => by injection hg with hg; omega)
      have hql := H.out.2.2.2.1 q hq
      have hlong := slong_any w2 base p q F ws pl hd (H.out.1.so.fresh hb2) hql (by omega)
      obtain ⟨lg, hlg⟩ : ∃ t, Hau.lg (Hau.wat ws q) = t := ⟨_, rfl⟩
      have hszq : Hau.sz ws q = 1 + lg := by unfold Hau.sz; rw [hlg]
      rw [hlg] at hlong
      rw [hszq] at hsum
      have e1 : IntKind.i64.wrap (1 + (lg : Int)) = 1 + (lg : Int) := IntWalk.i64_in _ (by omega)
      have e2 : IntKind.i64.wrap ((s : Int) + (1 + (lg : Int))) = (s : Int) + (1 + (lg : Int)) := IntWalk.i64_in _ (by omega)
      have hnew : w2.ranges Try.prog 3 unitElem M w1.heap.size L.length (setI (ints L)) (fun z => left z && !z.sameKey (.int .i64 (q : Int))) cnt2 := hrg2
      have HN := Lib.hid (And.intro hnew (And.intro hlong hsum)); clear hnew hrg2 hrg hlong hsum hlk hat hin hin2 hq hstep hkey hv
      go_wp2_with fail
      refine HN.out.2.1.mono ?_
      rintro e w3 ⟨rfl, rfl⟩
      go_wp2_with fail
      go_roundg cnt2
      case measure => exact hlt
      case rel => exact ⟨_, s + (1 + lg), by congr 1 <;> omega, ⟨HN.out.1, fun z hz => HK.out.2.1 z (by simp only [Bool.and_eq_true] at hz; exact hz.1), by have := HN.out.2.2; omega⟩, hb2, by omega⟩
end Go.Proofs.Ytpkccpegdpodoaa

/- store: a collection. -/
namespace Go.Proofs.Ytpkccpegdpodoaa
open Go.RowKit Go.Maps

attribute [local go_sem ↓] Go.wp_at_zero Go.wp_at_succ

theorem Hau.has_mapD_neg (ws : List U64) {x : Int} (hx : x < 0) : ∀ n (F : List Nat), F.length = n → Maps.has (Hau.mapD ws F) (.int .i64 x) = false
  | 0, F, hn => by
    have := List.eq_nil_of_length_eq_zero hn
    subst this
    rfl
  | n + 1, F, hn => by
    rcases List.eq_nil_or_concat F with rfl | ⟨G, q, rfl⟩
    · simp at hn
    rw [List.concat_eq_append] at hn ⊢
    have hG : G.length = n := by simpa using hn
    have hne : Lit.int .i64 x ≠ Lit.int .i64 (q : Int) := by intro e; injection e with _ e; omega
    rw [Hau.mapD_snoc, Maps.has_put_other hne, Hau.has_mapD_neg ws hx n G hG]
theorem ints_neg {L : List Nat} {x : Int} (hx : x < 0) : (ints L).contains x = false := by
  rw [Bool.eq_false_iff]
  intro h
  have := List.contains_iff_mem.1 h
  unfold ints at this
  obtain ⟨k, _, e⟩ := List.mem_map.1 this
  omega
theorem Hau.has_mapD (ws : List U64) (x : Int) {F : List Nat} (hF : F.Nodup) : Maps.has (Hau.mapD ws F) (.int .i64 x) = (ints F).contains x := by
  by_cases hx : x < 0
  · rw [Hau.has_mapD_neg ws hx _ F rfl, ints_neg hx]
  · obtain ⟨p, rfl⟩ : ∃ p : Nat, x = (p : Int) := ⟨x.toNat, by omega⟩
    rw [(Hau.mapD_spec ws p _ F rfl hF).1, ints_contains]
/-- where a cell lies behind a collection -/
def mvd (ws : List U64) (L : List Nat) (x : Int) : Int := if (ints L).contains x = true then (Hau.posOf ws L x.toNat : Int) else -1

theorem SoL.setPlace {w : World} {base p g i : Nat} {F : Nat → Prop} {ws : List U64} {pl : List Int} {hd : List Bool} {WA HA : Option Addr} {cw ac hc : Nat} (h : SoL w base F p ws pl hd WA (some ⟨g, 0, none⟩) HA cw ac hc) (hi : i < pl.length) (y : Int) (hy : I64 y) :
    SoL (w.setCell ⟨g, i, none⟩ (.int .i64 y)) base F p ws (pl.set i y) hd WA (some ⟨g, 0, none⟩) HA cw ac hc := by
  have e : (pl.set i y).length = pl.length := List.length_set
  refine ⟨?_, h.words.setCell _ _ (fun e => own_own_ty h.places h.words (by decide) g rfl e), h.places.set_int y hi, h.helds.setCell _ _ (fun e => own_own_ty h.places h.helds (by decide) g rfl e), h.foot, h.footW, h.footA, h.footH, h.okW, fun x hx => ?_⟩
  · rw [e]
    exact h.blk.far (fun e => own_ne_ty h.places h.blk (by decide) (by rw [e]; rfl)) _
  · rcases List.mem_or_eq_of_mem_set hx with hx | rfl
    · exact h.okA x hx
    · exact hy
theorem grown_set {w w1 : World} {g : Nat} (h : w.grownBy w1 (some g)) (i : Nat) (v : Value) : w.grownBy (w1.setCell ⟨g, i, none⟩ v) (some g) :=
  ⟨h.os, h.tape, h.output, by have := h.size; simp [World.setCell]; exact this, fun j hj hne => (Below.heap_setCell w1 _ _ j (fun e => hne (by simp only at e; rw [e]))).trans (h.block j hj hne)⟩
theorem mvd_ok {ws : List U64} {L : List Nat} {x : Int} (h : (L.map (Hau.sz ws)).sum ≤ 2000) : I64 (mvd ws L x) := by
  unfold mvd
  have := Hau.posOf_le ws L x.toNat
  unfold I64
  split <;> omega
theorem newWords_ok {ws rt : List U64} (h : ∀ x ∈ ws, Flat.ok x) : ∀ x ∈ Hau.newWords ws rt, Flat.ok x := by
  intro x hx
  unfold Hau.newWords at hx
  obtain ⟨q, hq, hx⟩ := List.mem_flatMap.1 hx
  unfold Hau.tobj at hx
  have ho : ∀ y ∈ Hau.obj ws q, Flat.ok y := fun y hy => h y (List.mem_of_mem_drop (List.mem_of_mem_take hy))
  rcases List.mem_append.1 hx with hx | hx
  · exact ho x (List.mem_of_mem_take hx)
  · obtain ⟨y, hy, rfl⟩ := List.mem_map.1 hx
    exact Hau.trn_flat (ho y (List.mem_of_mem_drop hy))
/-- a list that turns, place by place -/
theorem turn_step {α : Type} {f : α → α} {pl cur : List α} {k : Nat} {x : α} (h : cur = (pl.map f).take k ++ pl.drop k) (hx : pl[k]? = some x) : cur[k]? = some x ∧ cur.set k (f x) = (pl.map f).take (k + 1) ++ pl.drop (k + 1) := by
  have hk := (List.getElem?_eq_some_iff.1 hx).1
  have hl : ((pl.map f).take k).length = k := by rw [List.length_take, List.length_map]; omega
  subst h
  have hd : pl.drop k = x :: pl.drop (k + 1) := by
    rw [List.drop_eq_getElem_cons hk]
    congr 1
    rw [List.getElem?_eq_getElem hk] at hx
    exact Option.some.inj hx
  refine ⟨by rw [List.getElem?_append_right (by omega), hl, Nat.sub_self, hd]; rfl, ?_⟩
  rw [List.set_append_right _ _ (by omega), hl, Nat.sub_self, hd, List.set_cons_zero, List.take_add_one, List.getElem?_map, hx]
  simp

set_option maxHeartbeats 6400000 in
set_option maxRecDepth 100000 in
theorem scollect_any (w : World) (base p : Nat) (F : Nat → Prop) (ws : List U64) (pl : List Int) (hd : List Bool) (h : Sx w base F p ws pl hd) (hF : ∀ g, F g → g < w.heap.size) :
    Calls Try.prog 74 #[.pointer (some ⟨p, 0, none⟩)] w fun e w' => e = .returned (.int .i64 ((ws.length : Int) - (Hau.newWords ws (Sto.rootsFrom pl hd)).length)) ∧ So w' base (Up F w w') p (Hau.newWords ws (Sto.rootsFrom pl hd)) (pl.map (mvd ws (tl ws pl hd))) hd ∧ Touch F w w' := by
  obtain ⟨hso, hlen, hsm, hhd, htb⟩ := h
  have hroots := fun V (hV : So V base F p ws pl hd) => sroots_any V base p F ws pl hd hV hlen hsm hhd
  obtain ⟨rt, hrt⟩ : ∃ r, Sto.rootsFrom pl hd = r := ⟨_, rfl⟩
  obtain ⟨L, hL⟩ : ∃ l, tl ws pl hd = l := ⟨_, rfl⟩
  have hL' : Hau.told ws rt = L := by rw [← hrt]; exact hL
  rw [hrt] at hroots htb
  rw [hrt, hL]
  obtain ⟨WA, AA, HA, cw, ac, hc, h⟩ := hso
  have hmany := htb.many
  have hws := htb.small
  have hlt := htb.lt
  have hnod := htb.nod
  have hsum := htb.sum
  rw [hL'] at hmany hnod hsum hlt
  obtain ⟨n, hn⟩ : ∃ n, L.length = n := ⟨_, rfl⟩
  rw [hn] at hmany
  obtain ⟨NW, hNW⟩ : ∃ x, Hau.newWords ws rt = x := ⟨_, rfl⟩
  have hNl : NW.length ≤ 2000 := by
    rw [← hNW]; unfold Hau.newWords; rw [hL', Hau.tobjs_length hlt]; omega
  clear hlt
  have hNWo : ∀ x ∈ NW, Flat.ok x := fun x hx => newWords_ok h.okW x (by rw [hNW]; exact hx)
  have HNW := Lib.hid hNWo; clear hNWo
  have hcol := fun V hV OA oc b2 ho hro => scol_any V base p b2 oc F ws rt pl hd WA AA HA OA cw ac hc hV ho hro htb
  have hml : (Hau.mv ws L).length = n := by rw [Hau.mv_length, hn]
  have hmok := htb.mvok
  have hplt : ∀ q ∈ L, q < ws.length := fun q hq => htb.plt (by rw [hL']; exact hq)
  rw [hL'] at hcol hmok
  rw [hn, hNW] at hcol
  rw [hNW]
  have H := Lib.hid (And.intro h (And.intro hroots (And.intro hcol (And.intro hn (And.intro hml (And.intro hmok (And.intro hplt (And.intro hnod (And.intro hsum hF))))))))); clear h hroots hcol hml hmok hplt hhd hlen htb hnod hsum hF hn hL hL' hrt
  have hmm := @run_makeMap Try.prog
  go_enter Try.func74, Try.ntmps74
  go_upto_region 1 with fail
  go_cut [3, 4, 5] from 14 to 26 (fun v3 v4 v5 W2 => ∃ (T : Nat) (TA : Option Addr) (tc : Nat) (RA : Option Addr) (rn rc : Nat) (LA : Option Addr) (lc : Nat), v3 = .pointer (some ⟨T, 0, none⟩) ∧ v4 = .slice LA n lc ∧ Hid (Blk W2 T 70 #[.slice TA NW.length tc, .slice RA rn rc] ∧ Own W2 w.heap.size 24 TA tc NW ∧ Own W2 w.heap.size 82 LA lc (Hau.mv ws L) ∧ w.heap.size ≤ T) ∧ Below w.heap.size w W2)
  case first =>
    have BX : Below w.heap.size w w.drew := (Below.refl _ _).drew
    refine wp_region_held_drew (S := (fun w' => w'.cell? ⟨p, 0, none⟩ = some (.slice WA ws.length cw))) (by kernel_rfl) ?_ (fun hHeld0 => ?_)
    · first | trivial | ((try dsimp only); (first | exact (H.out.1.fresh BX).blk.cell 0 rfl | exact (H.out.1.fresh (BX.alloc BX.size _)).blk.cell 0 rfl | exact (H.out.1.fresh ((BX.setCell (p := ⟨_, 0, none⟩) hgt _).setCell (p := ⟨_, 1, none⟩) hgt _)).blk.cell 0 rfl))
    refine held_take (v := ?_) 0 rfl (by kernel_rfl) (by kernel_rfl) (by kernel_rfl) (fun _ _ _ h => h) (by rfl) ?_ (by assumption) ?_
    rotate_left
    · (intro w hSw; (try dsimp only at hSw); go_simp; try with_reducible rfl)
    try simp only [Act.put, List.setIfInBounds_toArray, List.set_cons_zero, List.set_cons_succ]
    refine held_take (v := ?_) 1 rfl (by kernel_rfl) (by kernel_rfl) (by kernel_rfl) (fun _ _ _ h => h) (by rfl) ?_ (by assumption) ?_
    rotate_left
    · (intro w hSw; (try dsimp only at hSw); go_simp; try with_reducible rfl)
    try simp only [Act.put, List.setIfInBounds_toArray, List.set_cons_zero, List.set_cons_succ]
    refine held_take (v := ?_) 2 rfl (by kernel_rfl) (by kernel_rfl) (by kernel_rfl) (fun _ _ _ h => h) (by rfl) ?_ (by assumption) ?_
    rotate_left
    · (intro w hSw; (try dsimp only at hSw); go_simp; try with_reducible rfl)
    try simp only [Act.put, List.setIfInBounds_toArray, List.set_cons_zero, List.set_cons_succ]
    refine held_take (v := ?_) 3 rfl (by kernel_rfl) (by kernel_rfl) (by kernel_rfl) (fun _ _ _ h => h) (by rfl) ?_ (by assumption) ?_
    rotate_left
    · (intro w hSw; (try dsimp only at hSw); go_simp; try with_reducible rfl)
    try simp only [Act.put, List.setIfInBounds_toArray, List.set_cons_zero, List.set_cons_succ]
    refine held_take (v := ?_) 4 rfl (by kernel_rfl) (by kernel_rfl) (by kernel_rfl) (fun _ _ _ h => h) (by rfl) ?_ (by assumption) ?_
    rotate_left
    · (intro w hSw; (try dsimp only at hSw); go_simp; try with_reducible rfl)
    try simp only [Act.put, List.setIfInBounds_toArray, List.set_cons_zero, List.set_cons_succ]
    refine held_call2 5 12 (by kernel_rfl) rfl rfl (fun K hK => ?_) (fun K hK => ?_)
    · go_simp
      go_at_call 146; refine (H.out.2.1 _ (H.out.1.fresh BX).so).mono ?_; rintro e wA ⟨OA, oc, rfl, hoA, hrA, hbA⟩; have BY := BX.trans (hbA.mono BX.size); have hgs := hbA.size; clear BX; have BX := BY; clear BY
      try (go_wp2_with fail)
      refine hK.out _ _ ?_ (fun hHeld1 => ?_)
      · first | trivial | ((try dsimp only); (first | exact (H.out.1.fresh BX).blk.cell 0 rfl | exact (H.out.1.fresh (BX.alloc BX.size _)).blk.cell 0 rfl | exact (H.out.1.fresh ((BX.setCell (p := ⟨_, 0, none⟩) hgt _).setCell (p := ⟨_, 1, none⟩) hgt _)).blk.cell 0 rfl))
      clear hK K hHeld0
      try simp only [Act.put, List.setIfInBounds_toArray, List.set_cons_zero, List.set_cons_succ]
      refine held_take (v := ?_) 6 rfl (by kernel_rfl) (by kernel_rfl) (by kernel_rfl) (fun _ _ _ h => h) (by rfl) ?_ (by assumption) ?_
      rotate_left
      · (intro w hSw; (try dsimp only at hSw); go_simp; try with_reducible rfl)
      try simp only [Act.put, List.setIfInBounds_toArray, List.set_cons_zero, List.set_cons_succ]
      refine held_call2 7 12 (by kernel_rfl) rfl rfl (fun K hK => ?_) (fun K hK => ?_)
      · go_simp
        have hSA : w.heap.size ≤ wA.heap.size := BX.size; go_at_call 39; refine (H.out.2.2.1 _ (H.out.1.fresh BX) OA oc _ hoA hrA).mono ?_; rintro e wB ⟨TA, tc, RA, rc, LA, lc, rfl, hoT, hoL, hbB⟩; have BY := BX.trans (hbB.mono BX.size); have hgB := hbB.size; clear BX; have BX := BY; clear BY; have hSB : w.heap.size ≤ wB.heap.size := BX.size
        try (go_wp2_with fail)
        refine hK.out _ _ ?_ (fun hHeld2 => ?_)
        · first | trivial | ((try dsimp only); (first | exact (H.out.1.fresh BX).blk.cell 0 rfl | exact (H.out.1.fresh (BX.alloc BX.size _)).blk.cell 0 rfl | exact (H.out.1.fresh ((BX.setCell (p := ⟨_, 0, none⟩) hgt _).setCell (p := ⟨_, 1, none⟩) hgt _)).blk.cell 0 rfl))
        clear hK K hHeld1
        try simp only [Act.put, List.setIfInBounds_toArray, List.set_cons_zero, List.set_cons_succ]
        refine held_take (v := ?_) 8 rfl (by kernel_rfl) (by kernel_rfl) (by kernel_rfl) (fun _ _ _ h => h) (by rfl) ?_ (by assumption) ?_
        rotate_left
        · (intro w hSw; (try dsimp only at hSw); go_simp; try with_reducible rfl)
        try simp only [Act.put, List.setIfInBounds_toArray, List.set_cons_zero, List.set_cons_succ]
        refine held_take (v := ?_) 9 rfl (by kernel_rfl) (by kernel_rfl) (by kernel_rfl) (fun _ _ _ h => h) (by rfl) ?_ (by assumption) ?_
        rotate_left
        · (intro w hSw; (try dsimp only at hSw); go_simp; try with_reducible rfl)
        try simp only [Act.put, List.setIfInBounds_toArray, List.set_cons_zero, List.set_cons_succ]
        refine held_take (v := ?_) 10 rfl (by kernel_rfl) (by kernel_rfl) (by kernel_rfl) (fun _ _ _ h => h) (by rfl) ?_ (by assumption) ?_
        rotate_left
        · (intro w hSw; (try dsimp only at hSw); go_simp; try with_reducible rfl)
        try simp only [Act.put, List.setIfInBounds_toArray, List.set_cons_zero, List.set_cons_succ]
        refine held_take (v := ?_) 11 rfl (by kernel_rfl) (by kernel_rfl) (by kernel_rfl) (fun _ _ _ h => h) (by rfl) ?_ (by assumption) ?_
        rotate_left
        · (intro w hSw; (try dsimp only at hSw); go_simp; try with_reducible rfl)
        try simp only [Act.put, List.setIfInBounds_toArray, List.set_cons_zero, List.set_cons_succ]
        refine held_call 12 (by kernel_rfl) rfl (fun K hK => ?_)
        go_simp
        refine hK.out _ _ ?_ (fun hHeld3 => ?_)
        · first | trivial | ((try dsimp only); (first | exact (H.out.1.fresh BX).blk.cell 0 rfl | exact (H.out.1.fresh (BX.alloc BX.size _)).blk.cell 0 rfl | exact (H.out.1.fresh ((BX.setCell (p := ⟨_, 0, none⟩) hgt _).setCell (p := ⟨_, 1, none⟩) hgt _)).blk.cell 0 rfl))
        clear hK K hHeld2
        try simp only [Act.put, List.setIfInBounds_toArray, List.set_cons_zero, List.set_cons_succ]
        refine held_call 13 (by kernel_rfl) rfl (fun K hK => ?_)
        go_simp
        refine hK.out _ _ ?_ (fun hHeld4 => ?_)
        · first | trivial | ((try dsimp only); (first | exact (H.out.1.fresh BX).blk.cell 0 rfl | exact (H.out.1.fresh (BX.alloc BX.size _)).blk.cell 0 rfl | exact (H.out.1.fresh ((BX.setCell (p := ⟨_, 0, none⟩) hgt _).setCell (p := ⟨_, 1, none⟩) hgt _)).blk.cell 0 rfl))
        clear hK K hHeld3
        try simp only [Act.put, List.setIfInBounds_toArray, List.set_cons_zero, List.set_cons_succ]
        refine held_take (v := ?_) 14 rfl (by kernel_rfl) (by kernel_rfl) (by kernel_rfl) (fun _ _ _ h => h) (by rfl) ?_ (by assumption) ?_
        rotate_left
        · (intro w hSw; (try dsimp only at hSw); go_simp; try with_reducible rfl)
        try simp only [Act.put, List.setIfInBounds_toArray, List.set_cons_zero, List.set_cons_succ]
        refine held_take (v := ?_) 15 rfl (by kernel_rfl) (by kernel_rfl) (by kernel_rfl) (fun _ _ _ h => h) (by rfl) ?_ (by assumption) ?_
        rotate_left
        · (intro w hSw; (try dsimp only at hSw); go_simp; try with_reducible rfl)
        try simp only [Act.put, List.setIfInBounds_toArray, List.set_cons_zero, List.set_cons_succ]
        refine wpAnyH_done (by kernel_rfl) ?_ _
        go_wp2_with fail
        go_meet
        exact ⟨_, TA, tc, RA, _, rc, LA, lc, rfl, rfl, by unfold Hid; exact ⟨Blk.new _ _ _, (hoT.alloc _).base_le hSA, (hoL.alloc _).base_le hSA, hSB⟩, BX.alloc BX.size _⟩
      · go_simp
        refine hK.out _ _ ?_ (fun hHeld2 => ?_)
        · first | trivial | ((try dsimp only); (first | exact (H.out.1.fresh BX).blk.cell 0 rfl | exact (H.out.1.fresh (BX.alloc BX.size _)).blk.cell 0 rfl | exact (H.out.1.fresh ((BX.setCell (p := ⟨_, 0, none⟩) hgt _).setCell (p := ⟨_, 1, none⟩) hgt _)).blk.cell 0 rfl))
        clear hK K hHeld1
        try simp only [Act.put, List.setIfInBounds_toArray, List.set_cons_zero, List.set_cons_succ]
        refine held_call 7 (by kernel_rfl) rfl (fun K hK => ?_)
        go_simp
        have hgt : w.heap.size ≤ wA.heap.size := BX.size; go_at_call 39; refine (H.out.2.2.1 _ (H.out.1.fresh (BX.alloc BX.size _)) OA oc _ (hoA.alloc _) hrA).mono ?_; rintro e wB ⟨TA, tc, RA, rc, LA, lc, rfl, hoT, hoL, hbB⟩; have BY := (BX.alloc BX.size _).trans (hbB.mono (BX.alloc BX.size _).size); have hgB := hbB.size; clear BX; have BX := BY; clear BY; have hlt0 : wA.heap.size < (wA.alloc (.cells #[.slice none 0 0, .slice none 0 0] 70)).heap.size := (by simp); have hN : Blk wB wA.heap.size 70 #[.slice none 0 0, .slice none 0 0] := (Blk.new wA _ _).fresh hbB; have n0 := hN.cell 0 (v := .slice none 0 0) rfl; have n1 := hN.cell 1 (v := .slice none 0 0) rfl; have z0 := hN.frozen 0; have z1 := hN.frozen 1
        try (go_wp2_with fail)
        refine hK.out _ _ ?_ (fun hHeld3 => ?_)
        · first | trivial | ((try dsimp only); (first | exact (H.out.1.fresh BX).blk.cell 0 rfl | exact (H.out.1.fresh (BX.alloc BX.size _)).blk.cell 0 rfl | exact (H.out.1.fresh ((BX.setCell (p := ⟨_, 0, none⟩) hgt _).setCell (p := ⟨_, 1, none⟩) hgt _)).blk.cell 0 rfl))
        clear hK K hHeld2
        try simp only [Act.put, List.setIfInBounds_toArray, List.set_cons_zero, List.set_cons_succ]
        refine held_take (v := ?_) 8 rfl (by kernel_rfl) (by kernel_rfl) (by kernel_rfl) (fun _ _ _ h => h) (by rfl) ?_ (by assumption) ?_
        rotate_left
        · (intro w hSw; (try dsimp only at hSw); go_simp; try with_reducible rfl)
        try simp only [Act.put, List.setIfInBounds_toArray, List.set_cons_zero, List.set_cons_succ]
        refine held_take (v := ?_) 9 rfl (by kernel_rfl) (by kernel_rfl) (by kernel_rfl) (fun _ _ _ h => h) (by rfl) ?_ (by assumption) ?_
        rotate_left
        · (intro w hSw; (try dsimp only at hSw); go_simp; try with_reducible rfl)
        try simp only [Act.put, List.setIfInBounds_toArray, List.set_cons_zero, List.set_cons_succ]
        refine held_take (v := ?_) 10 rfl (by kernel_rfl) (by kernel_rfl) (by kernel_rfl) (fun _ _ _ h => h) (by rfl) ?_ (by assumption) ?_
        rotate_left
        · (intro w hSw; (try dsimp only at hSw); go_simp; try with_reducible rfl)
        try simp only [Act.put, List.setIfInBounds_toArray, List.set_cons_zero, List.set_cons_succ]
        refine held_take (v := ?_) 11 rfl (by kernel_rfl) (by kernel_rfl) (by kernel_rfl) (fun _ _ _ h => h) (by rfl) ?_ (by assumption) ?_
        rotate_left
        · (intro w hSw; (try dsimp only at hSw); go_simp; try with_reducible rfl)
        try simp only [Act.put, List.setIfInBounds_toArray, List.set_cons_zero, List.set_cons_succ]
        refine held_call 13 (by kernel_rfl) rfl (fun K hK => ?_)
        go_simp
        refine hK.out _ _ ?_ (fun hHeld4 => ?_)
        · first | trivial | ((try dsimp only); (first | exact (H.out.1.fresh BX).blk.cell 0 rfl | exact (H.out.1.fresh (BX.alloc BX.size _)).blk.cell 0 rfl | exact (H.out.1.fresh ((BX.setCell (p := ⟨_, 0, none⟩) hgt _).setCell (p := ⟨_, 1, none⟩) hgt _)).blk.cell 0 rfl))
        clear hK K hHeld3
        try simp only [Act.put, List.setIfInBounds_toArray, List.set_cons_zero, List.set_cons_succ]
        refine held_take (v := ?_) 14 rfl (by kernel_rfl) (by kernel_rfl) (by kernel_rfl) (fun _ _ _ h => h) (by rfl) ?_ (by assumption) ?_
        rotate_left
        · (intro w hSw; (try dsimp only at hSw); go_simp; try with_reducible rfl)
        try simp only [Act.put, List.setIfInBounds_toArray, List.set_cons_zero, List.set_cons_succ]
        refine held_take (v := ?_) 15 rfl (by kernel_rfl) (by kernel_rfl) (by kernel_rfl) (fun _ _ _ h => h) (by rfl) ?_ (by assumption) ?_
        rotate_left
        · (intro w hSw; (try dsimp only at hSw); go_simp; try with_reducible rfl)
        try simp only [Act.put, List.setIfInBounds_toArray, List.set_cons_zero, List.set_cons_succ]
        refine wpAnyH_done (by kernel_rfl) ?_ _
        go_wp2_with fail
        go_meet
        exact ⟨_, TA, tc, RA, _, rc, LA, lc, rfl, rfl, by unfold Hid; exact ⟨(hN.set_ 0 _).set_ 1 _, (own_two hoT hlt0).base_le (by omega), (own_two hoL hlt0).base_le (by omega), hgt⟩, (BX.setCell (p := ⟨_, 0, none⟩) hgt _).setCell (p := ⟨_, 1, none⟩) hgt _⟩
    · go_simp
      refine hK.out _ _ ?_ (fun hHeld1 => ?_)
      · first | trivial | ((try dsimp only); (first | exact (H.out.1.fresh BX).blk.cell 0 rfl | exact (H.out.1.fresh (BX.alloc BX.size _)).blk.cell 0 rfl | exact (H.out.1.fresh ((BX.setCell (p := ⟨_, 0, none⟩) hgt _).setCell (p := ⟨_, 1, none⟩) hgt _)).blk.cell 0 rfl))
      clear hK K hHeld0
      try simp only [Act.put, List.setIfInBounds_toArray, List.set_cons_zero, List.set_cons_succ]
      refine held_call 5 (by kernel_rfl) rfl (fun K hK => ?_)
      go_simp
      go_at_call 146; refine (H.out.2.1 _ (H.out.1.fresh (BX.alloc BX.size _)).so).mono ?_; rintro e wA ⟨OA, oc, rfl, hoA, hrA, hbA⟩; have BY := (BX.alloc BX.size _).trans (hbA.mono (BX.alloc BX.size _).size); have hgs := hbA.size; clear BX; have BX := BY; clear BY
      try (go_wp2_with fail)
      refine hK.out _ _ ?_ (fun hHeld2 => ?_)
      · first | trivial | ((try dsimp only); (first | exact (H.out.1.fresh BX).blk.cell 0 rfl | exact (H.out.1.fresh (BX.alloc BX.size _)).blk.cell 0 rfl | exact (H.out.1.fresh ((BX.setCell (p := ⟨_, 0, none⟩) hgt _).setCell (p := ⟨_, 1, none⟩) hgt _)).blk.cell 0 rfl))
      clear hK K hHeld1
      try simp only [Act.put, List.setIfInBounds_toArray, List.set_cons_zero, List.set_cons_succ]
      refine held_take (v := ?_) 6 rfl (by kernel_rfl) (by kernel_rfl) (by kernel_rfl) (fun _ _ _ h => h) (by rfl) ?_ (by assumption) ?_
      rotate_left
      · (intro w hSw; (try dsimp only at hSw); go_simp; try with_reducible rfl)
      try simp only [Act.put, List.setIfInBounds_toArray, List.set_cons_zero, List.set_cons_succ]
      refine held_call 7 (by kernel_rfl) rfl (fun K hK => ?_)
      go_simp
      have hgt : w.heap.size ≤ w.heap.size := Nat.le_refl _; go_at_call 39; refine (H.out.2.2.1 _ (H.out.1.fresh BX) OA oc _ hoA hrA).mono ?_; rintro e wB ⟨TA, tc, RA, rc, LA, lc, rfl, hoT, hoL, hbB⟩; have BY := BX.trans (hbB.mono BX.size); have hgB := hbB.size; clear BX; have BX := BY; clear BY; have hlt0 : w.heap.size < wA.heap.size := (by simp at hgs; omega); have hN : Blk wB w.heap.size 70 #[.slice none 0 0, .slice none 0 0] := ((Blk.new w.drew _ _).fresh hbA).fresh hbB; have n0 := hN.cell 0 (v := .slice none 0 0) rfl; have n1 := hN.cell 1 (v := .slice none 0 0) rfl; have z0 := hN.frozen 0; have z1 := hN.frozen 1
      try (go_wp2_with fail)
      refine hK.out _ _ ?_ (fun hHeld3 => ?_)
      · first | trivial | ((try dsimp only); (first | exact (H.out.1.fresh BX).blk.cell 0 rfl | exact (H.out.1.fresh (BX.alloc BX.size _)).blk.cell 0 rfl | exact (H.out.1.fresh ((BX.setCell (p := ⟨_, 0, none⟩) hgt _).setCell (p := ⟨_, 1, none⟩) hgt _)).blk.cell 0 rfl))
      clear hK K hHeld2
      try simp only [Act.put, List.setIfInBounds_toArray, List.set_cons_zero, List.set_cons_succ]
      refine held_take (v := ?_) 8 rfl (by kernel_rfl) (by kernel_rfl) (by kernel_rfl) (fun _ _ _ h => h) (by rfl) ?_ (by assumption) ?_
      rotate_left
      · (intro w hSw; (try dsimp only at hSw); go_simp; try with_reducible rfl)
      try simp only [Act.put, List.setIfInBounds_toArray, List.set_cons_zero, List.set_cons_succ]
      refine held_take (v := ?_) 9 rfl (by kernel_rfl) (by kernel_rfl) (by kernel_rfl) (fun _ _ _ h => h) (by rfl) ?_ (by assumption) ?_
      rotate_left
      · (intro w hSw; (try dsimp only at hSw); go_simp; try with_reducible rfl)
      try simp only [Act.put, List.setIfInBounds_toArray, List.set_cons_zero, List.set_cons_succ]
      refine held_take (v := ?_) 10 rfl (by kernel_rfl) (by kernel_rfl) (by kernel_rfl) (fun _ _ _ h => h) (by rfl) ?_ (by assumption) ?_
      rotate_left
      · (intro w hSw; (try dsimp only at hSw); go_simp; try with_reducible rfl)
      try simp only [Act.put, List.setIfInBounds_toArray, List.set_cons_zero, List.set_cons_succ]
      refine held_take (v := ?_) 11 rfl (by kernel_rfl) (by kernel_rfl) (by kernel_rfl) (fun _ _ _ h => h) (by rfl) ?_ (by assumption) ?_
      rotate_left
      · (intro w hSw; (try dsimp only at hSw); go_simp; try with_reducible rfl)
      try simp only [Act.put, List.setIfInBounds_toArray, List.set_cons_zero, List.set_cons_succ]
      refine held_call 13 (by kernel_rfl) rfl (fun K hK => ?_)
      go_simp
      refine hK.out _ _ ?_ (fun hHeld4 => ?_)
      · first | trivial | ((try dsimp only); (first | exact (H.out.1.fresh BX).blk.cell 0 rfl | exact (H.out.1.fresh (BX.alloc BX.size _)).blk.cell 0 rfl | exact (H.out.1.fresh ((BX.setCell (p := ⟨_, 0, none⟩) hgt _).setCell (p := ⟨_, 1, none⟩) hgt _)).blk.cell 0 rfl))
      clear hK K hHeld3
      try simp only [Act.put, List.setIfInBounds_toArray, List.set_cons_zero, List.set_cons_succ]
      refine held_take (v := ?_) 14 rfl (by kernel_rfl) (by kernel_rfl) (by kernel_rfl) (fun _ _ _ h => h) (by rfl) ?_ (by assumption) ?_
      rotate_left
      · (intro w hSw; (try dsimp only at hSw); go_simp; try with_reducible rfl)
      try simp only [Act.put, List.setIfInBounds_toArray, List.set_cons_zero, List.set_cons_succ]
      refine held_take (v := ?_) 15 rfl (by kernel_rfl) (by kernel_rfl) (by kernel_rfl) (fun _ _ _ h => h) (by rfl) ?_ (by assumption) ?_
      rotate_left
      · (intro w hSw; (try dsimp only at hSw); go_simp; try with_reducible rfl)
      try simp only [Act.put, List.setIfInBounds_toArray, List.set_cons_zero, List.set_cons_succ]
      refine wpAnyH_done (by kernel_rfl) ?_ _
      go_wp2_with fail
      go_meet
      exact ⟨_, TA, tc, RA, _, rc, LA, lc, rfl, rfl, by unfold Hid; exact ⟨(hN.set_ 0 _).set_ 1 _, (own_two hoT hlt0).base_le (by omega), (own_two hoL hlt0).base_le (by omega), hgt⟩, (BX.setCell (p := ⟨_, 0, none⟩) hgt _).setCell (p := ⟨_, 1, none⟩) hgt _⟩
  case rest =>
    obtain ⟨T, TA, tc, RA, rn, rc, LA, lc, rfl, rfl, hX, hbc⟩ := hcut
    have hsc := hbc.size
    have HX := hX; clear hX
    go_upto_region 3 with fail
    clear hmm
    refine wp_world (fun W => W.ownsMap Try.prog 3 (plainElem (H := Unit) Try.prog 3) wc.heap.size 0 (Hau.mapD ws []) ∧ Below wc.heap.size wc W ∧ W.heap.size = wc.heap.size + 1) ⟨World.ownsMap_made _ _ _ _, (Below.refl _ _).alloc (Nat.le_refl _) _, by simp⟩ ?_
    rintro W ⟨hM, hbW, hsW⟩
    have hbwW : Below w.heap.size w W := hbc.trans (hbW.mono hsc)
    have HM := Lib.hid hM; clear hM
    go_wp2_with fail
    go_loopg [8, 29] n (fun gk v8 iv wr => ∃ k : Nat, k ≤ n ∧ gk = n - k ∧ iv = .int .i64 k ∧ Hid (wr.ownsMap Try.prog 3 (plainElem (H := Unit) Try.prog 3) wc.heap.size k (Hau.mapD ws (L.take k)) ∧ (∀ g, g < wc.heap.size → wr.heap[g]? = wc.heap[g]?)) ∧ Below w.heap.size w wr ∧ W.heap.size ≤ wr.heap.size)
    case atStart => exact ⟨0, Nat.zero_le _, rfl, rfl, ⟨HM.out, fun g hg => hbW.block g hg⟩, hbwW, Nat.le_refl _⟩
    case round =>
      obtain ⟨k, hk, rfl, rfl, hkeep, hbl, hsz⟩ := hrel
      by_cases hlt : k < n
      · obtain ⟨q, hq⟩ : ∃ q, L[k]? = some q := ⟨_, List.getElem?_eq_getElem (by have := H.out.2.2.2.1; omega)⟩
        have hmq := Hau.mv_get (ws := ws) hq
        have hql := H.out.2.2.2.2.2.2.1 q (List.mem_of_getElem? hq)
        have hor : Own wr w.heap.size 82 LA lc (Hau.mv ws L) := HX.out.2.2.1.block_ (fun g hg => hkeep.out.2 g (HX.out.2.2.1.lt g hg).2)
        obtain ⟨b, o, rfl, hb', -, -, q0, q1⟩ := (hor.at_ H.out.2.2.2.2.2.1).pairS hmq
        have hlt2 : (k : Int) < (n : Int) := by omega
        have htk := Hau.sum_take_le (Hau.sz ws) L k
        have hsl := H.out.2.2.2.2.2.2.2.2.1
        obtain ⟨t, ht⟩ : ∃ t, ((L.take k).map (Hau.sz ws)).sum = t := ⟨_, rfl⟩
        simp only [ht] at q0 q1
        rw [ht] at htk
        have hwf : (Lit.int .i64 (t : Int)).wf = true := wf_i64H ⟨by omega, by omega⟩
        have hkey : keyOf Try.prog 3 (.int .i64 (q : Int)) = some (.int .i64 (q : Int)) := keyOf_int_mk Try.underlying3 (wf_i64H ⟨by omega, by omega⟩)
        have hsn : Hau.mapD ws (L.take (k + 1)) = (Hau.mapD ws (L.take k)).put (.int .i64 (q : Int)) (.lit (.int .i64 (t : Int))) := by rw [take_snocH _ _ _ hq, Hau.mapD_snoc, ht]
        have hmo : (wr.alloc (.cells #[.int .i64 (t : Int), .int .i64 (q : Int)] 82)).ownsMap Try.prog 3 (plainElem (H := Unit) Try.prog 3) wc.heap.size k (Hau.mapD ws (L.take k)) := hkeep.out.1.kept (grownBy_below none ((Below.refl wr.heap.size wr).alloc (Nat.le_refl _) _)) (by simp)
        have HKEY := Lib.hid (And.intro hkey (And.intro hsn (And.intro hmo (And.intro hkeep.out.2 hwf)))); clear hkey hsn hmo hkeep hq hmq hor ht hwf htk hsl
        go_wp2_with (first | (at_mapUpdate; refine wpList_mapUpdate_own _ rfl _ _ _ 162 rfl 3 3 lawIntH Try.underlying162 (plainElem (H := Unit) Try.prog 3) wc.heap.size k _ rfl HKEY.out.2.2.1 (by unfold maxLen; omega) _ _ _ rfl rfl HKEY.out.1 _ [] (plainElem_int Try.underlying3 HKEY.out.2.2.2.2) ?_; intro w3 hown3 hgrow3) | fail)
        have hs3 := hgrow3.size
        have hl2 : Below w.heap.size w (wr.alloc (.cells #[.int .i64 (t : Int), .int .i64 (q : Int)] 82)) := hbl.alloc hbl.size _
        simp only [World.size_alloc] at hs3
        go_roundg (n - (k + 1))
        case measure => omega
        case rel => exact ⟨k + 1, by omega, rfl, by go_num, ⟨by rw [HKEY.out.2.1]; exact hown3, fun g hg => ((hgrow3.block g (by simp <;> omega) (fun e => by injection e with e; omega)).trans (Below.heap_alloc wr _ g (by omega))).trans (HKEY.out.2.2.2.1 g hg)⟩, hl2.grown hgrow3 hl2.size (fun j hj => by injection hj with hj; omega), by omega⟩
      · obtain rfl : k = n := by omega
        have hO := hkeep.out
        rw [List.take_of_length_le (by have := H.out.2.2.2.1; omega)] at hO
        obtain ⟨w2, rfl⟩ : ∃ x, x = wr := ⟨_, rfl⟩
        have hS2 := H.out.1.fresh hbl
        have hT2 : Blk w2 T 70 #[.slice TA NW.length tc, .slice RA rn rc] := (hO.2 T HX.out.1.lt).trans HX.out.1
        have hTA2 : Own w2 w.heap.size 24 TA tc NW := HX.out.2.1.block_ (fun g hg => hO.2 g (HX.out.2.1.lt g hg).2)
        have c1 := hS2.blk.cell 1 (v := .slice AA pl.length ac) rfl
        have H2 := Lib.hid (And.intro hS2 (And.intro hT2 (And.intro hTA2 hO.1))); clear hS2 hT2 hTA2 hO hkeep HM
        go_wp2_with fail
        clear c1
        go_loopg [9, 10, 11, 12, 44] pl.length (fun gk v9 v10 v11 v12 iv wr => ∃ (k : Nat) (cur : List Int), k ≤ pl.length ∧ gk = pl.length - k ∧ iv = .int .i64 k ∧ cur.length = pl.length ∧ Hid (cur = (pl.map (mvd ws L)).take k ++ pl.drop k ∧ SoL wr base F p ws cur hd WA AA HA cw ac hc ∧ w2.grownBy wr (rowOf AA)))
        case atStart => exact ⟨0, pl, Nat.zero_le _, rfl, rfl, rfl, ⟨by simp, H2.out.1, grownBy_below _ (Below.refl _ _)⟩⟩
        case round =>
          obtain ⟨j, cur, hj, rfl, rfl, hcl, hkeep⟩ := hrel
          by_cases hlt2 : j < pl.length
          · obtain ⟨x, hx⟩ : ∃ x, pl[j]? = some x := ⟨_, List.getElem?_eq_getElem hlt2⟩
            obtain ⟨hcur, hS, hgr⟩ := hkeep.out
            obtain ⟨hcx, hset⟩ := turn_step hcur hx
            have hxok : I64 x := hS.okA x (List.mem_of_getElem? hcx)
            obtain ⟨g, rfl, hg1, hg2, q0⟩ := hS.place hcx
            have z0 := hS.places.frozen (g := g) rfl j
            have c1 := hS.blk.cell 1 (v := .slice (some ⟨g, 0, none⟩) cur.length ac) rfl
            rw [hcl] at c1
            have hlt3 : (j : Int) < (pl.length : Int) := by omega
            have hkey : keyOf Try.prog 3 (.int .i64 x) = some (.int .i64 x) := keyOf_int_mk Try.underlying3 (wf_i64H hxok)
            have hgm : g < w.heap.size := (H.out.1.places.lt g rfl).2
            have hmp := H2.out.2.2.2.kept hgr (fun e => by have e2 : wc.heap.size = g := Option.some.inj e; omega)
            have hmd := Hau.has_mapD ws x H.out.2.2.2.2.2.2.2.1
            obtain ⟨r, hr⟩ : ∃ r, (ints L).contains x = r := ⟨_, rfl⟩
            have hnew := hS.setPlace (i := j) (by omega) (mvd ws L x) (mvd_ok (x := x) (by have := H.out.2.2.2.2.2.2.2.2.1; omega))
            have hgr2 := grown_set hgr j (.int .i64 (mvd ws L x))
            rw [hset] at hnew
            cases r with
            | true =>
              have hxn : ∃ q : Nat, x = (q : Int) ∧ q ∈ L := by
                have := List.contains_iff_mem.1 hr
                unfold ints at this
                obtain ⟨q, h1, h2⟩ := List.mem_map.1 this
                exact ⟨q, h2.symm, h1⟩
              obtain ⟨q, rfl, hqL⟩ := hxn
              have hat0 := (Hau.mapD_spec ws q L.length L rfl H.out.2.2.2.2.2.2.2.1).2 hqL
              have hmv : mvd ws L (q : Int) = (Hau.posOf ws L q : Int) := by unfold mvd; rw [if_pos hr, Int.toNat_natCast]
              rw [hmv] at hnew hgr2
              rw [hr] at hmd
              have HK := Lib.hid (And.intro hkey (And.intro hmp (And.intro hmd (And.intro hat0 (And.intro hnew hgr2))))); clear hkey hmp hmd hat0 hnew hgr2 hS hgr hcur hset hx hcx hkeep hxok hr hmv
              go_wp2_with (first | (at_lookup; refine wpList_lookup_own_ok_int _ rfl _ _ 162 rfl 3 3 .i64 lawIntH Try.underlying162 Try.underlying3 (zeroIntH _) wc.heap.size k _ rfl HK.out.2.1 _ _ rfl HK.out.1 ?_; intro c hat hwf; rw [HK.out.2.2.1]) | fail)
              have hce : c = (Hau.posOf ws L q : Int) := by
                have := hat.symm.trans (HK.out.2.2.2.1 _)
                injection this with this
                injection this
              subst hce
              clear hat hwf
              go_wp2_with fail
              go_roundg (pl.length - (j + 1))
              case measure => omega
              case rel => exact ⟨j + 1, _, by omega, rfl, by go_num, by rw [List.length_append, List.length_take, List.length_map, List.length_drop]; omega, ⟨rfl, HK.out.2.2.2.2.1, HK.out.2.2.2.2.2⟩⟩
            | false =>
              have hmv : mvd ws L x = -1 := by unfold mvd; rw [if_neg (by rw [hr]; decide)]
              rw [hmv] at hnew hgr2
              rw [hr] at hmd
              have HK := Lib.hid (And.intro hkey (And.intro hmp (And.intro hmd (And.intro hnew hgr2)))); clear hkey hmp hmd hnew hgr2 hS hgr hcur hset hx hcx hkeep hxok hr hmv
              go_wp2_with (first | (at_lookup; refine wpList_lookup_own_ok_int _ rfl _ _ 162 rfl 3 3 .i64 lawIntH Try.underlying162 Try.underlying3 (zeroIntH _) wc.heap.size k _ rfl HK.out.2.1 _ _ rfl HK.out.1 ?_; intro c hat hwf; rw [HK.out.2.2.1]) | fail)
              clear hat hwf
              go_roundg (pl.length - (j + 1))
              case measure => omega
              case rel => exact ⟨j + 1, _, by omega, rfl, by go_num, by rw [List.length_append, List.length_take, List.length_map, List.length_drop]; omega, ⟨rfl, HK.out.2.2.2.1, HK.out.2.2.2.2⟩⟩
          · obtain rfl : j = pl.length := by omega
            obtain ⟨hcur, hS, hgr⟩ := hkeep.out
            rw [List.take_of_length_le (by rw [List.length_map]; exact Nat.le_refl _), List.drop_length, List.append_nil] at hcur
            subst hcur
            have hgs := hgr.size
            have hAAlt := H.out.1.places.lt
            have hT3 := H2.out.2.1.grown hgr (fun e => by have h1 := (hAAlt T e).2; have := HX.out.2.2.2; omega)
            have hTA3 : Own wr w.heap.size 24 TA tc NW := H2.out.2.2.1.block_ (fun g hg => hgr.block g (H2.out.2.2.1.lt g hg).2 (fun e => by have h1 := (hAAlt g e.symm).2; have := (H2.out.2.2.1.lt g hg).1; omega))
            have a0 := hS.blk.cell 0 (v := .slice WA ws.length cw) rfl
            have az := hS.blk.frozen 0
            have t0 := hT3.cell 0 (v := .slice TA NW.length tc) rfl
            have hw1 : IntKind.i64.wrap ((ws.length : Int) - (NW.length : Int)) = (ws.length : Int) - (NW.length : Int) := IntWalk.i64_in _ (by omega)
            have hlt := hS.blk.lt
            have HZ := Lib.hid (And.intro hS (And.intro hgr (And.intro hT3 hTA3))); clear hS hgr hT3 hTA3 hkeep
            go_upto_region 16 with fail
            go_quiet (fail)
            go_wp2_with fail
            go_returns
            obtain ⟨hS, hgr, hT3, hTA3⟩ := HZ.out
            have hp := hS.foot
            have hpw := H.out.2.2.2.2.2.2.2.2.2 p hp.1
            have hpb := H.out.1.blk.lt
            have hb' : Below w.heap.size w w2 := hbl
            have hlen' : (pl.map (mvd ws L)).length = pl.length := List.length_map _
            have ntp : rowOf TA ≠ some p := fun e => by have := (hTA3.lt p e).1; omega
            have nap : rowOf AA ≠ some p := own_ne_ty hS.places hS.blk (by decide)
            have nhp : rowOf HA ≠ some p := own_ne_ty hS.helds hS.blk (by decide)
            have hNWok : ∀ x ∈ NW, Flat.ok x := HNW.out
            refine ⟨rfl, ⟨TA, AA, HA, tc, ac, hc, ⟨?_, ?_, ?_, ?_, ⟨.inl hp.1, hp.2⟩, fun g hg => .inr ⟨(hTA3.lt g hg).1, ?_⟩, fun g hg => .inl (hS.footA g hg), fun g hg => .inl (hS.footH g hg), hNWok, hS.okA⟩⟩, ?_⟩
            · exact hS.blk.drew.set_ 0 (.slice TA NW.length tc)
            · exact (hTA3.drew.setCell ⟨p, 0, none⟩ _ ntp).base_le (by omega)
            · exact hS.places.drew.setCell ⟨p, 0, none⟩ _ nap
            · exact hS.helds.drew.setCell ⟨p, 0, none⟩ _ nhp
            · have := (hTA3.lt g hg).2
              simp [World.setCell]; omega
            · have t1 : Touch F w w2 := Touch.ofBelow hbl
              have t2 : Touch F w wr := ⟨hgr.os.trans t1.os, hgr.tape.trans t1.tape, hgr.output.trans t1.output, Nat.le_trans t1.size hgr.size, fun g hg hF => (hgr.block g (by omega) (fun e => hF (H.out.1.footA g e.symm))).trans (t1.block g hg hF)⟩
              exact (t2.drewN _).setCell (p := ⟨p, 0, none⟩) hp.1 _
end Go.Proofs.Ytpkccpegdpodoaa

/- store: room for more words. -/
namespace Go.Proofs.Ytpkccpegdpodoaa
open Go.RowKit Go.Maps

attribute [local go_sem ↓] Go.wp_at_zero Go.wp_at_succ

theorem TB.newLen {ws rt : List U64} (h : TB ws rt) : (Hau.newWords ws rt).length = ((Hau.told ws rt).map (Hau.sz ws)).sum := by
  unfold Hau.newWords; rw [Hau.tobjs_length h.lt]

/-- what asking for room leaves -/
def RoomPost (w : World) (base p n : Nat) (F : Nat → Prop) (ws : List U64) (pl : List Int) (hd : List Bool) (e : Ending) (w' : World) : Prop :=
  (ws.length + n ≤ 2000 ∧ e = .returned (.bool true) ∧ w = w') ∨
  (2000 < ws.length + n ∧ e = .returned (.bool (decide (wdsL ws (tl ws pl hd) + n ≤ 2000))) ∧ So w' base (Up F w w') p (Hau.newWords ws (Sto.rootsFrom pl hd)) (pl.map (mvd ws (tl ws pl hd))) hd ∧ Touch F w w')

set_option maxHeartbeats 800000 in
set_option maxRecDepth 100000 in
theorem sroom_any (w : World) (base p n : Nat) (F : Nat → Prop) (ws : List U64) (pl : List Int) (hd : List Bool) (h : Sx w base F p ws pl hd) (hF : ∀ g, F g → g < w.heap.size) (hn : n ≤ 1000) :
    Calls Try.prog 139 #[.pointer (some ⟨p, 0, none⟩), .int .i64 n] w (RoomPost w base p n F ws pl hd) := by
  have hcol := scollect_any w base p F ws pl hd h hF
  have hws := h.tb.small
  have hnl : (Hau.newWords ws (Sto.rootsFrom pl hd)).length = wdsL ws (tl ws pl hd) := h.tb.newLen
  have hsum : wdsL ws (tl ws pl hd) ≤ ws.length := h.tb.sum
  obtain ⟨WA, AA, HA, cw, ac, hc, hS⟩ := h.so
  have c0 := hS.blk.cell 0 (v := .slice WA ws.length cw) rfl
  obtain ⟨P, hP⟩ : ∃ P, RoomPost w base p n F ws pl hd = P := ⟨_, rfl⟩
  rw [hP]
  have hw1 : IntKind.i64.wrap ((ws.length : Int) + (n : Int)) = (ws.length : Int) + (n : Int) := IntWalk.i64_in _ (by omega)
  obtain ⟨NW, hNW⟩ : ∃ x, Hau.newWords ws (Sto.rootsFrom pl hd) = x := ⟨_, rfl⟩
  obtain ⟨S, hSm⟩ : ∃ x, wdsL ws (tl ws pl hd) = x := ⟨_, rfl⟩
  rw [hSm] at hnl hsum
  rw [hNW] at hnl hcol
  have HP := Lib.hid (And.intro hP (And.intro hcol (And.intro hNW hSm))); clear hP hcol hS h hNW hSm
  by_cases hl : ws.length + n ≤ 2000
  · have d1 : ¬ (2000 : Int) < (ws.length : Int) + (n : Int) := by omega
    have d2 : (ws.length : Int) + (n : Int) ≤ 2000 := by omega
    go_enter Try.func139, Try.ntmps139
    go_wp2_with fail
    rw [← HP.out.1]
    exact .inl ⟨hl, rfl, rfl⟩
  · have d1 : (2000 : Int) < (ws.length : Int) + (n : Int) := by omega
    go_enter Try.func139, Try.ntmps139
    go_wp2_with fail
    refine HP.out.2.1.mono ?_
    rintro e w1 ⟨rfl, hso, ht⟩
    obtain ⟨WA1, AA1, HA1, cw1, ac1, hc1, hS1⟩ := hso
    have c1 := hS1.blk.cell 0 (v := .slice WA1 NW.length cw1) rfl
    have hw2 : IntKind.i64.wrap ((NW.length : Int) + (n : Int)) = (NW.length : Int) + (n : Int) := IntWalk.i64_in _ (by omega)
    have hd2 : decide ((S : Int) + (n : Int) ≤ 2000) = decide (S + n ≤ 2000) := by congr 1; apply propext; omega
    have HS := Lib.hid (And.intro hS1.so (And.intro ht hd2)); clear hS1 ht hd2 c0
    go_wp2_with fail
    rw [← HP.out.1]
    refine .inr ⟨by omega, ?_, ?_, HS.out.2.1⟩
    · rw [HP.out.2.2.2, ← HS.out.2.2]; rfl
    · rw [HP.out.2.2.1]; exact HS.out.1
end Go.Proofs.Ytpkccpegdpodoaa

/- store.turn: all places are turned. -/
namespace Go.Proofs.Ytpkccpegdpodoaa
open Go.RowKit Go.Maps

attribute [local go_sem ↓] Go.wp_at_zero Go.wp_at_succ

/-- all but the store's words and places is as it was -/
def But (w w' : World) (WA AA : Option Addr) : Prop := ∀ b, b < w.heap.size → rowOf WA ≠ some b → rowOf AA ≠ some b → w'.heap[b]? = w.heap[b]?
/-- a function over places: in any world that differs in words and places alone, it tells f and turns nothing (it may draw) -/
def FnQ (w : World) (WA AA : Option Addr) (g : Nat) (lb : Array Value) (f : Nat → Nat) (D : Nat → Prop) : Prop :=
  ∀ V : World, w.heap.size ≤ V.heap.size → But w V WA AA → ∀ x : Nat, D x → Calls Try.prog g (#[.int .i64 (x : Int)] ++ lb) V fun e V' => e = .returned (.int .i64 (f x : Int)) ∧ ∃ n, V' = V.drewN n
theorem But.refl (w : World) (WA AA : Option Addr) : But w w WA AA := fun _ _ _ _ => rfl
theorem But.trans {w w1 w2 : World} {WA AA : Option Addr} (h : But w w1 WA AA) (hs : w.heap.size ≤ w1.heap.size) (h2 : But w1 w2 WA AA) : But w w2 WA AA := fun b hb h3 h4 => (h2 b (by omega) h3 h4).trans (h b hb h3 h4)
theorem But.below {w w1 : World} {WA AA : Option Addr} (h : Below w.heap.size w w1) : But w w1 WA AA := fun b hb _ _ => h.block b hb
def RW (WA AA : Option Addr) (b : Nat) : Prop := rowOf WA = some b ∨ rowOf AA = some b
theorem Touch.but {w w' : World} {WA AA : Option Addr} (h : Touch (RW WA AA) w w') : But w w' WA AA := fun b hb h1 h2 => h.block b hb (fun h => h.elim h1 h2)
theorem SoL.setWord {w : World} {base p g i : Nat} {F : Nat → Prop} {ws : List U64} {pl : List Int} {hd : List Bool} {AA HA : Option Addr} {cw ac hc : Nat} (h : SoL w base F p ws pl hd (some ⟨g, 0, none⟩) AA HA cw ac hc) (hi : i < ws.length) (y : U64) (hy : Flat.ok y) :
    SoL (w.setCell ⟨g, i, none⟩ (.int .u64 y.val)) base F p (ws.set i y) pl hd (some ⟨g, 0, none⟩) AA HA cw ac hc := by
  have e : (ws.set i y).length = ws.length := List.length_set
  refine ⟨?_, h.words.set_u64 y hi, h.places.setCell _ _ (fun e => own_own_ty h.words h.places (by decide) g rfl e), h.helds.setCell _ _ (fun e => own_own_ty h.words h.helds (by decide) g rfl e), h.foot, h.footW, h.footA, h.footH, fun x hx => ?_, h.okA⟩
  · rw [e]
    exact h.blk.far (fun e => own_ne_ty h.words h.blk (by decide) (by rw [e]; rfl)) _
  · rcases List.mem_or_eq_of_mem_set hx with hx | rfl
    · exact h.okW x hx
    · exact hy

set_option maxHeartbeats 6400000 in
set_option maxRecDepth 100000 in
theorem sturn_any (w : World) (base p g : Nat) (lb : Array Value) (f : Nat → Nat) (D F : Nat → Prop) (obs : List (List U64)) (pl : List Int) (hd : List Bool) (WA AA HA : Option Addr) (cw ac hc : Nat) (h : SoL w base F p obs.flatten pl hd WA AA HA cw ac hc)
    (hg : ∀ o ∈ obs, Sto.Good o) (hsm : obs.flatten.length ≤ 2000) (hpm : pl.length ≤ 1000) (hpx : ∀ x ∈ pl, x < 0 ∨ D x.toNat) (hrx : ∀ o ∈ obs, ∀ x ∈ o.tail, ∀ q, Hau.refOf x = some q → D q) (hf : ∀ x, D x → x ≤ 2000 ∧ f x ≤ 2000)
    (eg : ∀ args w, (callFunc g args).run Try.prog w = .ok (.enter g args) w) (hq : FnQ w WA AA g lb f D) :
    Calls Try.prog 200 #[.pointer (some ⟨p, 0, none⟩), .func (.func g) #[] lb] w fun e w' => e = .returned (.tuple #[]) ∧ SoL w' base F p (obs.map (Sto.turnO f)).flatten (pl.map (Sto.turnP f)) hd WA AA HA cw ac hc ∧ Touch (RW WA AA) w w' := by
  obtain ⟨ws, hws⟩ : ∃ x, obs.flatten = x := ⟨_, rfl⟩
  have hall := Sto.twd_all (f := f) hg
  rw [hws] at h hsm hall
  rw [← hall]
  have c1 := h.blk.cell 1 (v := .slice AA pl.length ac) rfl
  have H := Lib.hid (And.intro h (And.intro hpx (And.intro hrx (And.intro hf (And.intro hq (And.intro hg hws)))))); clear h hpx hrx hf hq hg hws hall
  have HE := Lib.hid eg
  go_enter Try.func200, Try.ntmps200
  go_wp2_with fail
  clear c1
  go_loopg [4, 14] pl.length (fun gk v4 iv wr => ∃ (k : Nat) (cur : List Int), k ≤ pl.length ∧ gk = pl.length - k ∧ iv = .int .i64 k ∧ cur.length = pl.length ∧ Hid (cur = (pl.map (Sto.turnP f)).take k ++ pl.drop k ∧ SoL wr base F p ws cur hd WA AA HA cw ac hc ∧ Touch (RW WA AA) w wr))
  case atStart => exact ⟨0, pl, Nat.zero_le _, rfl, rfl, rfl, ⟨by simp, H.out.1, Touch.refl _ _⟩⟩
  case round =>
    obtain ⟨j, cur, hj, rfl, rfl, hcl, hkeep⟩ := hrel
    by_cases hlt : j < pl.length
    · obtain ⟨x, hx⟩ : ∃ x, pl[j]? = some x := ⟨_, List.getElem?_eq_getElem hlt⟩
      obtain ⟨hcur, hS, ht⟩ := hkeep.out
      obtain ⟨hcx, hset⟩ := turn_step hcur hx
      have hxok : I64 x := hS.okA x (List.mem_of_getElem? hcx)
      have hx2 := H.out.2.1 x (List.mem_of_getElem? hx)
      obtain ⟨ga, rfl, hg1, hg2, q0⟩ := hS.place hcx
      have c1 := hS.blk.cell 1 (v := .slice (some ⟨ga, 0, none⟩) cur.length ac) rfl
      rw [hcl] at c1
      have hlt3 : (j : Int) < (pl.length : Int) := by omega
      by_cases hx0 : x < 0
      · have d0 : ¬ (0 : Int) ≤ x := by omega
        have hsame : cur.set j (Sto.turnP f x) = cur := by
          unfold Sto.turnP
          rw [if_pos hx0]
          exact List.ext_getElem? fun i => by
            by_cases e : j = i
            · subst e; rw [List.getElem?_set_self (List.getElem?_eq_some_iff.1 hcx).1, hcx]
            · rw [List.getElem?_set_ne e]
        rw [hsame] at hset
        have HK := Lib.hid (And.intro hset (And.intro hS ht)); clear hset hS ht hcur hcx hx hkeep hsame
        go_wp2_with fail
        go_roundg (pl.length - (j + 1))
        case measure => omega
        case rel => exact ⟨j + 1, cur, by omega, rfl, by go_num, hcl, ⟨HK.out.1, HK.out.2.1, HK.out.2.2⟩⟩
      · obtain ⟨q, rfl⟩ : ∃ q : Nat, x = (q : Int) := ⟨x.toNat, by omega⟩
        have hq2 : D q := by rcases hx2 with e | e; exact absurd e hx0; exact e
        have hcall := H.out.2.2.2.2.1 wr.drew ht.size ht.drew.but q hq2
        have hfq := (H.out.2.2.2.1 q hq2).2
        have htp : Sto.turnP f (q : Int) = (f q : Int) := by unfold Sto.turnP; rw [if_neg hx0, Int.toNat_natCast]
        have hnew := (show SoL wr.drew _ _ _ _ _ _ _ _ _ _ _ _ from hS.keep (w' := wr.drew) (fun _ _ _ => rfl)).setPlace (i := j) (by omega) (f q : Int) (by unfold I64; omega)
        have ht2 : Touch (RW WA (some ⟨ga, 0, none⟩)) w (wr.drew.setCell ⟨ga, j, none⟩ (.int .i64 (f q : Int))) := ht.drew.setCell (p := ⟨ga, j, none⟩) (.inr rfl) _
        rw [htp] at hset
        rw [hset] at hnew
        have z0 := hS.places.frozen (g := ga) rfl j
        have cA := hnew.blk.cell 1 (v := .slice (some ⟨ga, 0, none⟩) pl.length ac) (by rw [List.length_append, List.length_take, List.length_map, List.length_drop, show min (j + 1) pl.length + (pl.length - (j + 1)) = pl.length by omega]; rfl)
        have HK := Lib.hid (And.intro hnew (And.intro ht2 (And.intro hcall (And.intro c1 (And.intro q0 cA))))); clear hnew ht2 hcall hS ht hcur hcx hx hkeep hset htp
        have q0' : (0 : Int) ≤ (q : Int) := by omega
        go_upto_region 4 with fail
        refine wp_region_held_drew (S := (fun w' => w'.cell? ⟨p, 1, none⟩ = some (.slice (some ⟨ga, 0, none⟩) pl.length ac))) (by kernel_rfl) ?_ (fun hHeld0 => ?_)
        · first | trivial | ((try dsimp only); (exact HK.out.2.2.2.1))
        refine held_take (v := ?_) 0 rfl (by kernel_rfl) (by kernel_rfl) (by kernel_rfl) (fun _ _ _ h => h) (by rfl) ?_ (by assumption) ?_
        rotate_left
        · (intro w hSw; (try dsimp only at hSw); go_simp; try with_reducible rfl)
        try simp only [Act.put, List.setIfInBounds_toArray, List.set_cons_zero, List.set_cons_succ]
        refine held_take (v := ?_) 1 rfl (by kernel_rfl) (by kernel_rfl) (by kernel_rfl) (fun _ _ _ h => h) (by rfl) ?_ (by assumption) ?_
        rotate_left
        · (intro w hSw; (try dsimp only at hSw); go_simp; try with_reducible rfl)
        try simp only [Act.put, List.setIfInBounds_toArray, List.set_cons_zero, List.set_cons_succ]
        refine held_take (v := ?_) 2 rfl (by kernel_rfl) (by kernel_rfl) (by kernel_rfl) (fun _ _ _ h => h) (by rfl) ?_ (by assumption) ?_
        rotate_left
        · (intro w hSw; (try dsimp only at hSw); go_simp; try with_reducible rfl)
        try simp only [Act.put, List.setIfInBounds_toArray, List.set_cons_zero, List.set_cons_succ]
        refine held_take (v := ?_) 3 rfl (by kernel_rfl) (by kernel_rfl) (by kernel_rfl) (fun _ _ _ h => h) (by rfl) ?_ (by assumption) ?_
        rotate_left
        · (intro w hSw; (try dsimp only at hSw); go_simp; try with_reducible rfl)
        try simp only [Act.put, List.setIfInBounds_toArray, List.set_cons_zero, List.set_cons_succ]
        refine held_take (v := ?_) 4 rfl (by kernel_rfl) (by kernel_rfl) (by kernel_rfl) (fun _ _ _ h => h) (by rfl) ?_ (by assumption) ?_
        rotate_left
        · (intro w hSw; (try dsimp only at hSw); go_simp; try with_reducible rfl)
        try simp only [Act.put, List.setIfInBounds_toArray, List.set_cons_zero, List.set_cons_succ]
        refine held_take (v := ?_) 5 rfl (by kernel_rfl) (by kernel_rfl) (by kernel_rfl) (fun _ _ _ h => h) (by rfl) ?_ (by assumption) ?_
        rotate_left
        · (intro w hSw; (try dsimp only at hSw); go_simp; try with_reducible rfl)
        try simp only [Act.put, List.setIfInBounds_toArray, List.set_cons_zero, List.set_cons_succ]
        refine held_take (v := ?_) 6 rfl (by kernel_rfl) (by kernel_rfl) (by kernel_rfl) (fun _ _ _ h => h) (by rfl) ?_ (by assumption) ?_
        rotate_left
        · (intro w hSw; (try dsimp only at hSw); go_simp; try with_reducible rfl)
        try simp only [Act.put, List.setIfInBounds_toArray, List.set_cons_zero, List.set_cons_succ]
        refine held_take (v := ?_) 7 rfl (by kernel_rfl) (by kernel_rfl) (by kernel_rfl) (fun _ _ _ h => h) (by rfl) ?_ (by assumption) ?_
        rotate_left
        · (intro w hSw; (try dsimp only at hSw); go_simp; try with_reducible rfl)
        try simp only [Act.put, List.setIfInBounds_toArray, List.set_cons_zero, List.set_cons_succ]
        refine held_take (v := ?_) 8 rfl (by kernel_rfl) (by kernel_rfl) (by kernel_rfl) (fun _ _ _ h => h) (by rfl) ?_ (by assumption) ?_
        rotate_left
        · (intro w hSw; (try dsimp only at hSw); go_simp; try with_reducible rfl)
        try simp only [Act.put, List.setIfInBounds_toArray, List.set_cons_zero, List.set_cons_succ]
        refine held_take (v := ?_) 9 rfl (by kernel_rfl) (by kernel_rfl) (by kernel_rfl) (fun _ _ _ h => h) (by rfl) ?_ (by assumption) ?_
        rotate_left
        · (intro w hSw; (try dsimp only at hSw); go_simp; try with_reducible rfl)
        try simp only [Act.put, List.setIfInBounds_toArray, List.set_cons_zero, List.set_cons_succ]
        refine held_take (v := ?_) 10 rfl (by kernel_rfl) (by kernel_rfl) (by kernel_rfl) (fun _ _ _ h => h) (by rfl) ?_ (by assumption) ?_
        rotate_left
        · (intro w hSw; (try dsimp only at hSw); go_simp; try with_reducible rfl)
        try simp only [Act.put, List.setIfInBounds_toArray, List.set_cons_zero, List.set_cons_succ]
        refine held_take (v := ?_) 11 rfl (by kernel_rfl) (by kernel_rfl) (by kernel_rfl) (fun _ _ _ h => h) (by rfl) ?_ (by assumption) ?_
        rotate_left
        · (intro w hSw; (try dsimp only at hSw); go_simp; try with_reducible rfl)
        try simp only [Act.put, List.setIfInBounds_toArray, List.set_cons_zero, List.set_cons_succ]
        refine held_call 12 (by kernel_rfl) rfl (fun K hK => ?_)
        go_simp
        refine hK.out _ _ ?_ (fun hHeld1 => ?_)
        · first | trivial | ((try dsimp only); (exact HK.out.2.2.2.1))
        clear hK K hHeld0
        try simp only [Act.put, List.setIfInBounds_toArray, List.set_cons_zero, List.set_cons_succ]
        refine held_call 13 (by kernel_rfl) rfl (fun K hK => ?_)
        go_simp
        go_at_fn g; refine Calls.mono HK.out.2.2.1 ?_; rintro e w1 ⟨rfl, nd, rfl⟩
        try (go_wp2_with fail)
        refine hK.out _ _ ?_ (fun hHeld2 => ?_)
        · first | trivial | ((try dsimp only); (exact HK.out.2.2.2.1))
        clear hK K hHeld1
        try simp only [Act.put, List.setIfInBounds_toArray, List.set_cons_zero, List.set_cons_succ]
        refine held_take (v := ?_) 14 rfl (by kernel_rfl) (by kernel_rfl) (by kernel_rfl) (fun _ _ _ h => h) (by rfl) ?_ (by assumption) ?_
        rotate_left
        · (intro w hSw; (try dsimp only at hSw); go_simp; try with_reducible rfl)
        try simp only [Act.put, List.setIfInBounds_toArray, List.set_cons_zero, List.set_cons_succ]
        refine held_call 15 (by kernel_rfl) rfl (fun K hK => ?_)
        go_simp
        refine hK.out _ _ ?_ (fun hHeld3 => ?_)
        · first | trivial | ((try dsimp only); (exact HK.out.2.2.2.2.2))
        clear hK K hHeld2
        try simp only [Act.put, List.setIfInBounds_toArray, List.set_cons_zero, List.set_cons_succ]
        refine wpAnyH_done (by kernel_rfl) ?_ _
        go_wp2_with fail
        go_roundg (pl.length - (j + 1))
        case measure => omega
        case rel => exact ⟨j + 1, _, by omega, rfl, by go_num, by rw [List.length_append, List.length_take, List.length_map, List.length_drop]; omega, ⟨rfl, HK.out.1.keep (fun _ _ _ => rfl), ⟨HK.out.2.1.os, HK.out.2.1.tape, HK.out.2.1.output, HK.out.2.1.size, HK.out.2.1.block⟩⟩⟩
    · obtain rfl : j = pl.length := by omega
      obtain ⟨hcur, hS0, ht0⟩ := hkeep.out
      rw [List.take_of_length_le (by rw [List.length_map]; exact Nat.le_refl _), List.drop_length, List.append_nil] at hcur
      subst hcur
      obtain ⟨w1, rfl⟩ : ∃ x, x = wr := ⟨_, rfl⟩
      obtain ⟨P', hP'⟩ : ∃ x, pl.map (Sto.turnP f) = x := ⟨_, rfl⟩
      rw [hP'] at hS0
      have hst0 : Sto.twd (Sto.starts 0 obs) f 0 ws = ws := Sto.twd_zero
      have H1 := Lib.hid (And.intro hS0 (And.intro ht0 (And.intro hP' hst0))); clear hS0 ht0 hP' hkeep hst0
      go_wp2_with fail
      go_loopg [5, 6, 7, 8] obs.length (fun gk v5 v6 v7 v8 wr => ∃ (j a : Nat) (cur : List U64), j ≤ obs.length ∧ gk = obs.length - j ∧ v5 = .int .i64 (a : Int) ∧ cur.length = ws.length ∧ a ≤ ws.length ∧ Hid (a = Sto.st obs j ∧ cur = Sto.twd (Sto.starts 0 obs) f a ws ∧ SoL wr base F p cur P' hd WA AA HA cw ac hc ∧ Touch (RW WA AA) w wr))
      case atStart => exact ⟨0, 0, ws, Nat.zero_le _, rfl, rfl, rfl, Nat.zero_le _, ⟨rfl, H1.out.2.2.2.symm, H1.out.1, H1.out.2.1⟩⟩
      case round =>
        obtain ⟨j, a, cur, hj, rfl, rfl, hcl, hale, hkeep⟩ := hrel
        obtain ⟨ha, hcur, hS, ht⟩ := hkeep.out
        have c0 := hS.blk.cell 0 (v := .slice WA cur.length cw) rfl
        rw [hcl] at c0
        by_cases hlt : j < obs.length
        · obtain ⟨o, ho⟩ : ∃ o, obs[j]? = some o := ⟨_, List.getElem?_eq_getElem hlt⟩
          obtain ⟨hw, b, rfl, hlg⟩ := H.out.2.2.2.2.2.1 o (List.mem_of_getElem? ho)
          have hsu := Sto.st_succ ho
          have hle := Sto.st_le (l := obs) (j + 1)
          rw [H.out.2.2.2.2.2.2] at hle
          rw [List.length_cons] at hsu
          have haS : a ∈ Sto.starts 0 obs := by rw [ha]; exact Sto.mem_starts.2 ⟨j, hlt, rfl⟩
          have hwa : Hau.wat ws a = hw := by rw [ha, ← H.out.2.2.2.2.2.2]; exact Sto.wat_st ho
          obtain ⟨m, hm⟩ : ∃ m, b.length = m := ⟨_, rfl⟩
          rw [hm] at hlg hsu
          have ham : a + (m + 1) ≤ ws.length := by omega
          have k1 : (a : Int) < (ws.length : Int) := by omega
          have hww : ws[a]? = some hw := by
            rw [← hwa]; unfold Hau.wat; rw [List.getD_eq_getElem?_getD, List.getElem?_eq_getElem (by omega)]; rfl
          have hlgk : ∀ k, Hau.lg (Hau.wat (Sto.twd (Sto.starts 0 obs) f k ws) a) = m := by
            intro k
            have := Sto.twd_get (S := Sto.starts 0 obs) (f := f) (k := k) hww
            rw [if_neg (fun h => h.2 haS)] at this
            unfold Hau.wat
            rw [List.getD_eq_getElem?_getD, this]
            exact hlg
          have hst1 : Sto.twd (Sto.starts 0 obs) f (a + 1) ws = cur := by rw [Sto.twd_start haS, hcur]
          have e1 : IntKind.i64.wrap ((a : Int) + 1) = (a : Int) + 1 := IntWalk.i64_in _ (by omega)
          have e2 : IntKind.i64.wrap ((a : Int) + (m : Int)) = (a : Int) + (m : Int) := IntWalk.i64_in _ (by omega)
          have HO := Lib.hid (And.intro ha (And.intro hlgk (And.intro hst1 (And.intro hS (And.intro ht (And.intro hsu ho)))))); clear ha hlgk hst1 hS ht hsu ho hcur hkeep hwa hww hlg haS
          go_wp2_with fail
          clear c0
          go_loopg [6, 7, 8] m (fun gi v6 v7 v8 wi => ∃ (i : Nat) (cur : List U64), i ≤ m ∧ gi = m - i ∧ v6 = .int .i64 ((a + 1 + i : Nat) : Int) ∧ cur.length = ws.length ∧ Hid (cur = Sto.twd (Sto.starts 0 obs) f (a + 1 + i) ws ∧ SoL wi base F p cur P' hd WA AA HA cw ac hc ∧ Touch (RW WA AA) w wi))
          case atStart => exact ⟨0, cur, Nat.zero_le _, rfl, by simp, hcl, ⟨HO.out.2.2.1.symm, HO.out.2.2.2.1, HO.out.2.2.2.2.1⟩⟩
          case round =>
            obtain ⟨i, cur2, hi, rfl, rfl, hcl2, hkeep⟩ := hrel
            obtain ⟨hcur2, hS, ht⟩ := hkeep.out
            have hlong := slong_any wr base p a F cur2 P' hd hS.so (by omega) (by omega)
            rw [hcur2, HO.out.2.1] at hlong
            have HL := Lib.hid (And.intro hlong (And.intro hcur2 (And.intro hS ht))); clear hlong hcur2 hS ht hkeep
            by_cases hlt2 : i < m
            · obtain ⟨k, hk⟩ : ∃ k, a + 1 + i = k := ⟨_, rfl⟩
              have hkS : k ∉ Sto.starts 0 obs := by
                intro hm
                obtain ⟨j2, hj2, e⟩ := Sto.mem_starts.1 hm
                have h1 := HO.out.1
                have h2 := HO.out.2.2.2.2.2.1
                rcases Nat.lt_or_ge j j2 with h3 | h3
                · have := Sto.st_mono (l := obs) (show j + 1 ≤ j2 from h3); omega
                · have := Sto.st_mono (l := obs) h3; omega
              obtain ⟨x, hx⟩ : ∃ x, ws[k]? = some x := ⟨_, List.getElem?_eq_getElem (by omega)⟩
              have hcx := Sto.twd_get (S := Sto.starts 0 obs) (f := f) (k := k) hx
              rw [if_neg (by omega)] at hcx
              have hcur2 := HL.out.2.1
              rw [hk] at hcur2
              rw [← hcur2] at hcx
              have hS := HL.out.2.2.1
              obtain ⟨gw, rfl, hgw1, hgw2⟩ := hS.words.some_ (by omega)
              have q0 := hS.words.cell_u64 hcx
              have hxok := hS.okW x (List.mem_of_getElem? hcx)
              have c0 := hS.blk.cell 0 (v := .slice (some ⟨gw, 0, none⟩) cur2.length cw) rfl
              rw [hcl2] at c0
              have d1 : (k : Int) ≤ (a : Int) + (m : Int) := by omega
              have k2 : (k : Int) < (ws.length : Int) := by omega
              have e3 : IntKind.i64.wrap ((k : Int) + 1) = (k : Int) + 1 := IntWalk.i64_in _ (by omega)
              rw [hk]
              have HX := Lib.hid (And.intro hkS (And.intro hx (And.intro hcx (And.intro hcur2 hS)))); clear hkS hx hcx hcur2 hS
              go_wp2_with fail
              refine HL.out.1.mono ?_
              rintro e w3 ⟨rfl, rfl⟩
              go_wp2_with fail
              refine (unbox_any x.val _ hxok).mono ?_
              rintro e w3 ⟨hb3, hr⟩
              have hs3 := hb3.size
              have hsame := Sto.twd_same (S := Sto.starts 0 obs) (f := f) HX.out.1 HX.out.2.1
              rcases hr with ⟨kk, nn, hu, rfl⟩ | ⟨hu, rfl⟩
              · by_cases h5 : kk = 5
                · subst h5
                  have hn5 := Hau.unb5 hxok.1 hu
                  obtain ⟨q, rfl⟩ : ∃ q : Nat, nn = (q : Int) := ⟨nn.toNat, by omega⟩
                  have hrf : Hau.refOf x = some q := by rw [Sto.refOf_of hu, if_pos rfl, Int.toNat_natCast]
                  have hq2 : D q := by
                    obtain ⟨o', ho1, ho2⟩ := Sto.body_word H.out.2.2.2.2.2.1 (by rw [H.out.2.2.2.2.2.2]; exact HX.out.2.1) HX.out.1
                    exact H.out.2.2.1 o' ho1 x ho2 q hrf
                  have hfq := (H.out.2.2.2.1 q hq2).2
                  have hset := Sto.twd_set (f := f) HX.out.1 HX.out.2.1
                  rw [← HX.out.2.2.2.1, Sto.turnW_ref hrf] at hset
                  go_upto_region 14 with fail
                  refine wp_world (fun W => Blk W w3.heap.size 23 #[.int .i64 5, .int .i64 (q : Int)] ∧ Below wr.heap.size wr W ∧ w3.heap.size < W.heap.size) ⟨Blk.new _ _ _, hb3.alloc hs3 _, by simp⟩ ?_
                  rintro W ⟨hV, hbW, hsW⟩
                  have hSW := HX.out.2.2.2.2.fresh hbW
                  have htW := HL.out.2.2.2.fresh hbW
                  have hblk := hSW.blk
                  rw [hcl2] at hblk
                  have hcall := H.out.2.2.2.2.1 W.drew htW.size htW.drew.but q hq2
                  have hbx := fun V => box_any 5 (f q : Int) V (by unfold I64; omega) (by unfold I64; omega)
                  have hpg : p ≠ gw := fun e => own_ne_ty hSW.words hSW.blk (by decide) (by rw [e]; rfl)
                  have hvg : w3.heap.size ≠ gw := by omega
                  have hq0 := (hbW.cell (p := ⟨gw, k, none⟩) hgw2).trans q0
                  have hz0 := hSW.words.frozen (g := gw) rfl k
                  have HK := Lib.hid (And.intro hSW (And.intro htW (And.intro hblk (And.intro hV (And.intro hcall (And.intro hbx (And.intro hset hq0))))))); clear hSW htW hblk hV hcall hbx hset hu hrf hsame q0 c0 hq0 hz0
                  have BX : Below W.heap.size W W.drew := (Below.refl _ _).drew
                  refine wp_region_held_drew (S := (fun w' => w'.cell? ⟨p, 0, none⟩ = some (.slice (some ⟨gw, 0, none⟩) ws.length cw) ∧ w'.cell? ⟨w3.heap.size, 1, none⟩ = some (.int .i64 (q : Int)))) (by kernel_rfl) ?_ (fun hHeld0 => ?_)
                  · first | trivial | ((try dsimp only); (exact ⟨(HK.out.2.2.1.fresh BX).cell 0 rfl, (HK.out.2.2.2.1.fresh BX).cell 1 rfl⟩))
                  refine held_take (v := ?_) 0 rfl (by kernel_rfl) (by kernel_rfl) (by kernel_rfl) (fun _ _ _ h => h) (by rfl) ?_ (by assumption) ?_
                  rotate_left
                  · (intro w hSw; (try dsimp only at hSw); go_simp; try with_reducible rfl)
                  try simp only [Act.put, List.setIfInBounds_toArray, List.set_cons_zero, List.set_cons_succ]
                  refine held_take (v := ?_) 1 rfl (by kernel_rfl) (by kernel_rfl) (by kernel_rfl) (fun _ _ _ h => h) (by rfl) ?_ (by assumption) ?_
                  rotate_left
                  · (intro w hSw; (try dsimp only at hSw); go_simp; try with_reducible rfl)
                  try simp only [Act.put, List.setIfInBounds_toArray, List.set_cons_zero, List.set_cons_succ]
                  refine held_take (v := ?_) 2 rfl (by kernel_rfl) (by kernel_rfl) (by kernel_rfl) (fun _ _ _ h => h) (by rfl) ?_ (by assumption) ?_
                  rotate_left
                  · (intro w hSw; (try dsimp only at hSw); go_simp; try with_reducible rfl)
                  try simp only [Act.put, List.setIfInBounds_toArray, List.set_cons_zero, List.set_cons_succ]
                  refine held_take (v := ?_) 3 rfl (by kernel_rfl) (by kernel_rfl) (by kernel_rfl) (fun _ _ _ h => h) (by rfl) ?_ (by assumption) ?_
                  rotate_left
                  · (intro w hSw; (try dsimp only at hSw); go_simp; try with_reducible rfl)
                  try simp only [Act.put, List.setIfInBounds_toArray, List.set_cons_zero, List.set_cons_succ]
                  refine held_take (v := ?_) 4 rfl (by kernel_rfl) (by kernel_rfl) (by kernel_rfl) (fun _ _ _ h => h) (by rfl) ?_ (by assumption) ?_
                  rotate_left
                  · (intro w hSw; (try dsimp only at hSw); go_simp; try with_reducible rfl)
                  try simp only [Act.put, List.setIfInBounds_toArray, List.set_cons_zero, List.set_cons_succ]
                  refine held_take (v := ?_) 5 rfl (by kernel_rfl) (by kernel_rfl) (by kernel_rfl) (fun _ _ _ h => h) (by rfl) ?_ (by assumption) ?_
                  rotate_left
                  · (intro w hSw; (try dsimp only at hSw); go_simp; try with_reducible rfl)
                  try simp only [Act.put, List.setIfInBounds_toArray, List.set_cons_zero, List.set_cons_succ]
                  refine held_take (v := ?_) 6 rfl (by kernel_rfl) (by kernel_rfl) (by kernel_rfl) (fun _ _ _ h => h) (by rfl) ?_ (by assumption) ?_
                  rotate_left
                  · (intro w hSw; (try dsimp only at hSw); go_simp; try with_reducible rfl)
                  try simp only [Act.put, List.setIfInBounds_toArray, List.set_cons_zero, List.set_cons_succ]
                  refine held_take (v := ?_) 7 rfl (by kernel_rfl) (by kernel_rfl) (by kernel_rfl) (fun _ _ _ h => h) (by rfl) ?_ (by assumption) ?_
                  rotate_left
                  · (intro w hSw; (try dsimp only at hSw); go_simp; try with_reducible rfl)
                  try simp only [Act.put, List.setIfInBounds_toArray, List.set_cons_zero, List.set_cons_succ]
                  refine held_call 8 (by kernel_rfl) rfl (fun K hK => ?_)
                  go_simp
                  go_at_fn g; refine Calls.mono HK.out.2.2.2.2.1 ?_; rintro e w4 ⟨rfl, nd, rfl⟩; have BY : Below W.heap.size W (W.drewN (1 + nd)) := ⟨BX.os, BX.tape, BX.output, BX.size, BX.block⟩; clear BX; have BX := BY; clear BY
                  try (go_wp2_with fail)
                  refine hK.out _ _ ?_ (fun hHeld1 => ?_)
                  · first | trivial | ((try dsimp only); (exact ⟨(HK.out.2.2.1.fresh BX).cell 0 rfl, (HK.out.2.2.2.1.fresh BX).cell 1 rfl⟩))
                  clear hK K hHeld0
                  try simp only [Act.put, List.setIfInBounds_toArray, List.set_cons_zero, List.set_cons_succ]
                  refine held_take (v := ?_) 9 rfl (by kernel_rfl) (by kernel_rfl) (by kernel_rfl) (fun _ _ _ h => h) (by rfl) ?_ (by assumption) ?_
                  rotate_left
                  · (intro w hSw; (try dsimp only at hSw); go_simp; try with_reducible rfl)
                  try simp only [Act.put, List.setIfInBounds_toArray, List.set_cons_zero, List.set_cons_succ]
                  refine held_call 10 (by kernel_rfl) rfl (fun K hK => ?_)
                  go_simp
                  refine (HK.out.2.2.2.2.2.1 _).mono ?_; rintro e w5 ⟨rfl, hb5⟩; have BY := BX.trans (hb5.mono BX.size); clear BX; have BX := BY; clear BY; rw [show (boxL 5 (f q : Int)).1 = (Hau.refW (f q)).val from rfl]; have q5 := (BX.cell (p := ⟨gw, k, none⟩) (Nat.lt_of_lt_of_le hgw2 hbW.size)).trans HK.out.2.2.2.2.2.2.2; have z5 := (HK.out.1.fresh BX).words.frozen (g := gw) rfl k
                  try (go_wp2_with fail)
                  refine hK.out _ _ ?_ (fun hHeld2 => ?_)
                  · first | trivial | ((try dsimp only); (exact ⟨(HK.out.2.2.1.fresh BX).cell 0 rfl, (HK.out.2.2.2.1.fresh BX).cell 1 rfl⟩))
                  clear hK K hHeld1
                  try simp only [Act.put, List.setIfInBounds_toArray, List.set_cons_zero, List.set_cons_succ]
                  refine held_take (v := ?_) 11 rfl (by kernel_rfl) (by kernel_rfl) (by kernel_rfl) (fun _ _ _ h => h) (by rfl) ?_ (by assumption) ?_
                  rotate_left
                  · (intro w hSw; (try dsimp only at hSw); go_simp; try with_reducible rfl)
                  try simp only [Act.put, List.setIfInBounds_toArray, List.set_cons_zero, List.set_cons_succ]
                  refine held_take (v := ?_) 12 rfl (by kernel_rfl) (by kernel_rfl) (by kernel_rfl) (fun _ _ _ h => h) (by rfl) ?_ (by assumption) ?_
                  rotate_left
                  · (intro w hSw; (try dsimp only at hSw); go_simp; try with_reducible rfl)
                  try simp only [Act.put, List.setIfInBounds_toArray, List.set_cons_zero, List.set_cons_succ]
                  refine held_take (v := ?_) 13 rfl (by kernel_rfl) (by kernel_rfl) (by kernel_rfl) (fun _ _ _ h => h) (by rfl) ?_ (by assumption) ?_
                  rotate_left
                  · (intro w hSw; (try dsimp only at hSw); go_simp; try with_reducible rfl)
                  try simp only [Act.put, List.setIfInBounds_toArray, List.set_cons_zero, List.set_cons_succ]
                  refine held_take (v := ?_) 14 rfl (by kernel_rfl) (by kernel_rfl) (by kernel_rfl) (fun _ _ _ h => h) (by rfl) ?_ (by assumption) ?_
                  rotate_left
                  · (intro w hSw; (try dsimp only at hSw); go_simp; try with_reducible rfl)
                  try simp only [Act.put, List.setIfInBounds_toArray, List.set_cons_zero, List.set_cons_succ]
                  refine held_call 15 (by kernel_rfl) rfl (fun K hK => ?_)
                  go_simp
                  refine hK.out _ _ ?_ (fun hHeld3 => ?_)
                  · first | trivial | ((try dsimp only); (exact ⟨((HK.out.2.2.1.fresh BX).far (p := ⟨gw, k, none⟩) hpg _).cell 0 rfl, ((HK.out.2.2.2.1.fresh BX).far (p := ⟨gw, k, none⟩) hvg _).cell 1 rfl⟩))
                  clear hK K hHeld2
                  try simp only [Act.put, List.setIfInBounds_toArray, List.set_cons_zero, List.set_cons_succ]
                  refine wpAnyH_done (by kernel_rfl) ?_ _
                  have hnew := (HK.out.1.fresh BX).setWord (i := k) (by omega) (Hau.refW (f q)) (Hau.refW_flat _)
                  have htn := (HK.out.2.1.fresh BX).setCell (p := ⟨gw, k, none⟩) (.inl rfl) (.int .u64 (Hau.refW (f q)).val)
                  have HN := Lib.hid (And.intro hnew htn); clear hnew htn q5 z5
                  go_wp2_with fail
                  go_roundg (m - (i + 1))
                  case measure => omega
                  case rel => exact ⟨i + 1, _, by omega, rfl, by rw [show a + 1 + (i + 1) = k + 1 by omega]; go_num, by rw [List.length_set]; exact hcl2, ⟨by rw [show a + 1 + (i + 1) = k + 1 by omega]; exact HK.out.2.2.2.2.2.2.1, HN.out.1, HN.out.2⟩⟩
                · have d5 : (kk == 5) = false := by simpa using h5
                  have hrf : Hau.refOf x = none := by rw [Sto.refOf_of hu, if_neg h5]
                  have hsame := hsame (Sto.turnW_none hrf)
                  rw [← HX.out.2.2.2.1] at hsame
                  have HS2 := Lib.hid hsame; clear hsame hu hrf h5 q0 c0
                  go_wp2_with fail
                  go_roundg (m - (i + 1))
                  case measure => omega
                  case rel => exact ⟨i + 1, cur2, by omega, rfl, by rw [show a + 1 + (i + 1) = k + 1 by omega]; go_num, hcl2, ⟨by rw [show a + 1 + (i + 1) = k + 1 by omega]; exact HS2.out.symm, (HX.out.2.2.2.2.fresh hb3).fresh ((Below.refl _ _).alloc (Nat.le_refl _) _), (HL.out.2.2.2.fresh hb3).alloc _⟩⟩
              · have hrf : Hau.refOf x = none := by unfold Hau.refOf; rw [hu]
                have hsame := hsame (Sto.turnW_none hrf)
                rw [← HX.out.2.2.2.1] at hsame
                have HS2 := Lib.hid hsame; clear hsame hu hrf q0 c0
                go_wp2_with fail
                go_roundg (m - (i + 1))
                case measure => omega
                case rel => exact ⟨i + 1, cur2, by omega, rfl, by rw [show a + 1 + (i + 1) = k + 1 by omega]; go_num, hcl2, ⟨by rw [show a + 1 + (i + 1) = k + 1 by omega]; exact HS2.out.symm, (HX.out.2.2.2.2.fresh hb3).fresh ((Below.refl _ _).alloc (Nat.le_refl _) _), (HL.out.2.2.2.fresh hb3).alloc _⟩⟩
            · obtain rfl : i = m := by omega
              have hS := HL.out.2.2.1
              have d1 : ¬ ((a + 1 + i : Nat) : Int) ≤ (a : Int) + (i : Int) := by omega
              have e4 : IntKind.i64.wrap (1 + (i : Int)) = 1 + (i : Int) := IntWalk.i64_in _ (by omega)
              have e5 : IntKind.i64.wrap ((a : Int) + (1 + (i : Int))) = (a : Int) + (1 + (i : Int)) := IntWalk.i64_in _ (by omega)
              clear hS
              go_wp2_with fail
              refine HL.out.1.mono ?_
              rintro e w3 ⟨rfl, rfl⟩
              go_wp2_with fail
              refine HL.out.1.mono ?_
              rintro e w3 ⟨rfl, rfl⟩
              go_wp2_with fail
              go_roundg (obs.length - (j + 1))
              case measure => omega
              case rel => exact ⟨j + 1, a + 1 + i, cur2, by omega, rfl, by congr 1 <;> omega, hcl2, by omega, ⟨by have h1 := HO.out.1; have h2 := HO.out.2.2.2.2.2.1; omega, HL.out.2.1, HL.out.2.2.1, HL.out.2.2.2⟩⟩
        · obtain rfl : j = obs.length := by omega
          rw [Sto.st_all, H.out.2.2.2.2.2.2] at ha
          subst ha
          have HF := Lib.hid (And.intro hS (And.intro ht hcur)); clear hS ht hcur hkeep
          go_wp2_with fail
          go_returns
          exact ⟨rfl, by rw [H1.out.2.2.1, ← HF.out.2.2]; exact HF.out.1, HF.out.2.1⟩
end Go.Proofs.Ytpkccpegdpodoaa

/- store: the functions that move hands to turn. -/
namespace Go.Proofs.Ytpkccpegdpodoaa
open Go.RowKit Go.Maps

attribute [local go_sem ↓] Go.wp_at_zero Go.wp_at_succ

theorem egMove1 : ∀ args w, (callFunc 202 args).run Try.prog w = .ok (.enter 202 args) w := fun _ _ => by kernel_rfl
theorem egLast1 : ∀ args w, (callFunc 201 args).run Try.prog w = .ok (.enter 201 args) w := fun _ _ => by kernel_rfl
/-- where a place goes when the object at fr is put behind all, its old place left -/
def mvF (fr to_ : Nat) (x : Nat) : Nat := if x = fr then to_ else x
set_option maxRecDepth 100000 in
theorem move1_any (w : World) (x fr to_ a b : Nat) (ha : Blk w a 3 #[.int .i64 (fr : Int)]) (hb : Blk w b 3 #[.int .i64 (to_ : Int)]) :
    Calls Try.prog 202 #[.int .i64 (x : Int), .pointer (some ⟨a, 0, none⟩), .pointer (some ⟨b, 0, none⟩)] w fun e w' => e = .returned (.int .i64 (mvF fr to_ x : Int)) ∧ ∃ n, w' = w.drewN n := by
  have a0 := ha.cell 0 (v := .int .i64 (fr : Int)) rfl
  have b0 := hb.cell 0 (v := .int .i64 (to_ : Int)) rfl
  obtain ⟨r, hr⟩ : ∃ r, mvF fr to_ x = r := ⟨_, rfl⟩
  rw [hr]
  unfold mvF at hr
  clear ha hb
  by_cases h : x = fr
  · rw [if_pos h] at hr
    have hd : ((x : Int) == (fr : Int)) = true := by simp [h]
    subst hr
    clear h
    go_enter Try.func202, Try.ntmps202
    go_wp2_with fail
    go_returns
    exact ⟨rfl, 0, rfl⟩
  · rw [if_neg h] at hr
    have hd : ((x : Int) == (fr : Int)) = false := by simpa using (show ¬ (x : Int) = (fr : Int) by omega)
    subst hr
    clear h
    go_enter Try.func202, Try.ntmps202
    go_wp2_with fail
    go_returns
    exact ⟨rfl, 0, rfl⟩
/-- where a place goes when the object at fr, n words long, is cut out and put behind all -/
def lsF (fr n tot : Nat) (x : Nat) : Nat := if x = fr then tot - n else if fr < x then x - n else x
set_option maxRecDepth 100000 in
theorem last1_any (w : World) (x fr n tot a b c p : Nat) (A : Option Addr) (cw : Nat) (u v : Value) (ha : Blk w a 3 #[.int .i64 (fr : Int)]) (hb : Blk w b 106 #[.pointer (some ⟨p, 0, none⟩)]) (hc : Blk w c 3 #[.int .i64 (n : Int)]) (hp : Blk w p 191 #[.slice A tot cw, u, v])
    (hn : n ≤ tot) (ht : tot ≤ 2000) (hx : x ≤ 2000) (hfx : fr < x → n ≤ x) :
    Calls Try.prog 201 #[.int .i64 (x : Int), .pointer (some ⟨a, 0, none⟩), .pointer (some ⟨b, 0, none⟩), .pointer (some ⟨c, 0, none⟩)] w fun e w' => e = .returned (.int .i64 (lsF fr n tot x : Int)) ∧ ∃ n, w' = w.drewN n := by
  have a0 := ha.cell 0 (v := .int .i64 (fr : Int)) rfl
  have b0 := hb.cell 0 (v := .pointer (some ⟨p, 0, none⟩)) rfl
  have c0 := hc.cell 0 (v := .int .i64 (n : Int)) rfl
  have p0 := hp.cell 0 (v := .slice A tot cw) rfl
  obtain ⟨r, hr⟩ : ∃ r, lsF fr n tot x = r := ⟨_, rfl⟩
  rw [hr]
  unfold lsF at hr
  clear ha hb hc hp
  by_cases h : x = fr
  · rw [if_pos h] at hr
    have hd : ((x : Int) == (fr : Int)) = true := by simp [h]
    have e1 : IntKind.i64.wrap ((tot : Int) - (n : Int)) = (r : Int) := by rw [IntWalk.i64_in _ (by omega)]; omega
    clear h
    go_enter Try.func201, Try.ntmps201
    go_upto_region 2 with fail
    go_quiet (fail)
    go_wp2_with fail
    go_returns
    exact ⟨rfl, _, rfl⟩
  · rw [if_neg h] at hr
    have hd : ((x : Int) == (fr : Int)) = false := by simpa using (show ¬ (x : Int) = (fr : Int) by omega)
    by_cases h2 : fr < x
    · rw [if_pos h2] at hr
      have hd2 : (fr : Int) < (x : Int) := by omega
      have := hfx h2
      have e1 : IntKind.i64.wrap ((x : Int) - (n : Int)) = (r : Int) := by rw [IntWalk.i64_in _ (by omega)]; omega
      clear h h2
      go_enter Try.func201, Try.ntmps201
      go_wp2_with fail
      go_returns
      exact ⟨rfl, 0, rfl⟩
    · rw [if_neg h2] at hr
      have hd2 : ¬ (fr : Int) < (x : Int) := by omega
      subst hr
      clear h h2
      go_enter Try.func201, Try.ntmps201
      go_wp2_with fail
      go_returns
      exact ⟨rfl, 0, rfl⟩
end Go.Proofs.Ytpkccpegdpodoaa

/- Store and shelf: behind move, behind last. No walk. -/
namespace Go.Proofs.Ytpkccpegdpodoaa
open Go.RowKit

namespace Sto
open Hau
theorem st_app_right (l r : List (List U64)) (k : Nat) : st (l ++ r) (l.length + k) = l.flatten.length + st r k := by
  unfold st
  rw [List.take_length_add_append, List.flatten_append, List.length_append]
theorem st_cons_succ (o : List U64) (r : List (List U64)) (k : Nat) : st (o :: r) (k + 1) = o.length + st r k := by
  unfold st
  rw [List.take_succ_cons, List.flatten_cons, List.length_append]

theorem Sr.move {obs : List (List U64)} {pl : List Int} {cs : List Kp} (h : Sr obs pl cs) {j0 : Nat} {o : List U64} (ho : obs[j0]? = some o) (hs : obs.flatten.length + o.length ≤ 2000) :
    Sr ((obs ++ [o]).map (turnO (mvF (st obs j0) obs.flatten.length))) (pl.map (turnP (mvF (st obs j0) obs.flatten.length))) cs := by
  have hj0 := (List.getElem?_eq_some_iff.1 ho).1
  refine h.turn _ (fun j => if j = j0 then obs.length else j) (fun j o' hj => ?_) (fun o' ho' => ?_) (fun j j' hj hj' he => ?_) (by rw [List.flatten_append, List.length_append, List.flatten_singleton]; exact hs)
  · have hjl := (List.getElem?_eq_some_iff.1 hj).1
    by_cases e : j = j0
    · subst e
      rw [ho] at hj
      injection hj with hj
      subst hj
      simp only [if_true]
      refine ⟨by rw [List.getElem?_append_right (Nat.le_refl _), Nat.sub_self]; rfl, ?_⟩
      unfold mvF
      rw [if_pos rfl, st_app (Nat.le_refl _), st_all]
    · simp only [if_neg e]
      refine ⟨by rw [List.getElem?_append_left hjl]; exact hj, ?_⟩
      unfold mvF
      rw [if_neg (fun h2 => e (st_inj h.good hjl hj0 h2)), st_app (by omega)]
  · rcases List.mem_append.1 ho' with h1 | h1
    · exact h1
    · simp at h1; subst h1; exact List.mem_of_getElem? ho
  · split at he <;> split at he <;> omega

theorem Sr.last {A B : List (List U64)} {o : List U64} {pl : List Int} {cs : List Kp} (h : Sr (A ++ o :: B) pl cs) :
    Sr ((A ++ B ++ [o]).map (turnO (lsF A.flatten.length o.length (A ++ o :: B).flatten.length))) (pl.map (turnP (lsF A.flatten.length o.length (A ++ o :: B).flatten.length))) cs := by
  have hlen : (A ++ o :: B).length = A.length + 1 + B.length := by simp; omega
  have hfl : (A ++ o :: B).flatten.length = A.flatten.length + o.length + B.flatten.length := by simp; omega
  have hop : 1 ≤ o.length := by
    obtain ⟨a, b, rfl, -⟩ := h.good o (by simp)
    rw [List.length_cons]; omega
  have hsm := h.small
  refine h.turn _ (fun j => if j = A.length then A.length + B.length else if A.length < j then j - 1 else j) (fun j o' hj => ?_) (fun o' ho' => ?_) (fun j j' hj hj' he => ?_) (by
    have : (A ++ B ++ [o]).flatten.length = (A ++ o :: B).flatten.length := by simp; omega
    omega)
  · have hjl := (List.getElem?_eq_some_iff.1 hj).1
    rw [hfl]
    by_cases e : j = A.length
    · subst e
      rw [List.getElem?_append_right (Nat.le_refl _), Nat.sub_self] at hj
      simp at hj
      subst hj
      simp only [if_true]
      refine ⟨by rw [List.getElem?_append_right (by simp)]; simp, ?_⟩
      have h1 : st (A ++ o :: B) A.length = A.flatten.length := by simp [st]
      have h2 : st (A ++ B ++ [o]) (A.length + B.length) = A.flatten.length + B.flatten.length := by
        have := st_app_right (A ++ B) [o] 0
        rw [List.length_append, Nat.add_zero] at this
        rw [this]; simp [st]
      unfold lsF
      rw [h1, if_pos rfl, h2]
      omega
    · by_cases e2 : A.length < j
      · obtain ⟨k, rfl⟩ : ∃ k, j = A.length + (k + 1) := ⟨j - A.length - 1, by omega⟩
        have hk : k < B.length := by omega
        simp only [if_neg e, if_pos e2]
        rw [List.getElem?_append_right (by omega), show A.length + (k + 1) - A.length = k + 1 by omega, List.getElem?_cons_succ] at hj
        refine ⟨by rw [show A.length + (k + 1) - 1 = A.length + k by omega, List.append_assoc, List.getElem?_append_right (by omega), show A.length + k - A.length = k by omega, List.getElem?_append_left hk]; exact hj, ?_⟩
        rw [st_app_right, st_cons_succ, show A.length + (k + 1) - 1 = A.length + k by omega, List.append_assoc, st_app_right, st_app (by omega)]
        unfold lsF
        rw [if_neg (by omega), if_pos (by omega)]
        omega
      · simp only [if_neg e, if_neg e2]
        have hjA : j < A.length := by omega
        rw [List.getElem?_append_left hjA] at hj
        have hst : st (A ++ o :: B) j = st A j := st_app (by omega)
        have hlt : st A j < A.flatten.length := by
          have h3 := st_mono (l := A) (show j + 1 ≤ A.length from hjA)
          have h4 := st_succ (List.getElem?_eq_getElem hjA)
          obtain ⟨a, b, e5, -⟩ := h.good _ (List.mem_append_left _ (List.getElem_mem hjA))
          have : (A[j]).length = b.length + 1 := by rw [e5]; rfl
          rw [st_all] at h3
          omega
        refine ⟨by rw [List.append_assoc, List.getElem?_append_left hjA]; exact hj, ?_⟩
        rw [hst, List.append_assoc, st_app (by omega)]
        unfold lsF
        rw [if_neg (by omega), if_neg (by omega)]
  · simp at ho' ⊢
    rcases ho' with h1 | h1 | h1
    · exact .inl h1
    · exact .inr (.inr h1)
    · exact .inr (.inl h1)
  · rw [hlen] at hj hj'
    split at he <;> split at he <;> (try split at he) <;> (try split at he) <;> omega
end Sto

end Go.Proofs.Ytpkccpegdpodoaa

/- Store and shelf: behind a collection. No walk. -/
namespace Go.Proofs.Ytpkccpegdpodoaa
open Go.RowKit

namespace Sto
open Hau
theorem takeWhile_get {p : Nat} : ∀ {F : List Nat} {i : Nat}, F.Nodup → F[i]? = some p → F.takeWhile (fun q => q != p) = F.take i
  | [], i, _, h => by simp at h
  | q :: F, 0, _, h => by
    simp at h
    subst h
    rw [List.takeWhile_cons]; simp
  | q :: F, i + 1, hn, h => by
    rw [List.getElem?_cons_succ] at h
    obtain ⟨h1, h2⟩ := List.nodup_cons.1 hn
    have hne : (q != p) = true := by
      simp only [bne_iff_ne, ne_eq]
      intro e; subst e; exact h1 (List.mem_of_getElem? h)
    rw [List.takeWhile_cons, hne, List.take_succ_cons, takeWhile_get h2 h]; rfl
theorem posOf_get {ws : List U64} {F : List Nat} {i p : Nat} (hn : F.Nodup) (h : F[i]? = some p) : posOf ws F p = ((F.take i).map (sz ws)).sum := by
  unfold posOf; rw [takeWhile_get hn h]

/-- the told objects, turned, one behind another -/
def tobs (ws : List U64) (L : List Nat) : List (List U64) := L.map (tobj ws L)
theorem tobs_flat (ws : List U64) (L : List Nat) : (tobs ws L).flatten = L.flatMap (tobj ws L) := by unfold tobs; rw [List.flatMap_def]
theorem tobs_st {ws : List U64} {L : List Nat} (hb : ∀ p ∈ L, p + sz ws p ≤ ws.length) {i p : Nat} (hn : L.Nodup) (h : L[i]? = some p) : st (tobs ws L) i = posOf ws L p := by
  rw [posOf_get hn h]
  unfold st tobs
  rw [← List.map_take, ← List.flatMap_def, tobjs_length (fun q hq => hb q (List.mem_of_mem_take hq))]

theorem mvd_in {ws : List U64} {L : List Nat} {p : Nat} (h : p ∈ L) : mvd ws L (p : Int) = (posOf ws L p : Int) := by
  unfold mvd
  rw [if_pos (by rw [ints_contains]; exact List.contains_iff_mem.2 h), Int.toNat_natCast]
theorem mvd_cases {ws : List U64} {L : List Nat} (x : Int) : (∃ p : Nat, x = (p : Int) ∧ p ∈ L) ∨ mvd ws L x = -1 := by
  by_cases h : (ints L).contains x = true
  · have := List.contains_iff_mem.1 h
    unfold ints at this
    obtain ⟨p, hp, rfl⟩ := List.mem_map.1 this
    exact .inl ⟨p, rfl, hp⟩
  · exact .inr (by unfold mvd; rw [if_neg h])

theorem Sr.collect {obs : List (List U64)} {pl : List Int} {cs : List Kp} (h : Sr obs pl cs) : Sr (tobs obs.flatten (told obs.flatten (sroots pl cs))) (pl.map (mvd obs.flatten (told obs.flatten (sroots pl cs)))) cs := by
  obtain ⟨k1, k2, k3, -⟩ := h.heapOk
  obtain ⟨t1, t2, t3, t4⟩ := told_closed k1 k2 k3
  have tiff := h.told_iff
  obtain ⟨ws, hws⟩ : ∃ x, obs.flatten = x := ⟨_, rfl⟩
  obtain ⟨L, hL⟩ : ∃ x, told ws (sroots pl cs) = x := ⟨_, rfl⟩
  rw [hws] at k1 k2 k3 t1 t2 t3 t4 tiff ⊢
  rw [hL] at t1 t2 t3 tiff ⊢
  have hsp := places_spec k1
  have hb : ∀ p ∈ L, p + sz ws p ≤ ws.length := fun p hp => hsp.1 p (t2 p hp)
  have hpl := (places_st h.good).1
  rw [hws] at hpl
  have hsum := (len_le k1 t1 t2).1
  have hsm := h.small
  rw [hws] at hsm
  have hflen : (tobs ws L).flatten.length ≤ ws.length := by rw [tobs_flat, tobjs_length hb]; exact hsum
  -- a told place's object
  have hob : ∀ p ∈ L, ∃ (j : Nat) (a : U64) (b : List U64), obs[j]? = some (a :: b) ∧ p = st obs j ∧ lg a = b.length ∧ Hau.tail ws p = b ∧ tobj ws L p = a :: b.map (trn ws L) := by
    intro p hp
    have := t2 p hp
    rw [hpl] at this
    obtain ⟨j, hj, rfl⟩ := mem_starts.1 this
    obtain ⟨o, ho⟩ : ∃ o, obs[j]? = some o := ⟨_, List.getElem?_eq_getElem hj⟩
    obtain ⟨a, b, rfl, hab⟩ := h.good o (List.mem_of_getElem? ho)
    have e1 := tail_st h.good ho
    have e2 := obj_st h.good ho
    rw [hws] at e1 e2
    exact ⟨j, a, b, ho, rfl, hab, e1, by unfold tobj; rw [e1, e2]; rfl⟩
  have hgood : ∀ o ∈ tobs ws L, Good o := fun o ho => by
    obtain ⟨p, hp, rfl⟩ := List.mem_map.1 ho
    obtain ⟨j, a, b, -, -, hab, -, e⟩ := hob p hp
    exact ⟨a, b.map (trn ws L), e, by rw [List.length_map]; exact hab⟩
  have hidx : ∀ p ∈ L, ∃ i, i < (tobs ws L).length ∧ L[i]? = some p ∧ posOf ws L p = st (tobs ws L) i := fun p hp => by
    obtain ⟨i, hi⟩ := List.mem_iff_getElem?.1 hp
    exact ⟨i, by unfold tobs; rw [List.length_map]; exact (List.getElem?_eq_some_iff.1 hi).1, hi, (tobs_st hb t1 hi).symm⟩
  refine ⟨hgood, fun o ho x hx => ?_, fun o ho x hx => ?_, by omega, by rw [List.length_map]; exact h.len, h.many, fun n x hx => ?_, fun n m x hx hy hne => ?_, h.mark, h.vlen, h.vals, fun n c hn hc => ?_⟩
  · obtain ⟨p, hp, rfl⟩ := List.mem_map.1 ho
    obtain ⟨j, a, b, hj, -, -, et, e⟩ := hob p hp
    rw [e, List.tail_cons] at hx
    obtain ⟨y, hy, rfl⟩ := List.mem_map.1 hx
    have hf := h.body _ (List.mem_of_getElem? hj) y hy
    cases hr : refOf y with
    | none => rw [show trn ws L y = y by unfold trn; rw [hr]]; exact fits_other hf hr
    | some q =>
      have hq := t3 p hp y (by rw [et]; exact hy) q hr
      obtain ⟨i, hi, -, e2⟩ := hidx q hq
      rw [show trn ws L y = refW (posOf ws L q) by unfold trn; rw [hr], e2]
      have := st_le (l := tobs ws L) i
      exact fits_refW (by omega) (mem_starts.2 ⟨i, hi, rfl⟩)
  · obtain ⟨p, hp, rfl⟩ := List.mem_map.1 ho
    obtain ⟨j, a, b, hj, -, -, et, e⟩ := hob p hp
    have hfl := h.flat _ (List.mem_of_getElem? hj)
    rw [e] at hx
    rcases List.mem_cons.1 hx with rfl | hx
    · exact hfl x (by simp)
    · obtain ⟨y, hy, rfl⟩ := List.mem_map.1 hx
      exact Hau.trn_flat (hfl y (by simp [hy]))
  · rw [List.getElem?_map] at hx
    cases hx0 : pl[n]? with
    | none => rw [hx0] at hx; cases hx
    | some x0 =>
      rw [hx0] at hx
      injection hx with hx
      subst hx
      rcases mvd_cases (ws := ws) (L := L) x0 with ⟨p, rfl, hp⟩ | e
      · obtain ⟨i, hi, -, e2⟩ := hidx p hp
        exact .inr ⟨i, hi, by rw [mvd_in hp, e2]⟩
      · exact .inl e
  · rw [List.getElem?_map] at hx hy
    cases hx0 : pl[n]? with
    | none => rw [hx0] at hx; cases hx
    | some x0 =>
      cases hy0 : pl[m]? with
      | none => rw [hy0] at hy; cases hy
      | some y0 =>
        rw [hx0] at hx
        rw [hy0] at hy
        injection hx with hx
        injection hy with hy
        rcases mvd_cases (ws := ws) (L := L) x0 with ⟨p, rfl, hp⟩ | e
        · rcases mvd_cases (ws := ws) (L := L) y0 with ⟨q, rfl, hq⟩ | e
          · obtain ⟨i, hi, gi, e2⟩ := hidx p hp
            obtain ⟨i2, hi2, gi2, e3⟩ := hidx q hq
            rw [mvd_in hp, e2] at hx
            rw [mvd_in hq, e3, ← hx] at hy
            have : i2 = i := st_inj hgood hi2 hi (by omega)
            subst this
            rw [gi] at gi2
            injection gi2 with gi2
            subst gi2
            exact h.inj n m _ hx0 hy0 (by omega)
          · exact absurd (hy.symm.trans e) hne
        · exact absurd (hx.symm.trans e) hne
  · obtain ⟨j, o, g1, g2, hd, b, rfl, g4, g5, g6⟩ := h.need n c hn hc
    have hpL : st obs j ∈ L := (tiff _).2 ⟨n, hn, g2⟩
    obtain ⟨i, hi, gi, e2⟩ := hidx _ hpL
    obtain ⟨j', a', b', gj', ej, -, et, e⟩ := hob _ hpL
    have hjj : j = j' := st_inj h.good (List.getElem?_eq_some_iff.1 g1).1 (List.getElem?_eq_some_iff.1 gj').1 ej
    subst hjj
    rw [g1] at gj'
    injection gj' with gj'
    injection gj' with ga gb
    subst ga gb
    refine ⟨i, _, by unfold tobs; rw [List.getElem?_map, gi]; rfl, by rw [List.getElem?_map, g2]; exact congrArg some (by rw [mvd_in hpL, e2]), ?_⟩
    rw [e]
    refine ⟨hd, b.map (trn ws L), rfl, by rw [List.length_map]; exact g4, by rw [List.length_map]; exact g5, fun k v x hv hx => ?_⟩
    rw [List.getElem?_map] at hx
    cases hbk : b[k]? with
    | none => rw [hbk] at hx; cases hx
    | some y =>
      rw [hbk] at hx
      injection hx with hx
      subst hx
      rcases g6 k v y hv hbk with ⟨m1, q, m2, rfl⟩ | ⟨m1, m2⟩
      · have hq := h.psm _ _ m2
        have hqL : q ∈ L := t3 _ hpL (refW q) (by rw [et]; exact List.mem_of_getElem? hbk) q (refOf_refW hq)
        exact .inl ⟨m1, posOf ws L q, by rw [List.getElem?_map, m2]; exact congrArg some (mvd_in hqL), by unfold trn; rw [refOf_refW hq]⟩
      · obtain ⟨v1, v2⟩ := v
        have hr : refOf y = none := by rw [refOf_of m2]; exact if_neg m1
        exact .inr ⟨m1, by rw [show trn ws L y = y by unfold trn; rw [hr]]; exact m2⟩
end Sto

end Go.Proofs.Ytpkccpegdpodoaa

/- Store and shelf: how many words the needed cells have. No walk. -/
namespace Go.Proofs.Ytpkccpegdpodoaa
open Go.RowKit

namespace Sto
open Hau
noncomputable def ndB (cs : List Kp) (n : Nat) : Bool := (sNeed cs).getD n false
theorem ndB_iff {cs : List Kp} {n : Nat} : ndB cs n = true ↔ n < cs.length ∧ Nd cs n := by
  have h := fromL_get (sHas cs) (sRoots cs) [] n
  have hl : (sHas cs).length = cs.length := by unfold sHas; rw [List.length_map]
  rw [hl] at h
  unfold Nd
  rw [← h]
  unfold ndB sNeed
  rw [List.getD_eq_getElem?_getD]
  cases (fromL (sHas cs) (sRoots cs) [])[n]? with
  | none => simp
  | some b => simp
def vlenAt (cs : List Kp) (n : Nat) : Nat := match cs[n]? with | some c => c.vals.length | none => 0
/-- the words of the needed cells among the first k -/
noncomputable def sW (cs : List Kp) (k : Nat) : Nat := ((List.range k).map fun n => if ndB cs n = true then 1 + vlenAt cs n else 0).sum
theorem sW_succ (cs : List Kp) (k : Nat) : sW cs (k + 1) = sW cs k + if ndB cs k = true then 1 + vlenAt cs k else 0 := by
  unfold sW; rw [List.range_succ, List.map_append, List.sum_append]; simp
theorem sum_filter {α : Type} (p : α → Bool) (g : α → Nat) : ∀ l : List α, ((l.filter p).map g).sum = (l.map fun x => if p x = true then g x else 0).sum
  | [] => rfl
  | x :: l => by
    have ih := sum_filter p g l
    rw [List.filter_cons, List.map_cons, List.sum_cons, ← ih]
    split <;> simp

theorem Sr.words {obs : List (List U64)} {pl : List Int} {cs : List Kp} (h : Sr obs pl cs) : wdsL obs.flatten (told obs.flatten (sroots pl cs)) = sW cs cs.length := by
  obtain ⟨k1, k2, k3, -⟩ := h.heapOk
  obtain ⟨t1, t2, t3, t4⟩ := told_closed k1 k2 k3
  have tiff := h.told_iff
  have hN : ∀ n, n ∈ (List.range cs.length).filter (ndB cs) ↔ Nd cs n := fun n => by
    rw [List.mem_filter, List.mem_range, ndB_iff]
    constructor
    · exact fun h => h.2.2
    · intro hn
      obtain ⟨c, hc⟩ := h.lt hn
      have := (List.getElem?_eq_some_iff.1 hc).1
      exact ⟨this, this, hn⟩
  have hpl : ∀ n, Nd cs n → ∃ (j : Nat) (c : Kp) (o : List U64), cs[n]? = some c ∧ obs[j]? = some o ∧ pl[n]? = some (st obs j : Int) ∧ o.length = 1 + c.vals.length := fun n hn => by
    obtain ⟨c, j, o, e1, e2, e3, hh, b, rfl, e5, e6, e7⟩ := h.at_ hn
    exact ⟨j, c, _, e1, e2, e3, by rw [List.length_cons, e6]; omega⟩
  have hperm : (told obs.flatten (sroots pl cs)).Perm (((List.range cs.length).filter (ndB cs)).map fun n => (pl.getD n 0).toNat) := by
    refine (List.perm_ext_iff_of_nodup t1 ?_).2 (fun p => ?_)
    · refine List.pairwise_map.2 ((List.nodup_range.filter (ndB cs)).imp_of_mem (fun {a b} ha hb hne he => hne ?_))
      obtain ⟨j, c, o, -, -, e3, -⟩ := hpl a ((hN a).1 ha)
      obtain ⟨j2, c2, o2, -, -, e4, -⟩ := hpl b ((hN b).1 hb)
      simp only [List.getD_eq_getElem?_getD, e3, e4, Option.getD_some, Int.toNat_natCast] at he
      rw [← he] at e4
      exact h.inj a b _ e3 e4 (by omega)
    · rw [tiff, List.mem_map]
      constructor
      · rintro ⟨n, hn, hp⟩
        exact ⟨n, (hN n).2 hn, by rw [List.getD_eq_getElem?_getD, hp]; simp⟩
      · rintro ⟨n, hn, rfl⟩
        have hn := (hN n).1 hn
        obtain ⟨j, c, o, -, -, e3, -⟩ := hpl n hn
        exact ⟨n, hn, by rw [List.getD_eq_getElem?_getD, e3]; simp⟩
  unfold wdsL
  rw [(hperm.map (sz obs.flatten)).sum_nat, List.map_map]
  unfold sW
  rw [← sum_filter]
  congr 1
  refine List.map_congr_left (fun n hn => ?_)
  obtain ⟨j, c, o, e1, e2, e3, e4⟩ := hpl n ((hN n).1 hn)
  have : sz obs.flatten (st obs j) = o.length := sz_st h.good e2
  simp only [Function.comp_apply, List.getD_eq_getElem?_getD, e3, Option.getD_some, Int.toNat_natCast]
  rw [this, e4]
  unfold vlenAt
  rw [e1]
end Sto

end Go.Proofs.Ytpkccpegdpodoaa
