/- R.Moved. -/
import Derived.Test.YtpkccpegdpodoaaHaul11
namespace Go.Proofs.Ytpkccpegdpodoaa
open Go.RowKit Go.Maps

attribute [local go_sem ↓] Go.wp_at_zero Go.wp_at_succ

theorem Hau.Ou.step {ws roots : List U64} {F1 G R : List Nat} {p : Nat} (h : Hau.Ou ws roots F1 G (p :: R)) (hok : Hau.okW ws = true) (hw : Hau.wordsOk ws = true) : ∃ R', Hau.addAll (G ++ p :: R) (Hau.tail ws p) = (G ++ [p]) ++ R' ∧ Hau.Ou ws roots F1 (G ++ [p]) R' := by
  have key : ∀ q, q ≤ (Hau.tail ws p).length → ∃ R', Hau.In ws roots F1 (G ++ p :: R) G p R' q := by
    intro q
    induction q with
    | zero => intro _; exact ⟨R, h.into⟩
    | succ q ih =>
      intro hq
      obtain ⟨R', hi⟩ := ih (by omega)
      obtain ⟨X, hX⟩ := Hau.addW_pre (G ++ p :: R') ((Hau.tail ws p)[q]'(by omega))
      exact ⟨R' ++ X, hi.next hok hw (List.getElem?_eq_getElem (by omega)) hX⟩
  obtain ⟨R', hi⟩ := key _ (Nat.le_refl _)
  refine ⟨R', ?_, hi.out hok (Nat.le_refl _)⟩
  have := hi.2.2.2.2.1
  rw [List.take_length] at this
  rw [← this]; simp

def RmPost (ws roots : List U64) (w : World) (e : Ending) (w' : World) : Prop := Below w.heap.size w w' ∧
  ∃ (TA : Option Addr) (tc : Nat) (RA : Option Addr) (rc : Nat) (LA : Option Addr) (lc : Nat), e = .returned (.tuple #[.agg #[.slice TA (Hau.newWords ws roots).length tc, .slice RA (Hau.newRoots ws roots).length rc], .slice LA (Hau.told ws roots).length lc]) ∧
      Own w' w.heap.size 24 TA tc (Hau.newWords ws roots) ∧ Own w' w.heap.size 24 RA rc (Hau.newRoots ws roots) ∧ Own w' w.heap.size 82 LA lc (Hau.mv ws (Hau.told ws roots))

theorem Blk.below_ {w w' : World} {B g : Nat} {t : TypeId} {cs : Array Value} (h : Blk w g t cs) (hb : Below B w w') (hg : g < B) : Blk w' g t cs := (hb.block g hg).trans h
theorem Hau.at_tail {w : World} {B b o wc p : Nat} {A5 : Option Addr} {ws : List U64} (h : At w B (some ⟨b, o, none⟩) ws) (hpe : p + Hau.sz ws p ≤ ws.length) (hwc : ws.length ≤ wc) (hA : (if wc - p = 1 then some (⟨b, o + p, none⟩ : Addr) else some ⟨b, o + p + 1, none⟩) = A5) : At w B A5 (Hau.tail ws p) := by
  have h1 := at_takeH (h.drop_ p) (Hau.sz ws p)
  rw [show p * Enc.sz U64 = p from Nat.mul_one p] at h1
  exact At.cut_ (c := wc - p) h1 (by show (Hau.obj ws p).length ≤ wc - p; rw [Hau.obj_length hpe]; omega) hA
theorem Hau.cum_mem {ws : List U64} : ∀ {F : List Nat} {a : Nat} {m : Nat × Nat}, m ∈ Hau.cum ws a F → m.2 ∈ F ∧ m.1 ≤ a + (F.map (Hau.sz ws)).sum
  | [], _, _, h => by cases h
  | q :: F, a, m, h => by
    rw [Hau.cum] at h
    rw [List.map_cons, List.sum_cons]
    rcases List.mem_cons.1 h with rfl | h
    · exact ⟨by simp, by simp⟩
    · have := Hau.cum_mem h
      exact ⟨List.mem_cons_of_mem _ this.1, by omega⟩
theorem Hau.turnBy_flat {L : List (Int × Int)} {x : U64} (h : Flat.ok x) : Flat.ok (Hau.turnBy L x) := by
  unfold Hau.turnBy
  split
  · exact h
  · rename_i p hp
    clear hp
    induction L generalizing x with
    | nil => exact h
    | cons m L ih => rw [List.foldl_cons]; exact ih (Hau.turn1_flat h)
theorem Hau.refs_lt {l : List U64} (h : ∀ x ∈ l, Flat.ok x) : ∀ p ∈ Hau.refs l, p < 4294967296 := by
  intro p hp
  unfold Hau.refs at hp
  obtain ⟨x, hx, hr⟩ := List.mem_filterMap.1 hp
  exact Hau.ref_lt (h x hx) hr
theorem Hau.refs_len (l : List U64) : (Hau.refs l).length ≤ l.length := List.length_filterMap_le _ _
theorem Hau.tail_ok {ws : List U64} {p : Nat} (h : ∀ x ∈ ws, Flat.ok x) : ∀ x ∈ Hau.tail ws p, Flat.ok x := fun x hx => h x (List.mem_of_mem_drop (List.mem_of_mem_take (List.mem_of_mem_drop hx)))

set_option maxHeartbeats 3200000 in
set_option maxRecDepth 100000 in
theorem rmoved_any (B wc gc : Nat) (WA GA : Option Addr) (ws roots : List U64) (w : World) (hw : At w B WA ws) (hg : At w B GA roots) (hB : B ≤ w.heap.size) (hwc : ws.length ≤ wc) (hl1 : ws.length ≤ 2000) (hl2 : roots.length ≤ 100)
    (hok : Hau.okW ws = true) (hwo : Hau.wordsOk ws = true) (hro : Hau.rootsOk ws roots = true) :
    Calls Try.prog 42 #[.agg #[.slice WA ws.length wc, .slice GA roots.length gc]] w (RmPost ws roots w) := by
  have hokW := hw.ok_
  have hokR := hg.ok_
  have hou := Hau.Ou.start hok hro
  have hpsz := (Hau.places_spec hok).1
  have hplt := Hau.places_lt ws
  have H := Lib.hid (And.intro hw (And.intro hg (And.intro hok (And.intro hwo (And.intro hro (And.intro hokW (And.intro hokR (And.intro hpsz hplt)))))))); clear hw hg hok hwo hro hokW hokR hpsz hplt
  have HOU := Lib.hid hou; clear hou
  have hmf : ∀ (fn : Fn) (first cap : Array Value) (w : World), (Instr.makeFunc fn first cap).run Try.prog w = .ok (.func fn first cap) w := fun _ _ _ _ => rfl
  go_enter Try.func42, Try.ntmps42
  go_upto_region 3 with fail
  refine wp_world (fun W => Hid (Blk W w.heap.size 70 #[.slice WA ws.length wc, .slice GA roots.length gc] ∧ Blk W (w.heap.size + 1) 70 #[.slice none 0 0, .slice none 0 0] ∧ Blk W (w.heap.size + 1 + 1) 47 #[.slice none 0 0]) ∧ Below w.heap.size w W ∧ w.heap.size + 1 + 1 < W.heap.size) ⟨⟨((Blk.new _ _ _).alloc _).alloc _, (Blk.at_ _ _ _ (by simp)).alloc _, Blk.at_ _ _ _ (by simp)⟩, (((Below.refl _ _).alloc (Nat.le_refl _) _).alloc (by simp) _).alloc (by simp only [World.size_alloc]; omega) _, by simp only [World.size_alloc]; omega⟩ ?_
  rintro W ⟨HB, hb0, hs0⟩
  obtain ⟨Z, hZ⟩ : ∃ Z, w.heap.size + 1 + 1 = Z := ⟨_, rfl⟩
  rw [hZ] at HB hs0
  rw [hZ]
  have g1 := HB.out.1.cell 1 (v := .slice GA roots.length gc) rfl
  have ht := rtold_any B roots.length gc GA roots W (H.out.2.1.below (hb0.mono hB)) rfl (by have := hb0.size; omega) (by omega)
  have HT := Lib.hid ht; clear ht
  go_wp2_with fail
  refine HT.out.mono ?_
  rintro e w1 ⟨OA, oc, rfl, ho, hb1⟩
  have hs1 := hb1.size
  clear HT g1 hmf
  have hrl := Hau.refs_len roots
  have hmo := more_any w1.heap.size Z Z (Hau.refs roots).length oc 0 OA none (Hau.refs roots) [] w1 (ho.at_ (ints_okB (Hau.refs_lt H.out.2.2.2.2.2.2.1) (by omega))) rfl (Nat.le_refl _) (HB.out.2.2.fresh hb1) Own.nil_ (Nat.le_refl _)
    (fun g hg => ⟨by simp [rowOf], by have := (ho.lt g hg).1; omega⟩) (by omega) (by simp) (Hau.refs_lt H.out.2.2.2.2.2.2.1) (by simp)
  have hF1 := Hau.addAll_refs roots []
  have HM := Lib.hid (And.intro hmo hF1); clear hmo hF1 ho
  go_wp2_with fail
  refine HM.out.1.mono ?_
  rintro e w2 ⟨hb2, rfl, OA2, oc2, hO2, ho2⟩
  rw [← HM.out.2] at hO2 ho2
  have hbW2 : Below Z W w2 := (hb1.mono (by omega)).trans hb2
  obtain ⟨F1, hF1⟩ : ∃ F1, Hau.addAll [] roots = F1 := ⟨_, rfl⟩
  rw [hF1] at HOU hO2 ho2
  have HS := Lib.hid (And.intro hO2 (And.intro ho2 (And.intro HOU.out hF1))); clear hO2 ho2 hF1 HOU HM
  go_wp2_with fail
  go_loopg [6] (ws.length + 1) (fun gk v6 wr => ∃ (i : Nat) (G R : List Nat) (OA : Option Addr) (oc : Nat), gk = ws.length + 1 - i ∧ v6 = .int .i64 i ∧ i ≤ ws.length ∧ Hid (Blk wr Z 47 #[.slice OA (G ++ R).length oc] ∧ Own wr Z 3 OA oc (ints (G ++ R)) ∧ Hau.Ou ws roots F1 G R ∧ i = G.length) ∧ Below Z W wr)
  case atStart => exact ⟨0, [], F1, OA2, oc2, rfl, rfl, by omega, ⟨HS.out.1, HS.out.2.1, HS.out.2.2.1, rfl⟩, hbW2⟩
  case round =>
    obtain ⟨i, G, R, OA, oc, rfl, rfl, hiw, hkeep, hbl⟩ := hrel
    have hsz := hbl.size
    have hlen := Hau.len_le H.out.2.2.1 hkeep.out.2.2.1.1 hkeep.out.2.2.1.2.1
    have c0 := hkeep.out.1.cell 0 (v := .slice OA (G ++ R).length oc) rfl
    cases R with
    | nil =>
      obtain ⟨k1, k2, k3, k4⟩ := hkeep.out
      rw [List.append_nil] at k1 k2 c0 hlen
      have hFd := k3.done
      have hF1 : G.Nodup := by have := k3.1; rwa [List.append_nil] at this
      have hF2 : ∀ r ∈ G, r ∈ Hau.places ws := by have := k3.2.1; rwa [List.append_nil] at this
      have hF3 : ∀ g ∈ G, Hau.known G (Hau.tail ws g) := by have := k3.2.2.1; rwa [List.append_nil] at this
      have hF4 : Hau.known G roots := by
        obtain ⟨X, hX⟩ := k3.2.2.2.1
        rw [List.append_nil] at hX
        rw [hX]
        exact Hau.known.app (by rw [← HS.out.2.2.2]; exact Hau.addAll_known _ _)
      have hFb : ∀ r ∈ G, r < 4294967296 := fun r hr => by have := H.out.2.2.2.2.2.2.2.2 r (hF2 r hr); omega
      have hsum : ∀ k, k < G.length → ∀ p, G[k]? = some p → ((G.take k).map (Hau.sz ws)).sum + Hau.sz ws p = ((G.take (k + 1)).map (Hau.sz ws)).sum ∧ ((G.take (k + 1)).map (Hau.sz ws)).sum ≤ ws.length := by
        intro k hk p hp
        refine ⟨by rw [take_snocH G k p hp, List.map_append, List.sum_append]; simp, ?_⟩
        exact (Hau.len_le H.out.2.2.1 (hF1.sublist (List.take_sublist _ _)) (fun r hr => hF2 r (List.mem_of_mem_take hr))).1
      obtain ⟨N, hN⟩ : ∃ N, G.length = N := ⟨_, rfl⟩
      rw [hN] at k1 c0 hlen
      have hato := k2.at_ (ints_okB hFb (by omega))
      obtain ⟨wo, rfl⟩ : ∃ x, x = wr := ⟨_, rfl⟩
      have hbwo : Below w.heap.size w wo := hb0.trans (hbl.mono (by omega))
      have HG := Lib.hid (And.intro hato (And.intro hFd (And.intro hF1 (And.intro hF2 (And.intro hF3 (And.intro hF4 (And.intro hsum (And.intro hN k1)))))))); clear hato hFd hF1 hF2 hF3 hF4 hFb hsum hN k1 k2 k3 hkeep
      have hlit : ¬ (i : Int) < (N : Int) := by have := HG.out.2.2.2.2.2.2.2.1; omega
      clear k4
      go_upto_region 9 with fail
      obtain ⟨MV, hMV⟩ : ∃ m, wo.heap.size = m := ⟨_, rfl⟩
      rw [hMV]
      refine wp_world (fun V => Hid (Blk V MV 73 #[.slice none 0 0]) ∧ Below MV wo V ∧ MV < V.heap.size) (by subst hMV; exact ⟨Blk.new _ _ _, (Below.refl _ _).alloc (Nat.le_refl _) _, by simp⟩) ?_
      rintro V ⟨HMV, hbV, hsV⟩
      have hZM : Z < MV := by have := hbl.size; omega
      have c1 := (HG.out.2.2.2.2.2.2.2.2.below_ hbV (by omega)).cell 0 (v := .slice OA N oc) rfl
      clear c0
      have hrow : wo.heap.size ≤ MV := by omega
      go_wp2_with fail
      go_loopg [8, 10, 40] N (fun gk v8 v10 v40 wr => ∃ (k a : Nat) (LA : Option Addr) (lc : Nat), k ≤ N ∧ gk = N - k ∧ v40 = .int .i64 k ∧ v8 = .int .i64 a ∧ Hid (Blk wr MV 73 #[.slice LA k lc] ∧ Own wr MV 82 LA lc (Hau.mv ws (G.take k)) ∧ a = ((G.take k).map (Hau.sz ws)).sum) ∧ a ≤ ws.length ∧ Below MV V wr)
      case atStart => exact ⟨0, 0, none, 0, by omega, rfl, rfl, rfl, ⟨HMV.out, Own.nil_, rfl⟩, by omega, Below.refl _ _⟩
      case round =>
        obtain ⟨k, a, LA, lc, hkN, rfl, rfl, rfl, hkeep, haw, hbm⟩ := hrel
        have hsm := hbm.size
        have hbom : Below MV wo wr := hbV.trans hbm
        by_cases hlt : k < N
        · obtain ⟨p, hp⟩ : ∃ p, G[k]? = some p := ⟨_, List.getElem?_eq_getElem (by rw [HG.out.2.2.2.2.2.2.2.1]; exact hlt)⟩
          obtain ⟨bo, oo, rfl, hbo, q0⟩ := ((HG.out.1.more hrow).below hbom).intH hp
          have hlt2 : (k : Int) < (N : Int) := by omega
          have hsu := HG.out.2.2.2.2.2.2.1 k (by rw [HG.out.2.2.2.2.2.2.2.1]; exact hlt) p hp
          obtain ⟨k1, k2, k3⟩ := hkeep.out
          rw [← k3] at hsu
          have hmvl : (Hau.mv ws (G.take k)).length = k := by rw [Hau.mv_length, List.length_take, HG.out.2.2.2.2.2.2.2.1]; omega
          have hmvs : Hau.mv ws (G.take k) ++ [((a : Int), (p : Int))] = Hau.mv ws (G.take (k + 1)) := by rw [take_snocH G k p hp, Hau.mv_snoc, ← k3]
          have hpe := H.out.2.2.2.2.2.2.2.1 p (HG.out.2.2.2.1 p (List.mem_of_getElem? hp))
          have hob := fun V (hV : At V B WA ws) (hs : B ≤ V.heap.size) => robject_any B wc gc roots.length p WA GA ws V hV hs hpe hwc hl1
          obtain ⟨s, hs⟩ : ∃ s, Hau.sz ws p = s := ⟨_, rfl⟩
          rw [hs] at hob hsu hpe
          obtain ⟨a2, ha2⟩ : ∃ x, a + s = x := ⟨_, rfl⟩
          have hwa : IntKind.i64.wrap ((a : Int) + (s : Int)) = (a2 : Int) := by rw [IntWalk.i64_in _ (by omega)]; omega
          have c2 := k1.cell 0 (v := .slice LA k lc) rfl
          have z2 := k1.frozen 0
          have HK := Lib.hid (And.intro k1 (And.intro k2 (And.intro hmvl (And.intro hmvs (And.intro hob hsu))))); clear k1 k2 k3 hmvl hmvs hob hsu hkeep hp hs
          obtain ⟨i0, hi, hz0, hz1, hz2⟩ := info_partsH infoRMoveH
          go_wp2_with (at_builtin; go_must (refine wpList_app (α := Int × Int) (n := k) (m := 1) (B := wr.heap.size + 1) (r := [((a : Int), (p : Int))]) rfl (.tmp 44) (.tmp 48) _ rfl MV 82 i0 _ 16 Try.underlying73 hi hz0 hz1 hz2 rfl (by decide) pair_oneH (by rfl) HK.out.2.2.1 (HK.out.2.1.alloc _) (by rfl) ?_ rfl (by omega) (by simp only [maxLen]; omega) (by simp; omega) ?_))
          · have := At.built wr #[.int .i64 (a : Int), .int .i64 (p : Int)] 82 [((a : Int), (p : Int))] rfl (by intro z hz; rw [List.mem_singleton] at hz; rw [hz]; exact ⟨by show I64 _; unfold I64; omega, by show I64 _; unfold I64; omega⟩)
            simpa using this
          intro A3 c3 w3 hown3 hgr3 hat3
          have hs3 := hgr3.size
          simp only [World.size_alloc] at hs3
          rw [HK.out.2.2.2.1] at hown3
          have m1 := (HK.out.1.alloc (.cells #[.int .i64 (a : Int), .int .i64 (p : Int)] 82)).grown hgr3 (fun e => own_ne_ty HK.out.2.1 HK.out.1 (by decide) e)
          have b3 : Below MV V w3 := (hbm.alloc (by omega) (.cells #[.int .i64 (a : Int), .int .i64 (p : Int)] 82)).grown hgr3 (by simp; omega) (fun g hg => (HK.out.2.1.lt g hg).1)
          have c3' := m1.cell 0 (v := .slice LA k lc) rfl
          have z3' := m1.frozen 0
          have n1 := m1.set_ 0 (.slice A3 (k + 1) c3)
          have n2 := hown3.setCell ⟨MV, 0, none⟩ (.slice A3 (k + 1) c3) (own_ne_ty hown3 m1 (by decide))
          have b4 := b3.setCell (p := ⟨MV, 0, none⟩) (Nat.le_refl _) (.slice A3 (k + 1) c3)
          have hbr4 := (HB.out.1.below_ hbl (by omega)).below_ (hbV.trans b4) (by omega)
          have h0 := hbr4.cell 0 (v := .slice WA ws.length wc) rfl
          have h1 := hbr4.cell 1 (v := .slice GA roots.length gc) rfl
          have hwr := H.out.1.below ((hbwo.trans ((hbV.trans b4).mono (by omega))).mono hB)
          have hsz4 : B ≤ (w3.setCell ⟨MV, 0, none⟩ (.slice A3 (k + 1) c3)).heap.size := by have := hbwo.size; simp only [World.size_setCell]; omega
          have HQ := Lib.hid (And.intro n1 (And.intro n2 (And.intro b4 hwr))); clear n1 n2 b4 hwr m1 b3 hgr3 hat3 hown3 hbr4 c2 z2 q0
          go_wp2_with fail
          refine (HK.out.2.2.2.2.1 _ HQ.out.2.2.2 hsz4).mono ?_
          rintro e w5 ⟨b, o, hWA, rfl, hb5⟩
          clear hWA
          have hs5 : MV ≤ (w3.setCell ⟨MV, 0, none⟩ (.slice A3 (k + 1) c3)).heap.size := by simp only [World.size_setCell]; omega
          clear h0 h1
          go_wp2_with fail
          go_roundg (N - (k + 1))
          case measure => omega
          case rel => exact ⟨k + 1, a2, A3, c3, by omega, rfl, by go_num, rfl, ⟨HQ.out.1.fresh hb5, HQ.out.2.1.fresh hb5, by rw [← ha2]; exact HK.out.2.2.2.2.2.1⟩, by have := HK.out.2.2.2.2.2; omega, HQ.out.2.2.1.trans (hb5.mono hs5)⟩
        · obtain rfl : k = N := by omega
          obtain ⟨k1, k2, k3⟩ := hkeep.out
          rw [List.take_of_length_le (Nat.le_of_eq HG.out.2.2.2.2.2.2.2.1)] at k2
          have hmvl : (Hau.mv ws G).length = k := by rw [Hau.mv_length]; exact HG.out.2.2.2.2.2.2.2.1
          have hmat : At wr wr.heap.size LA (Hau.mv ws G) := k2.at_ (by
            intro z hz
            unfold Hau.mv at hz
            obtain ⟨m, hm, rfl⟩ := List.mem_map.1 hz
            have := Hau.cum_mem hm
            have h2 := HG.out.2.2.2.1 m.2 this.1
            have h3 := H.out.2.2.2.2.2.2.2.2 m.2 h2
            have h4 := (Hau.len_le H.out.2.2.1 HG.out.2.2.1 HG.out.2.2.2.1).1
            exact ⟨by show I64 _; unfold I64; omega, by show I64 _; unfold I64; omega⟩)
          have HE := Lib.hid (And.intro k1 (And.intro k2 (And.intro hmat hmvl))); clear k1 k2 k3 hmat hmvl hkeep
          obtain ⟨wx, rfl⟩ : ∃ x, x = wr := ⟨_, rfl⟩
          have hmf : ∀ (fn : Fn) (first cap : Array Value) (w : World), (Instr.makeFunc fn first cap).run Try.prog w = .ok (.func fn first cap) w := fun _ _ _ _ => rfl
          obtain ⟨N, hN⟩ : ∃ N, k = N := ⟨_, rfl⟩
          rw [hN] at HE c1 hlen HG
          rw [hN]
          go_upto_region 18 with fail
          clear hmf
          obtain ⟨XB, hXB⟩ : ∃ m, wx.heap.size = m := ⟨_, rfl⟩
          rw [hXB]
          refine wp_world (fun V2 => Hid (Blk V2 XB 70 #[.slice none 0 0, .slice none 0 0]) ∧ Below XB wx V2 ∧ XB < V2.heap.size) (by subst hXB; exact ⟨Blk.new _ _ _, (Below.refl _ _).alloc (Nat.le_refl _) _, by simp⟩) ?_
          rintro V2 ⟨HXB, hbX2, hsX⟩
          have hMX : MV < XB := by omega
          have hbVX : Below MV wo V2 := hbom.trans (hbX2.mono (by omega))
          have c1x := (HG.out.2.2.2.2.2.2.2.2.below_ hbVX (by omega)).cell 0 (v := .slice OA N oc) rfl
          clear c1
          obtain ⟨j0, hj, hy0, hy1, hy2⟩ := info_partsH infoU64H
          go_wp2_with fail
          go_loopg [14, 15, 60] N (fun gk v14 v15 v60 wr => ∃ (k t : Nat) (TA : Option Addr) (tc : Nat), k ≤ N ∧ gk = N - k ∧ v60 = .int .i64 k ∧ Hid (Blk wr XB 70 #[.slice TA t tc, .slice none 0 0] ∧ Own wr XB 24 TA tc ((G.take k).flatMap (Hau.tobj ws G)) ∧ t = ((G.take k).map (Hau.sz ws)).sum) ∧ t ≤ ws.length ∧ Below XB V2 wr)
          case atStart => exact ⟨0, 0, none, 0, by omega, rfl, rfl, ⟨HXB.out, Own.nil_, rfl⟩, by omega, Below.refl _ _⟩
          case round =>
            obtain ⟨k, t, TA, tc, hkN, rfl, rfl, hkeep, htw, hbx⟩ := hrel
            have hsx := hbx.size
            have hbox : Below MV wo wr := hbVX.trans (hbx.mono (by omega))
            by_cases hlt : k < N
            · obtain ⟨p, hp⟩ : ∃ p, G[k]? = some p := ⟨_, List.getElem?_eq_getElem (by rw [HG.out.2.2.2.2.2.2.2.1]; exact hlt)⟩
              obtain ⟨bo, oo, rfl, hbo, q0⟩ := ((HG.out.1.more hrow).below hbox).intH hp
              have hsu := HG.out.2.2.2.2.2.2.1 k (by rw [HG.out.2.2.2.2.2.2.2.1]; exact hlt) p hp
              obtain ⟨k1, k2, k3⟩ := hkeep.out
              rw [← k3] at hsu
              have hpG := List.mem_of_getElem? hp
              have hpe := H.out.2.2.2.2.2.2.2.1 p (HG.out.2.2.2.1 p hpG)
              have hpl := H.out.2.2.2.2.2.2.2.2 p (HG.out.2.2.2.1 p hpG)
              have hob := fun V (hV : At V B WA ws) (hs : B ≤ V.heap.size) => robject_any B wc gc roots.length p WA GA ws V hV hs hpe hwc hl1
              have hbwr : Below w.heap.size w wr := hbwo.trans (hbox.mono (by omega))
              have hwr := H.out.1.below (hbwr.mono hB)
              have hBr : B ≤ wr.heap.size := by have := hbwr.size; omega
              have htl := Hau.tail_length hpe
              have hfl : ((G.take k).flatMap (Hau.tobj ws G)).length = t := by rw [Hau.tobjs_length (fun g hg => H.out.2.2.2.2.2.2.2.1 g (HG.out.2.2.2.1 g (List.mem_of_mem_take hg))), k3]
              have hhd := Hau.obj_head hpe
              obtain ⟨y, hy⟩ : ∃ y, Hau.wat ws p = y := ⟨_, rfl⟩
              have hszy : Hau.sz ws p = 1 + Hau.lg y := by unfold Hau.sz; rw [hy]
              have hoky : Flat.ok y := by rw [← hy]; exact H.out.2.2.2.2.2.1 _ (by unfold Hau.wat; rw [List.getD_eq_getElem?_getD, List.getElem?_eq_getElem hpl]; exact List.getElem_mem hpl)
              rw [hy] at hhd htl
              obtain ⟨q, hq⟩ : ∃ q, Hau.lg y = q := ⟨_, rfl⟩
              rw [hq] at hszy htl
              have hst : (G.take (k + 1)).flatMap (Hau.tobj ws G) = (G.take k).flatMap (Hau.tobj ws G) ++ ([y] ++ (Hau.tail ws p).map (Hau.turnBy (Hau.mv ws G))) := by
                rw [take_snocH G k p hp, List.flatMap_append, List.flatMap_singleton, Hau.turnBy_map HG.out.2.2.1 (HG.out.2.2.2.2.1 p hpG)]
                unfold Hau.tobj
                rw [List.take_one, ← List.head?_eq_getElem?] at *
                rw [hhd]; rfl
              have hpe0 := hpe
              rw [hszy] at hob hsu hpe
              have hsum2 : t + 1 + q = ((G.take (k + 1)).map (Hau.sz ws)).sum := by omega
              have hto : ∀ x ∈ (Hau.tail ws p).map (Hau.turnBy (Hau.mv ws G)), Flat.ok x := by
                intro x hx
                obtain ⟨z, hz, rfl⟩ := List.mem_map.1 hx
                exact Hau.turnBy_flat (Hau.tail_ok H.out.2.2.2.2.2.1 z hz)
              have hbr4 := (HB.out.1.below_ hbl (by omega)).below_ hbox (by omega)
              have h0 := hbr4.cell 0 (v := .slice WA ws.length wc) rfl
              have h1 := hbr4.cell 1 (v := .slice GA roots.length gc) rfl
              have hts : t + 1 + q ≤ ws.length := by omega
              have HK := Lib.hid (And.intro hob (And.intro hwr (And.intro hfl (And.intro hst hsum2)))); clear hob hwr hfl hst hsum2 hbr4
              have HP := Lib.hid (And.intro k1 (And.intro k2 (And.intro hto htl))); clear k1 k2 k3 hto htl hkeep hp hpG hhd hsu hszy hq
              go_upto_region 21 with fail
              go_wp2_with fail
              refine (HK.out.1 _ HK.out.2.1 hBr).mono ?_
              rintro e w4 ⟨b, o, hWA, rfl, hb4⟩
              have hs4 := hb4.size
              have hwr4 := HK.out.2.1.below (hb4.mono hBr)
              rw [hWA] at hwr4
              have hbB : b < XB := by obtain ⟨b', o', he, hb', -, -⟩ := hwr4.u64H hpl; injection he with he; injection he with h1 h2; subst h1; have := hbwo.size; omega
              have y0 : w4.cell? ⟨b, o + p, none⟩ = some (.int .u64 y.val) := by
                obtain ⟨b', o', he, hb', -, hz⟩ := hwr4.u64H hpl
                injection he with he; injection he with h1 h2; subst h1 h2
                rw [hy] at hz; exact hz
              clear hWA h0 h1 hy
              have hq0 : (0 : Int) < 1 + (q : Int) := by omega
              have hq1 : (1 : Int) ≤ 1 + (q : Int) := by omega
              obtain ⟨A6, hA6⟩ : ∃ A6, (if wc - p = 1 then some (⟨b, o + p, none⟩ : Addr) else some ⟨b, o + p + 1, none⟩) = A6 := ⟨_, rfl⟩
              have hXw : XB ≤ w4.heap.size := by omega
              have hA6t : ∀ W : World, Below XB w4 W → At W W.heap.size A6 (Hau.tail ws p) := fun W hW => (Hau.at_tail (hwr4.below (hW.mono (by have := hbwo.size; omega))) hpe0 hwc hA6).more (by have := hW.size; have := hbwo.size; omega)
              have b1 := HP.out.1.fresh hb4
              have x0 := b1.cell 0 (v := .slice TA t tc) rfl
              have x0a := (b1.alloc (.cells #[.int .u64 y.val] 24)).drew.cell 0 (v := .slice TA t tc) rfl
              have HU := Lib.hid (And.intro b1 (And.intro (HP.out.2.1.fresh hb4) (And.intro hA6t (And.intro HP.out.2.2.2 (And.intro HP.out.2.2.1 trivial))))); clear b1 hA6t hwr4 HP
              go_upto_region 22 with fail
              refine wp_region_held_drew (S := (fun w' => w'.cell? ⟨b, o + p, none⟩ = some (.int .u64 y.val))) (by kernel_rfl) ?_ (fun hHeld0 => ?_)
              · first | trivial | ((try dsimp only); (exact y0))
              refine held_take (v := ?_) 0 rfl (by kernel_rfl) (by kernel_rfl) (by kernel_rfl) (fun _ _ _ h => h) (by rfl) ?_ (by assumption) ?_
              rotate_left
              · (intro w hSw; (try dsimp only at hSw); go_simp; try with_reducible rfl)
              try simp only [Act.put, List.setIfInBounds_toArray, List.set_cons_zero, List.set_cons_succ]
              refine held_take (v := ?_) 2 rfl (by kernel_rfl) (by kernel_rfl) (by kernel_rfl) (fun _ _ _ h => h) (by rfl) ?_ (by assumption) ?_
              rotate_left
              · (intro w hSw; (try dsimp only at hSw); go_simp; try with_reducible rfl)
              try simp only [Act.put, List.setIfInBounds_toArray, List.set_cons_zero, List.set_cons_succ]
              refine held_take (v := ?_) 3 rfl (by kernel_rfl) (by kernel_rfl) (by kernel_rfl) (fun _ _ _ h => h) (by rfl) ?_ (by assumption) ?_
              rotate_left
              · (intro w hSw; (try dsimp only at hSw); go_simp; try with_reducible rfl)
              try simp only [Act.put, List.setIfInBounds_toArray, List.set_cons_zero, List.set_cons_succ]
              refine held_take (v := ?_) 4 rfl (by kernel_rfl) (by kernel_rfl) (by kernel_rfl) (fun _ _ _ h => h) (by rfl) ?_ (by assumption) ?_
              rotate_left
              · (intro w hSw; (try dsimp only at hSw); go_simp; try with_reducible rfl)
              try simp only [Act.put, List.setIfInBounds_toArray, List.set_cons_zero, List.set_cons_succ]
              refine held_take (v := ?_) 7 rfl (by kernel_rfl) (by kernel_rfl) (by kernel_rfl) (fun _ _ _ h => h) (by rfl) ?_ (by assumption) ?_
              rotate_left
              · (intro w hSw; (try dsimp only at hSw); go_simp; try with_reducible rfl)
              try simp only [Act.put, List.setIfInBounds_toArray, List.set_cons_zero, List.set_cons_succ]
              refine held_take (v := ?_) 8 rfl (by kernel_rfl) (by kernel_rfl) (by kernel_rfl) (fun _ _ _ h => h) (by rfl) ?_ (by assumption) ?_
              rotate_left
              · (intro w hSw; (try dsimp only at hSw); go_simp; try with_reducible rfl)
              try simp only [Act.put, List.setIfInBounds_toArray, List.set_cons_zero, List.set_cons_succ]
              refine held_take (v := ?_) 9 rfl (by kernel_rfl) (by kernel_rfl) (by kernel_rfl) (fun _ _ _ h => h) (by rfl) ?_ (by assumption) ?_
              rotate_left
              · (intro w hSw; (try dsimp only at hSw); go_simp; try with_reducible rfl)
              try simp only [Act.put, List.setIfInBounds_toArray, List.set_cons_zero, List.set_cons_succ]
              refine held_call2 1 5 (by kernel_rfl) rfl rfl (fun K hK => ?_) (fun K hK => ?_)
              · go_simp
                skip
                refine hK.out _ _ ?_ (fun hHeld1 => ?_)
                · first | trivial | ((try dsimp only); (exact y0))
                clear hK K hHeld0
                try simp only [Act.put, List.setIfInBounds_toArray, List.set_cons_zero, List.set_cons_succ]
                refine held_call 5 (by kernel_rfl) rfl (fun K hK => ?_)
                go_simp
                skip
                refine hK.out _ _ ?_ (fun hHeld2 => ?_)
                · first | trivial | ((try dsimp only); (exact (((Below.refl XB w4).alloc (show XB ≤ w4.heap.size by omega) (.cells #[.int .u64 y.val] 24)).drew.cell (p := ⟨b, o + p, none⟩) (show b < XB by omega)).trans y0))
                clear hK K hHeld1
                try simp only [Act.put, List.setIfInBounds_toArray, List.set_cons_zero, List.set_cons_succ]
                refine held_call 6 (by kernel_rfl) rfl (fun K hK => ?_)
                refine step_app (α := U64) (n := t) (m := 1) (nm := t + 1) (r := [y]) (by rfl) (.tmp 68) (.tmp 72) _ (by rfl) XB 24 j0 _ 8 Try.underlying39 hj hy0 hy1 hy2 rfl (by decide) u64_oneH (by rfl) HK.out.2.2.1 (HU.out.2.1.alloc (.cells #[.int .u64 y.val] 24)).drew (by rfl) (by have := (At.built w4 #[.int .u64 y.val] 24 [y] rfl (by intro z hz; rw [List.mem_singleton] at hz; rw [hz]; exact hoky)).drew; simpa using this) rfl rfl (by omega) (by simp only [maxLen]; omega) (by show XB ≤ (w4.alloc (.cells #[.int .u64 y.val] 24)).heap.size; simp only [World.size_alloc]; omega) ?_; intro A5 c5 w5 ho5 hgr5 hat5; have hs5 := hgr5.size; have hbX5 : Below XB w4 w5 := ((Below.refl XB w4).alloc (show XB ≤ w4.heap.size by omega) (.cells #[.int .u64 y.val] 24)).drew.grown hgr5 (by show XB ≤ (w4.alloc (.cells #[.int .u64 y.val] 24)).heap.size; simp only [World.size_alloc]; omega) (fun g hg => (HU.out.2.1.lt g hg).1); have n1 := (HU.out.1.alloc (.cells #[.int .u64 y.val] 24)).drew.grown hgr5 (fun e => own_ne_ty HU.out.2.1 HU.out.1 (by decide) e); have hs45 := hbX5.size
                refine hK.out _ _ ?_ (fun hHeld3 => ?_)
                · first | trivial | ((try dsimp only); (exact (hbX5.cell (p := ⟨b, o + p, none⟩) (show b < XB by omega)).trans y0))
                clear hK K hHeld2
                try simp only [Act.put, List.setIfInBounds_toArray, List.set_cons_zero, List.set_cons_succ]
                refine held_call 10 (by kernel_rfl) rfl (fun K hK => ?_)
                go_simp
                go_at_call 118; refine (turned_any w5.heap.size q (wc - p - 1) N lc MV A6 LA (Hau.tail ws p) (Hau.mv ws G) w5 (HU.out.2.2.1 w5 hbX5) HU.out.2.2.2.1 (Nat.le_refl _) (HE.out.1.below_ (hbX2.trans ((hbx.trans (hb4.mono (by omega))).trans hbX5)) (by omega)) (((HE.out.2.2.1.more (show wx.heap.size ≤ XB by omega)).below (hbX2.trans ((hbx.trans (hb4.mono (by omega))).trans hbX5))).more (by omega)) HE.out.2.2.2 (by omega) (by omega)).mono ?_; rintro e w7 ⟨A7, c7, rfl, ho7, hb7⟩; have hs7 := hb7.size; have hbX7 : Below XB w4 w7 := hbX5.trans (hb7.mono (by omega))
                try (go_wp2_with fail)
                refine hK.out _ _ ?_ (fun hHeld4 => ?_)
                · first | trivial | ((try dsimp only); (exact (hbX7.cell (p := ⟨b, o + p, none⟩) (show b < XB by omega)).trans y0))
                clear hK K hHeld3
                try simp only [Act.put, List.setIfInBounds_toArray, List.set_cons_zero, List.set_cons_succ]
                refine held_call 11 (by kernel_rfl) rfl (fun K hK => ?_)
                refine step_app (α := U64) (n := t + 1) (m := q) (nm := t + 1 + q) (r := (Hau.tail ws p).map (Hau.turnBy (Hau.mv ws G))) (by rfl) (.tmp 73) (.tmp 77) _ (by rfl) XB 24 j0 _ 8 Try.underlying39 hj hy0 hy1 hy2 rfl (by decide) u64_oneH (by rfl) (by rw [List.length_append, HK.out.2.2.1]; rfl) (ho5.fresh hb7) (by rfl) (ho7.at_ HU.out.2.2.2.2.1) (by rw [List.length_map]; exact HU.out.2.2.2.1) rfl (by omega) (by simp only [maxLen]; omega) (by omega) ?_; intro A8 c8 w8 ho8 hgr8 hat8; have hs8 := hgr8.size; have hbX8 : Below XB w4 w8 := hbX7.grown hgr8 (by omega) (fun g hg => (ho5.lt g hg).1); have n8 := (n1.fresh hb7).grown hgr8 (fun e => own_ne_ty ho5 n1 (by decide) e); have x80 := n8.cell 0 (v := .slice TA t tc) rfl; have z80 := n8.frozen 0
                refine hK.out _ _ ?_ (fun hHeld5 => ?_)
                · first | trivial | ((try dsimp only); (exact (hbX8.cell (p := ⟨b, o + p, none⟩) (show b < XB by omega)).trans y0))
                clear hK K hHeld4
                try simp only [Act.put, List.setIfInBounds_toArray, List.set_cons_zero, List.set_cons_succ]
                refine held_take (v := ?_) 12 rfl (by kernel_rfl) (by kernel_rfl) (by kernel_rfl) (fun _ _ _ h => h) (by rfl) ?_ (by assumption) ?_
                rotate_left
                · (intro w hSw; (try dsimp only at hSw); go_simp; try with_reducible rfl)
                try simp only [Act.put, List.setIfInBounds_toArray, List.set_cons_zero, List.set_cons_succ]
                refine held_call 13 (by kernel_rfl) rfl (fun K hK => ?_)
                go_simp
                skip
                refine hK.out _ _ ?_ (fun hHeld6 => ?_)
                · first | trivial | ((try dsimp only); (exact ((hbX8.setCell (p := ⟨XB, 0, none⟩) (Nat.le_refl _) _).cell (p := ⟨b, o + p, none⟩) (show b < XB by omega)).trans y0))
                clear hK K hHeld5
                try simp only [Act.put, List.setIfInBounds_toArray, List.set_cons_zero, List.set_cons_succ]
                refine wpAnyH_done (by kernel_rfl) ?_ _
                have HZ := Lib.hid (And.intro (n8.set_ 0 (.slice A8 (t + 1 + q) c8)) (And.intro (ho8.setCell ⟨XB, 0, none⟩ (.slice A8 (t + 1 + q) c8) (own_ne_ty ho8 n8 (by decide))) (hbX8.setCell (p := ⟨XB, 0, none⟩) (Nat.le_refl _) (.slice A8 (t + 1 + q) c8)))); clear n8 ho8 hbX8 x80 z80 n1 ho5 ho7 hgr8 hat8 hgr5 hat5 hbX7 hbX5 y0 x0
                go_wp2_with fail
                go_roundg (N - (k + 1))
                case measure => omega
                case rel => exact ⟨k + 1, t + 1 + q, A8, c8, by omega, rfl, by go_num, ⟨HZ.out.1, by rw [HK.out.2.2.2.1, ← List.append_assoc]; exact HZ.out.2.1, HK.out.2.2.2.2⟩, by omega, (hbx.trans (hb4.mono (by omega))).trans HZ.out.2.2⟩
              · go_simp
                skip
                refine hK.out _ _ ?_ (fun hHeld1 => ?_)
                · first | trivial | ((try dsimp only); (exact (((Below.refl XB w4).alloc (show XB ≤ w4.heap.size by omega) (.cells #[.int .u64 y.val] 24)).drew.cell (p := ⟨b, o + p, none⟩) (show b < XB by omega)).trans y0))
                clear hK K hHeld0
                try simp only [Act.put, List.setIfInBounds_toArray, List.set_cons_zero, List.set_cons_succ]
                refine held_call 1 (by kernel_rfl) rfl (fun K hK => ?_)
                go_simp
                skip
                refine hK.out _ _ ?_ (fun hHeld2 => ?_)
                · first | trivial | ((try dsimp only); (exact (((Below.refl XB w4).alloc (show XB ≤ w4.heap.size by omega) (.cells #[.int .u64 y.val] 24)).drew.cell (p := ⟨b, o + p, none⟩) (show b < XB by omega)).trans y0))
                clear hK K hHeld1
                try simp only [Act.put, List.setIfInBounds_toArray, List.set_cons_zero, List.set_cons_succ]
                refine held_call 6 (by kernel_rfl) rfl (fun K hK => ?_)
                refine step_app (α := U64) (n := t) (m := 1) (nm := t + 1) (r := [y]) (by rfl) (.tmp 68) (.tmp 72) _ (by rfl) XB 24 j0 _ 8 Try.underlying39 hj hy0 hy1 hy2 rfl (by decide) u64_oneH (by rfl) HK.out.2.2.1 (HU.out.2.1.alloc (.cells #[.int .u64 y.val] 24)).drew (by rfl) (by have := (At.built w4 #[.int .u64 y.val] 24 [y] rfl (by intro z hz; rw [List.mem_singleton] at hz; rw [hz]; exact hoky)).drew; simpa using this) rfl rfl (by omega) (by simp only [maxLen]; omega) (by show XB ≤ (w4.alloc (.cells #[.int .u64 y.val] 24)).heap.size; simp only [World.size_alloc]; omega) ?_; intro A5 c5 w5 ho5 hgr5 hat5; have hs5 := hgr5.size; have hbX5 : Below XB w4 w5 := ((Below.refl XB w4).alloc (show XB ≤ w4.heap.size by omega) (.cells #[.int .u64 y.val] 24)).drew.grown hgr5 (by show XB ≤ (w4.alloc (.cells #[.int .u64 y.val] 24)).heap.size; simp only [World.size_alloc]; omega) (fun g hg => (HU.out.2.1.lt g hg).1); have n1 := (HU.out.1.alloc (.cells #[.int .u64 y.val] 24)).drew.grown hgr5 (fun e => own_ne_ty HU.out.2.1 HU.out.1 (by decide) e); have hs45 := hbX5.size
                refine hK.out _ _ ?_ (fun hHeld3 => ?_)
                · first | trivial | ((try dsimp only); (exact (hbX5.cell (p := ⟨b, o + p, none⟩) (show b < XB by omega)).trans y0))
                clear hK K hHeld2
                try simp only [Act.put, List.setIfInBounds_toArray, List.set_cons_zero, List.set_cons_succ]
                refine held_call 10 (by kernel_rfl) rfl (fun K hK => ?_)
                go_simp
                go_at_call 118; refine (turned_any w5.heap.size q (wc - p - 1) N lc MV A6 LA (Hau.tail ws p) (Hau.mv ws G) w5 (HU.out.2.2.1 w5 hbX5) HU.out.2.2.2.1 (Nat.le_refl _) (HE.out.1.below_ (hbX2.trans ((hbx.trans (hb4.mono (by omega))).trans hbX5)) (by omega)) (((HE.out.2.2.1.more (show wx.heap.size ≤ XB by omega)).below (hbX2.trans ((hbx.trans (hb4.mono (by omega))).trans hbX5))).more (by omega)) HE.out.2.2.2 (by omega) (by omega)).mono ?_; rintro e w7 ⟨A7, c7, rfl, ho7, hb7⟩; have hs7 := hb7.size; have hbX7 : Below XB w4 w7 := hbX5.trans (hb7.mono (by omega))
                try (go_wp2_with fail)
                refine hK.out _ _ ?_ (fun hHeld4 => ?_)
                · first | trivial | ((try dsimp only); (exact (hbX7.cell (p := ⟨b, o + p, none⟩) (show b < XB by omega)).trans y0))
                clear hK K hHeld3
                try simp only [Act.put, List.setIfInBounds_toArray, List.set_cons_zero, List.set_cons_succ]
                refine held_call 11 (by kernel_rfl) rfl (fun K hK => ?_)
                refine step_app (α := U64) (n := t + 1) (m := q) (nm := t + 1 + q) (r := (Hau.tail ws p).map (Hau.turnBy (Hau.mv ws G))) (by rfl) (.tmp 73) (.tmp 77) _ (by rfl) XB 24 j0 _ 8 Try.underlying39 hj hy0 hy1 hy2 rfl (by decide) u64_oneH (by rfl) (by rw [List.length_append, HK.out.2.2.1]; rfl) (ho5.fresh hb7) (by rfl) (ho7.at_ HU.out.2.2.2.2.1) (by rw [List.length_map]; exact HU.out.2.2.2.1) rfl (by omega) (by simp only [maxLen]; omega) (by omega) ?_; intro A8 c8 w8 ho8 hgr8 hat8; have hs8 := hgr8.size; have hbX8 : Below XB w4 w8 := hbX7.grown hgr8 (by omega) (fun g hg => (ho5.lt g hg).1); have n8 := (n1.fresh hb7).grown hgr8 (fun e => own_ne_ty ho5 n1 (by decide) e); have x80 := n8.cell 0 (v := .slice TA t tc) rfl; have z80 := n8.frozen 0
                refine hK.out _ _ ?_ (fun hHeld5 => ?_)
                · first | trivial | ((try dsimp only); (exact (hbX8.cell (p := ⟨b, o + p, none⟩) (show b < XB by omega)).trans y0))
                clear hK K hHeld4
                try simp only [Act.put, List.setIfInBounds_toArray, List.set_cons_zero, List.set_cons_succ]
                refine held_take (v := ?_) 12 rfl (by kernel_rfl) (by kernel_rfl) (by kernel_rfl) (fun _ _ _ h => h) (by rfl) ?_ (by assumption) ?_
                rotate_left
                · (intro w hSw; (try dsimp only at hSw); go_simp; try with_reducible rfl)
                try simp only [Act.put, List.setIfInBounds_toArray, List.set_cons_zero, List.set_cons_succ]
                refine held_call 13 (by kernel_rfl) rfl (fun K hK => ?_)
                go_simp
                skip
                refine hK.out _ _ ?_ (fun hHeld6 => ?_)
                · first | trivial | ((try dsimp only); (exact ((hbX8.setCell (p := ⟨XB, 0, none⟩) (Nat.le_refl _) _).cell (p := ⟨b, o + p, none⟩) (show b < XB by omega)).trans y0))
                clear hK K hHeld5
                try simp only [Act.put, List.setIfInBounds_toArray, List.set_cons_zero, List.set_cons_succ]
                refine wpAnyH_done (by kernel_rfl) ?_ _
                have HZ := Lib.hid (And.intro (n8.set_ 0 (.slice A8 (t + 1 + q) c8)) (And.intro (ho8.setCell ⟨XB, 0, none⟩ (.slice A8 (t + 1 + q) c8) (own_ne_ty ho8 n8 (by decide))) (hbX8.setCell (p := ⟨XB, 0, none⟩) (Nat.le_refl _) (.slice A8 (t + 1 + q) c8)))); clear n8 ho8 hbX8 x80 z80 n1 ho5 ho7 hgr8 hat8 hgr5 hat5 hbX7 hbX5 y0 x0
                go_wp2_with fail
                go_roundg (N - (k + 1))
                case measure => omega
                case rel => exact ⟨k + 1, t + 1 + q, A8, c8, by omega, rfl, by go_num, ⟨HZ.out.1, by rw [HK.out.2.2.2.1, ← List.append_assoc]; exact HZ.out.2.1, HK.out.2.2.2.2⟩, by omega, (hbx.trans (hb4.mono (by omega))).trans HZ.out.2.2⟩
            · obtain rfl : k = N := by omega
              obtain ⟨k1, k2, k3⟩ := hkeep.out
              rw [List.take_of_length_le (Nat.le_of_eq HG.out.2.2.2.2.2.2.2.1)] at k2 k3
              have hbwr : Below w.heap.size w wr := hbwo.trans (hbox.mono (by omega))
              have hbx2 : Below XB wx wr := hbX2.trans hbx
              have hMVr := HE.out.1.below_ hbx2 (by omega)
              have htu := turned_any B roots.length gc k lc MV GA LA roots (Hau.mv ws G) wr (H.out.2.1.below (hbwr.mono hB)) rfl (by have := hbwr.size; omega) hMVr (((HE.out.2.2.1.more (show wx.heap.size ≤ XB by omega)).below hbx2).more (by omega)) HE.out.2.2.2 (by omega) (by omega)
              rw [Hau.turnBy_map HG.out.2.2.1 HG.out.2.2.2.2.2.1] at htu
              have e1 : Hau.newWords ws roots = G.flatMap (Hau.tobj ws G) := by unfold Hau.newWords; rw [← HG.out.2.1]
              have e2 : Hau.newRoots ws roots = roots.map (Hau.trn ws G) := by unfold Hau.newRoots; rw [← HG.out.2.1]
              have hfl : (G.flatMap (Hau.tobj ws G)).length = t := by rw [Hau.tobjs_length (fun g hg => H.out.2.2.2.2.2.2.2.1 g (HG.out.2.2.2.1 g hg)), k3]
              have hRBr := (HB.out.2.1.below_ hbl (by omega)).below_ hbox (by omega)
              have hbr4 := (HB.out.1.below_ hbl (by omega)).below_ hbox (by omega)
              have h1 := hbr4.cell 1 (v := .slice GA roots.length gc) rfl
              have hLAr := HE.out.2.1.below hbx2 (fun g hg => by have := (HE.out.2.1.lt g hg).2; omega)
              have HK := Lib.hid (And.intro k1 (And.intro k2 (And.intro htu (And.intro hfl (And.intro hRBr (And.intro hMVr hLAr)))))); clear k1 k2 k3 htu hfl hRBr hMVr hbr4 hkeep hLAr
              have HE2 := Lib.hid (And.intro e1 e2); clear e1 e2
              go_wp2_with (go_at_call 118; refine HK.out.2.2.1.mono ?_; rintro e w7 ⟨A7, c7, rfl, ho7, hb7⟩; have n7 := HK.out.1.fresh hb7; have x1 := n7.cell 1 (v := .slice none 0 0) rfl; have z1 := n7.frozen 1; have HO7 := Lib.hid ho7; clear ho7)
              have hs7 := hb7.size
              refine wp_world (fun V => Hid (Blk V XB 70 #[.slice TA t tc, .slice A7 roots.length c7] ∧ Own V XB 24 TA tc (G.flatMap (Hau.tobj ws G)) ∧ Own V wr.heap.size 24 A7 c7 (roots.map (Hau.trn ws G)) ∧ Own V MV 82 LA lc (Hau.mv ws G) ∧ Blk V (w.heap.size + 1) 70 #[.slice none 0 0, .slice none 0 0] ∧ Blk V MV 73 #[.slice LA k lc] ∧ Below w.heap.size w V)) ?_ ?_
              · unfold Hid
                have o1 := HK.out.2.1.fresh hb7
                have o3 := HK.out.2.2.2.2.2.2.fresh hb7
                exact ⟨n7.set_ 1 _, o1.setCell _ _ (own_ne_ty o1 n7 (by decide)), HO7.out.setCell _ _ (own_ne_ty HO7.out n7 (by decide)), o3.setCell _ _ (own_ne_ty o3 n7 (by decide)), (HK.out.2.2.2.2.1.fresh hb7).far (by simp only [ne_eq]; omega) _, (HK.out.2.2.2.2.2.1.fresh hb7).far (by simp only [ne_eq]; omega) _, (hbwr.trans (hb7.mono (by have := hbwr.size; omega))).setCell (by show w.heap.size ≤ XB; omega) _⟩
              intro V HV
              clear n7 x1 z1 HO7 c1x
              have x0 := HV.out.1.cell 0 (v := .slice TA t tc) rfl
              have x1 := HV.out.1.cell 1 (v := .slice A7 roots.length c7) rfl
              have m0 := HV.out.2.2.2.2.2.1.cell 0 (v := .slice LA k lc) rfl
              have r0 := HV.out.2.2.2.2.1.cell 0 (v := .slice none 0 0) rfl
              have r1 := HV.out.2.2.2.2.1.cell 1 (v := .slice none 0 0) rfl
              have z0 := HV.out.2.2.2.2.1.frozen 0
              have z1 := HV.out.2.2.2.2.1.frozen 1
              have key : ∀ (g j : Nat) (u : Value), w.heap.size + 1 < g → V.cell? ⟨g, j, none⟩ = some u → ((V.drew.setCell ⟨w.heap.size + 1, 0, none⟩ (.slice TA t tc)).setCell ⟨w.heap.size + 1, 1, none⟩ (.slice A7 roots.length c7)).cell? ⟨g, j, none⟩ = some u := by
                intro g j u hg hu
                rw [World.cell?_setCell_other _ _ _ _ (by intro e; injection e with e; omega), World.cell?_setCell_other _ _ _ _ (by intro e; injection e with e; omega)]; exact hu
              have y0 := key XB 0 _ (by omega) x0
              have y1 := key XB 1 _ (by omega) x1
              have y2 := key MV 0 _ (by omega) m0
              clear key
              refine wp_region_held_drew (S := (fun w' => w'.cell? ⟨XB, 0, none⟩ = some (.slice TA t tc) ∧ w'.cell? ⟨XB, 1, none⟩ = some (.slice A7 roots.length c7) ∧ w'.cell? ⟨MV, 0, none⟩ = some (.slice LA k lc))) (by kernel_rfl) ?_ (fun hHeld0 => ?_)
              · first | trivial | ((try dsimp only); (exact ⟨x0, x1, m0⟩))
              refine held_take (v := ?_) 0 rfl (by kernel_rfl) (by kernel_rfl) (by kernel_rfl) (fun _ _ _ h => h) (by rfl) ?_ (by assumption) ?_
              rotate_left
              · (intro w hSw; (try dsimp only at hSw); go_simp; try with_reducible rfl)
              try simp only [Act.put, List.setIfInBounds_toArray, List.set_cons_zero, List.set_cons_succ]
              refine held_take (v := ?_) 1 rfl (by kernel_rfl) (by kernel_rfl) (by kernel_rfl) (fun _ _ _ h => h) (by rfl) ?_ (by assumption) ?_
              rotate_left
              · (intro w hSw; (try dsimp only at hSw); go_simp; try with_reducible rfl)
              try simp only [Act.put, List.setIfInBounds_toArray, List.set_cons_zero, List.set_cons_succ]
              refine held_call 2 (by kernel_rfl) rfl (fun K hK => ?_)
              go_simp
              skip
              refine hK.out _ _ ?_ (fun hHeld1 => ?_)
              · first | trivial | ((try dsimp only); (exact ⟨y0, y1, y2⟩))
              clear hK K hHeld0
              try simp only [Act.put, List.setIfInBounds_toArray, List.set_cons_zero, List.set_cons_succ]
              refine held_take (v := ?_) 3 rfl (by kernel_rfl) (by kernel_rfl) (by kernel_rfl) (fun _ _ _ h => h) (by rfl) ?_ (by assumption) ?_
              rotate_left
              · (intro w hSw; (try dsimp only at hSw); go_simp; try with_reducible rfl)
              try simp only [Act.put, List.setIfInBounds_toArray, List.set_cons_zero, List.set_cons_succ]
              refine wpAnyH_done (by kernel_rfl) ?_ _
              go_wp2_with fail
              refine bodyPost_ret (results_cell_tmp rfl _ _ (w.heap.size + 1) _ _ _ rfl ((HV.out.2.2.2.2.1.drew.set_ 0 (.slice TA t tc)).set_ 1 (.slice A7 roots.length c7)) Try.underlying70 rfl (by kernel_rfl)) rfl ?_
              refine ⟨(HV.out.2.2.2.2.2.2.drew.setCell (by simp) _).setCell (by simp) _, TA, tc, A7, c7, LA, lc, ?_, ?_, ?_, ?_⟩
              · rw [HE2.out.1, HE2.out.2, HK.out.2.2.2.1, List.length_map, ← HG.out.2.1, HG.out.2.2.2.2.2.2.2.1]; rfl
              · rw [HE2.out.1]; exact (own_two HV.out.2.1.drew (by omega)).base_le (by omega)
              · rw [HE2.out.2]; exact (own_two HV.out.2.2.1.drew (by omega)).base_le (by omega)
              · rw [← HG.out.2.1]; exact (own_two HV.out.2.2.2.1.drew (by omega)).base_le (by omega)
    | cons p R =>
      obtain ⟨k1, k2, k3, k4⟩ := hkeep.out
      obtain ⟨R', hR1, hR2⟩ := k3.step H.out.2.2.1 H.out.2.2.2.1
      have hpp := k3.2.1 p (by simp)
      have hpe := H.out.2.2.2.2.2.2.2.1 p hpp
      have hpl := H.out.2.2.2.2.2.2.2.2 p hpp
      have hszp := Hau.sz_pos ws p
      have hlt : i < (G ++ p :: R).length := by rw [k4]; simp
      have hgp : (G ++ p :: R)[i]? = some p := by rw [k4, List.getElem?_append_right (Nat.le_refl _), Nat.sub_self]; rfl
      obtain ⟨m, hm⟩ : ∃ m, (G ++ p :: R).length = m := ⟨_, rfl⟩
      have hFb : ∀ r ∈ G ++ p :: R, r < 4294967296 := fun r hr => by have := H.out.2.2.2.2.2.2.2.2 r (k3.2.1 r hr); omega
      have hat := k2.at_ (ints_okB hFb (by omega))
      obtain ⟨bo, oo, rfl, hbo, q0⟩ := hat.intH hgp
      rw [hm] at hlt c0 hlen
      have hlt2 : (i : Int) < (m : Int) := by omega
      have hi0 : (0 : Int) ≤ (i : Int) := by omega
      have hbWr : Below w.heap.size w wr := hb0.trans (hbl.mono (by omega))
      have h0 := (HB.out.1.below_ hbl (by omega)).cell 0 (v := .slice WA ws.length wc) rfl
      have h1 := (HB.out.1.below_ hbl (by omega)).cell 1 (v := .slice GA roots.length gc) rfl
      have hob := fun V (hV : At V B WA ws) (hs : B ≤ V.heap.size) => robject_any B wc gc roots.length p WA GA ws V hV hs hpe hwc hl1
      have hto := fun V A (hV : At V V.heap.size A (Hau.tail ws p)) => rtold_any V.heap.size (Hau.lg (Hau.wat ws p)) (wc - p - 1) A (Hau.tail ws p) V hV (Hau.tail_length hpe) (Nat.le_refl _) (by have := Hau.tail_length hpe; unfold Hau.sz at hpe; omega)
      have hwr := H.out.1.below (hbWr.mono hB)
      have hBr : B ≤ wr.heap.size := by have := hbWr.size; omega
      have hpe0 := hpe
      have htl := Hau.tail_length hpe
      have hszp2 : Hau.sz ws p = 1 + Hau.lg (Hau.wat ws p) := rfl
      obtain ⟨q, hq⟩ : ∃ q, Hau.lg (Hau.wat ws p) = q := ⟨_, rfl⟩
      rw [hq] at hszp2 hto htl
      rw [hszp2] at hob hpe
      have HK := Lib.hid (And.intro k1 (And.intro k2 (And.intro hR1 (And.intro hR2 (And.intro k4 (And.intro hm (And.intro hFb (And.intro hob (And.intro hto hwr))))))))); clear k1 k2 k3 k4 hR1 hR2 hm hFb hob hto hwr hkeep hat hgp hszp2 hpp hq
      go_upto_region 7 with fail
      refine wp_region_held_drew (S := (fun w' => w'.cell? ⟨w.heap.size, 0, none⟩ = some (.slice WA ws.length wc) ∧ w'.cell? ⟨w.heap.size, 1, none⟩ = some (.slice GA roots.length gc))) (by kernel_rfl) ?_ (fun hHeld0 => ?_)
      · first | trivial | ((try dsimp only); (exact ⟨h0, h1⟩))
      refine held_take (v := ?_) 0 rfl (by kernel_rfl) (by kernel_rfl) (by kernel_rfl) (fun _ _ _ h => h) (by rfl) ?_ (by assumption) ?_
      rotate_left
      · (intro w hSw; (try dsimp only at hSw); go_simp; try with_reducible rfl)
      try simp only [Act.put, List.setIfInBounds_toArray, List.set_cons_zero, List.set_cons_succ]
      refine held_take (v := ?_) 1 rfl (by kernel_rfl) (by kernel_rfl) (by kernel_rfl) (fun _ _ _ h => h) (by rfl) ?_ (by assumption) ?_
      rotate_left
      · (intro w hSw; (try dsimp only at hSw); go_simp; try with_reducible rfl)
      try simp only [Act.put, List.setIfInBounds_toArray, List.set_cons_zero, List.set_cons_succ]
      refine held_take (v := ?_) 3 rfl (by kernel_rfl) (by kernel_rfl) (by kernel_rfl) (fun _ _ _ h => h) (by rfl) ?_ (by assumption) ?_
      rotate_left
      · (intro w hSw; (try dsimp only at hSw); go_simp; try with_reducible rfl)
      try simp only [Act.put, List.setIfInBounds_toArray, List.set_cons_zero, List.set_cons_succ]
      refine held_call 2 (by kernel_rfl) rfl (fun K hK => ?_)
      go_simp
      skip
      refine hK.out _ _ ?_ (fun hHeld1 => ?_)
      · first | trivial | ((try dsimp only); (exact ⟨h0, h1⟩))
      clear hK K hHeld0
      try simp only [Act.put, List.setIfInBounds_toArray, List.set_cons_zero, List.set_cons_succ]
      refine held_take (v := ?_) 4 rfl (by kernel_rfl) (by kernel_rfl) (by kernel_rfl) (fun _ _ _ h => h) (by rfl) ?_ (by assumption) ?_
      rotate_left
      · (intro w hSw; (try dsimp only at hSw); go_simp; try with_reducible rfl)
      try simp only [Act.put, List.setIfInBounds_toArray, List.set_cons_zero, List.set_cons_succ]
      refine held_call 5 (by kernel_rfl) rfl (fun K hK => ?_)
      go_simp
      skip
      refine hK.out _ _ ?_ (fun hHeld2 => ?_)
      · first | trivial | ((try dsimp only); (exact ⟨h0, h1⟩))
      clear hK K hHeld1
      try simp only [Act.put, List.setIfInBounds_toArray, List.set_cons_zero, List.set_cons_succ]
      refine held_call 6 (by kernel_rfl) rfl (fun K hK => ?_)
      go_simp
      go_at_call 117; refine (HK.out.2.2.2.2.2.2.2.1 _ HK.out.2.2.2.2.2.2.2.2.2.drew hBr).mono ?_; rintro e w3 ⟨b, o, hWA, rfl, hb3d⟩; have hb3 : Below wr.heap.size wr w3 := undrew hb3d; clear hb3d; have HWA := Lib.hid hWA; clear hWA; obtain ⟨A5, hA5⟩ : ∃ A5, (if wc - p = 1 then some (⟨b, o + p, none⟩ : Addr) else some ⟨b, o + p + 1, none⟩) = A5 := ⟨_, rfl⟩; have hq1 : (1 : Int) ≤ 1 + (q : Int) := by omega
      try (go_wp2_with fail)
      refine hK.out _ _ ?_ (fun hHeld3 => ?_)
      · first | trivial | ((try dsimp only); (exact ⟨(hb3.cell (p := ⟨w.heap.size, 0, none⟩) (show w.heap.size < wr.heap.size by omega)).trans h0, (hb3.cell (p := ⟨w.heap.size, 1, none⟩) (show w.heap.size < wr.heap.size by omega)).trans h1⟩))
      clear hK K hHeld2
      try simp only [Act.put, List.setIfInBounds_toArray, List.set_cons_zero, List.set_cons_succ]
      refine held_take (v := ?_) 7 rfl (by kernel_rfl) (by kernel_rfl) (by kernel_rfl) (fun _ _ _ h => h) (by rfl) ?_ (by assumption) ?_
      rotate_left
      · (intro w hSw; (try dsimp only at hSw); go_simp; try with_reducible rfl)
      try simp only [Act.put, List.setIfInBounds_toArray, List.set_cons_zero, List.set_cons_succ]
      refine held_call 8 (by kernel_rfl) rfl (fun K hK => ?_)
      go_simp
      go_at_call 116; refine (HK.out.2.2.2.2.2.2.2.2.1 w3 A5 ((Hau.at_tail (HWA.out ▸ HK.out.2.2.2.2.2.2.2.2.2.below (hb3.mono hBr)) hpe0 hwc hA5).more (by have := hb3.size; omega))).mono ?_; rintro e w4 ⟨A4, c4, rfl, ho4, hb4⟩; have hs3 := hb3.size; have hs4 := hb4.size; have hb34 : Below wr.heap.size wr w4 := hb3.trans (hb4.mono hs3)
      try (go_wp2_with fail)
      refine hK.out _ _ ?_ (fun hHeld4 => ?_)
      · first | trivial | ((try dsimp only); (exact ⟨(hb34.cell (p := ⟨w.heap.size, 0, none⟩) (show w.heap.size < wr.heap.size by omega)).trans h0, (hb34.cell (p := ⟨w.heap.size, 1, none⟩) (show w.heap.size < wr.heap.size by omega)).trans h1⟩))
      clear hK K hHeld3
      try simp only [Act.put, List.setIfInBounds_toArray, List.set_cons_zero, List.set_cons_succ]
      refine held_call 9 (by kernel_rfl) rfl (fun K hK => ?_)
      go_simp
      go_at_call 115; refine (more_any w4.heap.size Z Z (Hau.refs (Hau.tail ws p)).length c4 oc A4 (some ⟨bo, oo, none⟩) (Hau.refs (Hau.tail ws p)) (G ++ p :: R) w4 (ho4.at_ (ints_okB (Hau.refs_lt (Hau.tail_ok H.out.2.2.2.2.2.1)) (by omega))) rfl (Nat.le_refl _) (HK.out.1.fresh hb34) (HK.out.2.1.fresh hb34) (Nat.le_refl _) (fun g hg => ⟨fun e => by injection e with e; simp only at e; have := (ho4.lt g hg).1; omega, by have := (ho4.lt g hg).1; omega⟩) (by have := Hau.refs_len (Hau.tail ws p); omega) (by rw [HK.out.2.2.2.2.2.1]; omega) (Hau.refs_lt (Hau.tail_ok H.out.2.2.2.2.2.1)) HK.out.2.2.2.2.2.2.1).mono ?_; rintro e w5 ⟨hb5, rfl, OA5, oc5, hO5, ho5⟩; have hb45 : Below Z wr w5 := (hb34.mono (by omega)).trans hb5
      try (go_wp2_with fail)
      refine hK.out _ _ ?_ (fun hHeld5 => ?_)
      · first | trivial | ((try dsimp only); (exact ⟨(hb45.cell (p := ⟨w.heap.size, 0, none⟩) (show w.heap.size < Z by omega)).trans h0, (hb45.cell (p := ⟨w.heap.size, 1, none⟩) (show w.heap.size < Z by omega)).trans h1⟩))
      clear hK K hHeld4
      try simp only [Act.put, List.setIfInBounds_toArray, List.set_cons_zero, List.set_cons_succ]
      refine wpAnyH_done (by kernel_rfl) ?_ _
      rw [← Hau.addAll_refs, HK.out.2.2.1] at hO5 ho5
      have HQ := Lib.hid (And.intro hO5 (And.intro ho5 (And.intro HK.out.2.2.2.1 HK.out.2.2.2.2.1))); clear hO5 ho5 HK
      go_wp2_with fail
      go_roundg (ws.length + 1 - (i + 1))
      case measure => omega
      case rel => exact ⟨i + 1, G ++ [p], R', OA5, oc5, rfl, by go_num, by omega, ⟨HQ.out.1, HQ.out.2.1, HQ.out.2.2.1, by rw [HQ.out.2.2.2]; simp⟩, hbl.trans hb45⟩

end Go.Proofs.Ytpkccpegdpodoaa
