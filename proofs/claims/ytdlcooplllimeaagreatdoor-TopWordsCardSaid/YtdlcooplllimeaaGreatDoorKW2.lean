/- KW: KwA. -/
import Derived.Test.YtdlcooplllimeaaGreatDoorKT38
import Derived.Test.YtdlcooplllimeaaGreatDoorKT2
import Derived.Test.YtdlcooplllimeaaGreatDoorKT1
import Derived.Test.YtdlcooplllimeaaGreatDoorKT11
/- words: a reader of words, on words that were written: a word, a number, how many, a value. -/
namespace Go.Proofs.YtdlcooplllimeaaGreatDoor
open Go.RowKit

attribute [local go_sem ↓] Go.wp_at_zero Go.wp_at_succ

theorem results_cell1T {P : Program} {fn : Func} {p : Tmp} {ty : TypeId} (h : fn.results = #[.cell p ty]) (tmps : Array Value) (w : World) (g : Nat) (t : TypeId) (cs : Array Value) (d : TypeDesc)
    (hp : tmps.getD p undef = .pointer (some ⟨g, 0, none⟩)) (hg : Blk w g t cs)
    (hu : P.underlying ty = some d) (hd : (match d with | .struct _ | .array _ _ => true | _ => false) = true) (hi : (P.info? ty).map (·.size) = some cs.size) :
    (results fn tmps).run P w = .ok (.agg cs) w := by
  have hp' : tmps[p]?.getD undef = .pointer (some ⟨g, 0, none⟩) := by simpa using hp
  simp [results, h, hp', asAddr, run_loadVar_row w g t ty cs (0, 0) d hg hu hd hi]
namespace Top
def Sg (ws : List U64) (at_ : Nat) (seg : List U64) : Prop := seg <+: ws.drop at_
theorem Sg.left {ws : List U64} {a : Nat} {x y : List U64} (h : Sg ws a (x ++ y)) : Sg ws a x := (List.prefix_append x y).trans h
theorem Sg.right {ws : List U64} {a : Nat} {x y : List U64} (h : Sg ws a (x ++ y)) : Sg ws (a + x.length) y := by
  obtain ⟨t, ht⟩ := h
  refine ⟨t, ?_⟩
  rw [← List.drop_drop, ← ht, List.append_assoc, List.drop_left' rfl]
theorem Sg.head {ws : List U64} {a : Nat} {x : U64} {r : List U64} (h : Sg ws a (x :: r)) : ws[a]? = some x := by
  obtain ⟨t, ht⟩ := h
  have : (ws.drop a)[0]? = some x := by rw [← ht]; rfl
  rwa [List.getElem?_drop, Nat.add_zero] at this
theorem Sg.tail {ws : List U64} {a : Nat} {x : U64} {r : List U64} (h : Sg ws a (x :: r)) : Sg ws (a + 1) r := Sg.right (x := [x]) h
theorem Sg.lt {ws : List U64} {a : Nat} {x : U64} {r : List U64} (h : Sg ws a (x :: r)) : a < ws.length := (List.getElem?_eq_some_iff.1 h.head).1
structure RdS (m : World) (R B : Nat) (A : Option Addr) (n c at_ : Nat) (ws : List U64) : Prop where
  r : Blk m R 110 #[.slice A n c, .int .i64 (at_ : Int), .bool false]
  a : At m B A ws
  n : ws.length = n
  hB : B ≤ R
def Tr (R : Nat) (w w' : World) : Prop := Touch (fun g => g = R) w w'
section
variable {R B n c at_ : Nat} {A : Option Addr} {ws : List U64} {m m' : World}
theorem RdS.fresh (h : RdS m R B A n c at_ ws) (hb : Below m.heap.size m m') : RdS m' R B A n c at_ ws := ⟨h.r.fresh hb, h.a.below (hb.mono (by have := h.r.lt; have := h.hB; omega)), h.n, h.hB⟩
theorem RdS.go_ (h : RdS m R B A n c at_ ws) (k : Nat) : RdS (m.setCell ⟨R, 1, none⟩ (.int .i64 (k : Int))) R B A n c k ws := by
  refine ⟨?_, h.a.setCell (p := ⟨R, 1, none⟩) h.hB _, h.n, h.hB⟩
  have := h.r.set_ 1 (.int .i64 (k : Int))
  simpa using this
theorem Tr.own (h : Tr R m m') {cs : Array Value} (hR : Blk m R 110 cs) {α : Type} [Flat α] {base : Nat} {e : TypeId} {A : Option Addr} {c : Nat} {l : List α} (ho : Own m base e A c l) (he : e ≠ 110) : Own m' base e A c l :=
  ho.block_ fun g hg => h.block g (ho.lt g hg).2 (fun e' => own_ne_ty ho hR he (by rw [hg, e']))
theorem Tr.blk (h : Tr R m m') {cs : Array Value} (hR : Blk m R 110 cs) {g : Nat} {t : TypeId} {cs' : Array Value} (hg : Blk m g t cs') (ht : t ≠ 110) : Blk m' g t cs' := by
  refine (h.block g hg.lt (fun e => ?_)).trans hg
  subst e
  unfold Blk at hR hg
  rw [hR] at hg
  injection hg with hg
  injection hg with _ hg _
  exact ht hg.symm
theorem Tr.below (h : Tr R m m') {base : Nat} (hb : base ≤ R) (hm : base ≤ m.heap.size) : Below base m m' := Touch.below h (fun g e => by omega) hm
theorem Tr.trans {m'' : World} (h : Tr R m m') (h' : Tr R m' m'') : Tr R m m'' := Touch.trans h h'
theorem Tr.size (h : Tr R m m') : m.heap.size ≤ m'.heap.size := Touch.size h
end
theorem blk_ne_tyW {w : World} {a b : Nat} {t t' : TypeId} {cs cs' : Array Value} (h : Blk w a t cs) (h' : Blk w b t' cs') (hne : t ≠ t') : a ≠ b := by
  intro e
  subst e
  unfold Blk at h h'
  rw [h] at h'
  injection h' with h'
  injection h' with _ h' _
  exact hne h'
def WdPost (x : Value) (R B : Nat) (A : Option Addr) (n c at_ : Nat) (ws : List U64) (w : World) (e : Ending) (w' : World) : Prop := e = .returned x ∧ RdS w' R B A n c at_ ws ∧ Tr R w w'
set_option maxHeartbeats 800000 in
set_option maxRecDepth 100000 in
theorem word_any (R B n c k : Nat) (A : Option Addr) (ws : List U64) (x : U64) (w : World) (h : RdS w R B A n c k ws) (hx : ws[k]? = some x) (hn : n ≤ 1073741824) :
    Calls Tryz.prog 142 #[.pointer (some ⟨R, 0, none⟩)] w (WdPost (.int .u64 x.val) R B A n c (k + 1) ws w) := by
  have hk := (List.getElem?_eq_some_iff.1 hx).1
  have hnn := h.n
  have hkn : k < n := by omega
  obtain ⟨b, o, cs, rfl, hb, hc, hr⟩ := h.a k x hx
  have hRl := h.r.lt
  have hbl := h.hB
  have hbR : b ≠ R := by omega
  have dk : decide (n ≤ k) = false := decide_eq_false (by omega)
  have dk' : decide ((n : Int) ≤ (k : Int)) = false := decide_eq_false (by omega)
  have q0 := h.r.cell 0 (v := .slice (some ⟨b, o, none⟩) n c) rfl
  have q1 := h.r.cell 1 (v := .int .i64 (k : Int)) rfl
  have H := Lib.hid (And.intro (h) (hx))
  clear hc hr h hx hk hnn
  go_enter Tryz.func142, Tryz.ntmps142
  go_wp2_with fail
  go_quiet (fail)
  go_upto_region 4 with fail
  refine wp_world (fun V => RdS V R B (some ⟨b, o, none⟩) n c k ws ∧ Tr R w V) ⟨⟨H.out.1.r.drewN _, H.out.1.a.drewN _, H.out.1.n, H.out.1.hB⟩, (show Tr R w w from Touch.refl _ _).drewN _⟩ ?_
  rintro V ⟨hV, tV⟩
  clear q0 q1 dk dk'
  have q1 := hV.r.cell 1 (v := .int .i64 (k : Int)) rfl
  have z1 := hV.r.frozen 1
  have hg := hV.go_ (k + 1)
  have ht : Tr R w (V.setCell ⟨R, 1, none⟩ (.int .i64 ((k + 1 : Nat) : Int))) := tV.setCell (p := ⟨R, 1, none⟩) (show R = R from rfl) _
  have hki : ((k + 1 : Nat) : Int) = (k : Int) + 1 := by omega
  rw [hki] at hg ht
  have HV := Lib.hid (And.intro (hg) (ht))
  clear hg ht hki hV tV
  go_upto_region 5 with fail
  refine wp_world (fun U => RdS U R B (some ⟨b, o, none⟩) n c (k + 1) ws ∧ Tr R w U) HV.out ?_
  rintro U ⟨hU, tU⟩
  clear q1 z1
  obtain ⟨b', o', cs, hA, -, hc, hr⟩ := hU.a k x H.out.2
  injection hA with hA
  injection hA with e1 e2
  subst e1 e2
  obtain ⟨rfl, hok⟩ := hr
  have c0 := hc 0 _ rfl
  simp only [Enc.sz, Flat.sz, Nat.mul_one, Nat.add_zero] at c0
  have q0 := hU.r.cell 0 (v := .slice (some ⟨b, o, none⟩) n c) rfl
  have q1 := hU.r.cell 1 (v := .int .i64 ((k + 1 : Nat) : Int)) rfl
  have hki : ((k + 1 : Nat) : Int) = (k : Int) + 1 := by omega
  rw [hki] at q1
  have hwr : IntKind.i64.wrap ((k : Int) + 1 - 1) = (k : Int) := by rw [IntWalk.i64_in _ (by omega)]; omega
  have hwr2 : IntKind.i64.wrap (k : Int) = (k : Int) := IntWalk.i64_in _ (by omega)
  have k0 : (0 : Int) ≤ (k : Int) := by omega
  have k1 : (k : Int) < (n : Int) := by omega
  have HU := Lib.hid (And.intro (hU) (tU))
  clear hU tU hc hok hki
  go_quiet (fail)
  go_wp2_with fail
  go_returns
  exact ⟨rfl, ⟨HU.out.1.r.drewN _, HU.out.1.a.drewN _, HU.out.1.n, HU.out.1.hB⟩, HU.out.2.drewN _⟩
theorem wd_back {v : Int} (h : I64 v) : IntKind.i64.wrap (v % 18446744073709551616) = v := by
  unfold I64 at h
  rw [IntKind.wrap_i64]
  omega
set_option maxRecDepth 100000 in
theorem number_any (R B n c k : Nat) (A : Option Addr) (ws : List U64) (v : Int) (w : World) (h : RdS w R B A n c k ws) (hx : ws[k]? = some (wd v)) (hv : I64 v) (hn : n ≤ 1073741824) :
    Calls Tryz.prog 95 #[.pointer (some ⟨R, 0, none⟩)] w (WdPost (.int .i64 v) R B A n c (k + 1) ws w) := by
  have hwd := word_any R B n c k A ws (wd v) w h hx hn
  have hb := wd_back hv
  have H := Lib.hid (hwd)
  clear hwd h hx
  go_enter Tryz.func95, Tryz.ntmps95
  go_wp2_with fail
  refine H.out.mono ?_
  rintro e w1 ⟨rfl, h1, h2⟩
  have HO := Lib.hid (And.intro (h1) (h2))
  clear h1 h2
  unfold wd
  go_wp2_with fail
  go_returns
  exact ⟨rfl, HO.out.1, HO.out.2⟩
set_option maxRecDepth 100000 in
theorem many_any (R B n c k : Nat) (A : Option Addr) (ws : List U64) (m : Nat) (most : Int) (w : World) (h : RdS w R B A n c k ws) (hx : ws[k]? = some (wd (m : Int))) (hm : (m : Int) ≤ most) (hm2 : m ≤ 1000000) (hn : n ≤ 1073741824) :
    Calls Tryz.prog 37 #[.pointer (some ⟨R, 0, none⟩), .int .i64 most] w (WdPost (.int .i64 (m : Int)) R B A n c (k + 1) ws w) := by
  have hnb := number_any R B n c k A ws (m : Int) w h hx (by unfold I64; omega) hn
  have d1 : decide (most < (m : Int)) = false := decide_eq_false (by omega)
  have H := Lib.hid (hnb)
  clear hnb h hx hm
  go_enter Tryz.func37, Tryz.ntmps37
  go_wp2_with fail
  refine H.out.mono ?_
  rintro e w1 ⟨rfl, h1, h2⟩
  have HO := Lib.hid (And.intro (h1) (h2))
  clear h1 h2
  go_wp2_with fail
  go_returns
  exact ⟨rfl, HO.out.1, HO.out.2⟩
set_option maxHeartbeats 1600000 in
set_option maxRecDepth 100000 in
theorem value_any (R B n c k : Nat) (A : Option Addr) (ws : List U64) (v : Int × Int) (w : World) (h : RdS w R B A n c k ws) (hx : ws[k]? = some (boxW bxT v)) (hv : rightV v) (hn : n ≤ 1073741824) :
    Calls Tryz.prog 143 #[.pointer (some ⟨R, 0, none⟩)] w (WdPost (.agg #[.int .i64 v.1, .int .i64 v.2]) R B A n c (k + 1) ws w) := by
  obtain ⟨P, hP⟩ : ∃ P, WdPost (.agg #[.int .i64 v.1, .int .i64 v.2]) R B A n c (k + 1) ws w = P := ⟨_, rfl⟩
  have HP := Lib.hid hP; rw [hP]; clear hP
  have hok : 0 ≤ (boxL v.1 v.2).1 ∧ (boxL v.1 v.2).1 ≤ 18446744073709551615 := h.a.ok_ _ (List.mem_of_getElem? hx)
  obtain ⟨-, hub⟩ := rightV_box hv
  have hRl := h.r.lt
  have H := Lib.hid (And.intro (h) (And.intro (hx) (And.intro (hok) (hub))))
  clear h hx hok hub hv
  go_enter Tryz.func143, Tryz.ntmps143
  go_upto_region 1 with fail
  refine wp_world (fun W => Blk W w.heap.size 48 #[.int .i64 0, .int .i64 0] ∧ Below w.heap.size w W ∧ w.heap.size + 1 ≤ W.heap.size) ⟨Blk.new _ _ _, (Below.refl _ _).alloc (Nat.le_refl _) _, by simp⟩ ?_
  rintro W ⟨hG, hbW, hsW⟩
  have hwd := word_any R B n c k A ws (boxW bxT v) W (H.out.1.fresh hbW) H.out.2.1 hn
  have HW := Lib.hid (And.intro (hwd) (And.intro (hG) (hbW)))
  clear hwd hG hbW
  go_wp2_with fail
  refine HW.out.1.mono ?_
  rintro e w1 ⟨rfl, r1, t1⟩
  have hG1 := t1.blk (H.out.1.fresh HW.out.2.2).r HW.out.2.1 (by decide)
  have hs1 := t1.size
  have t1' : Tr R w w1 := (Touch.ofBelow HW.out.2.2).trans t1
  have hub := unbox_any (boxL v.1 v.2).1 w1 H.out.2.2.1
  have H1 := Lib.hid (And.intro (r1) (And.intro (hG1) (And.intro (t1') (hub))))
  clear r1 t1 hG1 t1' hub
  unfold boxW bxT
  go_wp2_with fail
  refine H1.out.2.2.2.mono ?_
  rintro e w2 ⟨hb2, hc⟩
  rcases hc with ⟨k', n', hu, rfl⟩ | ⟨hu, -⟩
  rotate_left
  · rw [H.out.2.2.2] at hu; cases hu
  rw [H.out.2.2.2] at hu
  injection hu with hu
  have e1 : k' = v.1 := by rw [hu]
  have e2 : n' = v.2 := by rw [hu]
  subst e1 e2
  have hs2 := hb2.size
  have r2 := H1.out.1.fresh hb2
  have hG2 := H1.out.2.1.fresh hb2
  have t2 : Tr R w w2 := H1.out.2.2.1.trans (Touch.ofBelow hb2)
  have H2 := Lib.hid (And.intro (r2) (And.intro (hG2) (t2)))
  clear r2 hG2 t2 hb2 hu
  go_upto_region 2 with fail
  refine wp_world (fun V => RdS V R B A n c (k + 1) ws ∧ Blk V w.heap.size 48 #[.int .i64 0, .int .i64 0] ∧ Blk V w2.heap.size 48 #[.int .i64 v.1, .int .i64 v.2] ∧ Tr R w V ∧ w2.heap.size + 1 ≤ V.heap.size) ⟨H2.out.1.fresh ((Below.refl _ _).alloc (Nat.le_refl _) _), H2.out.2.1.alloc _, Blk.new _ _ _, H2.out.2.2.alloc _, by simp⟩ ?_
  rintro V ⟨r3, g3, v3, t3, s3⟩
  have q2 := r3.r.cell 2 (v := .bool false) rfl
  have z2 := r3.r.frozen 2
  have hra : RdS (V.setCell ⟨R, 2, none⟩ (.bool false)) R B A n c (k + 1) ws := by
    refine ⟨?_, r3.a.setCell (p := ⟨R, 2, none⟩) r3.hB _, r3.n, r3.hB⟩
    have := r3.r.set_ 2 (.bool false)
    simpa using this
  have nG := blk_ne_tyW g3 r3.r (by decide)
  have nV := blk_ne_tyW v3 r3.r (by decide)
  have ht : Tr R w (V.setCell ⟨R, 2, none⟩ (.bool false)) := t3.setCell (p := ⟨R, 2, none⟩) (show R = R from rfl) _
  have H3 := Lib.hid (And.intro (hra) (And.intro ((g3.far (p := ⟨R, 2, none⟩) nG (.bool false))) (And.intro ((v3.far (p := ⟨R, 2, none⟩) nV (.bool false))) (ht))))
  clear r3 g3 v3 t3 hra ht nG nV
  go_upto_region 3 with fail
  refine wp_world (fun U => RdS U R B A n c (k + 1) ws ∧ Blk U w.heap.size 48 #[.int .i64 0, .int .i64 0] ∧ Blk U w2.heap.size 48 #[.int .i64 v.1, .int .i64 v.2] ∧ Tr R w U) H3.out ?_
  rintro U ⟨r4, g4, v4, t4⟩
  clear q2 z2
  have hne : R ≠ w.heap.size := by omega
  have hr5 : RdS (U.setRow w.heap.size #[.int .i64 v.1, .int .i64 v.2]) R B A n c (k + 1) ws := ⟨r4.r.setRow_far hne, r4.a.keep (fun p hp => by
    unfold World.cell?
    rw [setRow_other U w.heap.size p.block _ (fun e => by have := r4.hB; omega)]), r4.n, r4.hB⟩
  have ht5 : Tr R w (U.setRow w.heap.size #[.int .i64 v.1, .int .i64 v.2]) := ⟨t4.os, t4.tape, t4.output, by have := t4.size; simp; exact this, fun g hg hF => (setRow_other U w.heap.size g _ (by omega)).trans (t4.block g hg hF)⟩
  have H4 := Lib.hid (And.intro (g4) (And.intro (v4) (And.intro (hr5) (ht5))))
  clear r4 g4 v4 t4 hr5 ht5
  go_wp2_with (first | (refine wpList_ld rfl 48 (.tmp 3) rfl w2.heap.size rfl H4.out.2.1 Tryz.underlying48 rfl (by kernel_rfl) ?_) | (refine wpList_st rfl 48 (.tmp 2) (.tmp 22) rfl w.heap.size rfl rfl H4.out.1 (by kernel_rfl) rfl rfl ?_))
  refine bodyPost_ret (results_cell1T rfl _ _ w.heap.size _ _ _ rfl H4.out.1.setRow Tryz.underlying48 rfl (by kernel_rfl)) rfl ?_
  rw [← HP.out]
  exact ⟨rfl, H4.out.2.2.1, H4.out.2.2.2⟩
end Top
end Go.Proofs.YtdlcooplllimeaaGreatDoor
