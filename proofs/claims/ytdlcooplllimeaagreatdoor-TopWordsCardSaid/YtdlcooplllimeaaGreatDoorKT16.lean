/- KT: CdG, CdL. -/
import Derived.Test.YtdlcooplllimeaaGreatDoorKT1
import Derived.Test.YtdlcooplllimeaaGreatDoorKT7
import Derived.Test.YtdlcooplllimeaaGreatDoorKT14
/- code: tries of all orders of a function. -/
namespace Go.Proofs.YtdlcooplllimeaaGreatDoor
open Go.RowKit

attribute [local go_sem ↓] Go.wp_at_zero Go.wp_at_succ

namespace Top
theorem own_flat {α : Type} [Flat α] (w : World) (base : Nat) (e : TypeId) (l : List α) (cs : Array Value) (n : Nat) {g : Nat} (hg : g = w.heap.size) (hcs : (flat l).toArray = cs) (hb : base ≤ w.heap.size) (hn : l.length = n) (hm : n ≤ maxLen) : Own (w.alloc (.cells cs e)) base e (some ⟨g, 0, none⟩) n l := by
  subst hcs hn hg
  exact ⟨flat_length _, .inr ⟨w.heap.size, l.length, _, rfl, hb, heap_alloc_new w _, Nat.le_refl _, hm, by simp [flat_length], by rw [List.toList_toArray, List.take_of_length_le (by rw [flat_length]; exact Nat.le_refl _)]⟩⟩
def rawNil : Raw 1 := ⟨[.slice none 0 0], rfl, by simp [Value.oneCell']⟩
theorem infoTries : (Tryz.prog.info? 139).map (fun i => (i.zero, i.size, i.bytes)) = some (some (.slice none 0 0), 1, 24) := by kernel_rfl
theorem infoBoolT : (Tryz.prog.info? 4).map (fun i => (i.zero, i.size, i.bytes)) = some (some (.bool false), 1, 1) := by kernel_rfl
theorem unseen_all (n : Nat) : unseen (List.replicate n false) = n := by
  unfold unseen
  rw [List.countP_replicate]; simp
/-- the start of a walk, in either order of its two rows -/
theorem CW.start {W V : World} {n dc gs go : Nat} {DA : Option Addr} {v0 v1 v2 v3 : Value} (hB : Blk V (W.heap.size + 2) 227 #[v0, v1, v2, v3, .slice DA n dc, .slice (some ⟨gs, 0, none⟩) n n, .slice (some ⟨go, 0, none⟩) n n, .slice none 0 0, .bool false])
    (hS : Own V W.heap.size 4 (some ⟨gs, 0, none⟩) n (List.replicate n false)) (hO : Own V W.heap.size 139 (some ⟨go, 0, none⟩) n (List.replicate n rawNil)) : ∃ S O, CW V W.heap.size (W.heap.size + 2) n dc DA v0 v1 v2 v3 S O none n n 0 (List.replicate n false) (List.replicate n rawNil) [] false := by
  refine ⟨_, _, ?_, hS, hO, Own.nil_, by omega, List.length_replicate, List.length_replicate, fun x hx => by simp at hx, fun r hr => ?_⟩
  · rw [List.length_replicate, List.length_replicate]; exact hB
  · rw [List.eq_of_mem_replicate hr]
    exact ⟨none, 0, [], rfl, Own.nil_, by simp, fun t ht => by simp at ht⟩
/-- the end of a walk: its tables, of the call's own -/
def TriesPost (n : Nat) (w : World) (e : Ending) (w' : World) : Prop := Below w.heap.size w w' ∧ ∃ (O S : Option Addr) (co cs : Nat) (ok : Bool) (out : List (Raw 1)) (seen : List Bool),
  e = .returned (.tuple #[.slice O n co, .slice S n cs, .bool ok]) ∧ out.length = n ∧ seen.length = n ∧ Own w' w.heap.size 139 O co out ∧ Own w' w.heap.size 4 S cs seen ∧ ∀ r ∈ out, TryRow w' w.heap.size r
theorem TryRow.base_le {w : World} {base base' : Nat} {r : Raw 1} (h : TryRow w base r) (hb : base' ≤ base) : TryRow w base' r := by
  obtain ⟨A, c, x, h1, h2, h3⟩ := h
  exact ⟨A, c, x, h1, h2.base_le hb, h3⟩
theorem Own.none_zero {α : Type} [Flat α] {w : World} {base c : Nat} {e : TypeId} {A : Option Addr} {l : List α} (h : Own w base e A c l) : A = none → c = 0 := by
  intro hA
  rcases h.2 with ⟨h1, _⟩ | ⟨g, cap, cur, hv, _⟩
  · injection h1 with _ _ h3
  · injection hv with h3; rw [hA] at h3; cases h3
/-- rows of tries, as lists -/
theorem outs_at {w : World} {base : Nat} {O : Option Addr} {co : Nat} {out : List (Raw 1)} (h : Own w base 139 O co out) (hr : ∀ r ∈ out, TryRow w base r) : ∃ L : List (List (Int × Int)), L.length = out.length ∧ (∀ l ∈ L, l.length ≤ 20) ∧ At w w.heap.size O L := by
  have hx : ∀ r : Raw 1, r ∈ out → ∃ x : List (Int × Int), x.length ≤ 20 ∧ Enc.rd w w.heap.size r.cs x := by
    intro r hr'
    obtain ⟨A, c, x, h1, h2, h3, h4⟩ := hr r hr'
    exact ⟨x, h3, A, c, h1, h2.le_cap.1, h2.le_cap.2, Own.none_zero h2, h2.at_ h4⟩
  have key : ∀ o : List (Raw 1), (∀ r ∈ o, r ∈ out) → ∃ L : List (List (Int × Int)), L.length = o.length ∧ (∀ l ∈ L, l.length ≤ 20) ∧ ∀ (i : Nat) r x, o[i]? = some r → L[i]? = some x → Enc.rd w w.heap.size r.cs x := by
    intro o
    induction o with
    | nil => intro _; exact ⟨[], rfl, fun l hl => by simp at hl, fun i r x hr _ => by simp at hr⟩
    | cons r o ih =>
      intro hm
      obtain ⟨L, h1, h2, h3⟩ := ih fun r hr => hm r (by simp [hr])
      obtain ⟨x, h4, h5⟩ := hx r (hm r (by simp))
      refine ⟨x :: L, by simp [h1], fun l hl => ?_, fun i r' x' hr' hx' => ?_⟩
      · rcases List.mem_cons.1 hl with rfl | hl
        · exact h4
        · exact h2 l hl
      · cases i with
        | zero => simp at hr' hx'; subst hr' hx'; exact h5
        | succ i => exact h3 i r' x' (by simpa using hr') (by simpa using hx')
  obtain ⟨L, h1, h2, h3⟩ := key out fun _ h => h
  exact ⟨L, h1, h2, Own.at_raw rfl h h1.symm h3⟩

set_option maxHeartbeats 3200000 in
set_option maxRecDepth 100000 in
theorem tries_any (B n nk kc dc nf : Nat) (pa re : Int) (ge : Bool) (KA DA : Option Addr) (code : List In) (w : World) (hD : At w B DA code) (hB : B ≤ w.heap.size) (hcn : code.length = n) (hn : n ≤ 600) (ht : ∀ i ∈ code, tgt nf i) :
    Calls Tryz.prog 87 #[.agg #[.int .i64 pa, .int .i64 re, .bool ge, .slice KA nk kc, .slice DA n dc]] w (TriesPost n w) := by
  have hmk1 := fun w => run_make_flat (α := Bool) (P := Tryz.prog) 76 4 (.bool false) 1 Tryz.underlying76 infoBoolT false rfl (by decide) .i64 .i64 n (by omega) (by omega) w
  have hmk2 := fun w => run_make_flat (α := Raw 1) (P := Tryz.prog) 180 139 (.slice none 0 0) 24 Tryz.underlying180 infoTries rawNil rfl (by decide) .i64 .i64 n (by omega) (by omega) w
  obtain ⟨fb, hfb⟩ : ∃ fb, (flat (List.replicate n false)).toArray = fb := ⟨_, rfl⟩
  obtain ⟨fr, hfr⟩ : ∃ fr, (flat (List.replicate n rawNil)).toArray = fr := ⟨_, rfl⟩
  rw [hfb] at hmk1
  rw [hfr] at hmk2
  have HMK := Lib.hid (And.intro hfb hfr); clear hfb hfr
  have H := Lib.hid (And.intro hD (And.intro hcn ht)); clear hD hcn ht
  obtain ⟨P, hP⟩ : ∃ P, TriesPost n w = P := ⟨_, rfl⟩
  have HP := Lib.hid hP; rw [hP]; clear hP
  go_enter Tryz.func87, Tryz.ntmps87
  go_upto_region 1 with fail
  refine wp_world (fun W => Blk W w.heap.size 160 #[.int .i64 pa, .int .i64 re, .bool ge, .slice KA nk kc, .slice DA n dc] ∧ Below w.heap.size w W ∧ w.heap.size + 1 ≤ W.heap.size) ⟨Blk.new _ _ _, (Below.refl _ _).alloc (Nat.le_refl _) _, by simp⟩ ?_
  rintro W ⟨hF, hbW, hsW⟩
  have f0 := hF.cell 0 (v := .int .i64 pa) rfl
  have f1 := hF.cell 1 (v := .int .i64 re) rfl
  have f2 := hF.cell 2 (v := .bool ge) rfl
  have f3 := hF.cell 3 (v := .slice KA nk kc) rfl
  have f4 := hF.cell 4 (v := .slice DA n dc) rfl
  have hlt : w.heap.size < W.heap.size := by omega
  have keep : ∀ V : World, (∀ p : Addr, p.block < W.heap.size → V.cell? p = W.cell? p) → V.cell? ⟨w.heap.size, 0, none⟩ = some (.int .i64 pa) ∧ V.cell? ⟨w.heap.size, 1, none⟩ = some (.int .i64 re) ∧ V.cell? ⟨w.heap.size, 2, none⟩ = some (.bool ge) ∧ V.cell? ⟨w.heap.size, 3, none⟩ = some (.slice KA nk kc) ∧ V.cell? ⟨w.heap.size, 4, none⟩ = some (.slice DA n dc) :=
    fun V hV => ⟨(hV _ hlt).trans f0, (hV _ hlt).trans f1, (hV _ hlt).trans f2, (hV _ hlt).trans f3, (hV _ hlt).trans f4⟩
  have KP := Lib.hid (And.intro keep (And.intro hbW hsW)); clear keep hbW hsW f0 f1 f2 f3 f4 hF hlt
  refine wp_region_held_drew (S := (fun w' => w'.cell? ⟨w.heap.size, 0, none⟩ = some (.int .i64 pa) ∧ w'.cell? ⟨w.heap.size, 1, none⟩ = some (.int .i64 re) ∧ w'.cell? ⟨w.heap.size, 2, none⟩ = some (.bool ge) ∧ w'.cell? ⟨w.heap.size, 3, none⟩ = some (.slice KA nk kc) ∧ w'.cell? ⟨w.heap.size, 4, none⟩ = some (.slice DA n dc))) (by kernel_rfl) ?_ (fun hHeld0 => ?_)
  · first | trivial | ((try dsimp only); (exact KP.out.1 _ (fun p hp => by first | rfl | exact World.cell?_alloc_lt _ _ p hp | exact (World.cell?_alloc_lt _ _ p (by simp; omega)).trans (World.cell?_alloc_lt _ _ p hp) | exact ((World.cell?_alloc_lt _ _ p (by simp; omega)).trans (World.cell?_alloc_lt _ _ p (by simp; omega))).trans (World.cell?_alloc_lt _ _ p hp))))
  refine htk 0 rfl ?_
  try go_frame
  refine htk 1 rfl ?_
  try go_frame
  refine htk 2 rfl ?_
  try go_frame
  refine htk 3 rfl ?_
  try go_frame
  refine htk 5 rfl ?_
  try go_frame
  refine htk 6 rfl ?_
  try go_frame
  refine htk 7 rfl ?_
  try go_frame
  refine held_call2 4 8 (by kernel_rfl) rfl rfl (fun K hK => ?_) (fun K hK => ?_)
  · go_simp
    refine hK.out _ _ ?_ (fun hHeld1 => ?_)
    · first | trivial | ((try dsimp only); (exact KP.out.1 _ (fun p hp => by first | rfl | exact World.cell?_alloc_lt _ _ p hp | exact (World.cell?_alloc_lt _ _ p (by simp; omega)).trans (World.cell?_alloc_lt _ _ p hp) | exact ((World.cell?_alloc_lt _ _ p (by simp; omega)).trans (World.cell?_alloc_lt _ _ p (by simp; omega))).trans (World.cell?_alloc_lt _ _ p hp))))
    clear hK K hHeld0
    try go_frame
    refine held_call 8 (by kernel_rfl) rfl (fun K hK => ?_)
    go_simp
    refine hK.out _ _ ?_ (fun hHeld2 => ?_)
    · first | trivial | ((try dsimp only); (exact KP.out.1 _ (fun p hp => by first | rfl | exact World.cell?_alloc_lt _ _ p hp | exact (World.cell?_alloc_lt _ _ p (by simp; omega)).trans (World.cell?_alloc_lt _ _ p hp) | exact ((World.cell?_alloc_lt _ _ p (by simp; omega)).trans (World.cell?_alloc_lt _ _ p (by simp; omega))).trans (World.cell?_alloc_lt _ _ p hp))))
    clear hK K hHeld1
    try go_frame
    refine htk 9 rfl ?_
    try go_frame
    refine held_call 10 (by kernel_rfl) rfl (fun K hK => ?_)
    go_simp
    refine hK.out _ _ ?_ (fun hHeld3 => ?_)
    · first | trivial | ((try dsimp only); (exact KP.out.1 _ (fun p hp => by first | rfl | exact World.cell?_alloc_lt _ _ p hp | exact (World.cell?_alloc_lt _ _ p (by simp; omega)).trans (World.cell?_alloc_lt _ _ p hp) | exact ((World.cell?_alloc_lt _ _ p (by simp; omega)).trans (World.cell?_alloc_lt _ _ p (by simp; omega))).trans (World.cell?_alloc_lt _ _ p hp))))
    clear hK K hHeld2
    try go_frame
    refine htk 11 rfl ?_
    try go_frame
    refine wpAnyH_done (by kernel_rfl) ?_ _
    go_upto_region 2 with fail
    have n24 : n ≤ maxLen := by unfold maxLen; omega
    refine wp_world (fun V => (∃ S O, CW V W.heap.size (W.heap.size + 2) n dc DA (.int .i64 pa) (.int .i64 re) (.bool ge) (.slice KA nk kc) S O none n n 0 (List.replicate n false) (List.replicate n rawNil) [] false) ∧ Below w.heap.size w V) ⟨?_, ?_⟩ ?_
    · first
      | exact CW.start (gs := W.heap.size) (go := W.heap.size + 1) (Blk.at_ _ _ _ (by simp)).drew (((own_flat W W.heap.size _ _ _ n rfl HMK.out.1 (Nat.le_refl _) (by simp) n24).alloc _).alloc _).drew ((own_flat (W.alloc _) W.heap.size _ _ _ n (by simp) HMK.out.2 (by simp) (by simp) n24).alloc _).drew
      | exact CW.start (gs := W.heap.size + 1) (go := W.heap.size) (Blk.at_ _ _ _ (by simp)).drew ((own_flat (W.alloc _) W.heap.size _ _ _ n (by simp) HMK.out.1 (by simp) (by simp) n24).alloc _).drew (((own_flat W W.heap.size _ _ _ n rfl HMK.out.2 (Nat.le_refl _) (by simp) n24).alloc _).alloc _).drew
    · have h3 := KP.out.2.2
      exact (((KP.out.2.1.alloc (by omega) _).alloc (by simp; omega) _).alloc (by simp; omega) _).drew
    clear hmk1 hmk2
    rintro V ⟨⟨S0, O0, hC⟩, hbV⟩
    have hRlt := hC.blk.lt
    have hun0 := unseen_all n
    obtain ⟨wb, hwb⟩ : ∃ wb, wb = W.heap.size := ⟨_, rfl⟩
    rw [← hwb] at hC hRlt ⊢
    have hwb2 : w.heap.size ≤ wb := by have := KP.out.2.2; omega
    clear hwb
    have hc0 := cdcome_any wb (wb + 2) n dc DA (.int .i64 pa) (.int .i64 re) (.bool ge) (.slice KA nk kc) S0 O0 none none n n 0 0 (List.replicate n false) (List.replicate n rawNil) [] false 0 [] V hC Own.nil_ (fun t ht => by simp at ht) (Int.le_refl _) hn (by simp)
    rw [hun0] at hc0
    have HC := Lib.hid (And.intro hc0 hC); clear hc0 hC
    go_wp2_with fail
    refine HC.out.1.mono ?_
    rintro e w1 ⟨rfl, hx1, -, hb1⟩
    have hbl1 := hbV.trans (hb1.mono hwb2)
    have HX1 := Lib.hid hx1; clear hx1 hb1
    go_wp2_with fail
    go_loopg [] (2 * n) (fun gk wr => ∃ (m : Nat), gk = m ∧ m ≤ 2 * n ∧ Hid (CWx wr wb (wb + 2) n dc DA (.int .i64 pa) (.int .i64 re) (.bool ge) (.slice KA nk kc) m) ∧ Below w.heap.size w wr)
    case atStart => exact ⟨2 * n, rfl, Nat.le_refl _, HX1.out.mono (by simp), hbl1⟩
    case round =>
      obtain ⟨m, rfl, hm, hkeep, hbl⟩ := hrel
      obtain ⟨S, O, T, cs, co, ct, seen, out, todo, bad, hC, hle⟩ := hkeep.out
      have q7 := hC.blk.cell 7 (v := .slice T todo.length ct) rfl
      have z7 := hC.blk.frozen 7
      have q8 := hC.blk.cell 8 (v := .bool bad) rfl
      by_cases hlt : 0 < todo.length
      · cases bad with
        | true =>
          clear z7
          have e5 := hC.blk.cell 5 (v := .slice S seen.length cs) rfl
          have e6 := hC.blk.cell 6 (v := .slice O out.length co) rfl
          have e8 := hC.blk.cell 8 (v := .bool true) rfl
          have hls := hC.ls
          have hlo := hC.lo
          rw [hls] at e5
          rw [hlo] at e6
          have HL := Lib.hid (And.intro hC hls); clear hC hls hlo hkeep
          go_wp2_with fail
          go_quiet (fail)
          go_wp2_with fail
          rw [← HP.out]
          obtain ⟨hC, hls⟩ := HL.out
          exact ⟨below_drewN hbl _, O, S, co, cs, _, out, seen, rfl, hC.lo, hls, (hC.out_.drewN _).base_le hwb2, (hC.seen_.drewN _).base_le hwb2, fun r hr => TryRow.base_le (hC.rows r hr) hwb2⟩
        | false =>
          obtain ⟨t0, x, rfl⟩ : ∃ t0 x, todo = t0 ++ [x] := ⟨todo.dropLast, todo.getLast (List.ne_nil_of_length_pos hlt), (List.dropLast_concat_getLast _).symm⟩
          obtain ⟨k, rfl, hk⟩ := hC.lt x (by simp)
          have htlen : (t0 ++ [(k : Int)]).length = t0.length + 1 := by simp
          rw [htlen] at q7 hle
          obtain ⟨g, rfl, hg1, hg2⟩ := hC.todo_.some_ (by omega)
          have ct' := hC.todo_.cell_int (i := t0.length) (b := (k : Int)) (by simp)
          have hcap := hC.todo_.le_cap.1
          rw [htlen] at hcap
          have r3' := hC.todo_.take_ t0.length (by omega)
          rw [List.take_left' rfl] at r3'
          have w1' : (0 : Int) ≤ ((t0.length : Int) + 1) - 1 := by omega
          have hun := unseen_le seen
          have hls := hC.ls
          have hRlt' := hC.blk.lt
          have hbC := hC.blk
          have HK := Lib.hid (And.intro hC r3'); clear hC r3' htlen hkeep
          go_wp2_with fail
          have hwr : IntKind.i64.wrap ((t0.length : Int) + 1 - 1) = (t0.length : Int) := by rw [IntWalk.i64_in _ (by omega)]; omega
          have w2 : (0 : Int) ≤ (t0.length : Int) := by omega
          have w3 : (t0.length : Int) < (t0.length : Int) + 1 := by omega
          have w4 : (t0.length : Int) ≤ (t0.length : Int) + 1 := by omega
          go_quiet (fail)
          go_wp2_with fail
          have w5 : t0.length ≤ ct := by omega
          refine wp_world (fun W2 => CW W2 wb (wb + 2) n dc DA (.int .i64 pa) (.int .i64 re) (.bool ge) (.slice KA nk kc) S O (some ⟨g, 0, none⟩) cs co ct seen out (t0 ++ [(k : Int)]) false ∧ Own W2 wb 3 (some ⟨g, 0, none⟩) ct t0 ∧ Below w.heap.size w W2) ⟨HK.out.1.fresh ⟨rfl, rfl, rfl, Nat.le_refl _, fun _ _ => rfl⟩, HK.out.2.drewN _, below_drewN hbl _⟩ ?_
          rintro W2 ⟨m1, m3, m4⟩
          have p7 := m1.blk.cell 7 (v := .slice (some ⟨g, 0, none⟩) (t0.length + 1) ct) (by simp)
          have pz := m1.blk.frozen 7
          have hwr2 : IntKind.i64.wrap (t0.length : Int) = (t0.length : Int) := IntWalk.i64_in _ (by clear hwr; omega)
          have hB2 := m1.blk.set_ 7 (.slice (some ⟨g, 0, none⟩) t0.length ct)
          have hnew : CW (W2.setCell ⟨wb + 2, 7, none⟩ (.slice (some ⟨g, 0, none⟩) t0.length ct)) wb (wb + 2) n dc DA (.int .i64 pa) (.int .i64 re) (.bool ge) (.slice KA nk kc) S O (some ⟨g, 0, none⟩) cs co ct seen out t0 false := by
            have hk2 : TryKept W2 (W2.setCell ⟨wb + 2, 7, none⟩ (.slice (some ⟨g, 0, none⟩) t0.length ct)) := TryKept.blk m1.blk (by decide) _ _
            exact ⟨by simpa using hB2, m1.seen_.setCell _ _ (own_ne_ty m1.seen_ m1.blk (by decide)), m1.out_.setCell _ _ (own_ne_ty m1.out_ m1.blk (by decide)), m3.setCell _ _ (own_ne_ty m3 m1.blk (by decide)), m1.base_, m1.ls, m1.lo, fun y hy => m1.lt y (by simp [hy]), fun r hr => hk2.row (m1.rows r hr)⟩
          have hbnew : Below w.heap.size w (W2.setCell ⟨wb + 2, 7, none⟩ (.slice (some ⟨g, 0, none⟩) t0.length ct)).drew := (m4.setCell (p := ⟨wb + 2, 7, none⟩) (by simp; omega) _).drew
          have hfr := cdfrom_any wb (wb + 2) n dc B nf DA (.int .i64 pa) (.int .i64 re) (.bool ge) (.slice KA nk kc) S O (some ⟨g, 0, none⟩) cs co ct seen out t0 false k code _ (hnew.fresh ((Below.refl _ _).drew : Below _ _ (W2.setCell ⟨wb + 2, 7, none⟩ (.slice (some ⟨g, 0, none⟩) t0.length ct)).drew)) (H.out.1.below (hbnew.mono hB)) (by omega) H.out.2.1 hk hn (by omega) H.out.2.2
          have HF := Lib.hid (And.intro hfr hbnew); clear m1 m3 m4 hB2 hnew hfr hbnew q7 z7 hbC
          go_still_tail 14, (by kernel_rfl)
          clear hwr hwr2
          change wpList _ _ _ _ _ (World.drew _)
          go_wp2_with fail
          refine HF.out.1.mono ?_
          rintro e w8 ⟨rfl, hx8, -, hb8⟩
          have H8 := Lib.hid (And.intro hx8 (HF.out.2.trans (hb8.mono hwb2))); clear hx8 hb8
          go_wp2_with fail
          go_roundg (2 * unseen seen + t0.length)
          case measure => omega
          case rel => exact ⟨_, rfl, by omega, H8.out.1, H8.out.2⟩
      · obtain rfl : todo = [] := List.eq_nil_of_length_eq_zero (by omega)
        clear z7
        have e5 := hC.blk.cell 5 (v := .slice S seen.length cs) rfl
        have e6 := hC.blk.cell 6 (v := .slice O out.length co) rfl
        have e8 := hC.blk.cell 8 (v := .bool bad) rfl
        have hls := hC.ls
        have hlo := hC.lo
        rw [hls] at e5
        rw [hlo] at e6
        have HL := Lib.hid (And.intro hC hls); clear hC hls hlo hkeep
        go_wp2_with fail
        go_quiet (fail)
        go_wp2_with fail
        rw [← HP.out]
        obtain ⟨hC, hls⟩ := HL.out
        exact ⟨below_drewN hbl _, O, S, co, cs, _, out, seen, rfl, hC.lo, hls, (hC.out_.drewN _).base_le hwb2, (hC.seen_.drewN _).base_le hwb2, fun r hr => TryRow.base_le (hC.rows r hr) hwb2⟩
  · go_simp
    refine hK.out _ _ ?_ (fun hHeld1 => ?_)
    · first | trivial | ((try dsimp only); (exact KP.out.1 _ (fun p hp => by first | rfl | exact World.cell?_alloc_lt _ _ p hp | exact (World.cell?_alloc_lt _ _ p (by simp; omega)).trans (World.cell?_alloc_lt _ _ p hp) | exact ((World.cell?_alloc_lt _ _ p (by simp; omega)).trans (World.cell?_alloc_lt _ _ p (by simp; omega))).trans (World.cell?_alloc_lt _ _ p hp))))
    clear hK K hHeld0
    try go_frame
    refine held_call 4 (by kernel_rfl) rfl (fun K hK => ?_)
    go_simp
    refine hK.out _ _ ?_ (fun hHeld2 => ?_)
    · first | trivial | ((try dsimp only); (exact KP.out.1 _ (fun p hp => by first | rfl | exact World.cell?_alloc_lt _ _ p hp | exact (World.cell?_alloc_lt _ _ p (by simp; omega)).trans (World.cell?_alloc_lt _ _ p hp) | exact ((World.cell?_alloc_lt _ _ p (by simp; omega)).trans (World.cell?_alloc_lt _ _ p (by simp; omega))).trans (World.cell?_alloc_lt _ _ p hp))))
    clear hK K hHeld1
    try go_frame
    refine htk 9 rfl ?_
    try go_frame
    refine held_call 10 (by kernel_rfl) rfl (fun K hK => ?_)
    go_simp
    refine hK.out _ _ ?_ (fun hHeld3 => ?_)
    · first | trivial | ((try dsimp only); (exact KP.out.1 _ (fun p hp => by first | rfl | exact World.cell?_alloc_lt _ _ p hp | exact (World.cell?_alloc_lt _ _ p (by simp; omega)).trans (World.cell?_alloc_lt _ _ p hp) | exact ((World.cell?_alloc_lt _ _ p (by simp; omega)).trans (World.cell?_alloc_lt _ _ p (by simp; omega))).trans (World.cell?_alloc_lt _ _ p hp))))
    clear hK K hHeld2
    try go_frame
    refine htk 11 rfl ?_
    try go_frame
    refine wpAnyH_done (by kernel_rfl) ?_ _
    go_upto_region 2 with fail
    have n24 : n ≤ maxLen := by unfold maxLen; omega
    refine wp_world (fun V => (∃ S O, CW V W.heap.size (W.heap.size + 2) n dc DA (.int .i64 pa) (.int .i64 re) (.bool ge) (.slice KA nk kc) S O none n n 0 (List.replicate n false) (List.replicate n rawNil) [] false) ∧ Below w.heap.size w V) ⟨?_, ?_⟩ ?_
    · first
      | exact CW.start (gs := W.heap.size) (go := W.heap.size + 1) (Blk.at_ _ _ _ (by simp)).drew (((own_flat W W.heap.size _ _ _ n rfl HMK.out.1 (Nat.le_refl _) (by simp) n24).alloc _).alloc _).drew ((own_flat (W.alloc _) W.heap.size _ _ _ n (by simp) HMK.out.2 (by simp) (by simp) n24).alloc _).drew
      | exact CW.start (gs := W.heap.size + 1) (go := W.heap.size) (Blk.at_ _ _ _ (by simp)).drew ((own_flat (W.alloc _) W.heap.size _ _ _ n (by simp) HMK.out.1 (by simp) (by simp) n24).alloc _).drew (((own_flat W W.heap.size _ _ _ n rfl HMK.out.2 (Nat.le_refl _) (by simp) n24).alloc _).alloc _).drew
    · have h3 := KP.out.2.2
      exact (((KP.out.2.1.alloc (by omega) _).alloc (by simp; omega) _).alloc (by simp; omega) _).drew
    clear hmk1 hmk2
    rintro V ⟨⟨S0, O0, hC⟩, hbV⟩
    have hRlt := hC.blk.lt
    have hun0 := unseen_all n
    obtain ⟨wb, hwb⟩ : ∃ wb, wb = W.heap.size := ⟨_, rfl⟩
    rw [← hwb] at hC hRlt ⊢
    have hwb2 : w.heap.size ≤ wb := by have := KP.out.2.2; omega
    clear hwb
    have hc0 := cdcome_any wb (wb + 2) n dc DA (.int .i64 pa) (.int .i64 re) (.bool ge) (.slice KA nk kc) S0 O0 none none n n 0 0 (List.replicate n false) (List.replicate n rawNil) [] false 0 [] V hC Own.nil_ (fun t ht => by simp at ht) (Int.le_refl _) hn (by simp)
    rw [hun0] at hc0
    have HC := Lib.hid (And.intro hc0 hC); clear hc0 hC
    go_wp2_with fail
    refine HC.out.1.mono ?_
    rintro e w1 ⟨rfl, hx1, -, hb1⟩
    have hbl1 := hbV.trans (hb1.mono hwb2)
    have HX1 := Lib.hid hx1; clear hx1 hb1
    go_wp2_with fail
    go_loopg [] (2 * n) (fun gk wr => ∃ (m : Nat), gk = m ∧ m ≤ 2 * n ∧ Hid (CWx wr wb (wb + 2) n dc DA (.int .i64 pa) (.int .i64 re) (.bool ge) (.slice KA nk kc) m) ∧ Below w.heap.size w wr)
    case atStart => exact ⟨2 * n, rfl, Nat.le_refl _, HX1.out.mono (by simp), hbl1⟩
    case round =>
      obtain ⟨m, rfl, hm, hkeep, hbl⟩ := hrel
      obtain ⟨S, O, T, cs, co, ct, seen, out, todo, bad, hC, hle⟩ := hkeep.out
      have q7 := hC.blk.cell 7 (v := .slice T todo.length ct) rfl
      have z7 := hC.blk.frozen 7
      have q8 := hC.blk.cell 8 (v := .bool bad) rfl
      by_cases hlt : 0 < todo.length
      · cases bad with
        | true =>
          clear z7
          have e5 := hC.blk.cell 5 (v := .slice S seen.length cs) rfl
          have e6 := hC.blk.cell 6 (v := .slice O out.length co) rfl
          have e8 := hC.blk.cell 8 (v := .bool true) rfl
          have hls := hC.ls
          have hlo := hC.lo
          rw [hls] at e5
          rw [hlo] at e6
          have HL := Lib.hid (And.intro hC hls); clear hC hls hlo hkeep
          go_wp2_with fail
          go_quiet (fail)
          go_wp2_with fail
          rw [← HP.out]
          obtain ⟨hC, hls⟩ := HL.out
          exact ⟨below_drewN hbl _, O, S, co, cs, _, out, seen, rfl, hC.lo, hls, (hC.out_.drewN _).base_le hwb2, (hC.seen_.drewN _).base_le hwb2, fun r hr => TryRow.base_le (hC.rows r hr) hwb2⟩
        | false =>
          obtain ⟨t0, x, rfl⟩ : ∃ t0 x, todo = t0 ++ [x] := ⟨todo.dropLast, todo.getLast (List.ne_nil_of_length_pos hlt), (List.dropLast_concat_getLast _).symm⟩
          obtain ⟨k, rfl, hk⟩ := hC.lt x (by simp)
          have htlen : (t0 ++ [(k : Int)]).length = t0.length + 1 := by simp
          rw [htlen] at q7 hle
          obtain ⟨g, rfl, hg1, hg2⟩ := hC.todo_.some_ (by omega)
          have ct' := hC.todo_.cell_int (i := t0.length) (b := (k : Int)) (by simp)
          have hcap := hC.todo_.le_cap.1
          rw [htlen] at hcap
          have r3' := hC.todo_.take_ t0.length (by omega)
          rw [List.take_left' rfl] at r3'
          have w1' : (0 : Int) ≤ ((t0.length : Int) + 1) - 1 := by omega
          have hun := unseen_le seen
          have hls := hC.ls
          have hRlt' := hC.blk.lt
          have hbC := hC.blk
          have HK := Lib.hid (And.intro hC r3'); clear hC r3' htlen hkeep
          go_wp2_with fail
          have hwr : IntKind.i64.wrap ((t0.length : Int) + 1 - 1) = (t0.length : Int) := by rw [IntWalk.i64_in _ (by omega)]; omega
          have w2 : (0 : Int) ≤ (t0.length : Int) := by omega
          have w3 : (t0.length : Int) < (t0.length : Int) + 1 := by omega
          have w4 : (t0.length : Int) ≤ (t0.length : Int) + 1 := by omega
          go_quiet (fail)
          go_wp2_with fail
          have w5 : t0.length ≤ ct := by omega
          refine wp_world (fun W2 => CW W2 wb (wb + 2) n dc DA (.int .i64 pa) (.int .i64 re) (.bool ge) (.slice KA nk kc) S O (some ⟨g, 0, none⟩) cs co ct seen out (t0 ++ [(k : Int)]) false ∧ Own W2 wb 3 (some ⟨g, 0, none⟩) ct t0 ∧ Below w.heap.size w W2) ⟨HK.out.1.fresh ⟨rfl, rfl, rfl, Nat.le_refl _, fun _ _ => rfl⟩, HK.out.2.drewN _, below_drewN hbl _⟩ ?_
          rintro W2 ⟨m1, m3, m4⟩
          have p7 := m1.blk.cell 7 (v := .slice (some ⟨g, 0, none⟩) (t0.length + 1) ct) (by simp)
          have pz := m1.blk.frozen 7
          have hwr2 : IntKind.i64.wrap (t0.length : Int) = (t0.length : Int) := IntWalk.i64_in _ (by clear hwr; omega)
          have hB2 := m1.blk.set_ 7 (.slice (some ⟨g, 0, none⟩) t0.length ct)
          have hnew : CW (W2.setCell ⟨wb + 2, 7, none⟩ (.slice (some ⟨g, 0, none⟩) t0.length ct)) wb (wb + 2) n dc DA (.int .i64 pa) (.int .i64 re) (.bool ge) (.slice KA nk kc) S O (some ⟨g, 0, none⟩) cs co ct seen out t0 false := by
            have hk2 : TryKept W2 (W2.setCell ⟨wb + 2, 7, none⟩ (.slice (some ⟨g, 0, none⟩) t0.length ct)) := TryKept.blk m1.blk (by decide) _ _
            exact ⟨by simpa using hB2, m1.seen_.setCell _ _ (own_ne_ty m1.seen_ m1.blk (by decide)), m1.out_.setCell _ _ (own_ne_ty m1.out_ m1.blk (by decide)), m3.setCell _ _ (own_ne_ty m3 m1.blk (by decide)), m1.base_, m1.ls, m1.lo, fun y hy => m1.lt y (by simp [hy]), fun r hr => hk2.row (m1.rows r hr)⟩
          have hbnew : Below w.heap.size w (W2.setCell ⟨wb + 2, 7, none⟩ (.slice (some ⟨g, 0, none⟩) t0.length ct)).drew := (m4.setCell (p := ⟨wb + 2, 7, none⟩) (by simp; omega) _).drew
          have hfr := cdfrom_any wb (wb + 2) n dc B nf DA (.int .i64 pa) (.int .i64 re) (.bool ge) (.slice KA nk kc) S O (some ⟨g, 0, none⟩) cs co ct seen out t0 false k code _ (hnew.fresh ((Below.refl _ _).drew : Below _ _ (W2.setCell ⟨wb + 2, 7, none⟩ (.slice (some ⟨g, 0, none⟩) t0.length ct)).drew)) (H.out.1.below (hbnew.mono hB)) (by omega) H.out.2.1 hk hn (by omega) H.out.2.2
          have HF := Lib.hid (And.intro hfr hbnew); clear m1 m3 m4 hB2 hnew hfr hbnew q7 z7 hbC
          go_still_tail 14, (by kernel_rfl)
          clear hwr hwr2
          change wpList _ _ _ _ _ (World.drew _)
          go_wp2_with fail
          refine HF.out.1.mono ?_
          rintro e w8 ⟨rfl, hx8, -, hb8⟩
          have H8 := Lib.hid (And.intro hx8 (HF.out.2.trans (hb8.mono hwb2))); clear hx8 hb8
          go_wp2_with fail
          go_roundg (2 * unseen seen + t0.length)
          case measure => omega
          case rel => exact ⟨_, rfl, by omega, H8.out.1, H8.out.2⟩
      · obtain rfl : todo = [] := List.eq_nil_of_length_eq_zero (by omega)
        clear z7
        have e5 := hC.blk.cell 5 (v := .slice S seen.length cs) rfl
        have e6 := hC.blk.cell 6 (v := .slice O out.length co) rfl
        have e8 := hC.blk.cell 8 (v := .bool bad) rfl
        have hls := hC.ls
        have hlo := hC.lo
        rw [hls] at e5
        rw [hlo] at e6
        have HL := Lib.hid (And.intro hC hls); clear hC hls hlo hkeep
        go_wp2_with fail
        go_quiet (fail)
        go_wp2_with fail
        rw [← HP.out]
        obtain ⟨hC, hls⟩ := HL.out
        exact ⟨below_drewN hbl _, O, S, co, cs, _, out, seen, rfl, hC.lo, hls, (hC.out_.drewN _).base_le hwb2, (hC.seen_.drewN _).base_le hwb2, fun r hr => TryRow.base_le (hC.rows r hr) hwb2⟩
end Top
end Go.Proofs.YtdlcooplllimeaaGreatDoor

/- code.All: tries and ways of all functions of a right program. -/
namespace Go.Proofs.YtdlcooplllimeaaGreatDoor
open Go.RowKit

attribute [local go_sem ↓] Go.wp_at_zero Go.wp_at_succ

namespace Top
def OutR (w : World) (base n : Nat) (r : Raw 1) : Prop := ∃ (O : Option Addr) (co : Nat) (out : List (Raw 1)), r.cs = [.slice O n co] ∧ Own w base 139 O co out ∧ out.length = n ∧ ∀ r' ∈ out, TryRow w base r'
def SeenR (w : World) (base n : Nat) (r : Raw 1) : Prop := ∃ (S : Option Addr) (cs : Nat) (seen : List Bool), r.cs = [.slice S n cs] ∧ Own w base 4 S cs seen ∧ seen.length = n
def MAll (t : TypeId) : Prop := t = 180 ∨ t = 76
instance (t : TypeId) : Decidable (MAll t) := by unfold MAll; infer_instance
theorem OutR.kept {w w' : World} {base n : Nat} {r : Raw 1} (h : OutR w base n r) (hk : Kept MAll w w') : OutR w' base n r := by
  obtain ⟨O, co, out, h1, h2, h3, h4⟩ := h
  refine ⟨O, co, out, h1, hk.own h2 (by decide), h3, fun r' hr' => ?_⟩
  obtain ⟨A, c, x, k1, k2, k3⟩ := h4 r' hr'
  exact ⟨A, c, x, k1, hk.own k2 (by decide), k3⟩
theorem SeenR.kept {w w' : World} {base n : Nat} {r : Raw 1} (h : SeenR w base n r) (hk : Kept MAll w w') : SeenR w' base n r := by
  obtain ⟨S, cs, seen, h1, h2, h3⟩ := h
  exact ⟨S, cs, seen, h1, hk.own h2 (by decide), h3⟩
/-- tables as far as they go -/
structure AllT (w : World) (base : Nat) (fns : List Fn) (k : Nat) (A1 A2 : Option Addr) (c1 c2 : Nat) (l1 l2 : List (Raw 1)) : Prop where
  o1 : Own w base 180 A1 c1 l1
  o2 : Own w base 76 A2 c2 l2
  n1 : l1.length = k
  n2 : l2.length = k
  r1 : ∀ (j : Nat) r f, l1[j]? = some r → fns[j]? = some f → OutR w base f.code.length r
  r2 : ∀ (j : Nat) r f, l2[j]? = some r → fns[j]? = some f → SeenR w base f.code.length r
theorem AllT.fresh {w w' : World} {base : Nat} {fns : List Fn} {k : Nat} {A1 A2 : Option Addr} {c1 c2 : Nat} {l1 l2 : List (Raw 1)} (h : AllT w base fns k A1 A2 c1 c2 l1 l2) (hb : Below w.heap.size w w') : AllT w' base fns k A1 A2 c1 c2 l1 l2 :=
  ⟨h.o1.fresh hb, h.o2.fresh hb, h.n1, h.n2, fun j r f a b => (h.r1 j r f a b).kept (Kept.fresh hb), fun j r f a b => (h.r2 j r f a b).kept (Kept.fresh hb)⟩
theorem snoc_rel {α β : Type} {P : β → α → Prop} {l : List α} {m : List β} {k : Nat} {x : α} {y : β} (hl : l.length = k) (h : ∀ (j : Nat) r f, l[j]? = some r → m[j]? = some f → P f r) (hy : m[k]? = some y) (hp : P y x) : ∀ (j : Nat) r f, (l ++ [x])[j]? = some r → m[j]? = some f → P f r := by
  intro j r f hr hf
  by_cases hj : j < l.length
  · rw [List.getElem?_append_left hj] at hr
    exact h j r f hr hf
  · have hj2 : j = k := by
      have := (List.getElem?_eq_some_iff.1 hr).1
      simp at this
      omega
    subst hj2
    rw [List.getElem?_append_right (by omega), hl, Nat.sub_self] at hr
    simp at hr
    subst hr
    rw [hy] at hf
    injection hf with hf
    subst hf
    exact hp
theorem infoTab1 : (Tryz.prog.info? 180).map (fun i => (i.zero, i.size, i.bytes)) = some (some (.slice none 0 0), 1, 24) := by kernel_rfl
theorem infoTab2 : (Tryz.prog.info? 76).map (fun i => (i.zero, i.size, i.bytes)) = some (some (.slice none 0 0), 1, 24) := by kernel_rfl
def raw1 (A : Option Addr) (n c : Nat) : Raw 1 := ⟨[.slice A n c], rfl, by simp [Value.oneCell']⟩
theorem at_raw1 (w : World) (A : Option Addr) (n c : Nat) (e : TypeId) : At (w.alloc (.cells #[.slice A n c] e)) (w.heap.size + 1) (some ⟨w.heap.size, 0, none⟩) [raw1 A n c] :=
  At.built w #[.slice A n c] e [raw1 A n c] rfl (fun _ _ => trivial)
def AllPostT (fns : List Fn) (w : World) (e : Ending) (w' : World) : Prop := Below w.heap.size w w' ∧ ∃ (A1 A2 : Option Addr) (c1 c2 : Nat) (l1 l2 : List (Raw 1)), e = .returned (.tuple #[.slice A1 fns.length c1, .slice A2 fns.length c2]) ∧ AllT w' w.heap.size fns fns.length A1 A2 c1 c2 l1 l2

set_option maxHeartbeats 3200000 in
set_option maxRecDepth 100000 in
theorem codeAll_any (B nf fc nc cc nt tc : Nat) (FA CA TA : Option Addr) (fns : List Fn) (w : World) (hF : At w B FA fns) (hB : B ≤ w.heap.size) (hn : fns.length = nf) (hnf : nf ≤ 60) (hfn : ∀ f ∈ fns, f.code.length ≤ 600 ∧ ∀ i ∈ f.code, tgt nf i) :
    Calls Tryz.prog 34 #[.agg #[.slice FA nf fc, .slice CA nc cc, .slice TA nt tc]] w (AllPostT fns w) := by
  obtain ⟨i0, hi, hz0, hz1, hz2⟩ := info_parts infoTab1
  obtain ⟨j0, hj, hy0, hy1, hy2⟩ := info_parts infoTab2
  have H := Lib.hid (And.intro hF (And.intro hn hfn)); clear hF hn hfn
  obtain ⟨P, hP⟩ : ∃ P, AllPostT fns w = P := ⟨_, rfl⟩
  have HP := Lib.hid hP; rw [hP]; clear hP
  go_enter Tryz.func34, Tryz.ntmps34
  go_wp2_with fail
  go_loopg [4, 5, 14] nf (fun gk lv wv iv wr => ∃ (k : Nat) (A1 A2 : Option Addr) (c1 c2 : Nat) (l1 l2 : List (Raw 1)), k ≤ nf ∧ gk = nf - k ∧ iv = .int .i64 k ∧ lv = .slice A1 l1.length c1 ∧ wv = .slice A2 l2.length c2 ∧ l1.length ≤ k ∧ l2.length ≤ k ∧ Hid (AllT wr w.heap.size fns k A1 A2 c1 c2 l1 l2) ∧ Below w.heap.size w wr)
  case atStart => exact ⟨0, none, none, 0, 0, [], [], Nat.zero_le _, rfl, rfl, rfl, rfl, by simp, by simp, ⟨Own.nil_, Own.nil_, rfl, rfl, fun j r f h => by simp at h, fun j r f h => by simp at h⟩, (Below.refl _ _).alloc (Nat.le_refl _) _⟩
  case round =>
    obtain ⟨k, A1, A2, c1, c2, l1, l2, hk, rfl, rfl, rfl, rfl, hl1, hl2, hkeep, hbl⟩ := hrel
    have hsz := hbl.size
    by_cases hlt : k < nf
    · obtain ⟨b, o, x, KA, kc, DA, dc, rfl, hb, hx, q0, q1, q2, q3, q4, -, -, aD, -⟩ := (H.out.1.below (hbl.mono hB)).fn_ (k := k) (by have := H.out.2.1; omega)
      have hk0 : (0 : Int) ≤ (k : Int) := by omega
      have hk1 : (k : Int) < (nf : Int) := by omega
      have hxm := H.out.2.2 x (List.mem_of_getElem? hx)
      have hba : Below wr.heap.size wr (wr.alloc (.cells #[.int .i64 x.params, .int .i64 x.regs, .bool x.gen, .slice KA x.caught.length kc, .slice DA x.code.length dc] 160)) := (Below.refl _ _).alloc (Nat.le_refl _) _
      have htr := tries_any B x.code.length x.caught.length kc dc nf x.params x.regs x.gen KA DA x.code _ (aD.below (hba.mono (by omega))) (by simp; omega) rfl hxm.1 hxm.2
      have HX := Lib.hid (And.intro hx (And.intro htr (And.intro hba hkeep.out))); clear hx htr hba hkeep aD hxm
      go_wp2_with fail
      refine HX.out.2.1.mono ?_
      rintro e w1 ⟨hb1, O, S, co, cs, ok, out, seen, rfl, ho1, ho2, ho3, ho4, ho5⟩
      have hbl1 : Below wr.heap.size wr w1 := HX.out.2.2.1.trans (hb1.mono (by simp))
      have hT1 := HX.out.2.2.2.fresh hbl1
      have hbase : w.heap.size ≤ (wr.alloc (.cells #[.int .i64 x.params, .int .i64 x.regs, .bool x.gen, .slice KA x.caught.length kc, .slice DA x.code.length dc] 160)).heap.size := by simp; omega
      have hO : OutR w1 w.heap.size x.code.length (raw1 O x.code.length co) := ⟨O, co, out, rfl, ho3.base_le hbase, ho1, fun r hr => (ho5 r hr).base_le hbase⟩
      have hS : SeenR w1 w.heap.size x.code.length (raw1 S x.code.length cs) := ⟨S, cs, seen, rfl, ho4.base_le hbase, ho2⟩
      have hs1 := hbl1.size
      have ha1 := hT1.o1.alloc (.cells #[.slice O x.code.length co] 180)
      have hat1 := at_raw1 w1 O x.code.length co 180
      have H1 := Lib.hid (And.intro hT1 (And.intro hO (And.intro hS (And.intro hbl1 (And.intro ha1 hat1))))); clear hT1 hO hS hbl1 ha1 hat1 ho1 ho2 ho3 ho4 ho5 hb1 hbase q0 q1 q2 q3 q4
      go_wp2_with (at_builtin; go_must (refine wpList_app (α := Raw 1) (n := l1.length) (m := 1) (B := w1.heap.size + 1) (r := [raw1 O x.code.length co]) rfl (.tmp 24) (.tmp 26) _ rfl w.heap.size 180 i0 _ 24 Tryz.underlying101 hi hz0 hz1 hz2 rfl (by decide) raw_one (by rfl) rfl H1.out.2.2.2.2.1 (by rfl) H1.out.2.2.2.2.2 rfl (by omega) (by simp only [maxLen]; omega) (by simp; omega) ?_))
      intro A3 c3 w3 ho3 hg3 hat3
      have hs3 := hg3.size
      simp only [World.size_alloc] at hs3
      have hK3 : Kept MAll w1 w3 := ((Kept.refl w1).alloc _).grown H1.out.2.2.2.2.1 (by decide) hg3
      have hb3 : Below w.heap.size w w3 := ((hbl.trans (H1.out.2.2.2.1.mono hsz)).alloc (by omega) _).grown hg3 (by simp; omega) (fun g hg => (H1.out.2.2.2.2.1.lt g hg).1)
      have ho2' := (H1.out.1.o2.alloc (.cells #[.slice O x.code.length co] 180)).grown hg3 (fun g hg e => own_own_ty (H1.out.1.o2.alloc (.cells #[.slice O x.code.length co] 180)) H1.out.2.2.2.2.1 (by decide) g hg e)
      have ha2 := ho2'.alloc (.cells #[.slice S x.code.length cs] 76)
      have hat2 := at_raw1 w3 S x.code.length cs 76
      have H3 := Lib.hid (And.intro hK3 (And.intro hb3 (And.intro ho3 (And.intro ha2 hat2)))); clear hK3 hb3 ho3 ho2' ha2 hat2 hg3 hat3
      go_wp2_with (at_builtin; go_must (refine wpList_app (α := Raw 1) (n := l2.length) (m := 1) (B := w3.heap.size + 1) (r := [raw1 S x.code.length cs]) rfl (.tmp 28) (.tmp 30) _ rfl w.heap.size 76 j0 _ 24 Tryz.underlying102 hj hy0 hy1 hy2 rfl (by decide) raw_one (by rfl) rfl H3.out.2.2.2.1 (by rfl) H3.out.2.2.2.2 rfl (by omega) (by simp only [maxLen]; omega) (by simp; omega) ?_))
      intro A4 c4 w4 ho4 hg4 hat4
      have hK4 : Kept MAll w1 w4 := (H3.out.1.alloc _).grown H3.out.2.2.2.1 (by decide) hg4
      have hb4 : Below w.heap.size w w4 := (H3.out.2.1.alloc (by omega) _).grown hg4 (by simp; omega) (fun g hg => (H3.out.2.2.2.1.lt g hg).1)
      have ho1' := (H3.out.2.2.1.alloc (.cells #[.slice S x.code.length cs] 76)).grown hg4 (fun g hg e => own_own_ty (H3.out.2.2.1.alloc (.cells #[.slice S x.code.length cs] 76)) H3.out.2.2.2.1 (by decide) g hg e)
      have hnew : AllT w4 w.heap.size fns (k + 1) A3 A4 c3 c4 (l1 ++ [raw1 O x.code.length co]) (l2 ++ [raw1 S x.code.length cs]) := by
        obtain ⟨t1, t2, t3, t4, t5, t6⟩ := H1.out.1
        exact ⟨ho1', ho4, by simp [t3], by simp [t4], snoc_rel t3 (P := fun f r => OutR w4 w.heap.size f.code.length r) (fun j r f a b => (t5 j r f a b).kept hK4) HX.out.1 (H1.out.2.1.kept hK4), snoc_rel t4 (P := fun f r => SeenR w4 w.heap.size f.code.length r) (fun j r f a b => (t6 j r f a b).kept hK4) HX.out.1 (H1.out.2.2.1.kept hK4)⟩
      have e1 : (l1 ++ [raw1 O x.code.length co]).length = l1.length + 1 := by simp
      have e2 : (l2 ++ [raw1 S x.code.length cs]).length = l2.length + 1 := by simp
      have H4 := Lib.hid (And.intro hnew (And.intro hb4 (And.intro e1 e2))); clear hnew hb4 ho1' ho4 hK4 hg4 hat4 e1 e2
      go_wp2_with fail
      go_roundg (nf - (k + 1))
      case measure => omega
      case rel => exact ⟨k + 1, A3, A4, c3, c4, _, _, by omega, rfl, by go_num, by rw [H4.out.2.2.1], by rw [H4.out.2.2.2], by rw [H4.out.2.2.1]; omega, by rw [H4.out.2.2.2]; omega, H4.out.1, H4.out.2.1⟩
    · have hkk : k = fns.length := by have := H.out.2.1; omega
      have h1 := hkeep.out.n1
      have h2 := hkeep.out.n2
      have HK := Lib.hid (And.intro hkeep.out (And.intro h1 (And.intro h2 hkk))); clear hkeep h1 h2 hkk
      go_wp2_with fail
      rw [← HP.out]
      obtain ⟨t, t1, t2, t3⟩ := HK.out
      subst t3
      exact ⟨hbl, A1, A2, c1, c2, l1, l2, by rw [t1, t2]; rfl, t⟩
end Top
end Go.Proofs.YtdlcooplllimeaaGreatDoor
