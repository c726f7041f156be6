/- mark: step. -/
import Derived.Test.YtpkccpegdpodoaaMkI
namespace Go.Proofs.Ytpkccpegdpodoaa
open Go.RowKit

attribute [local go_sem ↓] Go.wp_at_zero Go.wp_at_succ

theorem egStep1 : ∀ args w, (callFunc 197 args).run Try.prog w = .ok (.enter 197 args) w := fun _ _ => by kernel_rfl
theorem step1_any (a : Value) (x : Int) (b : Bool) (w : World) : Calls Try.prog 197 #[.agg #[a, .int .i64 x, .bool b]] w fun e w' => e = .returned (.bool (decide (x = 1))) ∧ Below w.heap.size w w' := by
  by_cases h : x = 1
  · subst h
    go_enter Try.func197, Try.ntmps197
    go_wp2
    go_ret
    exact ⟨rfl, (Below.refl _ _).alloc (Nat.le_refl _) _⟩
  · have d0 : (x == 1) = false := by simpa using h
    have HH := Lib.hid h; clear h
    go_enter Try.func197, Try.ntmps197
    go_wp2
    go_ret
    exact ⟨by rw [decide_eq_false HH.out]; rfl, (Below.refl _ _).alloc (Nat.le_refl _) _⟩

theorem any_snocJ {α : Type} (p : α → Bool) (l : List α) (k : Nat) (x : α) (h : l[k]? = some x) : (l.take (k + 1)).any p = ((l.take k).any p || p x) := by
  rw [List.take_add_one, h]; simp [List.any_append]

def gIdx (s : List It) : Int := if greyAt s < s.length then (greyAt s : Int) else -1

set_option maxHeartbeats 800000 in
set_option maxRecDepth 100000 in
theorem indexThing_any (w : World) (base N c : Nat) (F : Nat → Prop) (A : Option Addr) (l : List ItR) (s : List It) (h : Its w base F 187 A c l) (hl : its l = s) (hn : l.length = N) (hs : N ≤ 100) :
    Calls Try.prog 196 #[.slice A N c, .func (.func 197) #[] #[]] w fun e w' => e = .returned (.int .i64 (gIdx s)) ∧ Below w.heap.size w w' := by
  have H := Lib.hid (And.intro h (And.intro hl hn)); clear h hl hn
  have HE := Lib.hid egStep1
  have eg := egStep1
  go_enter Try.func196, Try.ntmps196
  go_wp2_with fail
  go_loopg [8] N (fun gk i wr => ∃ k : Nat, k ≤ N ∧ gk = N - k ∧ i = .int .i64 k ∧ Hid ((s.take k).any (fun x => decide (x.st = 1)) = false) ∧ Below w.heap.size w wr)
  case atStart => exact ⟨0, Nat.zero_le _, rfl, rfl, by simp [Hid], Below.refl _ _⟩
  case round =>
    obtain ⟨k, hk, rfl, rfl, hno, hbl⟩ := hrel
    have hsz := hbl.size
    by_cases hlt : k < N
    · obtain ⟨x, hx⟩ : ∃ x, l[k]? = some x := ⟨_, List.getElem?_eq_getElem (by have := H.out.2.2; omega)⟩
      obtain ⟨g, rfl, hg1, hg2, q0, q1, q2⟩ := (H.out.1.fresh hbl).cells hx
      have hsx : s[k]? = some x.it := by rw [← H.out.2.1]; exact its_get hx
      have hk0 : (0 : Int) ≤ (k : Int) := by omega
      have hk1 : (k : Int) < (N : Int) := by omega
      obtain ⟨y, hy⟩ : ∃ y, x.st = y := ⟨_, rfl⟩
      rw [hy] at q1
      have hcall := step1_any (.slice x.A x.has.length x.c) y x.held
      by_cases he : y = 1
      · have hfin : greyAt s = k ∧ k < s.length := by
          have hh := idxI_hit (fun x : It => decide (x.st = 1)) s k x.it hsx (by show decide (x.st = 1) = true; rw [hy]; simpa using he) hno.out
          have hany : s.any (fun x : It => decide (x.st = 1)) = true := List.any_eq_true.2 ⟨_, List.mem_of_getElem? hsx, by show decide (x.st = 1) = true; rw [hy]; simpa using he⟩
          unfold idxI at hh
          rw [if_pos hany] at hh
          have hgr : s.findIdx (fun x : It => decide (x.st = 1)) = greyAt s := rfl
          exact ⟨by omega, (List.getElem?_eq_some_iff.1 hsx).1⟩
        have HC := Lib.hid (And.intro hcall hfin); clear hcall hfin hx hsx hy
        subst he
        go_wp2_with (go_at_fn 197; refine Calls.mono (HC.out.1 _) ?_; rintro e w' ⟨rfl, hb'⟩; rw [decide_eq_true rfl])
        go_ret
        exact ⟨by unfold gIdx; rw [HC.out.2.1, if_pos HC.out.2.2]; rfl, hbl.trans (hb'.mono hsz)⟩
      · have hsn := any_snocJ (fun x : It => decide (x.st = 1)) s k x.it hsx
        have hp : decide (x.it.st = 1) = false := by show decide (x.st = 1) = false; rw [hy]; simpa using he
        rw [hno.out, hp] at hsn
        have HC := Lib.hid (And.intro hcall (And.intro hsn (decide_eq_false he))); clear hcall hsn hx hsx hy hp he
        go_wp2_with (go_at_fn 197; refine Calls.mono (HC.out.1 _) ?_; rintro e w' ⟨rfl, hb'⟩; rw [HC.out.2.2])
        go_roundg (N - (k + 1))
        case measure => omega
        case rel => exact ⟨k + 1, by omega, rfl, by go_num, HC.out.2.1, hbl.trans (hb'.mono hsz)⟩
    · have hfin : ¬ greyAt s < s.length := by
        have h1 := hno.out
        have : s.length = l.length := by rw [← H.out.2.1, its_length]
        rw [List.take_of_length_le (by have := H.out.2.2; omega)] at h1
        intro hg
        have h2 := List.any_eq_false.1 h1 (s[greyAt s]) (List.getElem_mem hg)
        have h3 := List.findIdx_getElem (p := fun x : It => decide (x.st = 1)) (w := hg)
        exact h2 h3
      have HN := Lib.hid hfin; clear hfin hno
      go_wp2_with fail
      go_ret
      exact ⟨by unfold gIdx; rw [if_neg HN.out]; rfl, hbl⟩

set_option maxHeartbeats 1600000 in
set_option maxRecDepth 100000 in
theorem step_any (w : World) (base p : Nat) (F : Nat → Prop) (kind : Int) (s : List It) (h : Mkr w base F p kind true s) (hi : MInv kind true s) :
    Calls Try.prog 179 #[.pointer (some ⟨p, 0, none⟩)] w fun e w' => e = .returned (.bool (decide (greyAt s < s.length))) ∧ Mkr w' base F p kind true (if greyAt s < s.length then stepI s else s) ∧ Touch F w w' := by
  have hs := hi.small
  have HI := Lib.hid hi; clear hi
  have HM := Lib.hid h
  obtain ⟨A, c, l, h1, h2, h3, h4, h5⟩ := h
  obtain ⟨L, hL⟩ : ∃ L, l.length = L := ⟨_, rfl⟩
  have hll : s.length = l.length := by rw [← h5, its_length]
  rw [hL] at h1 hll
  have hix := Lib.hid (indexThing_any w base L c F A l s h2 h5 hL (by omega))
  have c2 := h1.cell 2 (v := .slice A L c) rfl
  have H := Lib.hid (And.intro h1 (And.intro h2 (And.intro h3 (And.intro h5 (And.intro hL hll))))); clear h1 h2 h3 h5 hL hll
  by_cases hg : greyAt s < s.length
  · have hgi : gIdx s = (greyAt s : Int) := if_pos hg
    rw [hgi] at hix
    simp only [if_pos hg, decide_eq_true hg]
    obtain ⟨t, ht⟩ : ∃ t, greyAt s = t := ⟨_, rfl⟩
    rw [ht] at hix hg
    have HG := Lib.hid (And.intro ht hg); clear ht hg hgi
    have ht0 : ¬ (t : Int) < 0 := by omega
    go_enter Try.func179, Try.ntmps179
    go_wp2_with fail
    refine hix.out.mono ?_
    rintro e w1 ⟨rfl, hb1⟩
    have hs1 := hb1.size
    clear c2
    have m1 := H.out.1.fresh hb1
    have m2 := H.out.2.1.fresh hb1
    obtain ⟨x, hx⟩ : ∃ x, l[t]? = some x := ⟨_, List.getElem?_eq_getElem (by have := HG.out.2; have := H.out.2.2.2.2.1; have := H.out.2.2.2.2.2; omega)⟩
    obtain ⟨g, rfl, hg1, hg2, q0, q1, q2⟩ := m2.cells hx
    have p0 := m1.cell 2 (v := .slice (some ⟨g, 0, none⟩) L c) rfl
    have zz := m2.row.frozen (g := g) rfl (t * 3 + 1)
    have hplt := m1.lt
    have hst := m2.setSt hx (by decide) 2 (by unfold I64; omega)
    have hblk := m1.far (p := ⟨g, t * 3 + 1, none⟩) (fun e => own_ne_ty m2.row m1 (by decide) (by rw [e]; rfl)) (.int .i64 2)
    have hits := its_set l t x { x with st := 2 } (It.setst 2) hx rfl
    rw [H.out.2.2.2.1] at hits
    obtain ⟨hxo, hxF, hxi, hxs⟩ := m2.sub t x hx
    have hgF := m2.foot g rfl
    have hsx : s[t]? = some x.it := by rw [← H.out.2.2.2.1]; exact its_get hx
    obtain ⟨XA, xc, xh, xs, xb⟩ := x
    simp only at q0 q1 q2 hxo hxi hxs hits hst hsx hxF
    have hxr : ∀ z ∈ xh, z = -1 ∨ ∃ n : Nat, z = (n : Int) ∧ n < s.length := fun z hz => (HI.out.refs _ (List.mem_of_getElem? hsx) z hz).imp id (fun ⟨n, e, e2, _⟩ => ⟨n, e, e2⟩)
    have hx10 : xh.length ≤ 10 := HI.out.long _ (List.mem_of_getElem? hsx)
    have hstep : stepI s = shadeL true xh (s.modify t (It.setst 2)) := by unfold stepI; rw [HG.out.1, hsx]; simp [ItR.it]
    have hxo2 := hxo.intKeep (IntKeep.set m2.row (by decide) (t * 3 + 1) (.int .i64 2))
    have hlen1 : (l.set t { A := XA, c := xc, has := xh, st := 2, held := xb }).length = L := by rw [List.length_set]; exact H.out.2.2.2.2.1
    obtain ⟨xn, hxn⟩ : ∃ n, xh.length = n := ⟨_, rfl⟩
    rw [hxn] at q0 hx10
    have hc0 := hst.cells (i := t) (x := { A := XA, c := xc, has := xh, st := 2, held := xb }) (by rw [List.getElem?_set_self (List.getElem?_eq_some_iff.1 hx).1])
    obtain ⟨g', hgg, -, -, u0, -, -⟩ := hc0
    injection hgg with hgg; injection hgg with hgg; subst hgg
    simp only [hxn] at u0
    have t0 : (0 : Int) ≤ (t : Int) := by omega
    have t1 : (t : Int) < (L : Int) := by have := HG.out.2; have := H.out.2.2.2.2.2; omega
    have HW := Lib.hid (And.intro hst (And.intro hblk (And.intro hits (And.intro hxo2 (And.intro hxr (And.intro hstep (And.intro hlen1 (And.intro hxn (And.intro hgF (And.intro H.out.2.2.1 hb1))))))))))
    have up0 := hblk.cell 2 (v := .slice (some ⟨g, 0, none⟩) L c) rfl
    clear m1 m2 hst hblk hits hxo hxo2 hxr hstep hx hsx hlen1 hxn hxi hxF q2
    go_wp2_with fail
    refine wp_world (fun W => Blk W p 182 #[.int .i64 kind, .bool true, .slice (some ⟨g, 0, none⟩) L c] ∧ Its W base F 187 (some ⟨g, 0, none⟩) c (l.set t { A := XA, c := xc, has := xh, st := 2, held := xb }) ∧ Own W base 3 XA xc xh ∧ Touch F w W) ⟨HW.out.2.1, HW.out.1, HW.out.2.2.2.1, ((Touch.ofBelow HW.out.2.2.2.2.2.2.2.2.2.2).setCell HW.out.2.2.2.2.2.2.2.2.1 _)⟩ ?_
    rintro W ⟨v1, v2, v3, v4⟩
    have hMd : Mkr W base F p kind true (s.modify t (It.setst 2)) := ⟨_, c, _, by rw [HW.out.2.2.2.2.2.2.1]; exact v1, v2, HW.out.2.2.2.2.2.2.2.2.2.1, h4, HW.out.2.2.1⟩
    have HV := Lib.hid (And.intro hMd (And.intro v3 v4))
    clear v1 v2 v3 v4 hMd up0 u0 q0 q1 zz p0
    go_loopg [29] xn (fun gk iv wr => ∃ k : Nat, k ≤ xn ∧ gk = xn - k ∧ iv = .int .i64 k ∧ Hid (Mkr wr base F p kind true (shadeL true (xh.take k) (s.modify t (It.setst 2))) ∧ Own wr base 3 XA xc xh) ∧ Touch F w wr)
    case atStart => exact ⟨0, Nat.zero_le _, rfl, rfl, ⟨HV.out.1, HV.out.2.1⟩, HV.out.2.2⟩
    case round =>
      obtain ⟨k, hk, rfl, rfl, hkeep, hT⟩ := hrel
      by_cases hlt : k < xn
      · obtain ⟨z, hz⟩ : ∃ z, xh[k]? = some z := ⟨_, List.getElem?_eq_getElem (by have := HW.out.2.2.2.2.2.2.2.1; omega)⟩
        obtain ⟨gx, rfl, hx1, hx2⟩ := hkeep.out.2.some_ (by have := HW.out.2.2.2.2.2.2.2.1; omega)
        have z0 := hkeep.out.2.cell_int hz
        have b0 : (0 : Int) ≤ (k : Int) := by omega
        have b1 : (k : Int) < (xn : Int) := by omega
        have hzr := HW.out.2.2.2.2.1 z (List.mem_of_getElem? hz)
        have hsn := shadeL_snoc true xh k z (s.modify t (It.setst 2)) hz
        have hll : (shadeL true (xh.take k) (s.modify t (It.setst 2))).length = s.length := by rw [shadeL_length]; simp
        have hsh := mshade_any wr base p F kind z true (shadeL true (xh.take k) (s.modify t (It.setst 2))) hkeep.out.1 (by rw [hll]; exact hzr) (by rw [hll]; omega)
        rw [← hsn] at hsh
        have HS := Lib.hid hsh; clear hsh hsn hz hzr hll
        go_wp2_with fail
        refine HS.out.mono ?_
        rintro e w5 ⟨rfl, h5a, h5b, h5c, h5d⟩
        have HF := Lib.hid (And.intro h5a (And.intro (hkeep.out.2.intKeep h5c) (hT.trans h5b))); clear h5a h5b h5c h5d hkeep z0
        go_wp2_with fail
        go_roundg (xn - (k + 1))
        case measure => omega
        case rel => exact ⟨k + 1, by omega, rfl, by go_num, ⟨HF.out.1, HF.out.2.1⟩, HF.out.2.2⟩
      · have hfin := hkeep.out.1
        rw [List.take_of_length_le (by have := HW.out.2.2.2.2.2.2.2.1; omega), ← HW.out.2.2.2.2.2.1] at hfin
        have HF := Lib.hid hfin; clear hfin hkeep
        go_wp2_with fail
        go_ret
        exact ⟨rfl, HF.out, hT⟩
  · have hgi : gIdx s = -1 := if_neg hg
    rw [hgi] at hix
    simp only [if_neg hg, decide_eq_false hg]
    clear hg hgi
    go_enter Try.func179, Try.ntmps179
    go_wp2_with fail
    refine hix.out.mono ?_
    rintro e w1 ⟨rfl, hb1⟩
    have HZ := Lib.hid (And.intro (HM.out.fresh hb1) hb1); clear hb1
    go_wp2_with fail
    go_ret
    exact ⟨rfl, HZ.out.1, Touch.ofBelow HZ.out.2⟩

end Go.Proofs.Ytpkccpegdpodoaa
