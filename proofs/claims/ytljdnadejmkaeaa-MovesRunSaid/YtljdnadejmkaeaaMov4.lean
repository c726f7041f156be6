/- moves.Order: moves in a row. -/
import Derived.Test.YtljdnadejmkaeaaMov3
namespace Go.Proofs.Ytljdnadejmkaeaa
open Go.RowKit

/-- a list of which the first k are turned -/
def mapTo {α : Type} (f : α → α) (l : List α) (k : Nat) : List α := (l.take k).map f ++ l.drop k
theorem mapTo_length {α : Type} (f : α → α) (l : List α) (k : Nat) : (mapTo f l k).length = l.length := by simp [mapTo]; omega
theorem mapTo_zero {α : Type} (f : α → α) (l : List α) : mapTo f l 0 = l := by simp [mapTo]
theorem mapTo_all {α : Type} (f : α → α) (l : List α) {k : Nat} (h : l.length ≤ k) : mapTo f l k = l.map f := by simp [mapTo, List.take_of_length_le h, h]
theorem mapTo_get {α : Type} (f : α → α) (l : List α) (k : Nat) (x : α) (h : l[k]? = some x) : (mapTo f l k)[k]? = some x := by
  have hk : k < l.length := (List.getElem?_eq_some_iff.1 h).1
  unfold mapTo
  have hl : ((l.take k).map f).length = k := by simp; omega
  rw [List.getElem?_append_right (by omega), hl, Nat.sub_self, List.getElem?_drop]
  simpa using h
theorem mapTo_set {α : Type} (f : α → α) (l : List α) (k : Nat) (x : α) (h : l[k]? = some x) : (mapTo f l k).set k (f x) = mapTo f l (k + 1) := by
  have hk : k < l.length := (List.getElem?_eq_some_iff.1 h).1
  unfold mapTo
  have hl : ((l.take k).map f).length = k := by simp; omega
  rw [List.set_append_right _ _ (by omega), hl, Nat.sub_self, List.take_add_one, h]
  have e : l.drop k = x :: l.drop (k + 1) := by
    rw [List.drop_eq_getElem_cons hk]
    rw [List.getElem?_eq_getElem hk] at h
    injection h with h
    rw [h]
  rw [e]
  simp
theorem mapTo_skip {α : Type} (f : α → α) (l : List α) (k : Nat) (x : α) (h : l[k]? = some x) (hf : f x = x) : mapTo f l (k + 1) = mapTo f l k := by
  rw [← mapTo_set f l k x h, hf]
  apply List.ext_getElem?
  intro i
  by_cases hi : k = i
  · subst hi
    have := mapTo_get f l k x h
    rw [List.getElem?_set_self (List.getElem?_eq_some_iff.1 this).1, this]
  · rw [List.getElem?_set_ne hi]

def OrderPost (l : List (Int × Int)) (spare : Int) (w : World) (e : Ending) (w' : World) : Prop :=
  Below w.heap.size w w' ∧ ((mvErr l spare = 0 ∧ ∃ A c, e = .returned (.tuple #[.slice A (mvAll l spare).length c, .int .i64 0]) ∧ Own w' w.heap.size 62 A c (mvAll l spare)) ∨
    (mvErr l spare ≠ 0 ∧ e = .returned (.tuple #[.slice none 0 0, .int .i64 (mvErr l spare)])))

set_option maxHeartbeats 3200000 in
set_option maxRecDepth 100000 in
theorem order_any (A : Option Addr) (c B : Nat) (l : List (Int × Int)) (spare : Int) (w : World) (h : At w B A l) (hB : B ≤ w.heap.size) (hl : l.length ≤ 9223372036854775807) (hc : l.length ≤ c) (hsp : I64 spare) :
    Calls Try.prog 21 #[.slice A l.length c, .int .i64 spare] w (OrderPost l spare w) := by
  obtain ⟨i0, hi, hz0, hz1, hz2⟩ := info_parts infoRMove
  have hok := h.ok_
  have hchk := mcheck_any A c B l spare w h hB hl hc
  have H := Lib.hid h; clear h
  have HOK := Lib.hid hok; clear hok
  have HSP := Lib.hid hsp; clear hsp
  obtain ⟨er, her⟩ : ∃ er, mvErr l spare = er := ⟨_, rfl⟩
  have HER := Lib.hid her
  rw [her] at hchk
  have HC := Lib.hid hchk; clear hchk her
  by_cases h0 : er = 0
  rotate_left
  · have hne : (er != 0) = true := by simp [h0]
    have HN := Lib.hid h0; clear h0
    go_enter Try.func21, Try.ntmps21
    go_wp2_with fail
    refine HC.out.mono ?_
    rintro e w1 ⟨rfl, hb1⟩
    go_wp2_with fail
    go_ret2
    exact ⟨hb1, .inr (by rw [HER.out]; exact ⟨HN.out, rfl⟩)⟩
  subst h0
  have hlen : l.length ≤ 60 := by have := HER.out; unfold mvErr at this; split at this <;> omega
  go_enter Try.func21, Try.ntmps21
  go_wp2_with fail
  refine HC.out.mono ?_
  rintro e w1 ⟨rfl, hb1⟩
  have hs1 := hb1.size
  go_wp2_with fail
  refine (cloneRMove_any A c B l w1 (H.out.below (hb1.mono hB)) (by omega) (by omega)).mono ?_
  rintro e w2 ⟨A1, c1, rfl, hown2, hb2⟩
  have hs2 := hb2.size
  have HO2 := Lib.hid hown2; clear hown2
  go_wp2_with fail
  refine (deleteFuncRMove_any A1 c1 w1.heap.size 54 l.length #[] _ l w2 rfl HO2.out HOK.out egOf5 (predSelf l _ w2)).mono ?_
  rintro e w3 ⟨rfl, hown3, hgr3⟩
  have hpr : (l.filter fun x => !decide (x.1 = x.2)) = proper l := by unfold proper; congr 1; funext m; simp
  rw [hpr] at hown3 ⊢
  have hs3 := hgr3.size
  have hbl3 : Below w.heap.size w w3 := (hb1.trans (hb2.mono hs1)).grown hgr3 (by omega) (fun g hg => by have := (HO2.out.lt g hg).1; omega)
  have hpl : (proper l).length ≤ l.length := List.length_filter_le _ _
  have hm0 := mvMeas_le (proper l)
  have hok0 := proper_ok l spare HER.out
  have HST := Lib.hid (And.intro hok0 (And.intro (And.intro hown3 hbl3) hpr)); clear hok0 hown3 hpr hbl3 HO2 hgr3 hb1 hb2
  go_wp2_with fail
  go_loopg [7, 8] (2 * (proper l).length + 2) (fun gk lv ov wr => ∃ (left out : List (Int × Int)) (A3 A4 : Option Addr) (c3 c4 : Nat), lv = .slice A3 left.length c3 ∧ ov = .slice A4 out.length c4 ∧ left.length ≤ 60 ∧ out.length + gk ≤ 122 ∧ mvMeas left < gk ∧
    Hid (mvOk spare left ∧ mvs spare gk left out = mvAll l spare ∧ Own wr w.heap.size 62 A3 c3 left ∧ Own wr w.heap.size 62 A4 c4 out ∧ (∀ g, rowOf A3 = some g → rowOf A4 ≠ some g) ∧ (∀ x ∈ left, Flat.ok x)) ∧ Below w.heap.size w wr)
  case atStart => exact ⟨proper l, [], A1, none, c1, 0, rfl, rfl, by omega, by simp; omega, by omega, ⟨HST.out.1, rfl, HST.out.2.1.1.base_le (by omega), Own.nil_, fun g _ h => (by cases h), fun x hx => HOK.out x (List.mem_filter.1 hx).1⟩, HST.out.2.1.2⟩
  case round =>
    obtain ⟨left, out, A3, A4, c3, c4, rfl, rfl, hl60, hout, hmeas, hkeep, hbl⟩ := hrel
    have hsz := hbl.size
    by_cases hlt : 0 < left.length
    · obtain ⟨k1, k2, k3, k4, k5, k6⟩ := hkeep.out
      have hne : left ≠ [] := List.ne_nil_of_length_pos hlt
      obtain ⟨b, rfl, hb1, hb2⟩ := k3.some_ hlt
      obtain ⟨gk', rfl⟩ : ∃ n, gk = n + 1 := ⟨gk - 1, by omega⟩
      have hfree := mfree_any (some ⟨b, 0, none⟩) c3 wr.heap.size left.length left wr rfl (k3.at_ k6) (Nat.le_refl _) (by omega)
      rw [idx_free k1] at hfree
      have hcp := k3.le_cap
      cases hq : left.any (fre left) with
      | true =>
        rw [if_pos hq] at hfree
        have hstep := mvs_do (spare := spare) (n := gk') (out := out) hne hq
        have hmd := mvMeas_do hq
        have hilt : left.findIdx (fre left) < left.length := by rw [List.findIdx_lt_length]; exact List.any_eq_true.1 hq
        have hel : (left.eraseIdx (left.findIdx (fre left))).length = left.length - 1 := List.length_eraseIdx_of_lt hilt
        obtain ⟨i, hidx⟩ : ∃ i, left.findIdx (fre left) = i := ⟨_, rfl⟩
        rw [hidx] at hfree hstep hmd hilt hel
        obtain ⟨⟨x, y⟩, hx⟩ : ∃ x, left[i]? = some x := ⟨_, List.getElem?_eq_getElem hilt⟩
        have hgd : left.getD i (0, 0) = (x, y) := by rw [List.getD_eq_getElem?_getD, hx]; rfl
        rw [hgd] at hstep
        have HC2 := Lib.hid hfree
        have HM := Lib.hid (And.intro hstep (And.intro hmd (And.intro hel hx)))
        have HK := Lib.hid (And.intro k1 (And.intro k2 (And.intro k3 (And.intro k4 (And.intro k5 k6)))))
        have hi0 : (0 : Int) ≤ (i : Int) := by omega
        have hi1 : (i : Int) < (left.length : Int) := by omega
        clear hfree hstep hmd hx hgd hq hidx hkeep k1 k2 k3 k4 k5 k6 hne hel hcp
        go_wp2_with fail
        refine HC2.out.mono ?_
        rintro e w4 ⟨rfl, hb4⟩
        have hs4 := hb4.size
        have h3 := HK.out.2.2.1.fresh hb4
        have c0 := h3.cells_ (g := b) (o := 0) rfl (i * 2) (.int .i64 x) (by have := flat_get _ i 0 _ HM.out.2.2.2 (by decide); simpa [Flat.sz, Flat.cells] using this)
        have c1' := h3.cells_ (g := b) (o := 0) rfl (i * 2 + 1) (.int .i64 y) (by have := flat_get _ i 1 _ HM.out.2.2.2 (by decide); simpa [Flat.sz, Flat.cells] using this)
        rw [Nat.zero_add] at c0 c1'
        have HO := Lib.hid (And.intro h3 (HK.out.2.2.2.1.fresh hb4)); clear h3
        have hoxy := HK.out.2.2.2.2.2 _ (List.mem_of_getElem? HM.out.2.2.2)
        have HOXY := Lib.hid hoxy; clear hoxy
        go_wp2_with (at_builtin; go_must (refine wpList_app (α := Int × Int) (n := out.length) (m := 1) (B := w4.heap.size + 1) (r := [(x, y)]) rfl (.tmp 28) (.tmp 33) _ rfl w.heap.size 62 i0 _ 16 Try.underlying56 hi hz0 hz1 hz2 rfl (by decide) pair_one (by rfl) rfl (HO.out.2.alloc _) (by rfl) ?_ rfl (by omega) (by simp only [maxLen]; omega) (by simp; omega) ?_))
        · exact At.built w4 _ _ [(x, y)] rfl (by intro z hz; simp at hz; subst hz; exact HOXY.out)
        intro A5 c5 w5 hown5 hgr5 hat5
        have hs5 := hgr5.size
        simp only [World.size_alloc] at hs5
        have h35 : Own w5 w.heap.size 62 (some ⟨b, 0, none⟩) c3 left := (HO.out.1.alloc _).grown hgr5 (fun g hg => fun e => HK.out.2.2.2.2.1 g hg e)
        have HO5 := Lib.hid (And.intro h35 hown5); clear h35 hown5
        have hbl5 : Below w.heap.size w w5 := (((hbl.trans (hb4.mono (by omega))).alloc (by omega) _).grown hgr5 (by simp; omega) (fun g hg => (HO.out.2.lt g hg).1))
        go_wp2_with fail
        refine (deleteRMove_any c3 w.heap.size b i left w5 HO5.out.1 hilt).mono ?_
        rintro e w6 ⟨rfl, hown6, hgr6⟩
        have hs6 := hgr6.size
        have hA5 : rowOf A5 ≠ some b := by
          intro e
          rcases hat5 with h | h
          · exact HK.out.2.2.2.2.1 b rfl (by rw [← h]; exact e)
          · rw [h] at e; injection e with e; omega
        have h56 : Own w6 w.heap.size 62 A5 c5 (out ++ [(x, y)]) := HO5.out.2.grown hgr6 (fun g hg e => by injection e with e; subst e; exact hA5 hg)
        have HO6 := Lib.hid (And.intro hown6 h56); clear hown6 h56
        have HA5 := Lib.hid hA5; clear hA5
        go_wp2_with fail
        go_roundg gk'
        case measure => omega
        case rel => exact ⟨left.eraseIdx i, out ++ [(x, y)], some ⟨b, 0, none⟩, A5, c3, c5, by rw [HM.out.2.2.1], by rw [List.length_append]; rfl, by rw [HM.out.2.2.1]; omega, by rw [List.length_append, List.length_singleton]; omega, by have := HM.out.2.1; omega, ⟨HK.out.1.erase i, by rw [← HM.out.1]; exact HK.out.2.1, HO6.out.1, HO6.out.2, fun g hg e => HA5.out (e.trans hg.symm), fun z hz => HK.out.2.2.2.2.2 z (List.mem_of_mem_eraseIdx hz)⟩, hbl5.grown hgr6 (by omega) (fun g hg => by injection hg with hg; omega)⟩
      | false =>
        rw [if_neg (by simp [hq])] at hfree
        have hstep := mvs_cyc (spare := spare) (n := gk') (out := out) hne hq
        have hmd := mvMeas_cyc (spare := spare) hne hq k1
        obtain ⟨⟨x, y⟩, hx⟩ : ∃ x, left[0]? = some x := ⟨_, List.getElem?_eq_getElem hlt⟩
        have hhd : left.headD (0, 0) = (x, y) := by cases left with
          | nil => cases hx
          | cons a r => simp at hx; simp [hx]
        rw [hhd] at hstep hmd
        have hoxy := k6 _ (List.mem_of_getElem? hx)
        have HC2 := Lib.hid hfree
        have HM := Lib.hid (And.intro hstep (And.intro hmd hx))
        have HK := Lib.hid (And.intro k1 (And.intro k2 (And.intro k3 (And.intro k4 (And.intro k5 (And.intro k6 hoxy))))))
        have hi1 : (0 : Int) < (left.length : Int) := by omega
        clear hfree hstep hmd hx hhd hq hkeep k1 k2 k3 k4 k5 k6 hne hcp hoxy
        go_wp2_with fail
        refine HC2.out.mono ?_
        rintro e w4 ⟨rfl, hb4⟩
        have hs4 := hb4.size
        have h3 := HK.out.2.2.1.fresh hb4
        have c0 := h3.cells_ (g := b) (o := 0) rfl 0 (.int .i64 x) (by have := flat_get _ 0 0 _ HM.out.2.2 (by decide); simpa [Flat.sz, Flat.cells] using this)
        rw [Nat.zero_add] at c0
        have HO := Lib.hid (And.intro h3 (HK.out.2.2.2.1.fresh hb4)); clear h3
        go_wp2_with (at_builtin; go_must (refine wpList_app (α := Int × Int) (n := out.length) (m := 1) (B := w4.heap.size + 1) (r := [(spare, x)]) rfl (.tmp 44) (.tmp 48) _ rfl w.heap.size 62 i0 _ 16 Try.underlying56 hi hz0 hz1 hz2 rfl (by decide) pair_one (by rfl) rfl (HO.out.2.alloc _) (by rfl) ?_ rfl (by omega) (by simp only [maxLen]; omega) (by simp; omega) ?_))
        · exact At.built w4 _ _ [(spare, x)] rfl (by intro z hz; simp at hz; subst hz; exact ⟨HSP.out, HK.out.2.2.2.2.2.2.1⟩)
        intro A5 c5 w5 hown5 hgr5 hat5
        have hs5 := hgr5.size
        simp only [World.size_alloc] at hs5
        have h35 : Own w5 w.heap.size 62 (some ⟨b, 0, none⟩) c3 left := (HO.out.1.alloc _).grown hgr5 (fun g hg => fun e => HK.out.2.2.2.2.1 g hg e)
        have hA5 : ∀ g, b = g → rowOf A5 ≠ some g := by
          intro g hg e
          subst hg
          rcases hat5 with h | h
          · exact HK.out.2.2.2.2.1 b rfl (by rw [← h]; exact e)
          · rw [h] at e; injection e with e; omega
        have HO5 := Lib.hid (And.intro h35 (And.intro hown5 hA5)); clear h35 hown5 hA5
        have hbl5 : Below w.heap.size w w5 := (((hbl.trans (hb4.mono (by omega))).alloc (by omega) _).grown hgr5 (by simp; omega) (fun g hg => (HO.out.2.lt g hg).1))
        have hsz5 := hbl5.size
        clear hat5 hgr5 c0
        go_wp2_with fail
        go_loopg [52] (left.length) (fun gi iv wi => ∃ k : Nat, k ≤ left.length ∧ gi = left.length - k ∧ iv = .int .i64 k ∧ Hid (Own wi w.heap.size 62 (some ⟨b, 0, none⟩) c3 (mapTo (cyc spare x) left k) ∧ Own wi w.heap.size 62 A5 c5 (out ++ [(spare, x)])) ∧ Below w.heap.size w wi ∧ w5.heap.size ≤ wi.heap.size)
        case atStart => exact ⟨0, Nat.zero_le _, rfl, rfl, ⟨by rw [mapTo_zero]; exact HO5.out.1, HO5.out.2.1⟩, hbl5, Nat.le_refl _⟩
        case round =>
          obtain ⟨k, hk, rfl, rfl, hkeep, hbl6, hsz6⟩ := hrel
          by_cases hklt : k < left.length
          · obtain ⟨⟨p, q⟩, hx⟩ : ∃ x, left[k]? = some x := ⟨_, List.getElem?_eq_getElem hklt⟩
            have hg := mapTo_get (cyc spare x) left k _ hx
            have h3 := hkeep.out.1
            have c0 := h3.cells_ (g := b) (o := 0) rfl (k * 2 + 1) (.int .i64 q) (by have := flat_get _ k 1 _ hg (by decide); simpa [Flat.sz, Flat.cells] using this)
            rw [Nat.zero_add] at c0
            have z0 := h3.frozen (g := b) rfl (k * 2 + 1)
            have hk0 : (0 : Int) ≤ (k : Int) := by omega
            have hk1 : (k : Int) < (left.length : Int) := by omega
            by_cases hqx : q = x
            · subst hqx
              have hset : Own (wr.setCell ⟨b, k * 2 + 1, none⟩ (.int .i64 spare)) w.heap.size 62 (some ⟨b, 0, none⟩) c3 (mapTo (cyc spare q) left (k + 1)) := by
                have := h3.set_ (i := k) (j := 1) (x := (p, q)) (y := (p, spare)) (u := .int .i64 spare) rfl hg (by decide) rfl
                rw [← mapTo_set (cyc spare q) left k _ hx, show cyc spare q (p, q) = (p, spare) by simp [cyc]]
                exact this
              have hoth : Own (wr.setCell ⟨b, k * 2 + 1, none⟩ (.int .i64 spare)) w.heap.size 62 A5 c5 (out ++ [(spare, q)]) := hkeep.out.2.setCell _ _ (HO5.out.2.2 b rfl)
              have HN := Lib.hid (And.intro hset hoth)
              clear hset hoth h3 hg hkeep hx
              go_wp2_with fail
              go_roundg (left.length - (k + 1))
              case measure => omega
              case rel => exact ⟨k + 1, by omega, rfl, by go_num, HN.out, hbl6.setCell (by simp; omega) _, by simp [World.setCell]; omega⟩
            · have hf : cyc spare x (p, q) = (p, q) := by simp [cyc, hqx]
              have hq2 : (q == x) = false := by simpa using hqx
              have HN := Lib.hid (And.intro (mapTo_skip _ _ _ _ hx hf) hkeep.out)
              clear h3 hg hkeep hx hf hqx
              go_wp2_with fail
              go_roundg (left.length - (k + 1))
              case measure => omega
              case rel => exact ⟨k + 1, by omega, rfl, by go_num, by unfold Hid; rw [HN.out.1]; exact HN.out.2, hbl6, hsz6⟩
          · have hend := hkeep.out
            rw [mapTo_all _ _ (by omega)] at hend
            have HN := Lib.hid hend
            clear hend hkeep
            go_wp2_with fail
            go_roundg gk'
            case measure => omega
            case rel => exact ⟨left.map (cyc spare x), out ++ [(spare, x)], some ⟨b, 0, none⟩, A5, c3, c5, by rw [List.length_map], by rw [List.length_append]; rfl, by rw [List.length_map]; omega, by rw [List.length_append, List.length_singleton]; omega, by have := HM.out.2.1; omega, ⟨HK.out.1.cyc, by rw [← HM.out.1]; exact HK.out.2.1, HN.out.1, HN.out.2, fun g hg => HO5.out.2.2 g (by injection hg), fun z hz => by
              obtain ⟨u, hu, rfl⟩ := List.mem_map.1 hz
              have := HK.out.2.2.2.2.2.1 u hu
              unfold cyc
              split
              · exact ⟨this.1, HSP.out⟩
              · exact this⟩, hbl6⟩
    · obtain rfl : left = [] := List.eq_nil_of_length_eq_zero (by omega)
      have hfin := hkeep.out.2.1
      rw [mvs_end] at hfin
      have HF := Lib.hid hfin; clear hfin
      have HO := Lib.hid hkeep.out.2.2.2.1
      clear hkeep
      go_wp2_with fail
      go_ret2
      exact ⟨hbl, .inl ⟨HER.out, A4, c4, by rw [HF.out]; rfl, by rw [← HF.out]; exact HO.out⟩⟩

end Go.Proofs.Ytljdnadejmkaeaa
