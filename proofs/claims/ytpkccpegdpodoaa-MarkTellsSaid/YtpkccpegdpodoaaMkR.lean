/- R.Has at ints; R.Model: gone. -/
import Derived.Test.YtpkccpegdpodoaaMkQ
import Derived.Test.YtpkccpegdpodoaaMarkP
namespace Go.Proofs.Ytpkccpegdpodoaa
open Go.RowKit

attribute [local go_sem ↓] Go.wp_at_zero Go.wp_at_succ

theorem contains_take {l : List Int} {x : Int} {k : Nat} {y : Int} (h : l[k]? = some y) : (l.take (k + 1)).contains x = ((l.take k).contains x || x == y) := by
  rw [List.take_add_one, h, Option.toList_some, Bool.eq_iff_iff, List.contains_iff_mem, Bool.or_eq_true, List.contains_iff_mem]
  simp

set_option maxHeartbeats 800000 in
set_option maxRecDepth 100000 in
theorem rhas_any (A : Option Addr) (c B n : Nat) (l : List Int) (x : Int) (w : World) (hn : l.length = n) (h : At w B A l) (hl : n ≤ 9223372036854775807) :
    Calls Try.prog 109 #[.slice A n c, .int .i64 x] w fun e w' => e = .returned (.bool (l.contains x)) ∧ w = w' := by
  have H := Lib.hid (And.intro h hn); clear h hn
  obtain ⟨r, hr⟩ : ∃ r, l.contains x = r := ⟨_, rfl⟩
  rw [hr]
  have HR := Lib.hid hr; clear hr
  go_enter Try.func109, Try.ntmps109
  go_wp2
  go_loopg [9] n (fun gk i wr => ∃ k : Nat, k ≤ n ∧ gk = n - k ∧ i = .int .i64 k ∧ Hid ((l.take k).contains x = false) ∧ w = wr)
  case atStart => exact ⟨0, Nat.zero_le _, rfl, rfl, by simp [Hid], rfl⟩
  case round =>
    obtain ⟨k, hk, rfl, rfl, hno, rfl⟩ := hrel
    by_cases hlt : k < n
    · obtain ⟨b, o, y, rfl, hb, hy, hyi, h0⟩ := H.out.1.int_ (k := k) (by have := H.out.2; omega)
      have b0 : (0 : Int) ≤ (k : Int) := by omega
      have b1 : (k : Int) < (n : Int) := by omega
      have hct := contains_take (x := x) hy
      rw [hno.out] at hct
      by_cases hxy : x = y
      · have hxy1 : (x == y) = true := by simpa using hxy
        have hrt : r = true := by rw [← HR.out]; exact List.contains_iff_mem.2 (hxy ▸ List.mem_of_getElem? hy)
        subst hrt
        clear hxy hy hct
        go_wp2
        go_ret
        exact ⟨rfl, rfl⟩
      · have hxy2 : (x == y) = false := by simpa using hxy
        rw [hxy2] at hct
        have HC := Lib.hid hct; clear hxy hy hct
        go_wp2
        go_roundg (n - (k + 1))
        case measure => omega
        case rel => exact ⟨k + 1, by omega, rfl, by go_num, HC.out, rfl⟩
    · have hrf : r = false := by
        rw [← HR.out]
        have h1 := hno.out
        rw [List.take_of_length_le (by have := H.out.2; omega)] at h1
        exact h1
      subst hrf
      go_wp2
      go_ret
      exact ⟨rfl, rfl⟩

set_option maxHeartbeats 3200000 in
set_option maxRecDepth 100000 in
theorem gone_any (w : World) (base lb p q lc : Nat) (F : Nat → Prop) (nu kind v : Int) (mk : Bool) (s : List It) (LA : Option Addr) (ls : List Int) (h : Mdl w base F p nu kind mk s) (hl : Own w lb 3 LA lc ls) (hlF : ∀ g, rowOf LA = some g → ¬ F g)
    (hin : ∀ x ∈ ls, ∃ n : Nat, x = (n : Int) ∧ n < s.length) (hq : ls.length = q) (hs : s.length ≤ 100) (hx10 : ∀ x ∈ s, x.has.length ≤ 10) (hv : I64 v) :
    Calls Try.prog 134 #[.pointer (some ⟨p, 0, none⟩), .slice LA q lc, .int .i64 v] w fun e w' => e = .returned (.int .i64 q) ∧ Mdl w' base F p nu kind mk (goneI ls v s) ∧ Touch F w w' := by
  obtain ⟨A, c, hA⟩ := h
  have hcap := hl.le_cap
  have hq9 : q ≤ 9223372036854775807 := by have := hcap.2; unfold maxLen at this; omega
  have hok : ∀ x ∈ ls, Flat.ok x := fun x hx => by obtain ⟨n, rfl, hn⟩ := hin x hx; show I64 _; unfold I64; omega
  have HV := Lib.hid hv
  have H := Lib.hid (And.intro hA (And.intro hl (And.intro hlF (And.intro hin (And.intro hq (And.intro hx10 hok)))))); clear hA hl hlF hin hq hx10 hv hcap hok
  go_enter Try.func134, Try.ntmps134
  go_wp2_with fail
  go_loopg [14] q (fun gk iv wr => ∃ (k : Nat), k ≤ q ∧ gk = q - k ∧ iv = .int .i64 k ∧ Hid (MdlA wr base F p nu kind mk A c (goneK (ls.take k) v s) ∧ Own wr lb 3 LA lc ls) ∧ Touch F w wr)
  case atStart => exact ⟨0, Nat.zero_le _, rfl, rfl, ⟨by rw [List.take_zero, goneK_nil]; exact H.out.1, H.out.2.1⟩, Touch.refl _ _⟩
  case round =>
    obtain ⟨k, hk, rfl, rfl, hkeep, hT⟩ := hrel
    by_cases hlt : k < q
    · obtain ⟨z, hz⟩ : ∃ z, ls[k]? = some z := ⟨_, List.getElem?_eq_getElem (by have := H.out.2.2.2.2.1; omega)⟩
      obtain ⟨gl, rfl, hgl1, hgl2⟩ := hkeep.out.2.some_ (by have := H.out.2.2.2.2.1; omega)
      have z0 := hkeep.out.2.cell_int hz
      obtain ⟨n, rfl, hn⟩ := H.out.2.2.2.1 z (List.mem_of_getElem? hz)
      obtain ⟨l, m1, m2, m3, m4, m5⟩ := hkeep.out.1
      have hll : l.length = s.length := by rw [← its_length, m5, goneK_length]
      obtain ⟨L, hL⟩ : ∃ L, l.length = L := ⟨_, rfl⟩
      have m1' := m1
      rw [hL] at m1'
      obtain ⟨x, hx⟩ : ∃ x, l[n]? = some x := ⟨_, List.getElem?_eq_getElem (by omega)⟩
      obtain ⟨g, rfl, hg1, hg2, q0, q1, q2⟩ := m2.cells hx
      have p0 := m1'.cell 0 (v := .slice (some ⟨g, 0, none⟩) L c) rfl
      have y0 := m2.row.frozen (g := g) rfl (n * 3)
      have y1 := m2.row.frozen (g := g) rfl (n * 3 + 1)
      have y2 := m2.row.frozen (g := g) rfl (n * 3 + 2)
      have b0 : (0 : Int) ≤ (k : Int) := by omega
      have b1 : (k : Int) < (q : Int) := by omega
      have n0 : (0 : Int) ≤ (n : Int) := by omega
      have n1 : (n : Int) < (L : Int) := by omega
      have hne : p ≠ g := fun e => own_ne_ty m2.row m1 (by decide) (by rw [← e]; rfl)
      have hgF := m2.foot g rfl
      have hglg : gl ≠ g := fun e => own_own_ty m2.row hkeep.out.2 (by decide) g rfl (by rw [← e]; rfl)
      have hgone := m2.setGone hx (by decide) v HV.out
      have hits := its_set l n x ⟨none, 0, [], v, false⟩ (fun _ => ⟨[], v, false⟩) hx rfl
      rw [m5, ← goneK_snoc] at hits
      have htk : ls.take (k + 1) = ls.take k ++ [(n : Int)] := by rw [List.take_add_one, hz]; rfl
      rw [← htk] at hits
      have hbl := ((m1.far (p := ⟨g, n * 3, none⟩) hne (.slice none 0 0)).far (p := ⟨g, n * 3 + 1, none⟩) hne (.int .i64 v)).far (p := ⟨g, n * 3 + 2, none⟩) hne (.bool false)
      have hol := ((hkeep.out.2.setCell ⟨g, n * 3, none⟩ (.slice none 0 0) (fun e => hglg (by injection e))).setCell ⟨g, n * 3 + 1, none⟩ (.int .i64 v) (fun e => hglg (by injection e))).setCell ⟨g, n * 3 + 2, none⟩ (.bool false) (fun e => hglg (by injection e))
      have HX := Lib.hid (And.intro hgone (And.intro hits (And.intro hbl (And.intro hol m3)))); clear m1 m1' m2 m3 m5 hll hL hx hgone hits htk hbl hol hkeep hz
      go_wp2_with fail
      go_roundg (q - (k + 1))
      case measure => omega
      case rel => exact ⟨k + 1, by omega, rfl, by go_num, ⟨⟨_, by rw [List.length_set]; exact HX.out.2.2.1, HX.out.1, HX.out.2.2.2.2, m4, HX.out.2.1⟩, HX.out.2.2.2.1⟩, ((hT.setCell hgF _).setCell hgF _).setCell hgF _⟩
    · obtain rfl : q = k := by omega
      have hf := hkeep.out
      rw [List.take_of_length_le (by have := H.out.2.2.2.2.1; omega)] at hf
      obtain ⟨s1, hs1⟩ : ∃ s1, goneK ls v s = s1 := ⟨_, rfl⟩
      rw [hs1] at hf
      have hs1l : s1.length = s.length := by rw [← hs1, goneK_length]
      have hs110 : ∀ x ∈ s1, x.has.length ≤ 10 := by
        intro x hx
        obtain ⟨i, hi⟩ := List.mem_iff_getElem?.1 hx
        have hil : i < s.length := by rw [← hs1l]; exact (List.getElem?_eq_some_iff.1 hi).1
        have h1 := goneK_get ls v s i (List.getElem?_eq_getElem hil)
        rw [hs1, hi] at h1
        injection h1 with h1
        rw [h1]
        split
        · simp
        · exact H.out.2.2.2.2.2.1 _ (List.getElem_mem hil)
      have hgI : goneI ls v s = s1.map (clearL ls) := by rw [goneI_eq, hs1]
      obtain ⟨N, hN⟩ : ∃ N, s1.length = N := ⟨_, rfl⟩
      have hN100 : N ≤ 100 := by omega
      obtain ⟨l, m1, m2, m3, m4, m5⟩ := hf.1
      have hlN : l.length = N := by rw [← its_length, m5]; exact hN
      have p0 := m1.cell 0 (v := .slice A l.length c) rfl
      rw [hlN] at p0
      have H2 := Lib.hid (And.intro hf (And.intro hs110 (And.intro hgI (And.intro hN hs1)))); clear hf hs1 hs1l hs110 hgI hN m1 m2 m3 m5 hlN hkeep
      go_wp2_with fail
      clear p0
      go_loopg [32] N (fun gk iv wq => ∃ (n : Nat), n ≤ N ∧ gk = N - n ∧ iv = .int .i64 n ∧ Hid (MdlA wq base F p nu kind mk A c (clrK ls n s1) ∧ Own wq lb 3 LA lc ls) ∧ Touch F w wq)
      case atStart => exact ⟨0, Nat.zero_le _, rfl, rfl, ⟨by rw [clrK_zero]; exact H2.out.1.1, H2.out.1.2⟩, hT⟩
      case round =>
        obtain ⟨n, hn, rfl, rfl, hkeep, hT2⟩ := hrel
        by_cases hltn : n < N
        · obtain ⟨x, hsx⟩ : ∃ x, s1[n]? = some x := ⟨_, List.getElem?_eq_getElem (by have := H2.out.2.2.2.1; omega)⟩
          obtain ⟨xh, xs, xb⟩ := x
          obtain ⟨l, m1, m2, m3, m4, m5⟩ := hkeep.out.1
          have hlN : l.length = N := by rw [← its_length, m5, clrK_length, H2.out.2.2.2.1]
          obtain ⟨y, hy⟩ : ∃ y, l[n]? = some y := ⟨_, List.getElem?_eq_getElem (by omega)⟩
          obtain ⟨g, rfl, hg1, hg2, q0, q1, q2⟩ := m2.cells hy
          have hyx : y.has = xh := by
            have h1 := clrK_get ls n s1 n hsx
            rw [if_neg (by omega), ← m5, its_get hy] at h1
            injection h1 with h1
            exact congrArg It.has h1
          have hx10 : xh.length ≤ 10 := H2.out.2.1 _ (List.mem_of_getElem? hsx)
          obtain ⟨xn, hxn⟩ : ∃ n, xh.length = n := ⟨_, rfl⟩
          rw [hyx, hxn] at q0
          rw [hxn] at hx10
          have p0 := m1.cell 0 (v := .slice (some ⟨g, 0, none⟩) l.length c) rfl
          rw [hlN] at p0
          have n0 : (0 : Int) ≤ (n : Int) := by omega
          have n1 : (n : Int) < (N : Int) := by omega
          have hM0 : MdlL wr base F p nu kind mk (some ⟨g, 0, none⟩) c (clrI ls n 0 s1) l := ⟨m1, m2, m3, m4, by rw [clrI_zero]; exact m5⟩
          obtain ⟨YA, yc, yh, ys, yb⟩ := y
          simp only at hyx q0 q1 q2
          subst hyx
          have HX := Lib.hid (And.intro hM0 (And.intro hy (And.intro hsx (And.intro hxn hkeep.out.2)))); clear m1 m2 m3 m5 hlN hM0 hy hsx hxn hkeep
          go_wp2_with fail
          clear p0 q0 q1 q2
          go_loopg [44] xn (fun gk jv wj => ∃ (j : Nat), j ≤ xn ∧ gk = xn - j ∧ jv = .int .i64 j ∧ Hid ((∃ l', MdlL wj base F p nu kind mk (some ⟨g, 0, none⟩) c (clrI ls n j s1) l' ∧ ∃ x', l'[n]? = some x' ∧ x'.A = YA ∧ x'.c = yc) ∧ Own wj lb 3 LA lc ls) ∧ Touch F w wj)
          case atStart => exact ⟨0, Nat.zero_le _, rfl, rfl, ⟨⟨l, HX.out.1, _, HX.out.2.1, rfl, rfl⟩, HX.out.2.2.2.2⟩, hT2⟩
          case round =>
            obtain ⟨j, hj, rfl, rfl, hkj, hT3⟩ := hrel
            obtain ⟨⟨l', ⟨k1, k2, k3, k4, k5⟩, x', hx', hxA, hxc⟩, ko⟩ := hkj.out
            have hl' : l'.length = N := by rw [← its_length, k5, clrI_length]; exact H2.out.2.2.2.1
            have hxh : x'.has = (clrH ls j ⟨yh, xs, xb⟩).has := by
              have h1 := clrI_get ls n j s1 HX.out.2.2.1
              rw [← k5, its_get hx'] at h1
              injection h1 with h1
              exact congrArg It.has h1
            have hxlen : x'.has.length = xn := by
              rw [hxh]; unfold clrH
              simp only [List.length_append, List.length_map, List.length_take, List.length_drop]
              have := HX.out.2.2.2.1; omega
            by_cases hltj : j < xn
            · obtain ⟨z, hz⟩ : ∃ z, yh[j]? = some z := ⟨_, List.getElem?_eq_getElem (by have := HX.out.2.2.2.1; omega)⟩
              have hxz : x'.has[j]? = some z := by
                rw [hxh]; unfold clrH
                have hl2 : ((yh.take j).map (clr ls)).length = j := by rw [List.length_map, List.length_take]; have := HX.out.2.2.2.1; omega
                simp only
                rw [List.getElem?_append_right (by omega), hl2, Nat.sub_self, List.getElem?_drop, Nat.add_zero]; exact hz
              obtain ⟨g', hgg, -, -, q0, -, -⟩ := k2.cells hx'
              injection hgg with hgg; injection hgg with hgg; subst hgg
              rw [hxA, hxc, hxlen] at q0
              have hsub := k2.sub n x' hx'
              have hown := hsub.1
              rw [hxA, hxc] at hown
              obtain ⟨gx, rfl, hgx1, hgx2⟩ := hown.some_ (by omega)
              have z0 := hown.cell_int hxz
              have zf := hown.frozen (g := gx) rfl j
              have p0 := k1.cell 0 (v := .slice (some ⟨g, 0, none⟩) l'.length c) rfl
              rw [hl'] at p0
              have j0 : (0 : Int) ≤ (j : Int) := by omega
              have j1 : (j : Int) < (xn : Int) := by omega
              have hgxF : F gx := hsub.2.1 gx (by rw [hxA]; rfl)
              have hst := clrI_step ls n j s1 HX.out.2.2.1 hz
              have hset := k2.setHas hx' (by decide) hxA (j := j) (by omega) (-1) (by unfold I64; omega)
              have hits := its_set l' n x' { x' with has := x'.has.set j (-1) } (It.sethas j (-1)) hx' rfl
              rw [k5] at hits
              have hne : p ≠ gx := fun e => own_ne_ty hown k1 (by decide) (by rw [← e]; rfl)
              have hol := ko.setCell ⟨gx, j, none⟩ (.int .i64 (-1)) (fun e => H.out.2.2.1 gx e hgxF)
              have hbl := k1.far (p := ⟨gx, j, none⟩) hne (.int .i64 (-1))
              have hxn2 : (l'.set n { x' with has := x'.has.set j (-1) })[n]? = some { x' with has := x'.has.set j (-1) } := by rw [List.getElem?_set_self (by omega)]
              have hlh := rhas_any LA lc wr.heap.size q ls z wr H.out.2.2.2.2.1 (ko.at_ H.out.2.2.2.2.2.2) hq9
              obtain ⟨r, hr⟩ : ∃ r, ls.contains z = r := ⟨_, rfl⟩
              rw [hr] at hst hlh
              have HJ := Lib.hid (And.intro hlh (And.intro hst (And.intro hset (And.intro hits (And.intro hbl (And.intro hol (And.intro hxn2 (And.intro k3 (And.intro hkj.out (And.intro hxA hxc)))))))))); clear hlh hst hset hits hbl hol hxn2 k1 k2 k3 k5 hkj hxA hxc ko hx' hxh hxlen hxz hz hsub hown hr hl'
              cases r with
              | false =>
                go_wp2_with fail
                refine HJ.out.1.mono ?_
                rintro e w5 ⟨rfl, rfl⟩
                go_wp2_with fail
                go_roundg (xn - (j + 1))
                case measure => omega
                case rel => exact ⟨j + 1, by omega, rfl, by go_num, by have h1 := HJ.out.2.2.2.2.2.2.2.2.1; have h2 := HJ.out.2.1; rw [if_neg (by simp)] at h2; unfold Hid; rw [h2]; exact h1, hT3⟩
              | true =>
                go_wp2_with fail
                refine HJ.out.1.mono ?_
                rintro e w5 ⟨rfl, rfl⟩
                go_wp2_with fail
                go_roundg (xn - (j + 1))
                case measure => omega
                case rel => exact ⟨j + 1, by omega, rfl, by go_num, by have h2 := HJ.out.2.1; rw [if_pos trivial] at h2; unfold Hid; rw [h2]; exact ⟨⟨_, ⟨by rw [List.length_set]; exact HJ.out.2.2.2.2.1, HJ.out.2.2.1, HJ.out.2.2.2.2.2.2.2.1, k4, HJ.out.2.2.2.1⟩, _, HJ.out.2.2.2.2.2.2.1, HJ.out.2.2.2.2.2.2.2.2.2.1, HJ.out.2.2.2.2.2.2.2.2.2.2⟩, HJ.out.2.2.2.2.2.1⟩, hT3.setCell hgxF _⟩
            · obtain rfl : xn = j := by omega
              have hdone := clrI_done ls n s1 HX.out.2.2.1
              simp only [HX.out.2.2.2.1] at hdone
              rw [hdone] at k5
              have HE := Lib.hid (And.intro (show MdlA wr base F p nu kind mk (some ⟨g, 0, none⟩) c (clrK ls (n + 1) s1) from ⟨l', k1, k2, k3, k4, k5⟩) ko); clear k1 k2 k3 k5 ko hx' hxA hxc hxh hxlen hl' hdone hkj
              go_wp2_with fail
              go_roundg (N - (n + 1))
              case measure => omega
              case rel => exact ⟨n + 1, by omega, rfl, by go_num, ⟨HE.out.1, HE.out.2⟩, hT3⟩
        · obtain rfl : N = n := by omega
          have hf := hkeep.out.1
          have hall : clrK ls N s1 = goneI ls v s := by rw [H2.out.2.2.1, ← clrK_all, H2.out.2.2.2.1]
          rw [hall] at hf
          have HF := Lib.hid hf; clear hf hall hkeep
          go_wp2_with fail
          go_ret
          exact ⟨rfl, ⟨A, c, HF.out⟩, hT2⟩

end Go.Proofs.Ytpkccpegdpodoaa
