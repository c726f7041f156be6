/- KW: CqB. -/
import Derived.Test.YtdlcooplllimeaaGreatDoorKW12
/- reach.Do: what is not reached is gone. -/
namespace Go.Proofs.YtdlcooplllimeaaGreatDoor
open Go.RowKit

attribute [local go_sem ↓] Go.wp_at_zero Go.wp_at_succ

namespace Top
def DoPost (P base : Nat) (s : Stt) (CA SA TA HA EA DA : Option Addr) (cc sc tc hc ec dc : Nat) (w : World) (e : Ending) (w' : World) : Prop :=
  e = .returned (.tuple #[]) ∧ Blk w' P 32 #[.slice CA s.cells.length cc, .slice SA s.shapes.length sc, .slice TA s.texts.length tc, .slice HA s.threads.length hc, .slice EA s.ends.length ec, .slice DA s.said.length dc, .int .i64 s.asked, .int .i64 s.steps] ∧ (∃ rows, CeO w' base CA cc rows (gl (rcB s) s.cells)) ∧ StR w' base s SA TA HA EA DA sc tc hc ec dc ∧ Below base w w'
set_option maxHeartbeats 3200000 in
set_option maxRecDepth 100000 in
theorem do_any (p base : Nat) (s : Stt) (CA SA TA HA EA DA : Option Addr) (cc sc tc hc ec dc : Nat) (rows : List (Raw 4)) (w : World) (hs : SOk s) (h30 : ∀ t ∈ s.threads, t.frames.length ≤ 30) (hl5 : s.threads.length ≤ 5 ∧ s.ends.length ≤ 100)
    (hP : Blk w p 32 #[.slice CA s.cells.length cc, .slice SA s.shapes.length sc, .slice TA s.texts.length tc, .slice HA s.threads.length hc, .slice EA s.ends.length ec, .slice DA s.said.length dc, .int .i64 s.asked, .int .i64 s.steps]) (hc4 : CeO w base CA cc rows s.cells) (hst : StR w base s SA TA HA EA DA sc tc hc ec dc) (hg : StG s) (_hpb : p < base) (hbs : base ≤ w.heap.size) :
    Calls Tryz.prog 40 #[.pointer (some ⟨p, 0, none⟩)] w (DoPost p base s CA SA TA HA EA DA cc sc tc hc ec dc w) := by
  obtain ⟨P, hPo⟩ : ∃ P, DoPost p base s CA SA TA HA EA DA cc sc tc hc ec dc w = P := ⟨_, rfl⟩
  have HP := Lib.hid hPo; rw [hPo]; clear hPo
  obtain ⟨i0, hi, hz0, hz1, hz2⟩ := info_parts infoVal
  have hc := seen_any w.heap.size p cc sc tc hc ec dc CA SA TA HA EA DA s w hs h30 hl5 hP (hst.stP hc4 hg) (Nat.le_refl _)
  have hmany := hs.many.1
  have hpl := hP.lt
  have H := Lib.hid (And.intro (hc) (And.intro (hP) (And.intro (hc4) (And.intro (hst) (And.intro (hs) (hg))))))
  clear hc hP hc4 hst hs hg h30
  go_enter Tryz.func40, Tryz.ntmps40
  go_wp2_with fail
  refine H.out.1.mono ?_
  rintro e w1 ⟨SE, se, rfl, oS, b1⟩
  obtain ⟨seen, hseen⟩ : ∃ l, rcB s = l := ⟨_, rfl⟩
  have hsl : seen.length = s.cells.length := by rw [← hseen]; exact rcB_length s
  rw [hseen] at oS
  have hD0 : Dl w base p s seen CA SA TA HA EA DA cc sc tc hc ec dc SE se 0 rows w1 :=
    ⟨H.out.2.1.fresh b1, H.out.2.2.1.o.fresh b1, H.out.2.2.1.n, fun j r x a b => by rw [if_neg (by omega)]; exact (H.out.2.2.1.r j r x a b).kept (Kept.fresh b1), H.out.2.2.2.1.kept (Kept.fresh b1), oS, b1.mono hbs⟩
  have p0 := hD0.p.cell 0 (v := .slice CA s.cells.length cc) rfl
  have H1 := Lib.hid (And.intro (hD0) (And.intro (hseen) (hsl)))
  clear hD0 hseen hsl oS b1
  go_wp2_with fail
  go_loopg [14] (s.cells.length) (fun gk iv wr => ∃ k : Nat, k ≤ s.cells.length ∧ gk = s.cells.length - k ∧ iv = .int .i64 k ∧ Hid (∃ rows, Dl w base p s seen CA SA TA HA EA DA cc sc tc hc ec dc SE se k rows wr))
  case atStart => exact ⟨0, Nat.zero_le _, rfl, rfl, ⟨_, H1.out.1⟩⟩
  case round =>
    obtain ⟨k, hk, rfl, rfl, hkeep⟩ := hrel
    obtain ⟨rows, hD⟩ := hkeep.out
    by_cases hlt : k < s.cells.length
    · have hsz := hD.t.size
      obtain ⟨g, rfl, hg1, hg2⟩ := hD.c.some_ (by have := hD.n; omega)
      obtain ⟨sg, rfl, hsg1, hsg2⟩ := hD.sn.some_ (by have := H1.out.2.2; omega)
      obtain ⟨x, hx⟩ : ∃ x, s.cells[k]? = some x := ⟨_, List.getElem?_eq_getElem hlt⟩
      obtain ⟨r, hr⟩ : ∃ r, rows[k]? = some r := ⟨_, List.getElem?_eq_getElem (by have := hD.n; omega)⟩
      have hcr := hD.f k r x hr hx
      rw [if_neg (by omega)] at hcr
      obtain ⟨VA, vc, FA, fc, fr, rfl, oV, -⟩ := hcr
      obtain ⟨sb, hsb⟩ : ∃ b, seen[k]? = some b := ⟨_, List.getElem?_eq_getElem (by have := H1.out.2.2; omega)⟩
      have cS := hD.sn.cell_bool hsb
      have x0 := hD.c.raw_cell (i := k) (j := 0) (u := .int .i64 x.kind) hr rfl
      rw [Nat.add_zero] at x0
      have x1 := hD.c.raw_cell (i := k) (j := 1) (u := .int .i64 x.num) hr rfl
      have x2 := hD.c.raw_cell (i := k) (j := 2) (u := .slice VA x.vals.length vc) hr rfl
      have x3 := hD.c.raw_cell (i := k) (j := 3) (u := .slice FA x.frames.length fc) hr rfl
      have p0 := hD.p.cell 0 (v := .slice (some ⟨g, 0, none⟩) s.cells.length cc) rfl
      have k0 : (0 : Int) ≤ (k : Int) := by omega
      have k1 : (k : Int) < (s.cells.length : Int) := by omega
      have hgd : seen.getD k false = sb := by rw [List.getD_eq_getElem?_getD, hsb]; rfl
      have hsll := H1.out.2.2
      cases sb with
      | false =>
        have hfin := hD.zero hx hgd
        have z0 := hD.c.frozen (g := g) rfl (k * 4)
        have z1 := hD.c.frozen (g := g) rfl (k * 4 + 1)
        have z2 := hD.c.frozen (g := g) rfl (k * 4 + 2)
        have z3 := hD.c.frozen (g := g) rfl (k * 4 + 3)
        have HE := Lib.hid (hfin)
        clear hfin hD hkeep oV hx hr hsb hgd hsll
        go_wp2_with fail
        go_roundg (s.cells.length - (k + 1))
        case measure => omega
        case rel => exact ⟨k + 1, by omega, rfl, by go_num, ⟨_, HE.out⟩⟩
      | true =>
        by_cases h7 : x.kind = 7
        · rw [h7] at x0
          have hat := oV.at_ (H.out.2.2.2.2.2.cells x (List.mem_of_getElem? hx)).vals
          have hvl : x.vals.length ≤ 600 := by rcases H.out.2.2.2.2.1.vlen x (List.mem_of_getElem? hx) with h | h <;> omega
          obtain ⟨hw5, hev⟩ := H.out.2.2.2.2.1.weak x (List.mem_of_getElem? hx) h7
          have hfit := H.out.2.2.2.2.1.vals x (List.mem_of_getElem? hx)
          obtain ⟨W, rfl⟩ : ∃ v : World, v = wr := ⟨_, rfl⟩
          have HX := Lib.hid (And.intro (hD) (And.intro (hx) (And.intro (hr) (And.intro (hgd) (And.intro (h7) (And.intro (hat) (And.intro (hw5) (hfit))))))))
          clear hD hkeep oV hx hr hsb hgd h7 hat hw5 hfit
          go_wp2_with fail
          clear x0 x1 x3 x2 cS p0
          go_loopg [5, 6] (x.vals.length) (fun gi ov iv wi => ∃ (i m : Nat) (KA : Option Addr) (kc kn : Nat), m ≤ x.vals.length ∧ gi = x.vals.length - m ∧ iv = .int .i64 m ∧ ov = .slice KA kn kc ∧ kn ≤ 600 ∧ Hid (m = 2 * i ∧ kn = (keepL seen (x.vals.take m)).length ∧ Own wi W.heap.size 48 KA kc (keepL seen (x.vals.take m))) ∧ Below W.heap.size W wi)
          case atStart => exact ⟨0, 0, none, 0, 0, Nat.zero_le _, rfl, rfl, rfl, by omega, ⟨rfl, by simp [keepL], by simpa [keepL] using Own.nil_⟩, Below.refl _ _⟩
          case round =>
            obtain ⟨i, m, KA, kc, kn, hm, rfl, rfl, rfl, hkn, hkeep, hbl⟩ := hrel
            have hszi := hbl.size
            have hD := HX.out.1.fresh hbl (by omega)
            have x2 := hD.c.raw_cell (i := k) (j := 2) (u := .slice VA x.vals.length vc) HX.out.2.2.1 rfl
            obtain ⟨hmi, hkl, hown⟩ := hkeep.out
            by_cases hmv : m < x.vals.length
            · have hm1 : m + 1 < x.vals.length := by omega
              obtain ⟨b5, o5, kx, hA5, hb5, hk5, v0, v1, ik0, ik1⟩ := (HX.out.2.2.2.2.2.1.below hbl).pairT hmv
              obtain ⟨b6, o6, vx, hA6, hb6, hv6, v2, v3, iv0, iv1⟩ := (HX.out.2.2.2.2.2.1.below hbl).pairT hm1
              rw [hA5] at hA6; injection hA6 with hA6; injection hA6 with z1 z2; subst z1 z2
              subst hA5
              obtain ⟨kf, kn2⟩ := kx
              have hkf : kf = 5 := HX.out.2.2.2.2.2.2.1 i _ (by rw [← hmi]; exact hk5)
              subst hkf
              obtain ⟨nk, hnk, hnl⟩ := (HX.out.2.2.2.2.2.2.2 _ (List.mem_of_getElem? hk5)).2.2.ref
              subst hnk
              obtain ⟨sb2, hsb2⟩ : ∃ b, seen[nk]? = some b := ⟨_, List.getElem?_eq_getElem (by omega)⟩
              have cS2 := hD.sn.cell_bool hsb2
              have hgd2 : seen.getD ((nk : Int)).toNat false = sb2 := by rw [Int.toNat_natCast, List.getD_eq_getElem?_getD, hsb2]; rfl
              have hptk := keepL_step seen _ vx i x.vals (by rw [← hmi]; exact hk5) (by rw [← hmi]; exact hv6)
              rw [hgd2, ← hmi, show 2 * (i + 1) = m + 2 by omega] at hptk
              have hkl2 : (keepL seen (x.vals.take (m + 2))).length ≤ 600 := by
                have h1 := keepL_length seen (x.vals.take (m + 2))
                have h2 : (x.vals.take (m + 2)).length ≤ x.vals.length := by rw [List.length_take]; omega
                omega
              have m0 : (0 : Int) ≤ (m : Int) := by omega
              have m1 : (m : Int) < (x.vals.length : Int) := by omega
              have m2 : (m : Int) + 1 < (x.vals.length : Int) := by omega
              have m3 : (0 : Int) ≤ (m : Int) + 1 := by omega
              have n0 : (0 : Int) ≤ (nk : Int) := by omega
              have n1 : (nk : Int) < (s.cells.length : Int) := by omega
              have hil : i ≤ 300 := by omega
              have hwr : IntKind.i64.wrap ((m : Int) + 1) = (m : Int) + 1 := by rw [IntWalk.i64_in _ (by omega)]
              obtain ⟨vk, vn⟩ := vx
              cases sb2 with
              | false =>
                have hpt : keepL seen (x.vals.take (m + 2)) = keepL seen (x.vals.take m) := by rw [hptk]; simp
                have hown2 : Own wr W.heap.size 48 KA kc (keepL seen (x.vals.take (m + 2))) := by rw [hpt]; exact hown
                have hkl3 : kn = (keepL seen (x.vals.take (m + 2))).length := by rw [hpt]; exact hkl
                have HE := Lib.hid (And.intro (hown2) (And.intro (hkl3) (hmi)))
                clear hown2 hkl3 hpt hptk hown hkl hkeep hD hk5 hv6 ik0 ik1 iv0 iv1 hmi hsb2 hgd2 hkl2
                go_wp2_with fail
                go_roundg (x.vals.length - (m + 2))
                case measure => omega
                case rel => exact ⟨i + 1, m + 2, KA, kc, kn, by omega, rfl, by go_num, rfl, hkn, ⟨by have := HE.out.2.2; omega, HE.out.2.1, HE.out.1⟩, hbl⟩
              | true =>
                have hpt : keepL seen (x.vals.take (m + 2)) = keepL seen (x.vals.take m) ++ [(5, (nk : Int)), (vk, vn)] := by rw [hptk]; simp
                have hba : Below wr.drew.heap.size wr.drew (wr.drew.alloc (.cells #[.int .i64 5, .int .i64 (nk : Int), .int .i64 vk, .int .i64 vn] 48)) := (Below.refl _ _).alloc (Nat.le_refl _) _
                have hOa := (show Own wr.drew W.heap.size 48 KA kc (keepL seen (x.vals.take m)) from hown).fresh hba
                have hwx : b5 < wr.drew.heap.size := by show b5 < wr.heap.size; omega
                have hgx : g < wr.drew.heap.size := by show g < wr.heap.size; omega
                have v0d : wr.drew.cell? ⟨b5, o5 + m * 2, none⟩ = some (.int .i64 5) := v0
                have v1d : wr.drew.cell? ⟨b5, o5 + m * 2 + 1, none⟩ = some (.int .i64 (nk : Int)) := v1
                have v2d : wr.drew.cell? ⟨b5, o5 + (m + 1) * 2, none⟩ = some (.int .i64 vk) := v2
                have v3d : wr.drew.cell? ⟨b5, o5 + (m + 1) * 2 + 1, none⟩ = some (.int .i64 vn) := v3
                have x2d : wr.drew.cell? ⟨g, k * 4 + 2, none⟩ = some (.slice (some ⟨b5, o5, none⟩) x.vals.length vc) := x2
                have v0a := (hba.cell (p := ⟨b5, o5 + m * 2, none⟩) hwx).trans v0d
                have v1a := (hba.cell (p := ⟨b5, o5 + m * 2 + 1, none⟩) hwx).trans v1d
                have v2a := (hba.cell (p := ⟨b5, o5 + (m + 1) * 2, none⟩) hwx).trans v2d
                have v3a := (hba.cell (p := ⟨b5, o5 + (m + 1) * 2 + 1, none⟩) hwx).trans v3d
                have x2a := (hba.cell (p := ⟨g, k * 4 + 2, none⟩) hgx).trans x2d
                have hrow : ∀ g', rowOf KA = some g' → W.heap.size ≤ g' := fun g' hg' => (hown.lt g' hg').1
                have hnb : some b5 ≠ rowOf KA := fun e => by have := hrow b5 e.symm; omega
                have hng : some g ≠ rowOf KA := fun e => by have := hrow g e.symm; omega
                have hbUd : Below W.heap.size W (wr.drew.alloc (.cells #[.int .i64 5, .int .i64 (nk : Int), .int .i64 vk, .int .i64 vn] 48)) := (hbl.drew).alloc (show W.heap.size ≤ wr.heap.size from hszi) _
                have hua : W.heap.size ≤ (wr.drew.alloc (.cells #[.int .i64 5, .int .i64 (nk : Int), .int .i64 vk, .int .i64 vn] 48)).heap.size := hbUd.size
                have HE := Lib.hid (And.intro (hpt) (And.intro (hkl) (And.intro (hOa) (And.intro (hbUd) (And.intro ((And.intro (And.intro ik0 ik1) (And.intro iv0 iv1))) (hmi))))))
                clear hpt hOa hbUd hba hrow hptk hown hkeep hD hk5 hv6 ik0 ik1 iv0 iv1 hmi hsb2 hgd2 hkl2 hkl
                go_wp2_with fail
                refine wp_region_held_drew (S := (fun w' => w'.cell? ⟨g, k * 4 + 2, none⟩ = some (.slice (some ⟨b5, o5, none⟩) x.vals.length vc) ∧ w'.cell? ⟨b5, o5 + m * 2, none⟩ = some (.int .i64 5) ∧ w'.cell? ⟨b5, o5 + m * 2 + 1, none⟩ = some (.int .i64 (nk : Int)) ∧ w'.cell? ⟨b5, o5 + (m + 1) * 2, none⟩ = some (.int .i64 vk) ∧ w'.cell? ⟨b5, o5 + (m + 1) * 2 + 1, none⟩ = some (.int .i64 vn))) (by kernel_rfl) ?_ (fun hHeld0 => ?_)
                · first | trivial | ((try dsimp only); (first | exact ⟨x2d, v0d, v1d, v2d, v3d⟩ | exact ⟨x2a, v0a, v1a, v2a, v3a⟩ | exact ⟨x2b, v0b, v1b, v2b, v3b⟩))
                refine htk 0 rfl ?_
                try go_frame
                refine htk 1 rfl ?_
                try go_frame
                refine htk 2 rfl ?_
                try go_frame
                refine htk 3 rfl ?_
                try go_frame
                refine htk 4 rfl ?_
                try go_frame
                refine htk 5 rfl ?_
                try go_frame
                refine htk 6 rfl ?_
                try go_frame
                refine htk 7 rfl ?_
                try go_frame
                refine htk 8 rfl ?_
                try go_frame
                refine htk 9 rfl ?_
                try go_frame
                refine htk 10 rfl ?_
                try go_frame
                refine htk 11 rfl ?_
                try go_frame
                refine htk 12 rfl ?_
                try go_frame
                refine htk 13 rfl ?_
                try go_frame
                refine htk 14 rfl ?_
                try go_frame
                refine htk 15 rfl ?_
                try go_frame
                refine held_call 16 (by kernel_rfl) rfl (fun K hK => ?_)
                go_simp
                refine hK.out _ _ ?_ (fun hHeld1 => ?_)
                · first | trivial | ((try dsimp only); (first | exact ⟨x2d, v0d, v1d, v2d, v3d⟩ | exact ⟨x2a, v0a, v1a, v2a, v3a⟩ | exact ⟨x2b, v0b, v1b, v2b, v3b⟩))
                clear hK K hHeld0
                try go_frame
                refine held_call 17 (by kernel_rfl) rfl (fun K hK => ?_)
                refine step_app (α := Int × Int) (n := kn) (m := 2) (nm := kn + 2) (r := [(5, (nk : Int)), (vk, vn)]) (by rfl) (.tmp 56) (.tmp 72) _ (by rfl) W.heap.size 48 i0 _ 16 Tryz.underlying23 hi hz0 hz1 hz2 rfl (by decide) pair_oneT (by rfl) HE.out.2.1.symm HE.out.2.2.1 (by rfl) (At.built wr.drew _ _ [(5, (nk : Int)), (vk, vn)] rfl (by intro z hz; simp at hz; rcases hz with rfl | rfl; exact HE.out.2.2.2.2.1.1; exact HE.out.2.2.2.2.1.2)) rfl rfl (by omega) (by simp only [maxLen]; omega) hua ?_; intro A9 c9 w9 hown9 hgr9 hat9; have x2b := hgr9.cell x2a hng; have v0b := hgr9.cell v0a hnb; have v1b := hgr9.cell v1a hnb; have v2b := hgr9.cell v2a hnb; have v3b := hgr9.cell v3a hnb; have hb9 := HE.out.2.2.2.1.grown hgr9 hua (fun g' hg' => (HE.out.2.2.1.lt g' hg').1)
                refine hK.out _ _ ?_ (fun hHeld2 => ?_)
                · first | trivial | ((try dsimp only); (first | exact ⟨x2d, v0d, v1d, v2d, v3d⟩ | exact ⟨x2a, v0a, v1a, v2a, v3a⟩ | exact ⟨x2b, v0b, v1b, v2b, v3b⟩))
                clear hK K hHeld1
                try go_frame
                refine htk 18 rfl ?_
                try go_frame
                refine wpAnyH_done (by kernel_rfl) ?_ _
                have hown9' : Own w9 W.heap.size 48 A9 c9 (keepL seen (x.vals.take (m + 2))) := by rw [HE.out.1]; exact hown9
                have hkl9 : kn + 2 = (keepL seen (x.vals.take (m + 2))).length := by rw [HE.out.1, List.length_append, ← HE.out.2.1]; rfl
                have hkb9 : kn + 2 ≤ 600 := by have h1 := keepL_length seen (x.vals.take (m + 2)); have h2 : (x.vals.take (m + 2)).length ≤ x.vals.length := (by rw [List.length_take]; omega); omega
                have H9 := Lib.hid (And.intro hown9' (And.intro hkl9 hb9)); clear hown9 hown9' hgr9 hat9 hb9 x2d v0d v1d v2d v3d x2a v0a v1a v2a v3a x2b v0b v1b v2b v3b hkl9 hwr
                go_wp2_with fail
                go_roundg (x.vals.length - (m + 2))
                case measure => omega
                case rel => exact ⟨i + 1, m + 2, A9, c9, kn + 2, by omega, rfl, by go_num, rfl, hkb9, ⟨by have := HE.out.2.2.2.2.2; omega, H9.out.2.1, H9.out.1⟩, H9.out.2.2⟩
            · have hml : m = x.vals.length := by omega
              subst hml
              rw [List.take_length] at hown hkl
              have hfin := HX.out.1.vals HX.out.2.1 HX.out.2.2.2.1 HX.out.2.2.2.2.1 HX.out.2.2.1 hbl (by omega) hown hkl
              have z2 := hD.c.frozen (g := g) rfl (k * 4 + 2)
              have HE := Lib.hid (hfin)
              clear hfin hD hkeep hown hkl hmi
              go_wp2_with fail
              go_roundg (s.cells.length - (k + 1))
              case measure => omega
              case rel => exact ⟨k + 1, by omega, rfl, by go_num, ⟨_, HE.out⟩⟩
        · have d7 : (x.kind == 7) = false := by simpa using h7
          have hfin := hD.skip hx (by unfold goneC; rw [if_neg (by rw [hgd]; decide), if_neg h7])
          have HE := Lib.hid (hfin)
          clear hfin hD hkeep oV hx hr hsb hgd h7 hsll
          go_wp2_with fail
          go_roundg (s.cells.length - (k + 1))
          case measure => omega
          case rel => exact ⟨k + 1, by omega, rfl, by go_num, ⟨_, HE.out⟩⟩
    · obtain rfl : k = s.cells.length := by omega
      have hfin : P (.returned (.tuple #[])) wr := by
        rw [← HP.out]
        refine ⟨rfl, hD.p, ⟨rows, hD.c, by rw [gl_length]; exact hD.n, fun j r y a b => ?_⟩, hD.st, hD.t⟩
        rw [gl_get] at b
        cases hx : s.cells[j]? with
        | none => rw [hx] at b; cases b
        | some x =>
          rw [hx] at b
          obtain rfl := Option.some.inj b
          have h1 := hD.f j r x a hx
          rw [if_pos (List.getElem?_eq_some_iff.1 hx).1] at h1
          rw [H1.out.2.1]; exact h1
      have HE := Lib.hid (hfin)
      clear hfin hD hkeep
      go_wp2_with fail
      go_end0
      exact HE.out
end Top
end Go.Proofs.YtdlcooplllimeaaGreatDoor
