/- R.Model: Marks: steps, the end. -/
import Derived.Test.YtpkccpegdpodoaaMkV
namespace Go.Proofs.Ytpkccpegdpodoaa
open Go.RowKit

attribute [local go_sem ↓] Go.wp_at_zero Go.wp_at_succ

theorem MdPre.mk3 {w W : World} {base p : Nat} {F : Nat → Prop} {nu kind dd a b n : Int} {mk : Bool} {s : List It} (h : MdPre w W base p F nu kind dd a b n mk s) : w.cell? ⟨p, 3, none⟩ = some (.bool mk) ∧ p < w.heap.size := by
  obtain ⟨y3, yf, hpW, hpF, hpb⟩ := h.st.mkcell
  have hplt : p < w.heap.size := h.lt p hpF
  rw [h.eq, World.cell?_alloc_lt _ _ _ hplt] at y3
  exact ⟨y3, hplt⟩

set_option maxHeartbeats 1600000 in
set_option maxRecDepth 100000 in
theorem marks5 (w W : World) (base p : Nat) (F : Nat → Prop) (nu kind a b n : Int) (mk : Bool) (s : List It) (h : MdPre w W base p F nu kind 5 a b n mk s) :
    Calls Try.prog 53 #[.pointer (some ⟨p, 0, none⟩), .agg #[.int .i64 5, .int .i64 a, .int .i64 b, .int .i64 n]] w (MdPost base p F nu kind w (marksI kind mk s ⟨5, a, b, n⟩)) := by
  obtain ⟨P, hP⟩ : ∃ P, MdPost base p F nu kind w (marksI kind mk s ⟨5, a, b, n⟩) = P := ⟨_, rfl⟩
  have HP := Lib.hid hP
  rw [hP]; clear hP
  have hsz := h.siz
  have hr := marksI_five kind mk s a b n
  obtain ⟨y3, hplt⟩ := h.mk3
  have hnD : ¬ F w.heap.size := fun e => by have := h.lt _ e; omega
  have H := Lib.hid h; clear h
  cases mk with
  | false =>
    rw [if_pos rfl] at hr
    have HR := Lib.hid hr; clear hr
    go_enter Try.func53, Try.ntmps53
    go_wp2_with fail
    rw [← HP.out, ← H.out.eq]
    exact MdPost.same HR.out rfl H.out.st (Touch.ofBelow H.out.bel)
  | true =>
    rw [if_neg (by simp)] at hr
    by_cases hn : n < 0
    · rw [if_pos hn] at hr
      have HR := Lib.hid hr; clear hr
      go_enter Try.func53, Try.ntmps53
      go_wp2_with fail
      rw [← HP.out, ← H.out.eq]
      exact MdPost.same HR.out rfl H.out.st (Touch.ofBelow H.out.bel)
    · rw [if_neg hn] at hr
      obtain ⟨j, rfl⟩ : ∃ j : Nat, n = (j : Int) := ⟨n.toNat, by omega⟩
      rw [Int.toNat_natCast] at hr
      have hj9 : j ≤ 9223372036854775807 := by have := H.out.in_.2; omega
      have HR := Lib.hid hr; clear hr hn
      have hn0 : (0 : Int) ≤ (j : Int) := by omega
      go_enter Try.func53, Try.ntmps53
      go_wp2_with fail
      refine wp_world (fun V => W = V) H.out.eq ?_
      rintro V rfl
      clear y3
      go_loopg [11] (pot s) (fun gk mv wr => ∃ (k : Nat) (s1 : List It), k ≤ j ∧ mv = .int .i64 k ∧ gk = pot s1 ∧ Hid (Mdl wr base F p nu kind true s1 ∧ MInv kind true s1 ∧ (stepsI j s).1 = (stepsI (j - k) s1).1 ∧ (stepsI j s).2 = k + (stepsI (j - k) s1).2 ∧ Blk wr w.heap.size 97 #[.int .i64 5, .int .i64 a, .int .i64 b, .int .i64 (j : Int)]) ∧ Touch F w wr)
      case atStart => exact ⟨0, s, Nat.zero_le _, rfl, rfl, ⟨H.out.st, H.out.inv, rfl, by simp, H.out.blk⟩, Touch.ofBelow H.out.bel⟩
      case round =>
        obtain ⟨k, s1, hk, rfl, rfl, hkeep, hT⟩ := hrel
        have e3 := hkeep.out.2.2.2.2.cell 3 (v := .int .i64 (j : Int)) rfl
        by_cases hlt : k < j
        · have hlt2 : (k : Int) < (j : Int) := by omega
          by_cases hg : greyAt s1 < s1.length
          · have hstep := blacken_any wr base p F nu kind s1 hkeep.out.1 hkeep.out.2.1
            simp only [if_pos hg, decide_eq_true hg] at hstep
            have hpot := pot_step hg
            have hone := stepsI_one (j - (k + 1)) s1 hg
            have hnk : j - k = j - (k + 1) + 1 := by omega
            have hinv := hkeep.out.2.1.stepI hg
            obtain ⟨s2, hs2⟩ : ∃ s2, stepI s1 = s2 := ⟨_, rfl⟩
            rw [hs2] at hstep hpot hone hinv
            have e1 := hkeep.out.2.2.1
            have e2 := hkeep.out.2.2.2.1
            rw [hnk, hone] at e1 e2
            simp only at e1 e2
            have HS := Lib.hid (And.intro hstep (And.intro e1 (And.intro e2 (And.intro hinv hkeep.out.2.2.2.2)))); clear hstep hone hnk hs2 e1 e2 hg hinv hkeep
            go_wp2_with fail
            refine HS.out.1.mono ?_
            rintro e w5 ⟨rfl, h5a, h5b⟩
            have HF := Lib.hid (And.intro h5a (And.intro (hT.trans h5b) (HS.out.2.2.2.2.touch h5b hnD))); clear h5a h5b e3
            go_wp2_with fail
            go_roundg (pot s2)
            case measure => exact hpot
            case rel => exact ⟨k + 1, s2, by omega, by go_num, rfl, ⟨HF.out.1, HS.out.2.2.2.1, HS.out.2.1, by have := HS.out.2.2.1; omega, HF.out.2.2⟩, HF.out.2.1⟩
          · have hstep := blacken_any wr base p F nu kind s1 hkeep.out.1 hkeep.out.2.1
            simp only [if_neg hg, decide_eq_false hg] at hstep
            have hone := stepsI_none (j - k) s1 hg
            have e1 := hkeep.out.2.2.1
            have e2 := hkeep.out.2.2.2.1
            rw [hone] at e1 e2
            simp only [Nat.add_zero] at e1 e2
            have HS := Lib.hid (And.intro hstep (And.intro e1 e2)); clear hstep hone e1 e2 hg hkeep
            go_wp2_with fail
            refine HS.out.1.mono ?_
            rintro e w5 ⟨rfl, h5a, h5b⟩
            have HF := Lib.hid (And.intro h5a (hT.trans h5b)); clear h5a h5b
            go_wp2_with fail
            rw [← HP.out]
            exact MdPost.same HR.out (by rw [HS.out.2.2]; rfl) (by rw [HS.out.2.1]; exact HF.out.1) HF.out.2
        · obtain rfl : j = k := by omega
          have e1 := hkeep.out.2.2.1
          have e2 := hkeep.out.2.2.2.1
          rw [Nat.sub_self] at e1 e2
          simp only [stepsI, Nat.add_zero] at e1 e2
          have HF := Lib.hid (And.intro hkeep.out.1 (And.intro e1 e2)); clear e1 e2 hkeep
          go_wp2_with fail
          rw [← HP.out]
          exact MdPost.same HR.out (by rw [HF.out.2.2]; rfl) (by rw [HF.out.2.1]; exact HF.out.1) hT

set_option maxHeartbeats 3200000 in
set_option maxRecDepth 100000 in
theorem marks7 (w W : World) (base p : Nat) (F : Nat → Prop) (nu kind a b n : Int) (mk : Bool) (s : List It) (h : MdPre w W base p F nu kind 7 a b n mk s) :
    Calls Try.prog 53 #[.pointer (some ⟨p, 0, none⟩), .agg #[.int .i64 7, .int .i64 a, .int .i64 b, .int .i64 n]] w (MdPost base p F nu kind w (marksI kind mk s ⟨7, a, b, n⟩)) := by
  obtain ⟨P, hP⟩ : ∃ P, MdPost base p F nu kind w (marksI kind mk s ⟨7, a, b, n⟩) = P := ⟨_, rfl⟩
  have HP := Lib.hid hP
  rw [hP]; clear hP
  have hsz := h.siz
  have hr := marksI_seven kind mk s a b n
  obtain ⟨y3, hplt⟩ := h.mk3
  have H := Lib.hid h; clear h
  cases mk with
  | false =>
    rw [if_pos rfl] at hr
    have HR := Lib.hid hr; clear hr
    go_enter Try.func53, Try.ntmps53
    go_wp2_with fail
    rw [← HP.out, ← H.out.eq]
    exact MdPost.same HR.out rfl H.out.st (Touch.ofBelow H.out.bel)
  | true =>
    rw [if_neg (by simp)] at hr
    have HR := Lib.hid hr; clear hr
    go_enter Try.func53, Try.ntmps53
    go_wp2_with fail
    refine wp_world (fun V => W = V) H.out.eq ?_
    rintro V rfl
    clear y3
    go_loopg [] (pot s) (fun gk wr => ∃ (s1 : List It), gk = pot s1 ∧ Hid (Mdl wr base F p nu kind true s1 ∧ MInv kind true s1 ∧ (stepsI (pot s) s).1 = (stepsI (pot s1) s1).1) ∧ Touch F w wr)
    case atStart => exact ⟨s, rfl, ⟨H.out.st, H.out.inv, rfl⟩, Touch.ofBelow H.out.bel⟩
    case round =>
      obtain ⟨s1, rfl, hkeep, hT⟩ := hrel
      by_cases hg : greyAt s1 < s1.length
      · have hstep := blacken_any wr base p F nu kind s1 hkeep.out.1 hkeep.out.2.1
        simp only [if_pos hg, decide_eq_true hg] at hstep
        have hpot := pot_step hg
        have hone := stepsAll_step hg
        have hinv := hkeep.out.2.1.stepI hg
        obtain ⟨s2, hs2⟩ : ∃ s2, stepI s1 = s2 := ⟨_, rfl⟩
        rw [hs2] at hstep hpot hone hinv
        have HS := Lib.hid (And.intro hstep (And.intro (hkeep.out.2.2.trans hone) hinv)); clear hstep hone hs2 hg hinv hkeep
        go_wp2_with fail
        refine HS.out.1.mono ?_
        rintro e w5 ⟨rfl, h5a, h5b⟩
        have HF := Lib.hid (And.intro h5a (hT.trans h5b)); clear h5a h5b
        go_wp2_with fail
        go_roundg (pot s2)
        case measure => exact hpot
        case rel => exact ⟨s2, rfl, ⟨HF.out.1, HS.out.2.2, HS.out.2.1⟩, HF.out.2⟩
      · have hstep := blacken_any wr base p F nu kind s1 hkeep.out.1 hkeep.out.2.1
        simp only [if_neg hg, decide_eq_false hg] at hstep
        have hend : (stepsI (pot s) s).1 = s1 := hkeep.out.2.2.trans (stepsAll_none hg)
        have hswp := hkeep.out.2.1.sweep_eq hg
        have hs100 := hkeep.out.2.1.small
        have hs10 := hkeep.out.2.1.long
        have HS := Lib.hid (And.intro hstep (And.intro hend (And.intro hswp hs10))); clear hstep hend hg hkeep hswp hs10
        go_wp2_with fail
        refine HS.out.1.mono ?_
        rintro e w5 ⟨rfl, h5a, h5b⟩
        obtain ⟨y3, yf, hpw, hpF, hpb⟩ := h5a.mkcell
        have h6 := h5a.setmk false
        have hT6 := (hT.trans h5b).setCell (p := ⟨p, 3, none⟩) hpF (.bool false)
        have HF := Lib.hid (And.intro h6 hT6); clear h6 hT6 h5a h5b hT
        go_wp2_with fail
        refine calls_world (fun V => Mdl V base F p nu kind false s1 ∧ Touch F w V) ⟨HF.out.1, HF.out.2⟩ ?_
        rintro V ⟨v1, v2⟩
        clear y3 yf hpw
        refine (are_any V base p F nu kind 0 false s1 v1 hs100).mono ?_
        rintro e w7 ⟨LA, lc, rfl, ho7, hb7⟩
        have hs7 := hb7.size
        have HV := Lib.hid (And.intro (v1.fresh hb7) (And.intro (v2.fresh hb7) (And.intro ho7 v2.size))); clear v1 v2 ho7 hb7 HF
        go_wp2_with fail
        refine (are_any w7 base p F nu kind 2 false s1 HV.out.1 hs100).mono ?_
        rintro e w8 ⟨QA, qc, rfl, ho8, hb8⟩
        have hs8 := hb8.size
        obtain ⟨qn, hqn⟩ : ∃ n, (are s1 2).length = n := ⟨_, rfl⟩
        have hq100 : qn ≤ 100 := by have := are_len s1 2; omega
        rw [hqn]
        have HW := Lib.hid (And.intro (HV.out.1.fresh hb8) (And.intro (HV.out.2.1.fresh hb8) (And.intro (HV.out.2.2.1.fresh hb8) (And.intro ho8 hqn)))); clear ho8 hb8 hqn
        obtain ⟨ln, hln⟩ : ∃ n, (are s1 0).length = n := ⟨_, rfl⟩
        rw [hln]
        have HLN := Lib.hid hln; clear hln
        go_wp2_with fail
        go_loopg [186] qn (fun gk iv wq => ∃ (k : Nat), k ≤ qn ∧ gk = qn - k ∧ iv = .int .i64 k ∧ Hid (Mdl wq base F p nu kind false (setAll ((are s1 2).take k) 0 s1) ∧ Own wq V.heap.size 3 LA lc (are s1 0) ∧ Own wq w7.heap.size 3 QA qc (are s1 2)) ∧ Touch F w wq)
        case atStart => exact ⟨0, Nat.zero_le _, rfl, rfl, ⟨HW.out.1, HW.out.2.2.1, HW.out.2.2.2.1⟩, HW.out.2.1⟩
        case round =>
          obtain ⟨k, hk, rfl, rfl, hkeep, hTq⟩ := hrel
          by_cases hlt : k < qn
          · obtain ⟨z, hz⟩ : ∃ z, (are s1 2)[k]? = some z := ⟨_, List.getElem?_eq_getElem (by have := HW.out.2.2.2.2; omega)⟩
            obtain ⟨i, rfl, hi⟩ := are_mem (List.mem_of_getElem? hz)
            have hil := stAt_lt hi
            obtain ⟨gq, rfl, hgq1, hgq2⟩ := hkeep.out.2.2.some_ (by have := HW.out.2.2.2.2; omega)
            have z0 := hkeep.out.2.2.cell_int hz
            obtain ⟨x, hx⟩ : ∃ x, (setAll ((are s1 2).take k) 0 s1)[i]? = some x := ⟨_, List.getElem?_eq_getElem (by rw [setAll_length]; exact hil)⟩
            obtain ⟨g, c, v, q0, u0, u1, u2, uf, hgF, hset⟩ := hkeep.out.1.get hx
            rw [setAll_length] at q0
            obtain ⟨L, hL⟩ : ∃ L, s1.length = L := ⟨_, rfl⟩
            rw [hL] at q0
            have b0 : (0 : Int) ≤ (k : Int) := by omega
            have b1 : (k : Int) < (qn : Int) := by omega
            have i0 : (0 : Int) ≤ (i : Int) := by omega
            have i1 : (i : Int) < (L : Int) := by omega
            obtain ⟨k1, k2⟩ := hset 0 (by unfold I64; omega)
            have hsn := setAll_snoc (are s1 2) k (i : Int) 0 s1 hz
            rw [Int.toNat_natCast] at hsn
            rw [← hsn] at k1
            have HX := Lib.hid (And.intro k1 (And.intro (hkeep.out.2.1.intKeep k2) (hkeep.out.2.2.intKeep k2))); clear k1 k2 hsn hset hkeep hx hz hL hi hil
            go_wp2_with fail
            go_roundg (qn - (k + 1))
            case measure => omega
            case rel => exact ⟨k + 1, by omega, rfl, by go_num, HX.out, hTq.setCell hgF _⟩
          · obtain rfl : qn = k := by omega
            have hf := hkeep.out.1
            rw [List.take_of_length_le (by have := HW.out.2.2.2.2; omega), setAll_whiten] at hf
            have HZ := Lib.hid (And.intro hf hkeep.out.2.1); clear hf hkeep
            go_wp2_with fail
            have hVs := HV.out.2.2.2
            refine (gone_any wr base V.heap.size p ln lc F nu kind 3 false (s1.map whiten) LA (are s1 0) HZ.out.1 HZ.out.2 (fun g hg hF => by have h1 := (HZ.out.2.lt g hg).1; have h2 := H.out.lt g hF; omega) (fun x hx => by obtain ⟨i, rfl, hi⟩ := are_mem hx; exact ⟨i, rfl, by rw [List.length_map]; exact stAt_lt hi⟩) HLN.out (by rw [List.length_map]; exact hs100) (fun x hx => by
              obtain ⟨y, hy, rfl⟩ := List.mem_map.1 hx
              have := HS.out.2.2.2 y hy
              unfold whiten; split <;> exact this) (by unfold I64; omega)).mono ?_
            rintro e w9 ⟨rfl, h9a, h9b⟩
            rw [HS.out.2.2.1] at h9a
            have HE := Lib.hid (And.intro h9a (hTq.trans h9b)); clear h9a h9b
            go_wp2_with fail
            rw [← HP.out]
            have hln := HLN.out
            rw [are_whiteN] at hln
            refine MdPost.same HR.out ?_ ?_ HE.out.2
            · have : endN s = ln := by unfold endN; rw [HS.out.2.1]; exact hln
              rw [this]; rfl
            · have : endI s = s1.map sweep1 := by unfold endI; rw [HS.out.2.1]
              rw [this]; exact HE.out.1

end Go.Proofs.Ytpkccpegdpodoaa
