/- The reference's words of a cell. -/
import Derived.Test.YtpkccpegdpodoaaWor3
import Derived.Deep.DeepCutAuto
namespace Go.Proofs.Ytpkccpegdpodoaa
open Go.RowKit

theorem boxW_ok (v : Int × Int) : Flat.ok (boxW bx v) := boxL_range v.1 v.2
theorem valsW_ok (l : List (Int × Int)) : ∀ x ∈ valsW bx l, Flat.ok x := by
  intro x hx
  unfold valsW at hx
  rcases List.mem_cons.1 hx with e | e
  · subst e; exact wd_ok _
  · obtain ⟨v, -, rfl⟩ := List.mem_map.1 e; exact boxW_ok v

theorem sz_d {w w' : World} (h : Below w.drew.heap.size w.drew w') : w.heap.size ≤ w'.heap.size := h.size
theorem sz_a {w w' : World} {o : Obj} (h : Below (w.drew.alloc o).heap.size (w.drew.alloc o) w') : w.heap.size + 1 ≤ w'.heap.size := by simpa using h.size
theorem gr_s {w w' : World} {r : Option Nat} (h : w.grownBy w' r) : w.heap.size ≤ w'.heap.size := h.size
theorem gr_a {w w' : World} {o : Obj} {r : Option Nat} (h : (w.alloc o).grownBy w' r) : w.heap.size + 1 ≤ w'.heap.size := by simpa using h.size

set_option maxHeartbeats 6400000 in
set_option maxRecDepth 100000 in
theorem cellWords_any (B vc fc : Nat) (VA FA : Option Addr) (c : Ce) (w : World) (hvA : At w B VA c.vals) (hf : At w B FA c.frames) (hB : B ≤ w.heap.size) (hlg : cellLarge c = false) (hik : I64 c.kind ∧ I64 c.num) :
    Calls Try.prog 23 #[.agg #[.int .i64 c.kind, .int .i64 c.num, .slice VA c.vals.length vc, .slice FA c.frames.length fc]] w fun e w' => ∃ A d, e = .returned (.slice A (cellW bx c).length d) ∧ Own w' w.heap.size 24 A d (cellW bx c) ∧ Below w.heap.size w w' := by
  obtain ⟨i0, hi, hz0, hz1, hz2⟩ := info_parts infoU64
  obtain ⟨l1, l2, l3, -⟩ := cellLarge_no hlg
  obtain ⟨kind, num, vals, frames⟩ := c
  have l1 : ∀ f ∈ frames, frLarge f = false := l1
  have l2 : vals.length ≤ 600 := l2
  have l3 : frames.length ≤ 30 := l3
  have hvA : At w B VA vals := hvA
  have hf : At w B FA frames := hf
  have hik : I64 kind ∧ I64 num := hik
  show Calls Try.prog 23 #[.agg #[.int .i64 kind, .int .i64 num, .slice VA vals.length vc, .slice FA frames.length fc]] w _
  have HH := Lib.hid (And.intro hvA (And.intro hf l1)); clear hvA hf l1 hlg hik
  have hck : IntKind.u64.wrap kind = kind % 18446744073709551616 := IntKind.wrap_u64 _
  have hcn : IntKind.u64.wrap num = num % 18446744073709551616 := IntKind.wrap_u64 _
  have hcf : IntKind.u64.wrap (frames.length : Int) = (frames.length : Int) % 18446744073709551616 := IntKind.wrap_u64 _
  have HCF := Lib.hid hcf; clear hcf
  go_enter Try.func23, Try.ntmps23
  go_wp2_with fail
  refine wp_world (fun W => Blk W w.heap.size 38 #[.int .i64 kind, .int .i64 num, .slice VA vals.length vc, .slice FA frames.length fc] ∧ Below w.heap.size w W ∧ w.heap.size + 1 ≤ W.heap.size) ⟨Blk.new _ _ _, (Below.refl _ _).alloc (Nat.le_refl _) _, by simp⟩ ?_
  rintro W ⟨hG, hb0, hs0⟩
  have g0 := hG.cell 0 (v := .int .i64 kind) rfl
  have g1 := hG.cell 1 (v := .int .i64 num) rfl
  have g2 := hG.cell 2 (v := .slice VA vals.length vc) rfl
  have HG := Lib.hid (And.intro hG ((HH.out.1.below (hb0.mono hB)))); clear hG
  have HVO := Lib.hid (valsW_ok vals)
  have h60 : w.heap.size + 1 ≤ W.drew.heap.size := hs0
  go_cut [3] (fun ov W2 => ∃ (A6 : Option Addr) (c6 : Nat), ov = .slice A6 (2 + (vals.length + 1)) c6 ∧ Own W2 (w.heap.size + 1) 24 A6 c6 ([wd kind, wd num] ++ valsW bx vals) ∧ Blk W2 w.heap.size 38 #[.int .i64 kind, .int .i64 num, .slice VA vals.length vc, .slice FA frames.length fc] ∧ Below w.heap.size w W2 ∧ w.heap.size + 1 ≤ W2.heap.size)
  case first =>
    have HLIT := Lib.hid ((own_lit W.drew (w.heap.size + 1) W.heap.size 2 24 #[.int .u64 (kind % 18446744073709551616), .int .u64 (num % 18446744073709551616)] [wd kind, wd num] rfl rfl (by omega) rfl (by simp [maxLen])))
    have HLB := Lib.hid ((HG.out.1.drew.alloc (.cells #[.int .u64 (kind % 18446744073709551616), .int .u64 (num % 18446744073709551616)] 24)))
    go_region_held3 (fun w' => w'.cell? ⟨w.heap.size, 0, none⟩ = some (.int .i64 kind) ∧ w'.cell? ⟨w.heap.size, 1, none⟩ = some (.int .i64 num) ∧ w'.cell? ⟨w.heap.size, 2, none⟩ = some (.slice VA vals.length vc))
      (first
        | exact ⟨g0, g1, g2⟩
        | exact ⟨HLB.out.cell 0 rfl, HLB.out.cell 1 rfl, HLB.out.cell 2 rfl⟩
        | (have F := HLB.out.fresh hb5; exact ⟨F.cell 0 rfl, F.cell 1 rfl, F.cell 2 rfl⟩)
        | (have F := HG.out.1.drew.fresh hb5; exact ⟨F.cell 0 rfl, F.cell 1 rfl, F.cell 2 rfl⟩)
        | (have F := (HG.out.1.drew.fresh hb5).alloc (.cells #[.int .u64 (kind % 18446744073709551616), .int .u64 (num % 18446744073709551616)] 24); exact ⟨F.cell 0 rfl, F.cell 1 rfl, F.cell 2 rfl⟩)
        | (have F := (HLB.out.fresh hb5).grown hgr6 (fun e => own_ne_ty (HLIT.out.fresh hb5) (HLB.out.fresh hb5) (by decide) e); exact ⟨F.cell 0 rfl, F.cell 1 rfl, F.cell 2 rfl⟩)
        | (have F := ((HG.out.1.drew.fresh hb5).alloc (.cells #[.int .u64 (kind % 18446744073709551616), .int .u64 (num % 18446744073709551616)] 24)).grown hgr6 (fun e => by have a : W.heap.size ≤ w5.heap.size := sz_d hb5; simp [rowOf] at e; omega); exact ⟨F.cell 0 rfl, F.cell 1 rfl, F.cell 2 rfl⟩)
        | go_keep)
      (first
        | (go_at_call 102; refine (valWords_any B vc vals.length VA vals _ rfl (HG.out.2.drew.alloc (by show B ≤ W.heap.size; omega) (.cells #[.int .u64 (kind % 18446744073709551616), .int .u64 (num % 18446744073709551616)] 24)) (by simp; omega) (by omega)).mono ?_; rintro e w5 ⟨A5, c5, rfl, hown5, hb5⟩)
        | (go_at_call 102; refine (valWords_any B vc vals.length VA vals _ rfl HG.out.2.drew (by show B ≤ W.heap.size; omega) (by omega)).mono ?_; rintro e w5 ⟨A5, c5, rfl, hown5, hb5⟩)
        | (have a : W.heap.size + 1 ≤ w5.heap.size := sz_a hb5; refine step_app (α := U64) (n := 2) (l := [wd kind, wd num]) (m := vals.length + 1) (nm := 2 + (vals.length + 1)) (B := w5.heap.size) (r := valsW bx vals) (by rfl) (.tmp 14) (.tmp 17) _ (by rfl) (w.heap.size + 1) 24 i0 _ 8 Try.underlying39 hi hz0 hz1 hz2 rfl (by decide) u64_one (by rfl) rfl ((HLIT.out.fresh hb5)) (by rfl) (hown5.at_ HVO.out) (valsW_length _ _) rfl (by omega) (by simp only [maxLen]; omega) (by omega) ?_; intro A6 c6 w6 hown6 hgr6 hat6)
        | (have a : W.heap.size ≤ w5.heap.size := sz_d hb5; refine step_app (α := U64) (n := 2) (l := [wd kind, wd num]) (m := vals.length + 1) (nm := 2 + (vals.length + 1)) (B := w5.heap.size) (r := valsW bx vals) (by rfl) (.tmp 14) (.tmp 17) _ (by rfl) (w.heap.size + 1) 24 i0 _ 8 Try.underlying39 hi hz0 hz1 hz2 rfl (by decide) u64_one (by rfl) rfl (own_lit w5 (w.heap.size + 1) w5.heap.size 2 24 #[.int .u64 (kind % 18446744073709551616), .int .u64 (num % 18446744073709551616)] [wd kind, wd num] rfl rfl (by omega) rfl (by simp [maxLen])) (by rfl) ((hown5.at_ HVO.out).alloc (Nat.le_refl _) _) (valsW_length _ _) rfl (by omega) (by simp only [maxLen]; omega) (by simp; omega) ?_; intro A6 c6 w6 hown6 hgr6 hat6))
    all_goals (go_wp2_with fail; go_meet)
    · have a : W.heap.size + 1 ≤ w5.heap.size := sz_a hb5
      have b := gr_s hgr6
      exact ⟨A6, c6, rfl, hown6, (HLB.out.fresh hb5).grown hgr6 (fun e => own_ne_ty (HLIT.out.fresh hb5) (HLB.out.fresh hb5) (by decide) e), ((hb0.drew.alloc (show w.heap.size ≤ W.heap.size by omega) _).trans (hb5.mono (by simp; omega))).grown hgr6 (by omega) (fun g hg => by simp [rowOf] at hg; omega), by omega⟩
    · have a : W.heap.size ≤ w5.heap.size := sz_d hb5
      have b := gr_a hgr6
      exact ⟨A6, c6, rfl, hown6, ((HG.out.1.drew.fresh hb5).alloc (.cells #[.int .u64 (kind % 18446744073709551616), .int .u64 (num % 18446744073709551616)] 24)).grown hgr6 (fun e => by simp [rowOf] at e; omega), ((hb0.drew.trans (hb5.mono (show w.heap.size ≤ W.heap.size by omega))).alloc (by omega) _).grown hgr6 (by simp; omega) (fun g hg => by simp [rowOf] at hg; omega), by omega⟩
  case rest =>
  obtain ⟨A6, c6, rfl, hown6, hC6, hb6, hs6⟩ := hcut
  rename World => w6
  have hlen6 : 2 + (vals.length + 1) = ([wd kind, wd num] ++ valsW bx vals).length := by rw [List.length_append, valsW_length]; rfl
  have g3 := hC6.cell 3 (v := .slice FA frames.length fc) rfl
  have lt6 : w.heap.size < w6.heap.size := by omega
  have H6 := Lib.hid (And.intro hown6 (And.intro hC6 hlen6)); clear hown6 hC6 hlen6 g0 g1 g2
  have hcf := HCF.out
  go_wp2_with (at_builtin; go_must (refine wpList_app (α := U64) (n := 2 + (vals.length + 1)) (m := 1) (B := w6.heap.size + 1) (r := [wd frames.length]) rfl (.tmp 19) (.tmp 24) _ rfl (w.heap.size + 1) 24 i0 _ 8 Try.underlying39 hi hz0 hz1 hz2 rfl (by decide) u64_one (by rfl) H6.out.2.2.symm (H6.out.1.alloc _) (by rfl) ?_ rfl (by omega) (by simp only [maxLen]; omega) (by simp; omega) ?_))
  · exact At.built w6 _ _ [wd frames.length] rfl (by intro z hz; simp at hz; subst hz; exact wd_ok _)
  intro A7 c7 w7 hown7 hgr7 hat7
  have hs7 := hgr7.size
  simp only [World.size_alloc] at hs7
  have hb7 : Below w.heap.size w w7 := (hb6.alloc (by omega) _).grown hgr7 (by simp; omega) (fun g hg => by have := (H6.out.1.lt g hg).1; omega)
  have hC7 := (H6.out.2.1.alloc (.cells #[.int .u64 ((frames.length : Int) % 18446744073709551616)] 24)).grown hgr7 (fun e => own_ne_ty H6.out.1 H6.out.2.1 (by decide) e)
  have g3' := hC7.cell 3 (v := .slice FA frames.length fc) rfl
  have H7 := Lib.hid hown7; clear hown7 hgr7 hat7 hC7 g3 hcf
  go_wp2_with fail
  clear g3'
  go_loopg [3, 29] (frames.length) (fun gk ov iv wr => ∃ (k : Nat) (A2 : Option Addr) (c2 : Nat) (o1 : List U64), k ≤ frames.length ∧ gk = frames.length - k ∧ iv = .int .i64 k ∧ ov = .slice A2 o1.length c2 ∧ o1.length ≤ 604 + k * 110 ∧ Hid (o1 = [wd kind, wd num] ++ valsW bx vals ++ [wd frames.length] ++ (frames.take k).flatMap (frameW bx) ∧ Own wr (w.heap.size + 1) 24 A2 c2 o1) ∧ Below w.heap.size w wr ∧ w.heap.size + 1 ≤ wr.heap.size)
  case atStart => exact ⟨0, A7, c7, [wd kind, wd num] ++ valsW bx vals ++ [wd frames.length], Nat.zero_le _, rfl, rfl, by rw [List.length_append, ← H6.out.2.2]; rfl, by rw [List.length_append, ← H6.out.2.2, List.length_singleton]; omega, ⟨by simp, H7.out⟩, hb7, by omega⟩
  case round =>
    obtain ⟨k, A2, c2, o1, hk, rfl, rfl, rfl, ho1, hkeep, hbl, hsz⟩ := hrel
    by_cases hlt : k < frames.length
    · obtain ⟨b, o, f, A3, c3, A4, c4, rfl, hb, hx, q0, q1, q2, q3, q4, q5, q6, q7, at1, hm1, at2, hm2, j0, j1, j2, j3, j4, j5⟩ := (HH.out.2.1.below (hbl.mono hB)).fr_ hlt
      have hfl := HH.out.2.2 f (List.mem_of_getElem? hx)
      have hfs := flatMap_snoc (frameW bx) frames k _ hx
      obtain ⟨fn, fat, fto, gen, ⟨s0, s1⟩, regs, tries⟩ := f
      simp only at q0 q1 q2 q3 q4 q5 q6 q7 hm1 hm2 at1 at2 j4 j5
      simp only [frLarge, Bool.or_eq_false_iff, decide_eq_false_iff_not] at hfl
      have hr60 : regs.length ≤ 60 := by omega
      have ht20 : tries.length ≤ 20 := by omega
      have HX := Lib.hid (And.intro hfs (And.intro (And.intro at1 at2) (And.intro (And.intro j4 j5) hkeep.out))); clear hfs at1 at2 hx hkeep hm1 hm2 j0 j1 j2 j3 j4 j5 hfl hck hcn
      have hk0 : IntKind.u64.wrap fn = fn % 18446744073709551616 := IntKind.wrap_u64 _
      have hk1 : IntKind.u64.wrap fat = fat % 18446744073709551616 := IntKind.wrap_u64 _
      have hk2 : IntKind.u64.wrap fto = fto % 18446744073709551616 := IntKind.wrap_u64 _
      have hk3 : IntKind.u64.wrap gen = gen % 18446744073709551616 := IntKind.wrap_u64 _
      go_wp2_with (at_builtin; go_must (refine wpList_app (α := U64) (n := o1.length) (m := 4) (B := wr.heap.size + 1 + 1) (r := [wd fn, wd fat, wd fto, wd gen]) rfl (.tmp 33) (.tmp 46) _ rfl (w.heap.size + 1) 24 i0 _ 8 Try.underlying39 hi hz0 hz1 hz2 rfl (by decide) u64_one (by rfl) rfl ((HX.out.2.2.2.2.alloc _).alloc _) (by rfl) ?_ rfl (by omega) (by simp only [maxLen]; omega) (by simp; omega) ?_))
      · have := At.built (wr.alloc (.cells #[.int .i64 fn, .int .i64 fat, .int .i64 fto, .int .i64 gen, .int .i64 s0, .int .i64 s1, .slice A3 regs.length c3, .slice A4 tries.length c4] 148)) #[.int .u64 (fn % 18446744073709551616), .int .u64 (fat % 18446744073709551616), .int .u64 (fto % 18446744073709551616), .int .u64 (gen % 18446744073709551616)] 24 [wd fn, wd fat, wd fto, wd gen] rfl (by intro z hz; simp at hz; rcases hz with rfl | rfl | rfl | rfl <;> exact wd_ok _)
        simpa using this
      intro A8 c8 w8 hown8 hgr8 hat8
      clear hk0 hk1 hk2 hk3
      have hs8 : wr.heap.size + 2 ≤ w8.heap.size := by have := hgr8.size; simp at this; omega
      have hF8 := (((Blk.new wr 148 #[.int .i64 fn, .int .i64 fat, .int .i64 fto, .int .i64 gen, .int .i64 s0, .int .i64 s1, .slice A3 regs.length c3, .slice A4 tries.length c4]).alloc (.cells #[.int .u64 (fn % 18446744073709551616), .int .u64 (fat % 18446744073709551616), .int .u64 (fto % 18446744073709551616), .int .u64 (gen % 18446744073709551616)] 24))).grown hgr8 (fun e => by have := (HX.out.2.2.2.2.lt _ e).2; omega)
      have hbr8 : Below (w.heap.size + 1) wr w8 := (((Below.refl (w.heap.size + 1) wr).alloc hsz _).alloc (by simp; omega) _).grown hgr8 (by simp; omega) (fun g hg => (HX.out.2.2.2.2.lt g hg).1)
      have hbl8 := hbl.trans (hbr8.mono (by omega))
      have p4 := hF8.cell 4 (v := .int .i64 s0) rfl
      have p5 := hF8.cell 5 (v := .int .i64 s1) rfl
      have hl8 : (o1 ++ [wd fn, wd fat, wd fto, wd gen]).length = o1.length + 4 := by rw [List.length_append]; rfl
      have H8 := Lib.hid (And.intro hown8 (And.intro hF8 hl8)); clear hown8 hgr8 hat8 hF8 hl8
      go_wp2_with fail
      have hv1 := At.built w8 #[.int .i64 s0, .int .i64 s1] 23 [(s0, s1)] rfl (by intro z hz; simp at hz; subst hz; exact HX.out.2.2.1)
      refine (valWords_any (w8.heap.size + 1) 1 1 (some ⟨w8.heap.size, 0, none⟩) [(s0, s1)] _ rfl hv1 (by simp) (by omega)).mono ?_
      rintro e w9 ⟨A9, c9, rfl, hown9, hb9⟩
      have hs9 : w8.heap.size + 1 ≤ w9.heap.size := by have := hb9.size; simp at this; omega
      have hF9 := (H8.out.2.1.alloc (.cells #[.int .i64 s0, .int .i64 s1] 23)).fresh hb9
      have hO9 := (H8.out.1.alloc (.cells #[.int .i64 s0, .int .i64 s1] 23)).fresh hb9
      have hbr9 : Below (w.heap.size + 1) wr w9 := (hbr8.alloc (by omega) _).trans (hb9.mono (by simp; omega))
      obtain ⟨g9, rfl, -, -⟩ := hown9.some_ (by simp [valsW])
      have hcap9 := hown9.le_cap.1
      have hcap9' : 2 ≤ c9 := by simpa [valsW] using hcap9
      have hc91 : ¬ c9 = 1 := by omega
      have hc92 : 1 ≤ c9 := by omega
      have hat9 := (hown9.at_ (valsW_ok _)).drop_ 1
      have hdr : (valsW bx [(s0, s1)]).drop 1 = [boxW bx (s0, s1)] := rfl
      rw [hdr, Nat.zero_add] at hat9
      have H9 := Lib.hid (And.intro hO9 (And.intro hF9 hat9)); clear hO9 hF9 hat9 hown9 hdr hcap9 p4 p5 hv1
      go_wp2_with (at_builtin; go_must (refine wpList_app (α := U64) (n := o1.length + 4) (m := 1) (B := w9.heap.size) (r := [boxW bx (s0, s1)]) rfl (.tmp 48) (.tmp 53) _ rfl (w.heap.size + 1) 24 i0 _ 8 Try.underlying39 hi hz0 hz1 hz2 rfl (by decide) u64_one (by rfl) H8.out.2.2 H9.out.1 (by rfl) H9.out.2.2 rfl (by omega) (by simp only [maxLen]; omega) (by omega) ?_))
      intro A10 c10 w10 hown10 hgr10 hat10
      have hown10 : Own w10 (w.heap.size + 1) 24 A10 c10 (o1 ++ [wd fn, wd fat, wd fto, wd gen] ++ [boxW bx (s0, s1)]) := by simpa using hown10
      have hs10 := hgr10.size
      have hF10 := H9.out.2.1.grown hgr10 (fun e => own_ne_ty H9.out.1 H9.out.2.1 (by decide) e)
      have hbr10 : Below (w.heap.size + 1) wr w10 := hbr9.grown hgr10 (by omega) (fun g hg => (H9.out.1.lt g hg).1)
      have p6 := hF10.cell 6 (v := .slice A3 regs.length c3) rfl
      have p7 := hF10.cell 7 (v := .slice A4 tries.length c4) rfl
      have hl10 : (o1 ++ [wd fn, wd fat, wd fto, wd gen] ++ [boxW bx (s0, s1)]).length = o1.length + 4 + 1 := by rw [List.length_append, H8.out.2.2]; rfl
      have hatr := HX.out.2.1.1.below (hbr10.mono (by omega))
      have hct : IntKind.u64.wrap (tries.length : Int) = (tries.length : Int) % 18446744073709551616 := IntKind.wrap_u64 _
      have H10 := Lib.hid (And.intro hown10 (And.intro hF10 (And.intro hl10 (And.intro hatr (valsW_ok regs))))); clear hown10 hF10 hl10 hatr hgr10 hat10
      have hs10' : w.heap.size + 1 ≤ w10.heap.size := by omega
      go_wp2_with fail
      go_cut [3] (fun ov W2 => ∃ (A13 : Option Addr) (c13 : Nat), ov = .slice A13 (o1.length + 4 + 1 + (regs.length + 1) + 1) c13 ∧ Own W2 (w.heap.size + 1) 24 A13 c13 (o1 ++ [wd fn, wd fat, wd fto, wd gen] ++ [boxW bx (s0, s1)] ++ valsW bx regs ++ [wd tries.length]) ∧ Blk W2 wr.heap.size 148 #[.int .i64 fn, .int .i64 fat, .int .i64 fto, .int .i64 gen, .int .i64 s0, .int .i64 s1, .slice A3 regs.length c3, .slice A4 tries.length c4] ∧ Below (w.heap.size + 1) wr W2 ∧ w.heap.size + 1 ≤ W2.heap.size)
      case first =>
        have HLB := Lib.hid (H10.out.2.1.drew.alloc (.cells #[.int .u64 ((tries.length : Int) % 18446744073709551616)] 24))
        have HLO := Lib.hid (H10.out.1.drew.alloc (.cells #[.int .u64 ((tries.length : Int) % 18446744073709551616)] 24))
        have HLT := Lib.hid (At.built w10.drew #[.int .u64 ((tries.length : Int) % 18446744073709551616)] 24 [wd tries.length] rfl (by intro z hz; simp at hz; subst hz; exact wd_ok _))
        have HWT := Lib.hid (fun V : World => At.built V #[.int .u64 ((tries.length : Int) % 18446744073709551616)] 24 [wd tries.length] rfl (by intro z hz; simp at hz; subst hz; exact wd_ok _))
        go_region_held3 (fun w' => w'.cell? ⟨wr.heap.size, 6, none⟩ = some (.slice A3 regs.length c3) ∧ w'.cell? ⟨wr.heap.size, 7, none⟩ = some (.slice A4 tries.length c4))
          (first
            | exact ⟨p6, p7⟩
            | exact ⟨HLB.out.cell 6 rfl, HLB.out.cell 7 rfl⟩
            | exact ⟨(HLB.out.fresh hb11).cell 6 rfl, (HLB.out.fresh hb11).cell 7 rfl⟩
            | exact ⟨(H10.out.2.1.drew.fresh hb11).cell 6 rfl, (H10.out.2.1.drew.fresh hb11).cell 7 rfl⟩
            | exact ⟨((H10.out.2.1.drew.fresh hb11).alloc (.cells #[.int .u64 ((tries.length : Int) % 18446744073709551616)] 24)).cell 6 rfl, ((H10.out.2.1.drew.fresh hb11).alloc (.cells #[.int .u64 ((tries.length : Int) % 18446744073709551616)] 24)).cell 7 rfl⟩
            | exact ⟨((HLB.out.fresh hb11).grown hgr12 (fun e => own_ne_ty (HLO.out.fresh hb11) (HLB.out.fresh hb11) (by decide) e)).cell 6 rfl, ((HLB.out.fresh hb11).grown hgr12 (fun e => own_ne_ty (HLO.out.fresh hb11) (HLB.out.fresh hb11) (by decide) e)).cell 7 rfl⟩
            | exact ⟨(((H10.out.2.1.drew.fresh hb11).alloc (.cells #[.int .u64 ((tries.length : Int) % 18446744073709551616)] 24)).grown hgr12 (fun e => own_ne_ty ((H10.out.1.drew.fresh hb11).alloc (.cells #[.int .u64 ((tries.length : Int) % 18446744073709551616)] 24)) ((H10.out.2.1.drew.fresh hb11).alloc (.cells #[.int .u64 ((tries.length : Int) % 18446744073709551616)] 24)) (by decide) e)).cell 6 rfl, (((H10.out.2.1.drew.fresh hb11).alloc (.cells #[.int .u64 ((tries.length : Int) % 18446744073709551616)] 24)).grown hgr12 (fun e => own_ne_ty ((H10.out.1.drew.fresh hb11).alloc (.cells #[.int .u64 ((tries.length : Int) % 18446744073709551616)] 24)) ((H10.out.2.1.drew.fresh hb11).alloc (.cells #[.int .u64 ((tries.length : Int) % 18446744073709551616)] 24)) (by decide) e)).cell 7 rfl⟩
            | exact ⟨((H10.out.2.1.drew.fresh hb11).grown hgr12 (fun e => own_ne_ty (H10.out.1.drew.fresh hb11) (H10.out.2.1.drew.fresh hb11) (by decide) e)).cell 6 rfl, ((H10.out.2.1.drew.fresh hb11).grown hgr12 (fun e => own_ne_ty (H10.out.1.drew.fresh hb11) (H10.out.2.1.drew.fresh hb11) (by decide) e)).cell 7 rfl⟩
            | exact ⟨(((H10.out.2.1.drew.fresh hb11).grown hgr12 (fun e => own_ne_ty (H10.out.1.drew.fresh hb11) (H10.out.2.1.drew.fresh hb11) (by decide) e)).alloc (.cells #[.int .u64 ((tries.length : Int) % 18446744073709551616)] 24)).cell 6 rfl, (((H10.out.2.1.drew.fresh hb11).grown hgr12 (fun e => own_ne_ty (H10.out.1.drew.fresh hb11) (H10.out.2.1.drew.fresh hb11) (by decide) e)).alloc (.cells #[.int .u64 ((tries.length : Int) % 18446744073709551616)] 24)).cell 7 rfl⟩
            | exact ⟨(((HLB.out.fresh hb11).grown hgr12 (fun e => own_ne_ty (HLO.out.fresh hb11) (HLB.out.fresh hb11) (by decide) e)).grown hgr13 (fun e => own_ne_ty hown12 ((HLB.out.fresh hb11).grown hgr12 (fun e => own_ne_ty (HLO.out.fresh hb11) (HLB.out.fresh hb11) (by decide) e)) (by decide) e)).cell 6 rfl, (((HLB.out.fresh hb11).grown hgr12 (fun e => own_ne_ty (HLO.out.fresh hb11) (HLB.out.fresh hb11) (by decide) e)).grown hgr13 (fun e => own_ne_ty hown12 ((HLB.out.fresh hb11).grown hgr12 (fun e => own_ne_ty (HLO.out.fresh hb11) (HLB.out.fresh hb11) (by decide) e)) (by decide) e)).cell 7 rfl⟩
            | exact ⟨((((H10.out.2.1.drew.fresh hb11).alloc (.cells #[.int .u64 ((tries.length : Int) % 18446744073709551616)] 24)).grown hgr12 (fun e => own_ne_ty ((H10.out.1.drew.fresh hb11).alloc (.cells #[.int .u64 ((tries.length : Int) % 18446744073709551616)] 24)) ((H10.out.2.1.drew.fresh hb11).alloc (.cells #[.int .u64 ((tries.length : Int) % 18446744073709551616)] 24)) (by decide) e)).grown hgr13 (fun e => own_ne_ty hown12 (((H10.out.2.1.drew.fresh hb11).alloc (.cells #[.int .u64 ((tries.length : Int) % 18446744073709551616)] 24)).grown hgr12 (fun e => own_ne_ty ((H10.out.1.drew.fresh hb11).alloc (.cells #[.int .u64 ((tries.length : Int) % 18446744073709551616)] 24)) ((H10.out.2.1.drew.fresh hb11).alloc (.cells #[.int .u64 ((tries.length : Int) % 18446744073709551616)] 24)) (by decide) e)) (by decide) e)).cell 6 rfl, ((((H10.out.2.1.drew.fresh hb11).alloc (.cells #[.int .u64 ((tries.length : Int) % 18446744073709551616)] 24)).grown hgr12 (fun e => own_ne_ty ((H10.out.1.drew.fresh hb11).alloc (.cells #[.int .u64 ((tries.length : Int) % 18446744073709551616)] 24)) ((H10.out.2.1.drew.fresh hb11).alloc (.cells #[.int .u64 ((tries.length : Int) % 18446744073709551616)] 24)) (by decide) e)).grown hgr13 (fun e => own_ne_ty hown12 (((H10.out.2.1.drew.fresh hb11).alloc (.cells #[.int .u64 ((tries.length : Int) % 18446744073709551616)] 24)).grown hgr12 (fun e => own_ne_ty ((H10.out.1.drew.fresh hb11).alloc (.cells #[.int .u64 ((tries.length : Int) % 18446744073709551616)] 24)) ((H10.out.2.1.drew.fresh hb11).alloc (.cells #[.int .u64 ((tries.length : Int) % 18446744073709551616)] 24)) (by decide) e)) (by decide) e)).cell 7 rfl⟩
            | exact ⟨((((H10.out.2.1.drew.fresh hb11).grown hgr12 (fun e => own_ne_ty (H10.out.1.drew.fresh hb11) (H10.out.2.1.drew.fresh hb11) (by decide) e)).alloc (.cells #[.int .u64 ((tries.length : Int) % 18446744073709551616)] 24)).grown hgr13 (fun e => own_ne_ty (hown12.alloc (.cells #[.int .u64 ((tries.length : Int) % 18446744073709551616)] 24)) (((H10.out.2.1.drew.fresh hb11).grown hgr12 (fun e => own_ne_ty (H10.out.1.drew.fresh hb11) (H10.out.2.1.drew.fresh hb11) (by decide) e)).alloc (.cells #[.int .u64 ((tries.length : Int) % 18446744073709551616)] 24)) (by decide) e)).cell 6 rfl, ((((H10.out.2.1.drew.fresh hb11).grown hgr12 (fun e => own_ne_ty (H10.out.1.drew.fresh hb11) (H10.out.2.1.drew.fresh hb11) (by decide) e)).alloc (.cells #[.int .u64 ((tries.length : Int) % 18446744073709551616)] 24)).grown hgr13 (fun e => own_ne_ty (hown12.alloc (.cells #[.int .u64 ((tries.length : Int) % 18446744073709551616)] 24)) (((H10.out.2.1.drew.fresh hb11).grown hgr12 (fun e => own_ne_ty (H10.out.1.drew.fresh hb11) (H10.out.2.1.drew.fresh hb11) (by decide) e)).alloc (.cells #[.int .u64 ((tries.length : Int) % 18446744073709551616)] 24)) (by decide) e)).cell 7 rfl⟩
            | go_keep)
          (first
            | (go_at_call 102; refine (valWords_any B c3 regs.length A3 regs _ rfl (H10.out.2.2.2.1.drew.alloc (by show B ≤ w10.heap.size; omega) (.cells #[.int .u64 ((tries.length : Int) % 18446744073709551616)] 24)) (by simp; omega) (by omega)).mono ?_; rintro e w11 ⟨A11, c11, rfl, hown11, hb11⟩)
            | (go_at_call 102; refine (valWords_any B c3 regs.length A3 regs _ rfl H10.out.2.2.2.1.drew (by show B ≤ w10.heap.size; omega) (by omega)).mono ?_; rintro e w11 ⟨A11, c11, rfl, hown11, hb11⟩)
            | (have a : w10.heap.size + 1 ≤ w11.heap.size := sz_a hb11; have b : w11.heap.size ≤ w12.heap.size := gr_s hgr12; have e10 : w10.drew.heap.size = w10.heap.size := rfl; refine step_app (α := U64) (n := o1.length + 4 + 1 + (regs.length + 1)) (m := 1) (nm := o1.length + 4 + 1 + (regs.length + 1) + 1) (r := [wd tries.length]) (by rfl) (.tmp 59) (.tmp 64) _ (by rfl) (w.heap.size + 1) 24 i0 _ 8 Try.underlying39 hi hz0 hz1 hz2 rfl (by decide) u64_one (by rfl) (by rw [List.length_append, H10.out.2.2.1, valsW_length]) hown12 (by rfl) (B := w10.heap.size + 1) ((HLT.out.below (hb11.mono (by simp))).grown_ (by omega) hgr12 (fun g hg he => by simp [rowOf] at hg; have := (H10.out.1.lt g he).2; omega)) rfl rfl (by omega) (by simp only [maxLen]; omega) (by omega) ?_; intro A13 c13 w13 hown13 hgr13 hat13)
            | (have a : w10.heap.size ≤ w11.heap.size := sz_d hb11; have b : w11.heap.size + 1 ≤ w12.heap.size := gr_a hgr12; refine step_app (α := U64) (n := o1.length + 4 + 1 + (regs.length + 1)) (m := 1) (nm := o1.length + 4 + 1 + (regs.length + 1) + 1) (r := [wd tries.length]) (by rfl) (.tmp 59) (.tmp 64) _ (by rfl) (w.heap.size + 1) 24 i0 _ 8 Try.underlying39 hi hz0 hz1 hz2 rfl (by decide) u64_one (by rfl) (by rw [List.length_append, H10.out.2.2.1, valsW_length]) hown12 (by rfl) (B := w11.heap.size + 1) ((HWT.out w11).grown_ (by simp) hgr12 (fun g hg he => by simp [rowOf] at hg; have := (H10.out.1.lt g he).2; omega)) rfl rfl (by omega) (by simp only [maxLen]; omega) (by omega) ?_; intro A13 c13 w13 hown13 hgr13 hat13)
            | (have a : w10.heap.size ≤ w11.heap.size := sz_d hb11; have b : w11.heap.size ≤ w12.heap.size := gr_s hgr12; refine step_app (α := U64) (n := o1.length + 4 + 1 + (regs.length + 1)) (m := 1) (nm := o1.length + 4 + 1 + (regs.length + 1) + 1) (r := [wd tries.length]) (by rfl) (.tmp 59) (.tmp 64) _ (by rfl) (w.heap.size + 1) 24 i0 _ 8 Try.underlying39 hi hz0 hz1 hz2 rfl (by decide) u64_one (by rfl) (by rw [List.length_append, H10.out.2.2.1, valsW_length]) (hown12.alloc (.cells #[.int .u64 ((tries.length : Int) % 18446744073709551616)] 24)) (by rfl) (B := w12.heap.size + 1) (HWT.out w12) rfl rfl (by omega) (by simp only [maxLen]; omega) (by simp; omega) ?_; intro A13 c13 w13 hown13 hgr13 hat13)
            | (have a : w10.heap.size + 1 ≤ w11.heap.size := sz_a hb11; refine step_app (α := U64) (n := o1.length + 4 + 1) (m := regs.length + 1) (nm := o1.length + 4 + 1 + (regs.length + 1)) (B := w11.heap.size) (r := valsW bx regs) (by rfl) (.tmp 55) (.tmp 58) _ (by rfl) (w.heap.size + 1) 24 i0 _ 8 Try.underlying39 hi hz0 hz1 hz2 rfl (by decide) u64_one (by rfl) H10.out.2.2.1 (HLO.out.fresh hb11) (by rfl) (hown11.at_ H10.out.2.2.2.2) (valsW_length _ _) rfl (by omega) (by simp only [maxLen]; omega) (by omega) ?_; intro A12 c12 w12 hown12 hgr12 hat12)
            | (have a : w10.heap.size ≤ w11.heap.size := sz_d hb11; refine step_app (α := U64) (n := o1.length + 4 + 1) (m := regs.length + 1) (nm := o1.length + 4 + 1 + (regs.length + 1)) (B := w11.heap.size) (r := valsW bx regs) (by rfl) (.tmp 55) (.tmp 58) _ (by rfl) (w.heap.size + 1) 24 i0 _ 8 Try.underlying39 hi hz0 hz1 hz2 rfl (by decide) u64_one (by rfl) H10.out.2.2.1 (H10.out.1.drew.fresh hb11) (by rfl) (hown11.at_ H10.out.2.2.2.2) (valsW_length _ _) rfl (by omega) (by simp only [maxLen]; omega) (by omega) ?_; intro A12 c12 w12 hown12 hgr12 hat12)
            | (have a : w10.heap.size ≤ w11.heap.size := sz_d hb11; refine step_app (α := U64) (n := o1.length + 4 + 1) (m := regs.length + 1) (nm := o1.length + 4 + 1 + (regs.length + 1)) (B := w11.heap.size) (r := valsW bx regs) (by rfl) (.tmp 55) (.tmp 58) _ (by rfl) (w.heap.size + 1) 24 i0 _ 8 Try.underlying39 hi hz0 hz1 hz2 rfl (by decide) u64_one (by rfl) H10.out.2.2.1 ((H10.out.1.drew.fresh hb11).alloc (.cells #[.int .u64 ((tries.length : Int) % 18446744073709551616)] 24)) (by rfl) ((hown11.at_ H10.out.2.2.2.2).alloc (Nat.le_refl _) (.cells #[.int .u64 ((tries.length : Int) % 18446744073709551616)] 24)) (valsW_length _ _) rfl (by omega) (by simp only [maxLen]; omega) (by simp; omega) ?_; intro A12 c12 w12 hown12 hgr12 hat12))
        all_goals (go_wp2_with fail; go_meet)
        all_goals
          have hs13 := hgr13.size
          have hs12 := hgr12.size
          first
            | (have a : w10.heap.size + 1 ≤ w11.heap.size := sz_a hb11; have b : w11.heap.size ≤ w12.heap.size := gr_s hgr12; refine ⟨A13, c13, rfl, hown13, (((HLB.out.fresh hb11).grown hgr12 (fun e => own_ne_ty (HLO.out.fresh hb11) (HLB.out.fresh hb11) (by decide) e)).grown hgr13 (fun e => own_ne_ty hown12 ((HLB.out.fresh hb11).grown hgr12 (fun e => own_ne_ty (HLO.out.fresh hb11) (HLB.out.fresh hb11) (by decide) e)) (by decide) e)), ?_, ?_⟩
               · exact ((((hbr10.drew).alloc (show _ ≤ w10.heap.size by omega) _).trans (hb11.mono (by simp; omega))).grown hgr12 (by omega) (fun g hg => (H10.out.1.lt g hg).1)).grown hgr13 (by omega) (fun g hg => (hown12.lt g hg).1)
               · omega)
            | (have a : w10.heap.size ≤ w11.heap.size := sz_d hb11; have b : w11.heap.size + 1 ≤ w12.heap.size := gr_a hgr12; refine ⟨A13, c13, rfl, hown13, ((((H10.out.2.1.drew.fresh hb11).alloc (.cells #[.int .u64 ((tries.length : Int) % 18446744073709551616)] 24)).grown hgr12 (fun e => own_ne_ty ((H10.out.1.drew.fresh hb11).alloc (.cells #[.int .u64 ((tries.length : Int) % 18446744073709551616)] 24)) ((H10.out.2.1.drew.fresh hb11).alloc (.cells #[.int .u64 ((tries.length : Int) % 18446744073709551616)] 24)) (by decide) e)).grown hgr13 (fun e => own_ne_ty hown12 (((H10.out.2.1.drew.fresh hb11).alloc (.cells #[.int .u64 ((tries.length : Int) % 18446744073709551616)] 24)).grown hgr12 (fun e => own_ne_ty ((H10.out.1.drew.fresh hb11).alloc (.cells #[.int .u64 ((tries.length : Int) % 18446744073709551616)] 24)) ((H10.out.2.1.drew.fresh hb11).alloc (.cells #[.int .u64 ((tries.length : Int) % 18446744073709551616)] 24)) (by decide) e)) (by decide) e)), ?_, ?_⟩
               · exact ((((hbr10.drew).trans (hb11.mono (show _ ≤ w10.heap.size by omega))).alloc (by omega) _).grown hgr12 (by simp; omega) (fun g hg => (H10.out.1.lt g hg).1)).grown hgr13 (by omega) (fun g hg => (hown12.lt g hg).1)
               · omega)
            | (have a : w10.heap.size ≤ w11.heap.size := sz_d hb11; have b : w11.heap.size ≤ w12.heap.size := gr_s hgr12; refine ⟨A13, c13, rfl, hown13, ((((H10.out.2.1.drew.fresh hb11).grown hgr12 (fun e => own_ne_ty (H10.out.1.drew.fresh hb11) (H10.out.2.1.drew.fresh hb11) (by decide) e)).alloc (.cells #[.int .u64 ((tries.length : Int) % 18446744073709551616)] 24)).grown hgr13 (fun e => own_ne_ty (hown12.alloc (.cells #[.int .u64 ((tries.length : Int) % 18446744073709551616)] 24)) (((H10.out.2.1.drew.fresh hb11).grown hgr12 (fun e => own_ne_ty (H10.out.1.drew.fresh hb11) (H10.out.2.1.drew.fresh hb11) (by decide) e)).alloc (.cells #[.int .u64 ((tries.length : Int) % 18446744073709551616)] 24)) (by decide) e)), ?_, ?_⟩
               · exact ((((hbr10.drew).trans (hb11.mono (show _ ≤ w10.heap.size by omega))).grown hgr12 (by omega) (fun g hg => (H10.out.1.lt g hg).1)).alloc (by omega) _).grown hgr13 (by simp; omega) (fun g hg => (hown12.lt g hg).1)
               · simp at hs13; omega)
      case rest =>
      obtain ⟨A13, c13, rfl, hown13, hF13, hbr13, hs13⟩ := hcut
      rename World => w13
      have p7 := hF13.cell 7 (v := .slice A4 tries.length c4) rfl
      have hl13 : (o1 ++ [wd fn, wd fat, wd fto, wd gen] ++ [boxW bx (s0, s1)] ++ valsW bx regs ++ [wd tries.length]).length = o1.length + 4 + 1 + (regs.length + 1) + 1 := by simp [valsW_length]; omega
      have H13 := Lib.hid (And.intro hown13 hl13); clear hown13 hl13 hF13 p6
      have hbl13 : Below w.heap.size w w13 := hbl.trans (hbr13.mono (by omega))
      go_wp2_with fail
      clear p7
      obtain ⟨wo, rfl⟩ : ∃ wo : World, wo = wr := ⟨_, rfl⟩
      go_loopg [3, 69] (tries.length) (fun gj ov jv wj => ∃ (j : Nat) (A5 : Option Addr) (c5 : Nat) (o2 : List U64), j ≤ tries.length ∧ gj = tries.length - j ∧ jv = .int .i64 j ∧ ov = .slice A5 o2.length c5 ∧ o2.length ≤ 604 + k * 110 + 67 + 2 * j ∧ Hid (o2 = o1 ++ [wd fn, wd fat, wd fto, wd gen] ++ [boxW bx (s0, s1)] ++ valsW bx regs ++ [wd tries.length] ++ triesW (tries.take j) ∧ Own wj (w.heap.size + 1) 24 A5 c5 o2) ∧ Below (w.heap.size + 1) wo wj ∧ w.heap.size + 1 ≤ wj.heap.size)
      case atStart => exact ⟨0, A13, c13, _, Nat.zero_le _, rfl, rfl, by rw [H13.out.2], by rw [H13.out.2]; omega, ⟨by simp [triesW], H13.out.1⟩, hbr13, hs13⟩
      case round =>
        obtain ⟨j, A5, c5, o2, hj, rfl, rfl, rfl, ho2, hkeep, hblo, hsj⟩ := hrel
        by_cases hjt : j < tries.length
        · obtain ⟨b', o', x, y, rfl, hb', hx, hox, hoy, d0, d1⟩ := (HX.out.2.1.2.below (hblo.mono (by omega))).pair hjt
          have hts : triesW (tries.take (j + 1)) = triesW (tries.take j) ++ [wd x, wd y] := flatMap_snoc _ tries j _ hx
          have HT := Lib.hid (And.intro hts hkeep.out); clear hts hx hox hoy hkeep
          have hx0 : IntKind.u64.wrap x = x % 18446744073709551616 := IntKind.wrap_u64 _
          have hy0 : IntKind.u64.wrap y = y % 18446744073709551616 := IntKind.wrap_u64 _
          go_wp2_with (at_builtin; go_must (refine wpList_app (α := U64) (n := o2.length) (m := 2) (B := wr.heap.size + 1 + 1) (r := [wd x, wd y]) rfl (.tmp 73) (.tmp 80) _ rfl (w.heap.size + 1) 24 i0 _ 8 Try.underlying39 hi hz0 hz1 hz2 rfl (by decide) u64_one (by rfl) rfl ((HT.out.2.2.alloc _).alloc _) (by rfl) ?_ rfl (by omega) (by simp only [maxLen]; omega) (by simp; omega) ?_))
          · have := At.built (wr.alloc (.cells #[.int .i64 x, .int .i64 y] 152)) #[.int .u64 (x % 18446744073709551616), .int .u64 (y % 18446744073709551616)] 24 [wd x, wd y] rfl (by intro z hz; simp at hz; rcases hz with rfl | rfl <;> exact wd_ok _)
            simpa using this
          intro A14 c14 w14 hown14 hgr14 hat14
          clear hx0 hy0
          have hown14 : Own w14 (w.heap.size + 1) 24 A14 c14 (o2 ++ [wd x, wd y]) := by simpa using hown14
          have hs14 : w.heap.size + 1 ≤ w14.heap.size := by have := hgr14.size; simp at this; omega
          have hbr14 : Below (w.heap.size + 1) wo w14 := ((hblo.alloc hsj _).alloc (by simp; omega) _).grown hgr14 (by simp; omega) (fun g hg => (HT.out.2.2.lt g hg).1)
          have heq : o2 ++ [wd x, wd y] = o1 ++ [wd fn, wd fat, wd fto, wd gen] ++ [boxW bx (s0, s1)] ++ valsW bx regs ++ [wd tries.length] ++ triesW (tries.take (j + 1)) := by rw [HT.out.1, HT.out.2.1]; simp
          have hl14 : (o2 ++ [wd x, wd y]).length = o2.length + 2 := by rw [List.length_append]; rfl
          have H14 := Lib.hid (And.intro heq (And.intro hown14 hl14)); clear heq hown14 hl14 hgr14 hat14
          go_wp2_with fail
          go_roundg (tries.length - (j + 1))
          case measure => omega
          case rel => exact ⟨j + 1, A14, c14, _, by omega, rfl, by go_num, by rw [H14.out.2.2], by rw [H14.out.2.2]; omega, ⟨H14.out.1, H14.out.2.1⟩, hbr14, hs14⟩
        · obtain ⟨j1, j2⟩ := hkeep.out
          rw [List.take_of_length_le (by omega)] at j1
          have heq : o2 = [wd kind, wd num] ++ valsW bx vals ++ [wd frames.length] ++ (frames.take (k + 1)).flatMap (frameW bx) := by
            rw [HX.out.1, j1, HX.out.2.2.2.1]; simp [frameW]
          have hl9 : o2.length ≤ 604 + (k + 1) * 110 := by omega
          have HF := Lib.hid (And.intro heq (And.intro j2 hl9)); clear heq j1 j2 hkeep hl9
          have hblj : Below w.heap.size w wr := hbl.trans (hblo.mono (by omega))
          go_wp2_with fail
          go_roundg (frames.length - (k + 1))
          case measure => omega
          case rel => exact ⟨k + 1, A5, c5, _, by omega, rfl, by go_num, rfl, HF.out.2.2, ⟨HF.out.1, HF.out.2.1⟩, hblj, hsj⟩
    · obtain ⟨k1, k2⟩ := hkeep.out
      rw [List.take_of_length_le (by omega)] at k1
      have hk1 : o1 = cellW bx ⟨kind, num, vals, frames⟩ := k1
      have HF := Lib.hid (And.intro hk1 k2); clear k1 hk1 k2 hkeep
      go_wp2_with fail
      go_ret
      exact ⟨A2, c2, by rw [← HF.out.1]; rfl, by rw [← HF.out.1]; exact HF.out.2.base_le (by omega), hbl⟩

end Go.Proofs.Ytpkccpegdpodoaa
