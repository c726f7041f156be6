/- KM: KmA. -/
import Derived.Test.YtdlcooplllimeaaGreatDoorKM1
import Derived.Test.YtdlcooplllimeaaGreatDoorKT38
/- TopMoved's own words: a value as a word; is there a weak table? -/
namespace Go.Proofs.YtdlcooplllimeaaGreatDoor
open Go.RowKit

attribute [local go_sem ↓] Go.wp_at_zero Go.wp_at_succ

namespace Top
/-- a value that may be boxed -/
def okV (n : Nat) (v : Int × Int) : Prop := (v.1 = 5 → 0 ≤ v.2 ∧ v.2 < (n : Int)) ∧ (v.1 ≠ 5 → (boxL v.1 v.2).2 = 0)
def plI (pl : List Nat) : List Int := pl.map fun n : Nat => (n : Int)
theorem plI_len (pl : List Nat) : (plI pl).length = pl.length := by simp [plI]
theorem plI_get {pl : List Nat} {k p : Nat} (h : pl[k]? = some p) : (plI pl)[k]? = some (p : Int) := by unfold plI; rw [List.getElem?_map, h]; rfl
def BxPost (pl : List Nat) (v : Int × Int) (w : World) (e : Ending) (w' : World) : Prop := ∃ (x : Int) (b : Bool), e = .returned (.tuple #[.int .u64 x, .bool b]) ∧ (b = true → okV pl.length v ∧ x = (wordOf pl v).val) ∧ Below w.heap.size w w'
set_option maxHeartbeats 1600000 in
set_option maxRecDepth 100000 in
theorem bxd_any (w : World) (B g n pc : Nat) (PA : Option Addr) (pl : List Nat) (k m : Int) (hg : Blk w g 34 #[.slice PA n pc]) (hn : pl.length = n) (hp : At w B PA (plI pl)) (hB : B ≤ w.heap.size) (hk : I64 k) (hm : I64 m) :
    Calls Tryz.prog 26 #[.agg #[.int .i64 k, .int .i64 m], .pointer (some ⟨g, 0, none⟩)] w (BxPost pl (k, m) w) := by
  obtain ⟨P, hP⟩ : ∃ P, BxPost pl (k, m) w = P := ⟨_, rfl⟩
  have HP := Lib.hid hP; rw [hP]; clear hP
  have hglt := hg.lt
  have hb0 : Below w.heap.size w (w.alloc (.cells #[.int .i64 k, .int .i64 m] 48)) := (Below.refl _ _).alloc (Nat.le_refl _) _
  have g0 := (hg.fresh hb0).cell 0 (v := .slice PA n pc) rfl
  by_cases h5 : k = 5
  · subst h5
    by_cases h0 : m < 0
    · have d0 : decide (m < 0) = true := decide_eq_true h0
      have H := Lib.hid (And.intro (hb0) (hn))
      clear hb0 hg hp hn h0 hk hm
      go_enter Tryz.func26, Tryz.ntmps26
      go_wp2_with fail
      rw [← HP.out]
      exact ⟨_, _, rfl, fun h => (by cases h), H.out.1⟩
    · have d0 : decide (m < 0) = false := decide_eq_false h0
      obtain ⟨j, rfl⟩ : ∃ j : Nat, m = (j : Int) := ⟨m.toNat, by omega⟩
      by_cases hj : j < n
      · have d1 : decide (n ≤ j) = false := decide_eq_false (by omega)
        have d1' : decide ((n : Int) ≤ (j : Int)) = false := decide_eq_false (by omega)
        obtain ⟨b, o, x, rfl, hb, hx, ix, q0⟩ := (hp.below (hb0.mono hB)).int_ (by rw [plI_len]; omega : j < (plI pl).length)
        have hxe : x = ((pl.getD j 0 : Nat) : Int) := by
          unfold plI at hx
          rw [List.getElem?_map] at hx
          obtain ⟨p, hpj⟩ : ∃ p, pl[j]? = some p := ⟨_, List.getElem?_eq_getElem (by omega)⟩
          rw [hpj] at hx
          injection hx with hx
          rw [← hx, List.getD_eq_getElem?_getD, hpj]; rfl
        have j0 : (0 : Int) ≤ (j : Int) := by omega
        have j1 : (j : Int) < (n : Int) := by omega
        have hl : Blk (w.alloc (.cells #[.int .i64 5, .int .i64 (j : Int)] 48)) w.heap.size 48 #[.int .i64 5, .int .i64 (j : Int)] := Blk.new _ _ _
        have hl2 : Blk ((w.alloc (.cells #[.int .i64 5, .int .i64 (j : Int)] 48)).setCell ⟨w.heap.size, 1, none⟩ (.int .i64 x)) w.heap.size 48 #[.int .i64 5, .int .i64 x] := by
          have := hl.set_ 1 (.int .i64 x)
          simpa using this
        have hb2 : Below w.heap.size w ((w.alloc (.cells #[.int .i64 5, .int .i64 (j : Int)] 48)).setCell ⟨w.heap.size, 1, none⟩ (.int .i64 x)) := hb0.setCell (p := ⟨w.heap.size, 1, none⟩) (Nat.le_refl _) _
        have H := Lib.hid (And.intro (hb0) (And.intro (hn) (And.intro (hxe) (And.intro (ix) (And.intro (hl) (And.intro (hl2) (hb2)))))))
        clear hb0 hg hp hn h0 hk hm hxe ix hx hl hl2 hb2
        go_enter Tryz.func26, Tryz.ntmps26
        go_upto_region 4 with fail
        refine wp_world (fun W => W = w.alloc (.cells #[.int .i64 5, .int .i64 (j : Int)] 48)) rfl ?_
        rintro W hWe
        have l0 := H.out.2.2.2.2.1.cell 0 (v := .int .i64 5) rfl
        have l1 := H.out.2.2.2.2.1.cell 1 (v := .int .i64 (j : Int)) rfl
        have z1 := H.out.2.2.2.2.1.frozen 1
        subst hWe
        go_upto_region 5 with fail
        refine wp_world (fun V => Blk V w.heap.size 48 #[.int .i64 5, .int .i64 x] ∧ Below w.heap.size w V ∧ w.heap.size + 1 ≤ V.heap.size) ⟨Blk.new _ _ _, (Below.refl _ _).alloc (Nat.le_refl _) _, by simp⟩ ?_
        rintro V ⟨hV, hbV, hsV⟩
        have v0 := hV.cell 0 (v := .int .i64 5) rfl
        have v1 := hV.cell 1 (v := .int .i64 x) rfl
        have hbx := box_any 5 x V (by unfold I64; omega) H.out.2.2.2.1
        have HV := Lib.hid (And.intro (hbx) (hbV))
        clear hbx hbV hV l0 l1 z1
        go_wp2_with fail
        refine HV.out.1.mono ?_
        rintro e w1 ⟨rfl, hb1⟩
        have HB := Lib.hid (hb1)
        clear hb1
        go_wp2_with fail
        rw [← HP.out]
        refine ⟨_, _, rfl, fun _ => ⟨⟨fun _ => ⟨by omega, by have := H.out.2.1; simp only; omega⟩, fun h => absurd rfl h⟩, ?_⟩, HV.out.2.trans (HB.out.mono (by omega))⟩
        unfold wordOf Hau.refW
        rw [if_pos rfl, H.out.2.2.1, Int.toNat_natCast]
      · have d1 : decide (n ≤ j) = true := decide_eq_true (by omega)
        have d1' : decide ((n : Int) ≤ (j : Int)) = true := decide_eq_true (by omega)
        have H := Lib.hid (And.intro (hb0) (hn))
        clear hb0 hg hp hn h0 hk hm hj
        go_enter Tryz.func26, Tryz.ntmps26
        go_wp2_with fail
        rw [← HP.out]
        exact ⟨_, _, rfl, fun h => (by cases h), H.out.1⟩
  · have d5 : (k == 5) = false := by simpa using h5
    have hbx := box_any k m (w.alloc (.cells #[.int .i64 k, .int .i64 m] 48)) hk hm
    have H := Lib.hid (And.intro (hb0) (And.intro (hn) (And.intro (hbx) (h5))))
    clear hb0 hg hp hn hk hm hbx h5
    go_enter Tryz.func26, Tryz.ntmps26
    go_wp2_with fail
    refine H.out.2.2.1.mono ?_
    rintro e w1 ⟨rfl, hb1⟩
    have HB := Lib.hid (hb1)
    clear hb1
    go_wp2_with fail
    rw [← HP.out]
    refine ⟨_, _, rfl, fun h => ⟨⟨fun h1 => absurd h1 H.out.2.2.2, fun _ => by simpa using h⟩, ?_⟩, H.out.1.trans (HB.out.mono (by simp))⟩
    unfold wordOf
    rw [if_neg H.out.2.2.2]
set_option maxHeartbeats 800000 in
set_option maxRecDepth 100000 in
theorem rWeak_any (B cc sc tc hc ec dc : Nat) (CA SA TA HA EA DA : Option Addr) (s : Stt) (w : World) (h : At w B CA s.cells) (hB : B ≤ w.heap.size) (hl : s.cells.length ≤ 1073741824) :
    Calls Tryz.prog 12 #[.agg #[.slice CA s.cells.length cc, .slice SA s.shapes.length sc, .slice TA s.texts.length tc, .slice HA s.threads.length hc, .slice EA s.ends.length ec, .slice DA s.said.length dc, .int .i64 s.asked, .int .i64 s.steps]] w fun e w' => ∃ b : Bool, e = .returned (.bool b) ∧ (b = false → ∀ c ∈ s.cells, c.kind ≠ 7) ∧ Below w.heap.size w w' := by
  obtain ⟨P, hP⟩ : ∃ P : Ending → World → Prop, (fun e w' => ∃ b : Bool, e = .returned (.bool b) ∧ (b = false → ∀ c ∈ s.cells, c.kind ≠ 7) ∧ Below w.heap.size w w') = P := ⟨_, rfl⟩
  have HP := Lib.hid hP; rw [hP]; clear hP
  have H := Lib.hid (h)
  clear h
  go_enter Tryz.func12, Tryz.ntmps12
  go_upto_region 1 with fail
  refine wp_world (fun W => Blk W w.heap.size 32 #[.slice CA s.cells.length cc, .slice SA s.shapes.length sc, .slice TA s.texts.length tc, .slice HA s.threads.length hc, .slice EA s.ends.length ec, .slice DA s.said.length dc, .int .i64 s.asked, .int .i64 s.steps] ∧ Below w.heap.size w W ∧ w.heap.size + 1 ≤ W.heap.size) ⟨Blk.new _ _ _, (Below.refl _ _).alloc (Nat.le_refl _) _, by simp⟩ ?_
  rintro W ⟨hSt, hbW, hsW⟩
  have s0 := hSt.cell 0 (v := .slice CA s.cells.length cc) rfl
  have HW := Lib.hid (hbW)
  clear hSt hbW
  go_wp2_with fail
  clear s0
  go_loopg [8] (s.cells.length) (fun gk iv wr => ∃ (k : Nat), k ≤ s.cells.length ∧ gk = s.cells.length - k ∧ iv = .int .i64 k ∧ Hid (∀ c ∈ s.cells.take k, c.kind ≠ 7) ∧ Below W.heap.size W wr)
  case atStart => exact ⟨0, Nat.zero_le _, rfl, rfl, (fun c hc => by simp at hc), Below.refl _ _⟩
  case round =>
    obtain ⟨k, hk, rfl, rfl, hkeep, hbl⟩ := hrel
    have hsz := hbl.size
    have hbw := HW.out.trans (hbl.mono (by omega))
    by_cases hlt : k < s.cells.length
    · obtain ⟨b, o, x, VA, vc, FA, fc, rfl, hb, hx, c0, c1, c2, c3, aV, lV, aF, lF, j0, j1⟩ := (H.out.below (hbw.mono hB)).ce_ hlt
      have hk0 : (0 : Int) ≤ (k : Int) := by omega
      have hk1 : (k : Int) < (s.cells.length : Int) := by omega
      have hnew : x.kind ≠ 7 → ∀ c ∈ s.cells.take (k + 1), c.kind ≠ 7 := fun h7 c hc => by
        rw [List.take_add_one, hx, List.mem_append] at hc
        rcases hc with hc | hc
        · exact hkeep.out c hc
        · simp at hc; subst hc; exact h7
      have HX := Lib.hid (And.intro (hnew) (hbw))
      clear hnew hbw aV aF j0 j1 hx hkeep
      go_upto_region 4 with fail
      refine wp_world (fun U => Blk U wr.heap.size 46 #[.int .i64 x.kind, .int .i64 x.num, .slice VA x.vals.length vc, .slice FA x.frames.length fc] ∧ Below wr.heap.size wr U ∧ wr.heap.size + 1 ≤ U.heap.size) ⟨Blk.new _ _ _, (Below.refl _ _).alloc (Nat.le_refl _) _, by simp⟩ ?_
      rintro U ⟨hC, hbU, hsU⟩
      have e0 := hC.cell 0 (v := .int .i64 x.kind) rfl
      have HU := Lib.hid (hbU)
      clear hC hbU c0 c1 c2 c3
      by_cases h7 : x.kind = 7
      · have d7 : (x.kind == 7) = true := by rw [h7]; rfl
        clear h7
        go_wp2_with fail
        rw [← HP.out]
        exact ⟨true, rfl, (fun h => by cases h), HX.out.2.trans (HU.out.mono (by omega))⟩
      · have d7 : (x.kind == 7) = false := by simpa using h7
        have H7 := Lib.hid h7; clear h7
        go_wp2_with fail
        go_roundg (s.cells.length - (k + 1))
        case measure => omega
        case rel => exact ⟨k + 1, by omega, rfl, by go_num, HX.out.1 H7.out, hbl.trans (HU.out.mono hsz)⟩
    · have hk2 : s.cells.take k = s.cells := List.take_of_length_le (by omega)
      have h1 := hkeep.out
      rw [hk2] at h1
      have HK := Lib.hid (And.intro (h1) (hbw))
      clear h1 hk2 hkeep hbw
      go_wp2_with fail
      rw [← HP.out]
      exact ⟨false, rfl, fun _ => HK.out.1, HK.out.2⟩
end Top
end Go.Proofs.YtdlcooplllimeaaGreatDoor
