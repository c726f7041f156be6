/- KT: SpB. -/
import Derived.Test.YtdlcooplllimeaaGreatDoorKT14
import Derived.Test.YtdlcooplllimeaaGreatDoorKT22
import Derived.Test.YtdlcooplllimeaaGreatDoorKT30
/- shape.Check: in a right list each shape's Up stands ahead; shape.Names. -/
namespace Go.Proofs.YtdlcooplllimeaaGreatDoor
open Go.RowKit

attribute [local go_sem ↓] Go.wp_at_zero Go.wp_at_succ

namespace Top
def ShPost (l : List (Int × Int)) (w : World) (e : Ending) (w' : World) : Prop := ∃ r : Int, e = .returned (.int .i64 r) ∧ (r = 0 → l.length ≤ 100 ∧ UpOk l ((l.length : Int) - 1)) ∧ Below w.heap.size w w'
set_option maxHeartbeats 3200000 in
set_option maxRecDepth 100000 in
theorem shCheck_any (A : Option Addr) (c B n : Nat) (l : List (Int × Int)) (w : World) (hn : l.length = n) (h : At w B A l) (hB : B ≤ w.heap.size) (hc : n ≤ c ∧ c ≤ maxLen) :
    Calls Tryz.prog 72 #[.slice A n c] w (ShPost l w) := by
  obtain ⟨P, hP⟩ : ∃ P, ShPost l w = P := ⟨_, rfl⟩
  have HP := Lib.hid hP; rw [hP]; clear hP
  obtain ⟨hc1, hc2⟩ := hc
  unfold maxLen at hc2
  by_cases h100 : 100 < n
  · have h1 : (100 : Int) < (n : Int) := by omega
    go_enter Tryz.func72, Tryz.ntmps72
    go_wp2_with fail
    rw [← HP.out]
    exact ⟨2, rfl, fun h => (by cases h), Below.refl _ _⟩
  have h1 : (n : Int) ≤ 100 := by omega
  by_cases h0 : n = 0
  · subst h0
    clear h hn
    go_enter Tryz.func72, Tryz.ntmps72
    go_wp2_with fail
    rw [← HP.out]
    exact ⟨3, rfl, fun h => (by cases h), Below.refl _ _⟩
  have d0 : ((n : Int) == 0) = false := by rw [beq_eq_false_iff_ne]; omega
  have n0 : (0 : Int) < (n : Int) := by omega
  obtain ⟨b, o, x, rfl, hb, hx, q0, q1, -⟩ := h.pairT (k := 0) (by omega)
  rw [Nat.zero_mul, Nat.add_zero] at q0 q1
  by_cases e1 : x.1 = -1
  · by_cases e2 : x.2 = -1
    · rw [e1] at q0
      rw [e2] at q1
      obtain ⟨q, rfl⟩ : ∃ q, n = q + 1 := ⟨n - 1, by omega⟩
      have hmm := run_makeMap (P := Tryz.prog) 215 w
      by_cases hc0 : c = 1
      · subst hc0
        obtain rfl : q = 0 := by omega
        have H := Lib.hid hn; clear h hn hx e1 e2 h100 h0
        go_enter Tryz.func72, Tryz.ntmps72
        go_wp2_with fail
        go_loopg [23] 0 (fun gk iv wr => gk = 0 ∧ iv = .int .i64 0 ∧ Below w.heap.size w wr)
        case atStart => exact ⟨rfl, rfl, (Below.refl _ _).alloc (Nat.le_refl _) _⟩
        case round =>
          obtain ⟨rfl, rfl, hbl⟩ := hrel
          go_wp2_with fail
          rw [← HP.out]
          exact ⟨0, rfl, fun _ => ⟨by have := H.out; omega, fun j h1 h2 => by have := H.out; omega⟩, hbl⟩
      have hc3 : 1 ≤ c := by omega
      have hq1 : (1 : Int) ≤ (c : Int) := by omega
      have hql : q ≤ 99 := by omega
      have hD : At w B (some ⟨b, o + 2, none⟩) (l.drop 1) := h.drop_ 1
      have H := Lib.hid (And.intro h (And.intro hn (And.intro hx hD))); clear h hn hx e1 e2 h100 h0 hD
      go_enter Tryz.func72, Tryz.ntmps72
      go_wp2_with fail
      clear q0 q1 hmm
      go_loopg [23] q (fun gk iv wr => ∃ k : Nat, k ≤ q ∧ gk = q - k ∧ iv = .int .i64 k ∧ Hid (MapN wr 121 w.heap.size k ∧ UpOk l k) ∧ Below w.heap.size w wr)
      case atStart => exact ⟨0, Nat.zero_le _, rfl, rfl, ⟨MapN.made w _, fun j h1 h2 => by omega⟩, (Below.refl _ _).alloc (Nat.le_refl _) _⟩
      case round =>
        obtain ⟨k, hk, rfl, rfl, hkeep, hbl⟩ := hrel
        have hsz := hbl.size
        by_cases hlt : k < q
        · obtain ⟨b', o', s, hA, hb', hs, p0, p1, j0, j1⟩ := (H.out.2.2.2.below (hbl.mono hB)).pairT (k := k) (by rw [List.length_drop]; have := H.out.2.1; omega)
          injection hA with hA
          injection hA with hA1 hA2
          subst hA1 hA2
          rw [List.getElem?_drop, Nat.add_comm] at hs
          have hk0 : (0 : Int) ≤ (k : Int) := by omega
          have hk1 : (k : Int) < (q : Int) := by omega
          go_upto_region 9 with fail
          refine wp_world (fun V => Blk V wr.heap.size 121 #[.int .i64 s.1, .int .i64 s.2] ∧ Below wr.heap.size wr V ∧ wr.heap.size + 1 ≤ V.heap.size) ⟨Blk.new _ _ _, (Below.refl _ _).alloc (Nat.le_refl _) _, by simp⟩ ?_
          rintro V ⟨hV, hbV, hsV⟩
          have v0 := hV.cell 0 (v := .int .i64 s.1) rfl
          have v1 := hV.cell 1 (v := .int .i64 s.2) rfl
          have hblV := hbl.trans (hbV.mono hsz)
          obtain ⟨kl, hkl⟩ := keyShape j0 j1
          have hmV := hkeep.out.1.kept hbV
          obtain ⟨cc, hlook⟩ := hmV.looks (t := 215) lawShape Tryz.underlying215 hkl
          have HV := Lib.hid (And.intro hV (And.intro hblV (And.intro hlook (And.intro hs (And.intro hkl (And.intro hmV hkeep.out.2)))))); clear hV hbV hblV hlook hs hkl hmV hkeep p0 p1
          by_cases c1 : s.1 < 0
          · have d1 : decide (s.1 < 0) = true := decide_eq_true c1
            clear c1
            go_quiet (fail)
            go_wp2_with fail
            rw [← HP.out]
            exact ⟨3, rfl, fun h => (by cases h), below_drewN HV.out.2.1 _⟩
          have c1' : 0 ≤ s.1 := by omega
          have d1 : decide (s.1 < 0) = false := decide_eq_false c1
          clear c1
          by_cases c2 : (k : Int) < s.1
          · have d2 : decide ((k : Int) < s.1) = true := decide_eq_true c2
            go_quiet (fail)
            go_wp2_with fail
            rw [← HP.out]
            exact ⟨3, rfl, fun h => (by cases h), below_drewN HV.out.2.1 _⟩
          have c2' : s.1 ≤ (k : Int) := by omega
          have d2 : decide ((k : Int) < s.1) = false := decide_eq_false c2
          clear c2
          by_cases c3 : s.2 < 0
          · have d3 : decide (s.2 < 0) = true := decide_eq_true c3
            go_quiet (fail)
            go_wp2_with fail
            rw [← HP.out]
            exact ⟨3, rfl, fun h => (by cases h), below_drewN HV.out.2.1 _⟩
          have c3' : 0 ≤ s.2 := by omega
          have d3 : decide (s.2 < 0) = false := decide_eq_false c3
          have HC3 := Lib.hid (And.intro c1' (And.intro c2' c3')); clear c1' c2' c3'
          clear c3
          have BX : Below V.heap.size V V.drew := (Below.refl _ _).drew
          by_cases c4 : cc = 1
          · subst c4
            refine wp_region_held_drew (S := (fun w' => w'.cell? ⟨wr.heap.size, 0, none⟩ = some (.int .i64 s.1) ∧ w'.cell? ⟨wr.heap.size, 1, none⟩ = some (.int .i64 s.2) ∧ (Instr.lookup 215 (.map (some w.heap.size)) (.agg #[.int .i64 s.1, .int .i64 s.2]) false).run Tryz.prog w' = .ok (.int .i64 1) w')) (by kernel_rfl) ?_ (fun hHeld0 => ?_)
            · first | trivial | ((try dsimp only); (exact ⟨(HV.out.1.fresh BX).cell 0 rfl, (HV.out.1.fresh BX).cell 1 rfl, HV.out.2.2.1 _ BX⟩))
            refine htk 0 rfl ?_
            try go_frame
            refine htk 1 rfl ?_
            try go_frame
            refine htk 2 rfl ?_
            try go_frame
            refine htk 3 rfl ?_
            try go_frame
            refine htk 4 rfl ?_
            try go_frame
            refine htk 5 rfl ?_
            try go_frame
            refine htk 6 rfl ?_
            try go_frame
            refine htk 7 rfl ?_
            try go_frame
            refine htk 8 rfl ?_
            try go_frame
            refine htk 9 rfl ?_
            try go_frame
            refine htk 10 rfl ?_
            try go_frame
            refine htk 11 rfl ?_
            try go_frame
            refine htk 12 rfl ?_
            try go_frame
            refine htk 13 rfl ?_
            try go_frame
            refine htk 14 rfl ?_
            try go_frame
            refine htk 15 rfl ?_
            try go_frame
            refine htk 16 rfl ?_
            try go_frame
            refine htk 17 rfl ?_
            try go_frame
            refine htk 18 rfl ?_
            try go_frame
            refine htk 19 rfl ?_
            try go_frame
            refine htk 20 rfl ?_
            try go_frame
            refine hsk 21 rfl ?_
            try go_frame
            refine hsk 22 rfl ?_
            try go_frame
            refine hsk 23 rfl ?_
            try go_frame
            refine hsk 24 rfl ?_
            try go_frame
            refine hsk 25 rfl ?_
            try go_frame
            refine hsk 26 rfl ?_
            try go_frame
            refine hsk 27 rfl ?_
            try go_frame
            refine htk 28 rfl ?_
            try go_frame
            refine wpAnyH_done (by kernel_rfl) ?_ _
            go_wp2_with fail
            rw [← HP.out]
            exact ⟨3, rfl, fun h => (by cases h), HV.out.2.1.trans (BX.mono (by omega))⟩
          have d4 : (cc == 1) = false := by simpa using c4
          have hup1 : UpOk l s.1 := fun j h1 h2 => HV.out.2.2.2.2.2.2 j h1 (by have := HC3.out.2.1; omega)
          have hnm := fun Z (hZ : Below V.heap.size V Z) => names_any (some ⟨b, o, none⟩) c B (q + 1) l s.1 Z H.out.2.1 (H.out.1.below ((HV.out.2.1.trans (hZ.mono (by omega))).mono hB)) (by have := hZ.size; have := HV.out.2.1.size; omega) (by have := HC3.out.2.1; omega) hup1
          have HN := Lib.hid hnm; clear hnm hup1 c4
          refine wp_region_held_drew (S := (fun w' => w'.cell? ⟨wr.heap.size, 0, none⟩ = some (.int .i64 s.1) ∧ w'.cell? ⟨wr.heap.size, 1, none⟩ = some (.int .i64 s.2) ∧ (Instr.lookup 215 (.map (some w.heap.size)) (.agg #[.int .i64 s.1, .int .i64 s.2]) false).run Tryz.prog w' = .ok (.int .i64 cc) w')) (by kernel_rfl) ?_ (fun hHeld0 => ?_)
          · first | trivial | ((try dsimp only); (exact ⟨(HV.out.1.fresh BX).cell 0 rfl, (HV.out.1.fresh BX).cell 1 rfl, HV.out.2.2.1 _ BX⟩))
          refine htk 0 rfl ?_
          try go_frame
          refine htk 1 rfl ?_
          try go_frame
          refine htk 2 rfl ?_
          try go_frame
          refine htk 3 rfl ?_
          try go_frame
          refine htk 4 rfl ?_
          try go_frame
          refine htk 5 rfl ?_
          try go_frame
          refine htk 6 rfl ?_
          try go_frame
          refine htk 7 rfl ?_
          try go_frame
          refine htk 8 rfl ?_
          try go_frame
          refine htk 9 rfl ?_
          try go_frame
          refine htk 10 rfl ?_
          try go_frame
          refine htk 11 rfl ?_
          try go_frame
          refine htk 12 rfl ?_
          try go_frame
          refine htk 13 rfl ?_
          try go_frame
          refine htk 14 rfl ?_
          try go_frame
          refine htk 15 rfl ?_
          try go_frame
          refine htk 16 rfl ?_
          try go_frame
          refine htk 17 rfl ?_
          try go_frame
          refine htk 18 rfl ?_
          try go_frame
          refine htk 19 rfl ?_
          try go_frame
          refine htk 20 rfl ?_
          try go_frame
          refine htk 21 rfl ?_
          try go_frame
          refine htk 22 rfl ?_
          try go_frame
          refine htk 23 rfl ?_
          try go_frame
          refine htk 25 rfl ?_
          try go_frame
          refine htk 26 rfl ?_
          try go_frame
          refine held_call 24 (by kernel_rfl) rfl (fun K hK => ?_)
          go_simp
          refine (HN.out _ BX).mono ?_; rintro e w5 ⟨NA, ncp, nn, no, rfl, hno, hnn, hnat, hb5⟩; have BY := BX.trans (hb5.mono BX.size); clear BX; have BX := BY; clear BY
          try (go_wp2_with fail)
          refine hK.out _ _ ?_ (fun hHeld1 => ?_)
          · first | trivial | ((try dsimp only); (exact ⟨(HV.out.1.fresh BX).cell 0 rfl, (HV.out.1.fresh BX).cell 1 rfl, HV.out.2.2.1 _ BX⟩))
          clear hK K hHeld0
          try go_frame
          refine held_call 27 (by kernel_rfl) rfl (fun K hK => ?_)
          go_simp
          refine (containsInt_any NA ncp w5.heap.size nn no s.2 _ hno hnat (Nat.le_refl _) (by omega)).mono ?_; rintro e w6 ⟨b6, rfl, hb6⟩; have BY := BX.trans (hb6.mono BX.size); clear BX; have BX := BY; clear BY
          try (go_wp2_with fail)
          refine hK.out _ _ ?_ (fun hHeld2 => ?_)
          · first | trivial | ((try dsimp only); (exact ⟨(HV.out.1.fresh BX).cell 0 rfl, (HV.out.1.fresh BX).cell 1 rfl, HV.out.2.2.1 _ BX⟩))
          clear hK K hHeld1
          try go_frame
          refine htk 28 rfl ?_
          try go_frame
          refine wpAnyH_done (by kernel_rfl) ?_ _
          clear hno hnat hb5 hb6
          cases b6 with
          | true =>
            go_wp2_with fail
            rw [← HP.out]
            exact ⟨3, rfl, fun h => (by cases h), HV.out.2.1.trans (BX.mono (by omega))⟩
          | false =>
            go_upto_region 11 with fail
            refine wp_world (fun Z => Below V.heap.size V Z) BX ?_
            clear BX
            rintro Z hZ
            have hZs := hZ.size
            have z0 := (HV.out.1.fresh hZ).cell 0 (v := .int .i64 s.1) rfl
            have z1 := (HV.out.1.fresh hZ).cell 1 (v := .int .i64 s.2) rfl
            obtain ⟨Y, hupd, hmY, hgY⟩ := (HV.out.2.2.2.2.2.1.kept hZ).upd (t := 215) lawShape Tryz.underlying215 (by unfold maxLen; omega) HV.out.2.2.2.2.1 (x := 1) (by unfold I64; omega)
            have hbY : Below w.heap.size w Y := (HV.out.2.1.trans (hZ.mono (by omega))).grown hgY (by omega) (fun g hg => by injection hg with hg; omega)
            have hupY : UpOk l ((k + 1 : Nat) : Int) := by
              intro j h1 h2
              by_cases hj : j ≤ k
              · exact HV.out.2.2.2.2.2.2 j h1 (by omega)
              · obtain rfl : j = k + 1 := by omega
                exact ⟨s, HV.out.2.2.2.1, by have := HC3.out.2.1; omega⟩
            have HY := Lib.hid (And.intro hmY (And.intro hupY hbY)); clear hmY hupY hbY hgY hZ
            go_wp2_with fail
            go_roundg (q - (k + 1))
            case measure => omega
            case rel => exact ⟨k + 1, by omega, rfl, by go_num, ⟨HY.out.1, HY.out.2.1⟩, HY.out.2.2⟩
        · have hup := hkeep.out.2
          have hln := H.out.2.1
          have HU := Lib.hid (And.intro hup hln); clear hup hln hkeep
          go_wp2_with fail
          rw [← HP.out]
          exact ⟨0, rfl, fun _ => ⟨by have := HU.out.2; omega, fun j h1 h2 => HU.out.1 j h1 (by have := HU.out.2; omega)⟩, hbl⟩
    · have f2 : (x.2 == -1) = false := by simpa using e2
      rw [e1] at q0
      clear h hn hx e1 e2 h100 h0
      go_enter Tryz.func72, Tryz.ntmps72
      go_wp2_with fail
      rw [← HP.out]
      exact ⟨3, rfl, fun h => (by cases h), Below.refl _ _⟩
  · have f1 : (x.1 == -1) = false := by simpa using e1
    clear h hn hx e1 h100 h0
    go_enter Tryz.func72, Tryz.ntmps72
    go_wp2_with fail
    rw [← HP.out]
    exact ⟨3, rfl, fun h => (by cases h), Below.refl _ _⟩

/-- shape.Names: some numbers -/
theorem shNames_any (A : Option Addr) (c B n : Nat) (l : List (Int × Int)) (m : Int) (w : World) (hn : l.length = n) (h : At w B A l) (hB : B ≤ w.heap.size) (hc : n ≤ c ∧ c ≤ maxLen) :
    Calls Tryz.prog 125 #[.slice A n c, .int .i64 m] w fun e w' => ∃ (A' : Option Addr) (c' n' : Nat), e = .returned (.slice A' n' c') ∧ n' ≤ 100 ∧ Below w.heap.size w w' := by
  have hk := shCheck_any A c B n l w hn h hB hc
  have H := Lib.hid (And.intro hk (And.intro h hn)); clear hk h hn
  go_enter Tryz.func125, Tryz.ntmps125
  go_wp2_with fail
  refine H.out.1.mono ?_
  rintro e w1 ⟨r, rfl, hr, hb1⟩
  have HR := Lib.hid (And.intro hr hb1); clear hr hb1
  by_cases h0 : r = 0
  · subst h0
    by_cases h1 : m < 0
    · go_wp2_with fail
      go_returns
      exact ⟨none, 0, 0, rfl, by omega, HR.out.2⟩
    have h1' : 0 ≤ m := by omega
    clear h1
    by_cases h2 : (n : Int) ≤ m
    · go_wp2_with fail
      go_returns
      exact ⟨none, 0, 0, rfl, by omega, HR.out.2⟩
    have h2' : m < (n : Int) := by omega
    clear h2
    obtain ⟨h3, h4⟩ := HR.out.1 rfl
    have hnm := names_any A c B n l m w1 H.out.2.2 (H.out.2.1.below (HR.out.2.mono hB)) (by have := HR.out.2.size; omega) (by have := H.out.2.2; omega) (fun j a b => h4 j a (by have := H.out.2.2; omega))
    have HN := Lib.hid hnm; clear hnm h3 h4
    go_wp2_with fail
    refine HN.out.mono ?_
    rintro e w2 ⟨A', c', n', o, rfl, ho, hn', hat, hb2⟩
    have HB := Lib.hid hb2; clear ho hat hb2
    go_wp2_with fail
    go_returns
    exact ⟨A', c', n', rfl, hn', HR.out.2.trans (HB.out.mono HR.out.2.size)⟩
  · have d0 : (r == 0) = false := by simpa using h0
    have d1 : (r != 0) = true := by simpa using h0
    clear h0
    go_wp2_with fail
    go_returns
    exact ⟨none, 0, 0, rfl, by omega, HR.out.2⟩
end Top
end Go.Proofs.YtdlcooplllimeaaGreatDoor
