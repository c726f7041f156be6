/- The law of a heap that moves: what holds of one heap. -/
import Derived.Test.YtpkccpegdpodoaaHaul13
namespace Go.Proofs.Ytpkccpegdpodoaa
open Go.RowKit Go.Maps

attribute [local go_sem ↓] Go.wp_at_zero Go.wp_at_succ

def Hau.w0 : List U64 := [⟨0⟩, ⟨0⟩]
def Hau.r0 : List U64 := [⟨18445899648779419649⟩]
theorem Hau.one_err : Hau.heapErr ⟨Hau.w0, Hau.r0⟩ = 0 := by decide
theorem Hau.one_words : Hau.newWords Hau.w0 Hau.r0 = [⟨0⟩] := by decide
theorem Hau.one_roots : Hau.newRoots Hau.w0 Hau.r0 = [⟨18445899648779419648⟩] := by decide
theorem Hau.one_told : Hau.told Hau.w0 Hau.r0 = [1] := by decide
theorem Hau.one_mv : Hau.mv Hau.w0 [1] = [(0, 1)] := by decide
theorem Hau.mv_flat {ws : List U64} {F : List Nat} (hs : (F.map (Hau.sz ws)).sum ≤ 2000) (hp : ∀ p ∈ F, p < 2000) : ∀ z ∈ Hau.mv ws F, Flat.ok z := by
  intro z hz
  unfold Hau.mv at hz
  obtain ⟨m, hm, rfl⟩ := List.mem_map.1 hz
  have := Hau.cum_mem hm
  have h2 := hp m.2 this.1
  exact ⟨by show I64 _; unfold I64; omega, by show I64 _; unfold I64; omega⟩

set_option maxHeartbeats 1600000 in
set_option maxRecDepth 100000 in
theorem hauled_any (w : World) : Calls Try.prog 36 #[] w fun e w' => e = .returned (.bool true) ∧ Below w.heap.size w w' := by
  go_enter Try.func36, Try.ntmps36
  go_wp2_with fail
  refine calls_world (fun W => At W (w.heap.size + 1 + 1) (some ⟨w.heap.size, 0, none⟩) Hau.w0 ∧ At W (w.heap.size + 1 + 1) (some ⟨w.heap.size + 1, 0, none⟩) Hau.r0 ∧ Below w.heap.size w W ∧ W.heap.size = w.heap.size + 1 + 1) ⟨?_, ?_, ((Below.refl _ _).alloc (Nat.le_refl _) _).alloc (by simp) _, by simp⟩ ?_
  · have h := At.built w #[.int .u64 0, .int .u64 0] 24 Hau.w0 rfl (by intro u hu; simp [Hau.w0] at hu; subst hu; show 0 ≤ (0 : Int) ∧ (0 : Int) ≤ 18446744073709551615; omega)
    exact (h.alloc (by simp) _).more (by omega)
  · have h := At.built (w.alloc (.cells #[.int .u64 0, .int .u64 0] 24)) #[.int .u64 18445899648779419649] 24 Hau.r0 rfl (by intro u hu; simp [Hau.r0] at hu; subst hu; show 0 ≤ (18445899648779419649 : Int) ∧ (18445899648779419649 : Int) ≤ 18446744073709551615; omega)
    simpa using h
  rintro W ⟨a0, a1, hb0, hsW⟩
  have hc := hcollect_any (w.heap.size + 1 + 1) 2 1 (some ⟨w.heap.size, 0, none⟩) (some ⟨w.heap.size + 1, 0, none⟩) Hau.w0 Hau.r0 W ⟨a0, a1⟩ (by omega) (by decide)
  rw [Hau.one_err] at hc
  refine hc.mono ?_
  rintro e w1 ⟨hb1, hr⟩
  have hs1 := hb1.size
  rcases hr with ⟨-, TA, tc, RA, rc, LA, lc, rfl, o1, o2, o3⟩ | ⟨h, -⟩
  · rw [Hau.one_words] at o1
    rw [Hau.one_roots] at o2
    rw [Hau.one_told, Hau.one_mv] at o3
    rw [Hau.one_words, Hau.one_roots, Hau.one_told]
    have HO := Lib.hid (And.intro o1 (And.intro o2 o3)); clear o1 o2 o3 hc
    have hb01 : Below w.heap.size w w1 := hb0.trans (hb1.mono (by omega))
    go_wp2_with fail
    refine calls_world (fun V => Below w1.heap.size w1 V ∧ At V (w1.heap.size + 1 + 1) (some ⟨w1.heap.size + 1, 0, none⟩) [(⟨0⟩ : U64)] ∧ V.heap.size = w1.heap.size + 1 + 1 ∧ Blk V w1.heap.size 70 #[.slice TA 1 tc, .slice RA 1 rc]) ⟨((Below.refl _ _).alloc (Nat.le_refl _) _).alloc (by simp) _, ?_, by simp, (Blk.new _ _ _).alloc _⟩ ?_
    · have h := At.built (w1.alloc (.cells #[.slice TA 1 tc, .slice RA 1 rc] 70)) #[.int .u64 0] 24 [(⟨0⟩ : U64)] rfl (by intro u hu; simp at hu; subst hu; show 0 ≤ (0 : Int) ∧ (0 : Int) ≤ 18446744073709551615; omega)
      simpa using h
    rintro V ⟨hV, a2, hsV, hBV⟩
    refine (eqU64H TA (some ⟨w1.heap.size + 1, 0, none⟩) tc 1 V.heap.size (w1.heap.size + 1 + 1) 1 1 [(⟨0⟩ : U64)] [(⟨0⟩ : U64)] V rfl rfl ((HO.out.1.fresh hV).at_ (by intro u hu; simp at hu; subst hu; show 0 ≤ (0 : Int) ∧ (0 : Int) ≤ 18446744073709551615; omega)) a2 (by omega)).mono ?_
    rintro e w2 ⟨rfl, rfl⟩
    simp only [eq_self, decide_true]
    have x1 := hBV.cell 1 (v := .slice RA 1 rc) rfl
    have hVb : Below w.heap.size w V := hb01.trans (hV.mono (by have := hb01.size; omega))
    have HBV := Lib.hid (And.intro hBV a2); clear hBV a2
    have HSV := Lib.hid hsV; clear hsV
    go_wp2_with fail
    refine calls_world (fun X => Below V.heap.size V X ∧ At X (V.heap.size + 1) (some ⟨V.heap.size, 0, none⟩) [(⟨18445899648779419648⟩ : U64)] ∧ X.heap.size = V.heap.size + 1) ⟨(Below.refl _ _).alloc (Nat.le_refl _) _, At.built V #[.int .u64 18445899648779419648] 24 [(⟨18445899648779419648⟩ : U64)] rfl (by intro u hu; simp at hu; subst hu; show 0 ≤ (18445899648779419648 : Int) ∧ (18445899648779419648 : Int) ≤ 18446744073709551615; omega), by simp⟩ ?_
    rintro X ⟨hX, a3, hsX⟩
    refine (eqU64H RA (some ⟨V.heap.size, 0, none⟩) rc 1 X.heap.size (V.heap.size + 1) 1 1 [(⟨18445899648779419648⟩ : U64)] [(⟨18445899648779419648⟩ : U64)] X rfl rfl (((HO.out.2.1.fresh hV).fresh hX).at_ (by intro u hu; simp at hu; subst hu; show 0 ≤ (18445899648779419648 : Int) ∧ (18445899648779419648 : Int) ≤ 18446744073709551615; omega)) a3 (by omega)).mono ?_
    rintro e w3 ⟨rfl, rfl⟩
    simp only [eq_self, decide_true]
    clear x1
    have HSX := Lib.hid hsX; clear hsX
    go_wp2_with fail
    refine calls_world (fun Y => Below X.heap.size X Y ∧ At Y (X.heap.size + 1) (some ⟨X.heap.size, 0, none⟩) [((0 : Int), (1 : Int))] ∧ Y.heap.size = X.heap.size + 1) ⟨(Below.refl _ _).alloc (Nat.le_refl _) _, At.built X #[.int .i64 0, .int .i64 1] 82 [((0 : Int), (1 : Int))] rfl (by intro u hu; simp at hu; subst hu; exact ⟨by show I64 0; unfold I64; omega, by show I64 1; unfold I64; omega⟩), by simp⟩ ?_
    rintro Y ⟨hY, a4, hsY⟩
    refine (eqRMoveH LA (some ⟨X.heap.size, 0, none⟩) lc 1 Y.heap.size 1 1 [((0 : Int), (1 : Int))] [((0 : Int), (1 : Int))] Y rfl rfl ((((HO.out.2.2.fresh hV).fresh hX).fresh hY).at_ (by intro u hu; simp at hu; subst hu; exact ⟨by show I64 0; unfold I64; omega, by show I64 1; unfold I64; omega⟩)) (a4.more (by omega)) (Nat.le_refl _) (by omega) (by omega)).mono ?_
    rintro e w4 ⟨rfl, hb4⟩
    simp only [eq_self, decide_true]
    go_wp2_with fail
    go_ret
    exact ⟨rfl, hVb.trans ((hX.mono (by have := hVb.size; omega)).trans ((hY.mono (by have := hVb.size; have := hX.size; omega)).trans (hb4.mono (by have := hVb.size; have := hX.size; omega))))⟩
  · exact absurd rfl h

end Go.Proofs.Ytpkccpegdpodoaa
