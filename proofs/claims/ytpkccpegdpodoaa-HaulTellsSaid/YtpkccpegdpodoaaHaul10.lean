/- R.Moved$1: what is told is put behind what was, once. -/
import Derived.Test.YtpkccpegdpodoaaHaul9
namespace Go.Proofs.Ytpkccpegdpodoaa
open Go.RowKit Go.Maps

attribute [local go_sem ↓] Go.wp_at_zero Go.wp_at_succ

theorem Hau.fold_snoc {l : List Nat} {k j : Nat} (h : l[k]? = some j) (F : List Nat) : (l.take (k + 1)).foldl Hau.add F = Hau.add ((l.take k).foldl Hau.add F) j := by
  rw [take_snocH l k j h, List.foldl_append]; rfl
theorem Hau.add_le (F : List Nat) (j : Nat) : (Hau.add F j).length ≤ F.length + 1 := by unfold Hau.add; split <;> simp
theorem Hau.add_lt {F : List Nat} {j b : Nat} (h : ∀ x ∈ F, x < b) (hj : j < b) : ∀ x ∈ Hau.add F j, x < b := by
  intro x hx
  unfold Hau.add at hx
  split at hx
  · exact h x hx
  · rcases List.mem_append.1 hx with hx | hx
    · exact h x hx
    · simp at hx; omega
def MorePost (Z OB : Nat) (order l : List Nat) (w : World) (e : Ending) (w' : World) : Prop := Below Z w w' ∧ e = .returned (.tuple #[]) ∧
  ∃ (OA : Option Addr) (oc : Nat), Blk w' OB 47 #[.slice OA (l.foldl Hau.add order).length oc] ∧ Own w' Z 3 OA oc (ints (l.foldl Hau.add order))

set_option maxHeartbeats 1600000 in
set_option maxRecDepth 100000 in
theorem more_any (B Z OB n c oc : Nat) (A OA : Option Addr) (l order : List Nat) (w : World) (h : At w B A (ints l)) (hn : l.length = n) (hB : B ≤ w.heap.size) (hO : Blk w OB 47 #[.slice OA order.length oc]) (ho : Own w Z 3 OA oc (ints order)) (hZB : Z ≤ OB)
    (hne : ∀ g, rowOf A = some g → rowOf OA ≠ some g ∧ g ≠ OB) (hl : n ≤ 2000) (hol : order.length ≤ 1000000) (hlt : ∀ x ∈ l, x < 4294967296) (hot : ∀ x ∈ order, x < 4294967296) :
    Calls Try.prog 115 #[.slice A n c, .pointer (some ⟨OB, 0, none⟩)] w (MorePost Z OB order l w) := by
  obtain ⟨i0, hi, hz0, hz1, hz2⟩ := info_partsH infoIntH
  have hOl := hO.lt
  have H := Lib.hid (And.intro h (And.intro hn (And.intro hO (And.intro ho (And.intro hne (And.intro hlt hot)))))); clear h hn hO ho hne hlt hot
  go_enter Try.func115, Try.ntmps115
  go_wp2_with fail
  go_loopg [4, 7] n (fun gk v4 v7 wr => ∃ (k : Nat) (F : List Nat) (OA1 : Option Addr) (oc1 : Nat), k ≤ n ∧ gk = n - k ∧ v7 = .int .i64 k ∧ F.length ≤ order.length + k ∧ Hid (Blk wr OB 47 #[.slice OA1 F.length oc1] ∧ Own wr Z 3 OA1 oc1 (ints F) ∧ At wr B A (ints l) ∧ (∀ g, rowOf A = some g → rowOf OA1 ≠ some g ∧ g ≠ OB) ∧ (∀ x ∈ F, x < 4294967296) ∧ F = (l.take k).foldl Hau.add order) ∧ Below Z w wr ∧ w.heap.size ≤ wr.heap.size)
  case atStart => exact ⟨0, order, OA, oc, by omega, rfl, rfl, by omega, ⟨H.out.2.2.1, H.out.2.2.2.1, H.out.1, H.out.2.2.2.2.1, H.out.2.2.2.2.2.2, rfl⟩, Below.refl _ _, Nat.le_refl _⟩
  case round =>
    obtain ⟨k, F, OA1, oc1, hk, rfl, rfl, hFl, hkeep, hbl, hsz⟩ := hrel
    by_cases hlt : k < n
    · obtain ⟨j, hj⟩ : ∃ j, l[k]? = some j := ⟨_, List.getElem?_eq_getElem (by rw [H.out.2.1]; exact hlt)⟩
      obtain ⟨k1, k2, k3, k4, k5, k6⟩ := hkeep.out
      obtain ⟨b, o, rfl, hbB, g0⟩ := k3.intH hj
      have hjl := H.out.2.2.2.2.2.1 j (List.mem_of_getElem? hj)
      have hlt2 : (k : Int) < (n : Int) := by omega
      have c0 := k1.cell 0 (v := .slice OA1 F.length oc1) rfl
      have z0 := k1.frozen 0
      have hfs := Hau.fold_snoc hj order
      rw [← k6] at hfs
      have hh := hasIntH OA1 oc1 wr.heap.size F.length F (j : Int) wr rfl (k2.at_ (ints_okB k5 (by omega))) (by omega)
      rw [ints_contains] at hh
      by_cases hc : F.contains j = true
      · rw [hc] at hh
        have ha : Hau.add F j = F := if_pos hc
        rw [ha] at hfs
        have HK := Lib.hid (And.intro hh (And.intro hfs hkeep.out)); clear hh hfs hkeep k1 k2 k3 k4 k5 k6 ha hc hj
        go_wp2_with fail
        refine HK.out.1.mono ?_
        rintro e w2 ⟨rfl, rfl⟩
        go_wp2_with fail
        go_roundg (n - (k + 1))
        case measure => omega
        case rel => exact ⟨k + 1, F, OA1, oc1, by omega, rfl, by go_num, by omega, ⟨HK.out.2.2.1, HK.out.2.2.2.1, HK.out.2.2.2.2.1, HK.out.2.2.2.2.2.1, HK.out.2.2.2.2.2.2.1, HK.out.2.1.symm⟩, hbl, hsz⟩
      · have hc : F.contains j = false := by simpa using hc
        rw [hc] at hh
        have ha : Hau.add F j = F ++ [j] := if_neg (by rw [hc]; decide)
        rw [ha] at hfs
        have hil := ints_length F
        have HK := Lib.hid (And.intro hh (And.intro hfs hkeep.out)); clear hh hfs hkeep k1 k2 k3 k4 k5 k6 ha hc hj
        have HIL := Lib.hid hil; clear hil
        go_wp2_with (first | (go_at_call 109; refine HK.out.1.mono ?_; rintro e w2 ⟨rfl, rfl⟩) | (at_builtin; go_must (refine wpList_app (α := Int) (n := F.length) (m := 1) (B := w2.heap.size + 1) (r := [(j : Int)]) rfl (.tmp 15) (.tmp 17) _ rfl Z 3 i0 _ 8 Try.underlying47 hi hz0 hz1 hz2 rfl (by decide) int_oneH (by rfl) HIL.out (HK.out.2.2.2.1.alloc _) (by rfl) ?_ rfl (by omega) (by simp only [maxLen]; omega) (by simp; omega) ?_)))
        · exact At.built w2 #[.int .i64 (j : Int)] 3 [(j : Int)] rfl (by intro u hu; simp at hu; subst hu; show I64 _; unfold I64; omega)
        intro A3 c3 w3 hown3 hgr3 hat3
        have hs3 := hgr3.size
        simp only [World.size_alloc] at hs3
        obtain ⟨-, f0, k1, k2, k3, k4, k5, k6⟩ := HK.out
        have k1l := k1.lt
        have m1 := (k1.alloc (.cells #[.int .i64 (j : Int)] 3)).grown hgr3 (fun e => own_ne_ty k2 k1 (by decide) e)
        have m3 := (k3.alloc (by omega) (.cells #[.int .i64 (j : Int)] 3)).grown_ (by simp; omega) hgr3 (fun g hg e => (k4 g hg).1 e)
        have m4 : ∀ g, rowOf (some (⟨b, o, none⟩ : Addr)) = some g → rowOf A3 ≠ some g ∧ g ≠ OB := by
          intro g hg
          refine ⟨fun e => ?_, (k4 g hg).2⟩
          rcases hat3 with h1 | h1
          · exact (k4 g hg).1 (by rw [← h1]; exact e)
          · rw [h1] at e; injection e with e; injection hg with hg; simp at e hg; omega
        have hbl3 : Below Z w w3 := (hbl.alloc (by omega) _).grown hgr3 (by simp; omega) (fun g hg => (k2.lt g hg).1)
        have hin : ints F ++ [(j : Int)] = ints (F ++ [j]) := by rw [ints_append]; rfl
        rw [hin] at hown3
        have c03 := m1.cell 0 (v := .slice OA1 F.length oc1) rfl
        have z03 := m1.frozen 0
        have hln : F.length + 1 = (F ++ [j]).length := by rw [List.length_append]; rfl
        have n1 := m1.set_ 0 (.slice A3 (F.length + 1) c3)
        have n2 := hown3.setCell ⟨OB, 0, none⟩ (.slice A3 (F.length + 1) c3) (own_ne_ty hown3 m1 (by decide))
        have n3 := m3.far_ (p := ⟨OB, 0, none⟩) (fun e => (k4 OB e).2 rfl) (.slice A3 (F.length + 1) c3)
        have n5 : ∀ x ∈ F ++ [j], x < 4294967296 := by
          intro x hx
          rcases List.mem_append.1 hx with hx | hx
          · exact k5 x hx
          · simp at hx; omega
        have HQ := Lib.hid (And.intro n1 (And.intro n2 (And.intro n3 (And.intro m4 (And.intro n5 (And.intro hln f0)))))); clear n1 n2 n3 m4 n5 hln f0 k1 k2 k3 k4 k5 k6 m1 m3 hown3 hgr3 hat3 hin c0 z0 g0 HK
        go_wp2_with fail
        go_roundg (n - (k + 1))
        case measure => omega
        case rel => exact ⟨k + 1, F ++ [j], A3, c3, by omega, rfl, by go_num, by rw [List.length_append]; simp; omega, ⟨by rw [← HQ.out.2.2.2.2.2.1]; simpa using HQ.out.1, HQ.out.2.1, HQ.out.2.2.1, HQ.out.2.2.2.1, HQ.out.2.2.2.2.1, HQ.out.2.2.2.2.2.2.symm⟩, hbl3.setCell (by omega) _, by simp [World.setCell]; omega⟩
    · obtain rfl : k = n := by omega
      have hO := hkeep.out
      rw [List.take_of_length_le (by rw [H.out.2.1]; exact Nat.le_refl _)] at hO
      obtain ⟨k1, k2, k3, k4, k5, rfl⟩ := hO
      have HO := Lib.hid (And.intro k1 k2); clear k1 k2 k3 k4 k5 hkeep
      go_wp2_with fail
      go_end0
      exact ⟨hbl, rfl, OA1, oc1, HO.out⟩

end Go.Proofs.Ytpkccpegdpodoaa
