/- moves.Run; the closed fact 'rung'; the law MovesTell, walked. -/
import Derived.Test.YtljdnadejmkaeaaMov6
namespace Go.Proofs.Ytljdnadejmkaeaa
open Go.RowKit

theorem eqRMove_n (A A' : Option Addr) (c c' B n n' : Nat) (l r : List (Int × Int)) (w : World) (hn : l.length = n) (hn' : r.length = n') (h : At w B A l) (h' : At w B A' r) (hB : B ≤ w.heap.size) (hl : n ≤ 9223372036854775807) (hr : n' ≤ 9223372036854775807) :
    Calls Try.prog 23 #[.slice A n c, .slice A' n' c'] w fun e w' => e = .returned (.bool (decide (l = r))) ∧ Below w.heap.size w w' := by
  subst hn hn'; exact eqRMove_any A A' c c' B l r w h h' hB hl hr

theorem mvs_ok {spare : Int} (hs : I64 spare) : ∀ (n : Nat) (left out : List (Int × Int)), (∀ x ∈ left, Flat.ok x) → (∀ x ∈ out, Flat.ok x) → ∀ x ∈ mvs spare n left out, Flat.ok x := by
  intro n
  induction n with
  | zero => intro left out _ ho; exact ho
  | succ n ih =>
    intro left out hl ho
    rw [mvs]
    split
    · exact ho
    · split
      · refine ih _ _ (fun x hx => hl x (List.mem_of_mem_eraseIdx hx)) (fun x hx => ?_)
        rcases List.mem_append.1 hx with h | h
        · exact ho x h
        · simp only [List.mem_singleton] at h
          subst h
          rw [List.getD_eq_getElem?_getD]
          cases hg : left[left.findIdx (fre left)]? with
          | none => exact (⟨by unfold I64; omega, by unfold I64; omega⟩ : I64 0 ∧ I64 0)
          | some y => exact hl y (List.mem_of_getElem? hg)
      · rename_i hne _
        refine ih _ _ (fun x hx => ?_) (fun x hx => ?_)
        · obtain ⟨u, hu, rfl⟩ := List.mem_map.1 hx
          have := hl u hu
          unfold cyc
          split
          · exact ⟨this.1, hs⟩
          · exact this
        · rcases List.mem_append.1 hx with h | h
          · exact ho x h
          · simp only [List.mem_singleton] at h
            subst h
            cases left with
            | nil => exact absurd rfl hne
            | cons a r => exact ⟨hs, (hl a (by simp)).1⟩
theorem mvAll_ok {l : List (Int × Int)} {spare : Int} (hs : I64 spare) (hl : ∀ x ∈ l, Flat.ok x) : ∀ x ∈ mvAll l spare, Flat.ok x :=
  mvs_ok hs _ _ _ (fun x hx => hl x (List.mem_filter.1 hx).1) (fun x hx => by simp at hx)
theorem mvAll_len {l : List (Int × Int)} {spare : Int} (h : mvErr l spare = 0) : (mvAll l spare).length ≤ 122 := by
  have h1 := mvs_length spare (2 * (proper l).length + 2) (proper l) []
  have h2 : (proper l).length ≤ l.length := List.length_filter_le _ _
  have h3 : l.length ≤ 60 := by unfold mvErr at h; split at h <;> omega
  unfold mvAll
  simp only [List.length_nil] at h1
  omega

set_option maxHeartbeats 800000 in
set_option maxRecDepth 100000 in
theorem rung_any (w : World) : Calls Try.prog 20 #[] w fun e w' => e = .returned (.bool true) ∧ Below w.heap.size w w' := by
  have h1 : mvErr [(1, 2), (2, 1)] 9 = 0 := by decide
  have h2 : mvAll [(1, 2), (2, 1)] 9 = [(9, 1), (1, 2), (2, 9)] := by decide
  have H := Lib.hid (And.intro h1 h2); clear h1 h2
  go_enter Try.func20, Try.ntmps20
  go_wp2_with fail
  refine calls_world (fun W => At W (w.heap.size + 1) (some ⟨w.heap.size, 0, none⟩) [((1 : Int), (2 : Int)), (2, 1)] ∧ Below w.heap.size w W ∧ w.heap.size + 1 ≤ W.heap.size) ⟨At.built w _ _ _ rfl (by intro x hx; simp at hx; rcases hx with rfl | rfl <;> exact ⟨by unfold I64; omega, by unfold I64; omega⟩), (Below.refl _ _).alloc (Nat.le_refl _) _, by simp⟩ ?_
  rintro W ⟨hA, hb, hs⟩
  refine (order_any (some ⟨w.heap.size, 0, none⟩) 2 (w.heap.size + 1) [((1 : Int), (2 : Int)), (2, 1)] 9 W hA hs (by simp) (by simp) (by unfold I64; omega)).mono ?_
  rintro e w1 ⟨hb1, hp⟩
  have hs1 := hb1.size
  have hbl := hb.trans (hb1.mono (by omega))
  rcases hp with ⟨-, A1, c1, rfl, hown⟩ | ⟨hp, -⟩
  rotate_left
  · exact absurd H.out.1 hp
  rw [H.out.2] at hown ⊢
  have HO := Lib.hid hown; clear hown hA hb
  go_wp2_with fail
  refine calls_world (fun V => At V (w1.heap.size + 1) (some ⟨w1.heap.size, 0, none⟩) [((9 : Int), (1 : Int)), (1, 2), (2, 9)] ∧ Below w1.heap.size w1 V ∧ w1.heap.size + 1 ≤ V.heap.size) ⟨At.built w1 _ _ _ rfl (by intro x hx; simp at hx; rcases hx with rfl | rfl | rfl <;> exact ⟨by unfold I64; omega, by unfold I64; omega⟩), (Below.refl _ _).alloc (Nat.le_refl _) _, by simp⟩ ?_
  rintro V ⟨hB, hb2, hs2⟩
  have hat := ((HO.out.fresh hb2).at_ (by intro x hx; simp at hx; rcases hx with rfl | rfl | rfl <;> exact ⟨by unfold I64; omega, by unfold I64; omega⟩))
  refine (eqRMove_n A1 _ c1 3 V.heap.size 3 3 [((9 : Int), (1 : Int)), (1, 2), (2, 9)] [((9 : Int), (1 : Int)), (1, 2), (2, 9)] V rfl rfl hat (hB.more (by omega)) (Nat.le_refl _) (by simp) (by simp)).mono ?_
  rintro e w3 ⟨rfl, hb3⟩
  clear hat hB
  go_wp2_with fail
  go_ret
  exact ⟨rfl, hbl.trans ((hb2.mono (by omega)).trans (hb3.mono (by omega)))⟩

set_option maxHeartbeats 1600000 in
set_option maxRecDepth 100000 in
theorem movesTell_any (A : Option Addr) (c B : Nat) (l : List (Int × Int)) (spare : Int) (w : World) (h : At w B A l) (hB : B ≤ w.heap.size) (hl : l.length ≤ 9223372036854775807) (hc : l.length ≤ c) (hsp : I64 spare) :
    Calls Try.prog 5 #[.slice A l.length c, .int .i64 spare] w fun e w' => e = .returned (.bool true) ∧ Below w.heap.size w w' := by
  have H := Lib.hid h; clear h
  have HSP := Lib.hid hsp; clear hsp
  go_enter Try.func5, Try.ntmps5
  go_wp2_with fail
  refine (rung_any w).mono ?_
  rintro e w1 ⟨rfl, hb1⟩
  have hs1 := hb1.size
  go_wp2_with fail
  refine (order_any A c B l spare w1 (H.out.below (hb1.mono hB)) (by omega) hl hc HSP.out).mono ?_
  rintro e w2 ⟨hb2, hp⟩
  have hs2 := hb2.size
  have hbl2 := hb1.trans (hb2.mono (by omega))
  rcases hp with ⟨h0, A2, c2, rfl, hown⟩ | ⟨h0, rfl⟩
  · have HO := Lib.hid (And.intro h0 hown); clear hown
    go_wp2_with fail
    refine (mfault_any A c B l spare w2 (H.out.below (hbl2.mono hB)) (by omega) hl).mono ?_
    rintro e w3 ⟨rfl, hb3⟩
    rw [h0]
    have hs3 := hb3.size
    have hbl3 := hbl2.trans (hb3.mono (by omega))
    go_wp2_with fail
    refine (moves_any A c B l spare w3 (H.out.below (hbl3.mono hB)) (by omega) HSP.out HO.out.1).mono ?_
    rintro e w4 ⟨hb4, A4, c4, rfl, hown4⟩
    have hs4 := hb4.size
    have hbl4 := hbl3.trans (hb4.mono (by omega))
    have hok := mvAll_ok HSP.out H.out.ok_
    have hml := mvAll_len HO.out.1
    have ha2 := ((HO.out.2.fresh hb3).fresh hb4).at_ hok
    have ha4 := hown4.at_ hok
    have HA := Lib.hid (And.intro ha2 ha4); clear ha2 ha4 hok hown4 h0
    go_wp2_with fail
    refine (eqRMove_any A2 A4 c2 c4 w4.heap.size _ _ w4 HA.out.1 HA.out.2 (Nat.le_refl _) (by omega) (by omega)).mono ?_
    rintro e w5 ⟨rfl, hb5⟩
    go_wp2_with fail
    go_ret
    exact ⟨ret_bool (by simp), hbl4.trans (hb5.mono (by omega))⟩
  · obtain ⟨er, her⟩ : ∃ er, mvErr l spare = er := ⟨_, rfl⟩
    rw [her] at h0 ⊢
    have hne : (er != 0) = true := by simp [h0]
    have HER := Lib.hid (And.intro her h0); clear her h0
    go_wp2_with fail
    refine (mfault_any A c B l spare w2 (H.out.below (hbl2.mono hB)) (by omega) hl).mono ?_
    rintro e w3 ⟨rfl, hb3⟩
    rw [HER.out.1]
    go_wp2_with fail
    go_ret
    exact ⟨ret_bool (by simp), hbl2.trans (hb3.mono (by omega))⟩

end Go.Proofs.Ytljdnadejmkaeaa
