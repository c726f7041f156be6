/- R.Model: those that stand so. -/
import Derived.Test.YtpkccpegdpodoaaMkG
import Derived.StillTailTactics
namespace Go.Proofs.Ytpkccpegdpodoaa
open Go.RowKit

attribute [local go_sem ↓] Go.wp_at_zero Go.wp_at_succ

theorem are_take (s : List It) (v : Int) (k : Nat) (x : It) (h : s[k]? = some x) : are (s.take (k + 1)) v = are (s.take k) v ++ if x.st = v then [(k : Int)] else [] := by
  unfold are
  rw [List.map_take, List.map_take, rising_snoc (s.map fun x => decide (x.st = v)) k (decide (x.st = v)) (by rw [List.getElem?_map, h]; rfl)]
  by_cases e : x.st = v <;> simp [e]
theorem are_len (s : List It) (v : Int) : (are s v).length ≤ s.length := by
  unfold are; have := rising_length (s.map fun x => decide (x.st = v)); rw [List.length_map] at this; exact this
theorem are_mem {s : List It} {v x : Int} (h : x ∈ are s v) : ∃ n : Nat, x = (n : Int) ∧ stAt s n = some v := by
  unfold are at h
  obtain ⟨n, rfl, hn⟩ := (mem_rising _ _).1 h
  rw [List.getElem?_map] at hn
  cases hs : s[n]? with
  | none => rw [hs] at hn; cases hn
  | some y => rw [hs] at hn; injection hn with hn; exact ⟨n, rfl, by rw [stAt_get hs, of_decide_eq_true hn]⟩
theorem risingFrom_head (p : It → Bool) : ∀ (s : List It) (i : Nat), (risingFrom i (s.map p))[0]? = if s.findIdx p < s.length then some ((i + s.findIdx p : Nat) : Int) else none
  | [], i => by simp [risingFrom]
  | x :: s, i => by
    have ih := risingFrom_head p s (i + 1)
    rw [List.map_cons, risingFrom, List.findIdx_cons]
    cases hp : p x with
    | true => simp
    | false =>
      simp only [Bool.false_eq_true, if_false, cond_false, List.length_cons, ih]
      by_cases hl : s.findIdx p < s.length
      · rw [if_pos hl, if_pos (by omega)]; congr 2; omega
      · rw [if_neg hl, if_neg (by omega)]
theorem are_head (s : List It) : (are s 1)[0]? = if greyAt s < s.length then some (greyAt s : Int) else none := by
  unfold are rising
  rw [risingFrom_head]
  simp [greyAt]

set_option maxHeartbeats 800000 in
set_option maxRecDepth 100000 in
theorem are_any (w : World) (base p : Nat) (F : Nat → Prop) (nu kind v : Int) (mk : Bool) (s : List It) (h : Mdl w base F p nu kind mk s) (hs : s.length ≤ 100) :
    Calls Try.prog 90 #[.pointer (some ⟨p, 0, none⟩), .int .i64 v] w fun e w' => ∃ A c, e = .returned (.slice A (are s v).length c) ∧ Own w' w.heap.size 3 A c (are s v) ∧ Below w.heap.size w w' := by
  obtain ⟨i0, hi, hz0, hz1, hz2⟩ := info_parts infoInt
  obtain ⟨A, c, l, h1, h2, h3, h4, h5⟩ := h
  have hl : s.length = l.length := by rw [← h5, its_length]
  obtain ⟨N, hN⟩ : ∃ N, l.length = N := ⟨_, rfl⟩
  rw [hN] at h1 hl
  rw [hl] at hs
  have c2 := h1.cell 0 (v := .slice A N c) rfl
  have H := Lib.hid (And.intro h2 (And.intro h5 (And.intro hl hN))); clear h1 h2 h5 hl hN
  go_enter Try.func90, Try.ntmps90
  go_wp2_with fail
  clear c2
  go_loopg [5, 13] N (fun gk ov iv wr => ∃ (k m : Nat) (A1 : Option Addr) (c1 : Nat), k ≤ N ∧ gk = N - k ∧ iv = .int .i64 k ∧ ov = .slice A1 m c1 ∧ m ≤ k ∧ Hid (Own wr w.heap.size 3 A1 c1 (are (s.take k) v) ∧ (are (s.take k) v).length = m) ∧ Below w.heap.size w wr)
  case atStart => exact ⟨0, 0, none, 0, Nat.zero_le _, rfl, rfl, rfl, Nat.le_refl _, ⟨Own.nil_, rfl⟩, Below.refl _ _⟩
  case round =>
    obtain ⟨k, m, A1, c1, hk, rfl, rfl, rfl, hm, hkeep, hbl⟩ := hrel
    have hsz := hbl.size
    by_cases hlt : k < N
    · obtain ⟨x, hx⟩ : ∃ x, l[k]? = some x := ⟨_, List.getElem?_eq_getElem (by have := H.out.2.2.2; omega)⟩
      obtain ⟨g, rfl, hg1, hg2, q0, q1, q2⟩ := (H.out.1.fresh hbl).cells hx
      have b0 : (0 : Int) ≤ (k : Int) := by omega
      have b1 : (k : Int) < (N : Int) := by omega
      have hsx : s[k]? = some x.it := by rw [← H.out.2.1]; exact its_get hx
      have hsn := are_take s v k x.it hsx
      obtain ⟨y, hy⟩ : ∃ y, x.st = y := ⟨_, rfl⟩
      have hy' : x.it.st = y := hy
      rw [hy] at q1
      rw [hy'] at hsn
      by_cases he : y = v
      · subst he
        rw [if_pos rfl] at hsn
        have HS := Lib.hid (And.intro hsn hkeep.out); clear hsn hx hsx hkeep hy hy'
        go_wp2_with (at_builtin; go_must (refine wpList_app (α := Int) (n := m) (m := 1) (B := wr.heap.size + 1 + 1) (r := [(k : Int)]) rfl (.tmp 22) (.tmp 24) _ rfl w.heap.size 3 i0 _ 8 Try.underlying47 hi hz0 hz1 hz2 rfl (by decide) int_one (by rfl) HS.out.2.2 ((HS.out.2.1.alloc _).alloc _) (by rfl) ?_ rfl (by omega) (by simp only [maxLen]; omega) (by simp; omega) ?_))
        · have := At.built (wr.alloc (.cells #[.slice x.A x.has.length x.c, .int .i64 y, .bool x.held] 104)) #[.int .i64 (k : Int)] 3 [(k : Int)] rfl (by intro z hz; simp at hz; subst hz; exact (by unfold I64; omega : I64 (k : Int)))
          simpa using this
        intro A2 c2 w2 hown2 hgr2 hat2
        have hbl2 : Below w.heap.size w w2 := ((hbl.alloc hsz _).alloc (by simp; omega) _).grown hgr2 (by simp; omega) (fun g hg => (HS.out.2.1.lt g hg).1)
        have HO2 := Lib.hid hown2; clear hown2 hgr2 hat2
        go_wp2_with fail
        go_roundg (N - (k + 1))
        case measure => omega
        case rel => exact ⟨k + 1, m + 1, A2, c2, by omega, rfl, by go_num, rfl, by omega, ⟨by rw [HS.out.1]; exact HO2.out, by rw [HS.out.1, List.length_append, HS.out.2.2]; rfl⟩, hbl2⟩
      · have d0 : (y == v) = false := by simpa using he
        rw [if_neg he, List.append_nil] at hsn
        have HS := Lib.hid (And.intro hsn hkeep.out); clear hsn hx hsx hkeep hy hy' he
        go_wp2_with fail
        go_roundg (N - (k + 1))
        case measure => omega
        case rel => exact ⟨k + 1, m, A1, c1, by omega, rfl, by go_num, rfl, by omega, ⟨by rw [HS.out.1]; exact HS.out.2.1.alloc _, by rw [HS.out.1]; exact HS.out.2.2⟩, hbl.alloc hsz _⟩
    · obtain rfl : N = k := by omega
      have hk2 := hkeep.out
      rw [List.take_of_length_le (by have := H.out.2.2.1; omega)] at hk2
      have HK := Lib.hid hk2; clear hk2 hkeep
      go_wp2_with fail
      go_ret
      exact ⟨A1, c1, by rw [HK.out.2]; rfl, HK.out.1, hbl⟩

end Go.Proofs.Ytpkccpegdpodoaa
