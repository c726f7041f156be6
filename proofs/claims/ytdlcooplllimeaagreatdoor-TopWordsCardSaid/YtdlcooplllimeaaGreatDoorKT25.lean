/- KT: Weak3. -/
import Derived.Test.YtdlcooplllimeaaGreatDoorKT24
import Derived.Deep.OwnRows
import Derived.Deep.RegionHeld3
/- weak.From: what is reached; numbers of those that are so. -/
namespace Go.Proofs.YtdlcooplllimeaaGreatDoor
open Go.RowKit

theorem madeBool (n : Nat) : (madeCells #[.bool false] n).toList = flat (List.replicate n false) := by
  apply List.ext_getElem?
  intro i
  have e : flat (List.replicate n false) = List.replicate n (Value.bool false) := by
    induction n with
    | zero => rfl
    | succ n ih => rw [List.replicate_succ, flat_cons, ih, List.replicate_succ]; rfl
  rw [e]
  simp only [madeCells, Array.toList_map, Array.toList_range, List.getElem?_map, List.getElem?_replicate]
  by_cases h : i < n
  · simp [h, Nat.mod_one]
  · simp [h]
theorem own_made (w : World) (base : Nat) (e : TypeId) (n : Nat) (hb : base ≤ w.heap.size) (hn : n ≤ maxLen) : Own (w.alloc (.cells (madeCells #[.bool false] n) e)) base e (some ⟨w.heap.size, 0, none⟩) n (List.replicate n false) := by
  refine ⟨flat_length _, .inr ⟨w.heap.size, n, madeCells #[.bool false] n, by rw [List.length_replicate], hb, heap_alloc_new w _, by simp, hn, by simp [size_madeCells, Flat.sz], ?_⟩⟩
  rw [← madeBool, List.take_of_length_le (by simp [size_madeCells, Flat.sz])]
theorem infoBool : (Tryz.prog.info? 4).map (fun i => (i.zero, i.size, i.bytes)) = some (some (.bool false), 1, 1) := by kernel_rfl

theorem replicate_len (n : Nat) : (List.replicate n false).length = n := by simp
theorem fromL_start {has : List (List Int)} {src : List Int} (pairs : List (Int × Int)) (hs : RightL has.length src) : Inv has src pairs [] (reachL src (List.replicate has.length false, [])).1 (reachL src (List.replicate has.length false, [])).2 ∧ (∀ k : Nat, (k : Int) ∈ src → (reachL src (List.replicate has.length false, [])).1[k]? = some true) ∧ (reachL src (List.replicate has.length false, [])).2.length ≤ 2 * has.length := by
  obtain ⟨h1, h2, h3, h4⟩ := Inv.reachL (st := (List.replicate has.length false, [])) (l := src) (Inv.start has src pairs) (fun x hx => by
    obtain ⟨k, rfl, hk⟩ := hs x hx
    exact ⟨k, rfl, hk, .root hx⟩)
  refine ⟨h1, h3, ?_⟩
  have := unseen_le (List.replicate has.length false)
  rw [replicate_len] at this
  simp only [List.length_nil] at h4
  omega

set_option maxHeartbeats 800000 in
set_option maxRecDepth 100000 in
theorem wrising_any (A : Option Addr) (c B n : Nat) (l : List Bool) (w : World) (hn : l.length = n) (h : At w B A l) (hB : B ≤ w.heap.size) (hl : n ≤ 1000000) :
    Calls Tryz.prog 25 #[.slice A n c] w fun e w' => ∃ A' c', e = .returned (.slice A' (rising l).length c') ∧ Own w' w.heap.size 3 A' c' (rising l) ∧ Below w.heap.size w w' := by
  obtain ⟨i0, hi, hz0, hz1, hz2⟩ := info_parts infoInt
  have H := Lib.hid (And.intro h hn); clear h hn
  go_enter Tryz.func25, Tryz.ntmps25
  go_wp2
  go_loopg [3, 8] (n) (fun gk ov iv wr => ∃ (k : Nat) (A1 : Option Addr) (c1 : Nat), k ≤ n ∧ gk = n - k ∧ iv = .int .i64 k ∧ ov = .slice A1 (rising (l.take k)).length c1 ∧ Hid (Own wr w.heap.size 3 A1 c1 (rising (l.take k))) ∧ Below w.heap.size w wr)
  case atStart => exact ⟨0, none, 0, Nat.zero_le _, rfl, rfl, rfl, Own.nil_, Below.refl _ _⟩
  case round =>
    obtain ⟨k, A1, c1, hk, rfl, rfl, rfl, hkeep, hbl⟩ := hrel
    have hsz := hbl.size
    by_cases hlt : k < n
    · obtain ⟨b, o, x, rfl, hb, hx, h0⟩ := (H.out.1.below (hbl.mono hB)).bool_ (by have := H.out.2; omega : k < l.length)
      have hsn := rising_snoc l k x hx
      have hrl : (rising (l.take k)).length ≤ k := by have := rising_length (l.take k); rw [List.length_take] at this; omega
      cases x with
      | false =>
        rw [if_neg (by simp), List.append_nil] at hsn
        have HS := Lib.hid hsn; clear hsn hx
        go_wp2_with fail
        go_roundg (n - (k + 1))
        case measure => omega
        case rel => exact ⟨k + 1, A1, c1, by omega, rfl, by go_num, by rw [HS.out], by unfold Hid; rw [HS.out]; exact hkeep.out, hbl⟩
      | true =>
        rw [if_pos rfl] at hsn
        have HS := Lib.hid hsn; clear hsn hx
        go_wp2_with (at_builtin; go_must (refine wpList_app (α := Int) (m := 1) (B := wr.heap.size + 1) (r := [(k : Int)]) rfl (.tmp 14) (.tmp 16) _ rfl w.heap.size 3 i0 _ 8 Tryz.underlying34 hi hz0 hz1 hz2 rfl (by decide) int_one (by rfl) rfl (hkeep.out.alloc _) (by rfl) ?_ rfl (by omega) (by simp only [maxLen]; omega) (by simp; omega) ?_))
        · exact At.built wr _ _ [(k : Int)] rfl (by intro z hz; simp at hz; subst hz; exact (by unfold I64; omega : I64 (k : Int)))
        intro A2 c2 w2 hown2 hgr2 hat2
        have hbl2 : Below w.heap.size w w2 := (hbl.alloc hsz _).grown hgr2 (by simp; omega) (fun g hg => (hkeep.out.lt g hg).1)
        have HO2 := Lib.hid hown2; clear hown2
        go_wp2_with fail
        go_roundg (n - (k + 1))
        case measure => omega
        case rel => exact ⟨k + 1, A2, c2, by omega, rfl, by go_num, by rw [HS.out, List.length_append]; rfl, by unfold Hid; rw [HS.out]; exact HO2.out, hbl2⟩
    · have hk2 := hkeep.out
      rw [List.take_of_length_le (by have := H.out.2; omega)] at hk2
      have hk3 : l.take k = l := List.take_of_length_le (by have := H.out.2; omega)
      rw [hk3]
      have HK := Lib.hid hk2; clear hk2 hkeep hk3
      go_wp2_with fail
      go_ret
      exact ⟨A1, c1, rfl, HK.out, hbl⟩

end Go.Proofs.YtdlcooplllimeaaGreatDoor
