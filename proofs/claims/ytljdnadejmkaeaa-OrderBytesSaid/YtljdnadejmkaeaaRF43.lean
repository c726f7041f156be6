/- RF: Ord17. -/
import Derived.Test.YtljdnadejmkaeaaRF41
/- The reference's bytes: Num, nums. -/
namespace Go.Proofs.Ytljdnadejmkaeaa
open Go.RowKit

set_option maxHeartbeats 1600000 in
set_option maxRecDepth 100000 in
theorem rnum_any (x : Int) (w : World) (hx : I64 x) : Calls Try.prog 137 #[.int .i64 x] w fun e w' => ∃ (A : Option Addr) (c : Nat), e = .returned (.slice A (Ord.bys (Ord.numB x)).length c) ∧ Own w' w.heap.size 5 A c (Ord.bys (Ord.numB x)) ∧ Below w.heap.size w w' := by
  obtain ⟨i0, hi, hz0, hz1, hz2⟩ := info_parts infoU8
  have hcv : IntKind.u64.wrap x = x % 18446744073709551616 := IntKind.wrap_u64 x
  have hu64 := Ord.zig_lt hx
  have hx2 : -9223372036854775808 ≤ x ∧ x ≤ 9223372036854775807 := hx
  obtain ⟨u0, hu0⟩ : ∃ u0, Ord.zig x = u0 := ⟨_, rfl⟩
  have hv10 := Ord.vb_len10 hu64
  have hnb : Ord.numB x = Ord.vb u0 := by unfold Ord.numB; rw [hu0]
  rw [hnb]
  rw [hu0] at hu64 hv10
  have hzn : x < 0 → -(x + 1) * 2 + 1 = (u0 : Int) := fun h => by rw [← hu0]; unfold Ord.zig; rw [if_neg (by omega)]; omega
  have hzp : 0 ≤ x → x % 18446744073709551616 * 2 = (u0 : Int) := fun h => by rw [← hu0]; unfold Ord.zig; rw [if_pos h]; omega
  have HZ := Lib.hid (And.intro hzn hzp); clear hzn hzp hnb hu0 hx
  rcases (by omega : x < 0 ∨ ¬ (x < 0)) with h | h
  · have hneg : x < 0 := h
    clear h
    go_enter Try.func137, Try.ntmps137
    go_wp2_with fail
    go_loopg [3, 4] ((Ord.vb u0).length) (fun gj uv ov wr => ∃ (u : Nat) (d : List Nat) (A2 : Option Addr) (c2 : Nat) (o2 : List U8), u < 18446744073709551616 ∧ gj = (Ord.vb u).length ∧ uv = .int .u64 (u : Int) ∧ ov = .slice A2 o2.length c2 ∧ o2.length + (Ord.vb u).length ≤ 10 ∧ Hid (o2 = Ord.bys d ∧ d ++ Ord.vb u = Ord.vb u0 ∧ Own wr w.heap.size 5 A2 c2 o2) ∧ Below w.heap.size w wr)
    case atStart => exact ⟨u0, [], none, 0, [], hu64, rfl, by rw [(HZ.out.1 hneg)], rfl, by simpa using hv10, ⟨rfl, rfl, Own.nil_⟩, Below.refl _ _⟩
    case round =>
      obtain ⟨u, d, A2, c2, o2, hu, rfl, rfl, rfl, ho2, hkeep, hbl⟩ := hrel
      have hsz := hbl.size
      clear hu64 hv10
      obtain ⟨q1, q2, q3⟩ := hkeep.out
      by_cases h128 : u < 128
      · have hlt8 : ¬ (127 : Int) < (u : Int) := by omega
        have hw8 : IntKind.u8.wrap (u : Int) = (u : Int) := by rw [IntKind.wrap_u8]; omega
        have hvb : Ord.vb u = [u] := Ord.vb_lt h128
        rw [hvb] at q2 ho2
        have HQ := Lib.hid (And.intro q1 (And.intro q2 q3)); clear q1 q2 q3 hkeep hvb
        simp only [List.length_singleton] at ho2
        go_wp2_with (at_builtin; go_must (refine wpList_app (α := U8) (m := 1) (B := wr.heap.size + 1) (r := [⟨(u : Int)⟩]) rfl (.tmp 27) (.tmp 30) _ rfl w.heap.size 5 i0 _ 1 Try.underlying105 hi hz0 hz1 hz2 rfl (by decide) u8_one (by rfl) rfl (HQ.out.2.2.alloc _) (by rfl) ?_ rfl (by omega) (by simp only [maxLen]; omega) (by simp; omega) ?_))
        · exact At.built wr _ _ [(⟨(u : Int)⟩ : U8)] rfl (by intro z hz; simp at hz; subst hz; show (0 : Int) ≤ (u : Int) ∧ (u : Int) ≤ 255; omega)
        intro A3 c3 w3 hown3 hgr3 hat3
        have heq : o2 ++ [(⟨(u : Int)⟩ : U8)] = Ord.bys (Ord.vb u0) := by rw [← HQ.out.2.1, HQ.out.1, Ord.bys_append]; simp [Ord.bys]
        have hls : o2.length + 1 = (Ord.bys (Ord.vb u0)).length := by rw [← heq, List.length_append]; rfl
        have hbl3 : Below w.heap.size w w3 := (hbl.alloc hsz _).grown hgr3 (by simp; omega) (fun g hg => (HQ.out.2.2.lt g hg).1)
        have HF := Lib.hid (And.intro heq (And.intro hown3 hls)); clear heq hown3 hls hgr3 hat3
        go_wp2_with fail
        go_ret
        exact ⟨A3, c3, by rw [← HF.out.2.2]; rfl, by rw [← HF.out.1]; exact HF.out.2.1, hbl3⟩
      · have hge8 : (127 : Int) < (u : Int) := by omega
        obtain ⟨y, hy⟩ : ∃ y, u % 128 + 128 = y := ⟨_, rfl⟩
        have hw8 : IntKind.u8.wrap ((u : Int) % 128 + 128) = (y : Int) := by rw [IntKind.wrap_u8]; omega
        have hvb : Ord.vb u = y :: Ord.vb (u / 128) := by rw [Ord.vb_ge h128, hy]
        rw [hvb, List.length_cons] at ho2
        rw [hvb] at q2
        have hyb : y < 256 := by omega
        have hml : (Ord.vb (u / 128)).length < (Ord.vb u).length := by rw [hvb]; simp
        have HQ := Lib.hid (And.intro q1 (And.intro q2 q3)); clear q1 q2 q3 hkeep hvb hy
        have hpos := Ord.vb_pos (u / 128)
        go_wp2_with (at_builtin; go_must (refine wpList_app (α := U8) (m := 1) (B := wr.heap.size + 1) (r := [⟨(y : Int)⟩]) rfl (.tmp 18) (.tmp 23) _ rfl w.heap.size 5 i0 _ 1 Try.underlying105 hi hz0 hz1 hz2 rfl (by decide) u8_one (by rfl) rfl (HQ.out.2.2.alloc _) (by rfl) ?_ rfl (by omega) (by simp only [maxLen]; omega) (by simp; omega) ?_))
        · exact At.built wr _ _ [(⟨(y : Int)⟩ : U8)] rfl (by intro z hz; simp at hz; subst hz; show (0 : Int) ≤ (y : Int) ∧ (y : Int) ≤ 255; omega)
        intro A3 c3 w3 hown3 hgr3 hat3
        have heq : o2 ++ [(⟨(y : Int)⟩ : U8)] = Ord.bys (d ++ [y]) := by rw [HQ.out.1, Ord.bys_append]; simp [Ord.bys]
        have hdd : (d ++ [y]) ++ Ord.vb (u / 128) = Ord.vb u0 := by rw [← HQ.out.2.1]; simp
        have hls : o2.length + 1 = (o2 ++ [(⟨(y : Int)⟩ : U8)]).length := by rw [List.length_append]; rfl
        have hbl3 : Below w.heap.size w w3 := (hbl.alloc hsz _).grown hgr3 (by simp; omega) (fun g hg => (HQ.out.2.2.lt g hg).1)
        have HF := Lib.hid (And.intro heq (And.intro hdd (And.intro hown3 hls))); clear heq hown3 hls hgr3 hat3 hdd
        go_wp2_with fail
        go_roundg ((Ord.vb (u / 128)).length)
        case measure => exact hml
        case rel => exact ⟨u / 128, d ++ [y], A3, c3, o2 ++ [(⟨(y : Int)⟩ : U8)], by omega, rfl, by go_num, by rw [HF.out.2.2.2], by rw [← HF.out.2.2.2]; omega, ⟨HF.out.1, HF.out.2.1, HF.out.2.2.1⟩, hbl3⟩
  rcases (by omega : 0 ≤ x ∨ ¬ (0 ≤ x)) with h | h
  · have hneg : 0 ≤ x := h
    clear h
    go_enter Try.func137, Try.ntmps137
    go_wp2_with fail
    go_loopg [3, 4] ((Ord.vb u0).length) (fun gj uv ov wr => ∃ (u : Nat) (d : List Nat) (A2 : Option Addr) (c2 : Nat) (o2 : List U8), u < 18446744073709551616 ∧ gj = (Ord.vb u).length ∧ uv = .int .u64 (u : Int) ∧ ov = .slice A2 o2.length c2 ∧ o2.length + (Ord.vb u).length ≤ 10 ∧ Hid (o2 = Ord.bys d ∧ d ++ Ord.vb u = Ord.vb u0 ∧ Own wr w.heap.size 5 A2 c2 o2) ∧ Below w.heap.size w wr)
    case atStart => exact ⟨u0, [], none, 0, [], hu64, rfl, by rw [(HZ.out.2 hneg)], rfl, by simpa using hv10, ⟨rfl, rfl, Own.nil_⟩, Below.refl _ _⟩
    case round =>
      obtain ⟨u, d, A2, c2, o2, hu, rfl, rfl, rfl, ho2, hkeep, hbl⟩ := hrel
      have hsz := hbl.size
      clear hu64 hv10
      obtain ⟨q1, q2, q3⟩ := hkeep.out
      by_cases h128 : u < 128
      · have hlt8 : ¬ (127 : Int) < (u : Int) := by omega
        have hw8 : IntKind.u8.wrap (u : Int) = (u : Int) := by rw [IntKind.wrap_u8]; omega
        have hvb : Ord.vb u = [u] := Ord.vb_lt h128
        rw [hvb] at q2 ho2
        have HQ := Lib.hid (And.intro q1 (And.intro q2 q3)); clear q1 q2 q3 hkeep hvb
        simp only [List.length_singleton] at ho2
        go_wp2_with (at_builtin; go_must (refine wpList_app (α := U8) (m := 1) (B := wr.heap.size + 1) (r := [⟨(u : Int)⟩]) rfl (.tmp 27) (.tmp 30) _ rfl w.heap.size 5 i0 _ 1 Try.underlying105 hi hz0 hz1 hz2 rfl (by decide) u8_one (by rfl) rfl (HQ.out.2.2.alloc _) (by rfl) ?_ rfl (by omega) (by simp only [maxLen]; omega) (by simp; omega) ?_))
        · exact At.built wr _ _ [(⟨(u : Int)⟩ : U8)] rfl (by intro z hz; simp at hz; subst hz; show (0 : Int) ≤ (u : Int) ∧ (u : Int) ≤ 255; omega)
        intro A3 c3 w3 hown3 hgr3 hat3
        have heq : o2 ++ [(⟨(u : Int)⟩ : U8)] = Ord.bys (Ord.vb u0) := by rw [← HQ.out.2.1, HQ.out.1, Ord.bys_append]; simp [Ord.bys]
        have hls : o2.length + 1 = (Ord.bys (Ord.vb u0)).length := by rw [← heq, List.length_append]; rfl
        have hbl3 : Below w.heap.size w w3 := (hbl.alloc hsz _).grown hgr3 (by simp; omega) (fun g hg => (HQ.out.2.2.lt g hg).1)
        have HF := Lib.hid (And.intro heq (And.intro hown3 hls)); clear heq hown3 hls hgr3 hat3
        go_wp2_with fail
        go_ret
        exact ⟨A3, c3, by rw [← HF.out.2.2]; rfl, by rw [← HF.out.1]; exact HF.out.2.1, hbl3⟩
      · have hge8 : (127 : Int) < (u : Int) := by omega
        obtain ⟨y, hy⟩ : ∃ y, u % 128 + 128 = y := ⟨_, rfl⟩
        have hw8 : IntKind.u8.wrap ((u : Int) % 128 + 128) = (y : Int) := by rw [IntKind.wrap_u8]; omega
        have hvb : Ord.vb u = y :: Ord.vb (u / 128) := by rw [Ord.vb_ge h128, hy]
        rw [hvb, List.length_cons] at ho2
        rw [hvb] at q2
        have hyb : y < 256 := by omega
        have hml : (Ord.vb (u / 128)).length < (Ord.vb u).length := by rw [hvb]; simp
        have HQ := Lib.hid (And.intro q1 (And.intro q2 q3)); clear q1 q2 q3 hkeep hvb hy
        have hpos := Ord.vb_pos (u / 128)
        go_wp2_with (at_builtin; go_must (refine wpList_app (α := U8) (m := 1) (B := wr.heap.size + 1) (r := [⟨(y : Int)⟩]) rfl (.tmp 18) (.tmp 23) _ rfl w.heap.size 5 i0 _ 1 Try.underlying105 hi hz0 hz1 hz2 rfl (by decide) u8_one (by rfl) rfl (HQ.out.2.2.alloc _) (by rfl) ?_ rfl (by omega) (by simp only [maxLen]; omega) (by simp; omega) ?_))
        · exact At.built wr _ _ [(⟨(y : Int)⟩ : U8)] rfl (by intro z hz; simp at hz; subst hz; show (0 : Int) ≤ (y : Int) ∧ (y : Int) ≤ 255; omega)
        intro A3 c3 w3 hown3 hgr3 hat3
        have heq : o2 ++ [(⟨(y : Int)⟩ : U8)] = Ord.bys (d ++ [y]) := by rw [HQ.out.1, Ord.bys_append]; simp [Ord.bys]
        have hdd : (d ++ [y]) ++ Ord.vb (u / 128) = Ord.vb u0 := by rw [← HQ.out.2.1]; simp
        have hls : o2.length + 1 = (o2 ++ [(⟨(y : Int)⟩ : U8)]).length := by rw [List.length_append]; rfl
        have hbl3 : Below w.heap.size w w3 := (hbl.alloc hsz _).grown hgr3 (by simp; omega) (fun g hg => (HQ.out.2.2.lt g hg).1)
        have HF := Lib.hid (And.intro heq (And.intro hdd (And.intro hown3 hls))); clear heq hown3 hls hgr3 hat3 hdd
        go_wp2_with fail
        go_roundg ((Ord.vb (u / 128)).length)
        case measure => exact hml
        case rel => exact ⟨u / 128, d ++ [y], A3, c3, o2 ++ [(⟨(y : Int)⟩ : U8)], by omega, rfl, by go_num, by rw [HF.out.2.2.2], by rw [← HF.out.2.2.2]; omega, ⟨HF.out.1, HF.out.2.1, HF.out.2.2.1⟩, hbl3⟩
  omega

end Go.Proofs.Ytljdnadejmkaeaa
