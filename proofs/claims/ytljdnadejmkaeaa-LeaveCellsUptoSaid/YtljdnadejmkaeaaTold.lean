/- leave.told: the values that numbers name, or that one names none. -/
import Derived.Test.YtljdnadejmkaeaaCopyA
namespace Go.Proofs.Ytljdnadejmkaeaa
open Go.RowKit

/-- is a number that of one of many values? -/
def okv (many : Nat) (n : Int) : Bool := decide (0 ≤ n) && decide (n < (many : Int))
def getv (vals : List (Int × Int)) (n : Int) : Int × Int := vals.getD n.toNat (0, 0)

theorem map_take_snoc {α β : Type} (f : α → β) (l : List α) (k : Nat) (x : α) (h : l[k]? = some x) : (l.take (k + 1)).map f = (l.take k).map f ++ [f x] := by
  rw [take_snoc _ _ _ h]; simp

def ToldPost (l : List Int) (vals : List (Int × Int)) (w : World) (e : Ending) (w' : World) : Prop :=
  Below w.heap.size w w' ∧ ((l.all (okv vals.length) = true ∧ ∃ A' c', e = .returned (.tuple #[.slice A' l.length c', .bool true]) ∧ Own w' w.heap.size 23 A' c' (l.map (getv vals))) ∨
    (l.all (okv vals.length) = false ∧ e = .returned (.tuple #[.slice none 0 0, .bool false])))

set_option maxHeartbeats 800000 in
set_option maxRecDepth 100000 in
theorem told_any (A V : Option Addr) (c d B : Nat) (l : List Int) (vals : List (Int × Int)) (w : World) (h : At w B A l) (hv : At w B V vals) (hB : B ≤ w.heap.size) (hl : l.length * 16 ≤ 140737488355328) (hvl : vals.length ≤ 9223372036854775807) :
    Calls Try.prog 49 #[.slice A l.length c, .slice V vals.length d] w (ToldPost l vals w) := by
  obtain ⟨i0, hi, hz0, hz1, hz2⟩ := info_parts infoVal
  have H := Lib.hid h; clear h
  have HV := Lib.hid hv; clear hv
  go_enter Try.func49, Try.ntmps49
  go_wp2
  go_loopw [6, 11] (fun o i wr => ∃ (k : Nat) (A1 : Option Addr) (c1 : Nat), k ≤ l.length ∧ i = .int .i64 k ∧ o = .slice A1 k c1 ∧ Hid ((l.take k).all (okv vals.length) = true ∧ Own wr w.heap.size 23 A1 c1 ((l.take k).map (getv vals))) ∧ Below w.heap.size w wr) (fun _ i _ => l.length - (intOf i).toNat)
  case atStart => exact ⟨0, none, 0, Nat.zero_le _, rfl, rfl, ⟨rfl, Own.nil_⟩, Below.refl _ _⟩
  case round =>
    obtain ⟨k, A1, c1, hk, rfl, rfl, hkeep, hbl⟩ := hrel
    have hsz := hbl.size
    by_cases hlt : k < l.length
    · obtain ⟨b, o, x, rfl, hb, hx, hok, h0⟩ := (H.out.below (hbl.mono hB)).int_ hlt
      have HX := Lib.hid hx; clear hx hok
      by_cases h1 : 0 ≤ x
      · by_cases h2 : x < (vals.length : Int)
        · obtain ⟨n, rfl⟩ := Int.eq_ofNat_of_zero_le h1
          obtain ⟨b', o', y, z, rfl, hb', hy, hoky, hokz, g0, g1⟩ := (HV.out.below (hbl.mono hB)).pair (by omega : n < vals.length)
          have HY := Lib.hid hy; clear hy
          have hlen : (((l.take k).map (getv vals)).length = k) := by simp; omega
          have HL := Lib.hid hlen; clear hlen
          go_wp2_with (at_builtin; go_must (refine wpList_app (α := Int × Int) (n := k) (m := 1) (B := wr.heap.size + 1) (r := [(y, z)]) rfl (.tmp 23) (.tmp 28) _ rfl w.heap.size 23 i0 _ 16 Try.underlying24 hi hz0 hz1 hz2 rfl (by decide) pair_one (by rfl) HL.out (hkeep.out.2.alloc _) (by rfl) ?_ rfl (by omega) (by simp only [maxLen]; omega) (by simp; omega) ?_))
          · exact At.built wr _ _ [(y, z)] rfl (by simp [Flat.ok, hoky, hokz])
          intro A2 c2 w2 hown hgr hat
          have hbl2 : Below w.heap.size w w2 := (hbl.alloc hsz _).grown hgr (by simp; omega) (fun g hg => (hkeep.out.2.lt g hg).1)
          have hgv : getv vals (n : Int) = (y, z) := by simp [getv, HY.out]
          have HG := Lib.hid hgv; clear hgv
          go_wp2
          go_roundw
          case rel => exact ⟨k + 1, A2, c2, by omega, by go_num, rfl, ⟨by rw [all_snoc _ _ _ _ HX.out, hkeep.out.1]; simp [okv]; omega, by rw [map_take_snoc _ _ _ _ HX.out, HG.out, List.map_take]; exact hown⟩, hbl2⟩
          case measure => simp [intOf]; omega
        · go_wp2
          go_ret2
          exact ⟨hbl, .inr ⟨all_stop _ _ _ _ HX.out (by simp [okv]; omega), rfl⟩⟩
      · go_wp2
        go_ret2
        exact ⟨hbl, .inr ⟨all_stop _ _ _ _ HX.out (by simp [okv]; omega), rfl⟩⟩
    · go_wp2
      go_ret2
      obtain rfl : k = l.length := by omega
      have hk2 := hkeep.out
      rw [List.take_length] at hk2
      exact ⟨hbl, .inl ⟨hk2.1, A1, c1, rfl, hk2.2⟩⟩

end Go.Proofs.Ytljdnadejmkaeaa
