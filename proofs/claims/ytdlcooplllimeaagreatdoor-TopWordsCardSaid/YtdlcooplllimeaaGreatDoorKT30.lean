/- KT: SpA. -/
import Derived.Test.YtdlcooplllimeaaGreatDoorKT13
import Derived.Shelf.SlicesG.Reverse
import Derived.Ground.SlgnProg
import Derived.Sort.OwnSortedInts
/- slices.Reverse, slices.Contains over ints; shape.names. -/
namespace Go.Proofs.YtdlcooplllimeaaGreatDoor
open Go.RowKit Go.Sort Go.Shelf

attribute [local go_sem ↓] Go.wp_at_zero Go.wp_at_succ

def revL_ren : Go.Shelf.Ren := ⟨fun | 35 => 156 | n => n, fun | 22 => 34 | 23 => 3 | 3 => 3 | 4 => 4 | 0 => 0 | n => n, fun | n => n⟩
theorem revL : Go.Proofs.SlLaysN.n35 Tryz.prog revL_ren := {
  mixed := by kernel_rfl
  f35 := ⟨Tryz.f156.name, by decide, Tryz.func156.trans (congrArg some (by kernel_rfl))⟩
  t0 := Tryz.underlying0
  a0 := Tryz.isAgg0
  z0 := Tryz.sizeOf0
  v0 := Tryz.zeroValue0
  t3 := Tryz.underlying3
  a3 := Tryz.isAgg3
  z3 := Tryz.sizeOf3
  v3 := Tryz.zeroValue3
  t4 := Tryz.underlying4
  a4 := Tryz.isAgg4
  z4 := Tryz.sizeOf4
  v4 := Tryz.zeroValue4
  t22 := Tryz.underlying34
  a22 := Tryz.isAgg34
  z22 := Tryz.sizeOf34
  v22 := Tryz.zeroValue34
  t23 := Tryz.underlying3
  a23 := Tryz.isAgg3
  z23 := Tryz.sizeOf3
  v23 := Tryz.zeroValue3 }
theorem flat_ints (l : List Int) : flat l = l.map (Value.int .i64) := by
  induction l with
  | nil => rfl
  | cons x l ih => rw [flat_cons, ih]; rfl
theorem reverse_own (w : World) (base n : Nat) (A : Option Addr) (c : Nat) (l : List Int) (hn : l.length = n) (h100 : n ≤ 1000000) (h : Own w base 3 A c l) :
    Calls Tryz.prog 156 #[.slice A n c] w fun e w' => e = .returned (.tuple #[]) ∧ Own w' base 3 A c l.reverse ∧ w.grownBy w' (rowOf A) := by
  subst hn
  rcases h.2 with ⟨h1, h0⟩ | ⟨g, cap, cur, hv, hg, hh, hn, hcap, hsz, htk⟩
  · injection h1 with h1 h2 h3
    subst h1 h3
    have hl : l = [] := List.length_eq_zero_iff.1 h2
    subst hl
    have hcon := AnyG.slices_Reverse_int_empty revL none 0 w
    change Calls Tryz.prog 156 _ _ _ at hcon
    refine hcon.mono ?_
    rintro e w' ⟨rfl, rfl⟩
    exact ⟨rfl, by simpa using h, World.grownBy.refl _ _⟩
  · injection hv with hv h2 h3
    subst hv h3
    have hlt := (Array.getElem?_eq_some_iff.1 hh).1
    have htk' : cur.toList.take l.length = l.map (Value.int .i64) := by rw [← flat_ints, ← htk, show Flat.sz Int = 1 from rfl, Nat.mul_one]
    have hcon := AnyG.slices_Reverse_int revL g 0 c l w (holds_of_blockI hh htk') (by omega)
    change Calls Tryz.prog 156 _ _ _ at hcon
    refine hcon.mono ?_
    rintro e w' ⟨rfl, m, rfl⟩
    have hl : l.reverse.length = l.length := List.length_reverse
    have hgn : ∀ v : World, grow v #[] = v := fun v => by simp [grow]
    rw [← hgn (putRow _ _ _ _ _)]
    refine ⟨rfl, ?_, grownBy_sortedI _⟩
    have := ownsRow_sortedI (n := m) (os := #[]) (ts := l.reverse) hl hg hh hn hcap hsz
    unfold Own
    rw [flat_ints, hl]
    exact this

namespace Top
set_option maxRecDepth 100000 in
theorem idxInt_any (A : Option Addr) (c B n : Nat) (l : List Int) (x : Int) (w : World) (hn : l.length = n) (h : At w B A l) (hB : B ≤ w.heap.size) (hl : n ≤ 9223372036854775807) :
    Calls Tryz.prog 155 #[.slice A n c, .int .i64 x] w fun e w' => ∃ r : Int, e = .returned (.int .i64 r) ∧ Below w.heap.size w w' := by
  have H := Lib.hid (And.intro h hn); clear h hn
  go_enter Tryz.func155, Tryz.ntmps155
  go_wp2
  go_loopg [8] n (fun gk i wr => ∃ k : Nat, k ≤ n ∧ gk = n - k ∧ i = .int .i64 k ∧ Below w.heap.size w wr)
  case atStart => exact ⟨0, Nat.zero_le _, rfl, rfl, Below.refl _ _⟩
  case round =>
    obtain ⟨k, hk, rfl, rfl, hbl⟩ := hrel
    by_cases hlt : k < n
    · obtain ⟨b, o, y, rfl, hb, hy, q0, -⟩ := (H.out.1.below (hbl.mono hB)).intT (k := k) (by have := H.out.2; omega)
      have hk0 : (0 : Int) ≤ (k : Int) := by omega
      have hk1 : (k : Int) < (n : Int) := by omega
      clear hy
      by_cases hxy : x = y
      · subst hxy
        go_wp2
        go_ret
        exact ⟨_, rfl, hbl⟩
      · have d : (x == y) = false := by simpa using hxy
        clear hxy
        go_wp2
        go_roundg (n - (k + 1))
        case measure => omega
        case rel => exact ⟨k + 1, by omega, rfl, by go_num, hbl⟩
    · go_wp2
      go_ret
      exact ⟨-1, rfl, hbl⟩
theorem containsInt_any (A : Option Addr) (c B n : Nat) (l : List Int) (x : Int) (w : World) (hn : l.length = n) (h : At w B A l) (hB : B ≤ w.heap.size) (hl : n ≤ 9223372036854775807) :
    Calls Tryz.prog 121 #[.slice A n c, .int .i64 x] w fun e w' => ∃ b : Bool, e = .returned (.bool b) ∧ Below w.heap.size w w' := by
  have hi := idxInt_any A c B n l x w hn h hB hl
  have H := Lib.hid hi; clear hi h hn
  go_enter Tryz.func121, Tryz.ntmps121
  go_wp2_with fail
  refine H.out.mono ?_
  rintro e w1 ⟨r, rfl, hb⟩
  have HB := Lib.hid hb; clear hb
  go_wp2_with fail
  go_returns
  exact ⟨_, rfl, HB.out⟩

/-- each shape up to m has its Up ahead of it -/
def UpOk (l : List (Int × Int)) (m : Int) : Prop := ∀ j : Nat, 0 < j → (j : Int) ≤ m → ∃ x, l[j]? = some x ∧ x.1 < (j : Int)
def NamesPost (w : World) (e : Ending) (w' : World) : Prop := ∃ (A : Option Addr) (c n : Nat) (o : List Int), e = .returned (.slice A n c) ∧ o.length = n ∧ n ≤ 100 ∧ At w' w'.heap.size A o ∧ Below w.heap.size w w'
set_option maxHeartbeats 1600000 in
set_option maxRecDepth 100000 in
theorem names_any (A : Option Addr) (c B n : Nat) (l : List (Int × Int)) (m : Int) (w : World) (hn : l.length = n) (h : At w B A l) (hB : B ≤ w.heap.size) (hm : m ≤ 100) (hup : UpOk l m) :
    Calls Tryz.prog 122 #[.slice A n c, .int .i64 m] w (NamesPost w) := by
  obtain ⟨i0, hi, hz0, hz1, hz2⟩ := info_parts infoInt
  have H := Lib.hid (And.intro h (And.intro hn hup)); clear h hn hup
  obtain ⟨P, hP⟩ : ∃ P, NamesPost w = P := ⟨_, rfl⟩
  have HP := Lib.hid hP; rw [hP]; clear hP
  go_enter Tryz.func122, Tryz.ntmps122
  go_wp2
  go_loopg [1, 5] m.toNat (fun gk sv ov wr => ∃ (s : Int) (A1 : Option Addr) (c1 : Nat) (o : List Int), s ≤ m ∧ gk = s.toNat ∧ sv = .int .i64 s ∧ ov = .slice A1 o.length c1 ∧ o.length + s.toNat ≤ 100 ∧ Hid (Own wr w.heap.size 3 A1 c1 o ∧ ∀ x ∈ o, I64 x) ∧ Below w.heap.size w wr)
  case atStart => exact ⟨m, none, 0, [], Int.le_refl _, rfl, rfl, rfl, by simp; omega, ⟨Own.nil_, fun x hx => by simp at hx⟩, Below.refl _ _⟩
  case round =>
    obtain ⟨s, A1, c1, o, hs, rfl, rfl, rfl, ho, hkeep, hbl⟩ := hrel
    have hsz := hbl.size
    by_cases hpos : 0 < s
    · obtain ⟨k, rfl⟩ : ∃ k : Nat, s = k := ⟨s.toNat, by omega⟩
      obtain ⟨x0, hx0, hx1⟩ := H.out.2.2 k (by omega) hs
      have hkl : k < l.length := (List.getElem?_eq_some_iff.1 hx0).1
      obtain ⟨b, o', x, rfl, hb, hx, q0, q1, j0, j1⟩ := (H.out.1.below (hbl.mono hB)).pairT hkl
      rw [hx0] at hx; injection hx with hx; subst hx
      have hk0 : (0 : Int) ≤ (k : Int) := by omega
      have hk1 : (k : Int) < (n : Int) := by have := H.out.2.1; omega
      have hown := hkeep.out.1.alloc (.cells #[.int .i64 x0.2] 3)
      have hol : o.length ≤ 100 := by omega
      have hba : b < wr.heap.size := by omega
      have hlit : At (wr.alloc (.cells #[.int .i64 x0.2] 3)) (wr.heap.size + 1) (some ⟨wr.heap.size, 0, none⟩) [x0.2] := At.built wr #[.int .i64 x0.2] 3 [x0.2] rfl (by intro z hz; simp at hz; subst hz; exact j1)
      have HX := Lib.hid (And.intro hown (And.intro hlit (And.intro hx1 hkeep.out.2))); clear hown hlit hx1 hkeep hx0
      go_wp2_with (at_builtin; go_must (refine wpList_app (α := Int) (n := o.length) (m := 1) (B := wr.heap.size + 1) (r := [x0.2]) rfl (.tmp 13) (.tmp 19) _ rfl w.heap.size 3 i0 _ 8 Tryz.underlying34 hi hz0 hz1 hz2 rfl (by decide) int_one (by rfl) rfl HX.out.1 (by rfl) HX.out.2.1 rfl (by omega) (by simp only [maxLen]; omega) (by simp; omega) ?_))
      intro A2 c2 w2 ho2 hg2 hat2
      have hb2 : Below w.heap.size w w2 := (hbl.alloc (by omega) _).grown hg2 (by simp; omega) (fun g hg => (HX.out.1.lt g hg).1)
      have ho2l : (o ++ [x0.2]).length = o.length + 1 := by simp
      have hok : ∀ x ∈ o ++ [x0.2], I64 x := by
        intro y hy
        rcases List.mem_append.1 hy with h | h
        · exact HX.out.2.2.2 y h
        · simp at h; subst h; exact j1
      have q0' : w2.cell? ⟨b, o' + k * 2, none⟩ = some (.int .i64 x0.1) := by
        rw [← q0]
        by_cases e : rowOf A1 = some b
        · exact absurd (HX.out.1.lt b e).1 (by omega)
        · exact (World.cell?_of_block (w := wr.alloc (.cells #[.int .i64 x0.2] 3)) (hg2.block b (by simp; omega) (fun e2 => e e2.symm))).trans (World.cell?_alloc_lt wr _ _ hba)
      have H2 := Lib.hid (And.intro ho2 (And.intro hok (And.intro hb2 (And.intro ho2l HX.out.2.2.1)))); clear ho2 hok hb2 ho2l hg2 hat2 q0 q1
      go_wp2
      go_roundg (x0.1.toNat)
      case measure => have := H2.out.2.2.2.2; omega
      case rel => exact ⟨x0.1, A2, c2, _, by have := H2.out.2.2.2.2; omega, rfl, rfl, by rw [H2.out.2.2.2.1], by have := H2.out.2.2.2.2; rw [H2.out.2.2.2.1]; omega, ⟨H2.out.1, H2.out.2.1⟩, H2.out.2.2.1⟩
    · have hrev := reverse_own wr w.heap.size o.length A1 c1 o rfl (by omega) hkeep.out.1
      have HR := Lib.hid (And.intro hrev hkeep.out); clear hrev hkeep
      go_wp2_with fail
      refine HR.out.1.mono ?_
      rintro e w1 ⟨rfl, ho1, hg1⟩
      have hb1 : Below w.heap.size w w1 := hbl.grown hg1 hsz (fun g hg => (HR.out.2.1.lt g hg).1)
      have H1 := Lib.hid (And.intro ho1 hb1); clear ho1 hb1 hg1
      go_wp2_with fail
      rw [← HP.out]
      exact ⟨A1, c1, o.length, o.reverse, rfl, by simp, by omega, H1.out.1.at_ (fun x hx => HR.out.2.2 x (by simpa using hx)), H1.out.2⟩
end Top
end Go.Proofs.YtdlcooplllimeaaGreatDoor
