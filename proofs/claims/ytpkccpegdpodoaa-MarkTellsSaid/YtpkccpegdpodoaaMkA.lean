/- mark: a marker's state; New, Marking, Colours, shade. R.Model's state; shade. -/
import Derived.Test.YtpkccpegdpodoaaItems
import Derived.Test.YtpkccpegdpodoaaWeak6
import Derived.BigQuiet
import Derived.Deep.QuietTactic
import Derived.Deep.DeepMust
import Derived.Deep.LoopGhost
import Derived.Deep.DrawnRows
namespace Go.Proofs.Ytpkccpegdpodoaa
open Go.RowKit

attribute [local go_sem ↓] Go.wp_at_zero Go.wp_at_succ

/-- a marker at block p -/
def MkrL (w : World) (base : Nat) (F : Nat → Prop) (p : Nat) (kind : Int) (mk : Bool) (A : Option Addr) (c : Nat) (s : List It) (l : List ItR) : Prop :=
  Blk w p 182 #[.int .i64 kind, .bool mk, .slice A l.length c] ∧ Its w base F 187 A c l ∧ F p ∧ base ≤ p ∧ its l = s
/-- a model at block p -/
def MdlL (w : World) (base : Nat) (F : Nat → Prop) (p : Nat) (nursery kind : Int) (mk : Bool) (A : Option Addr) (c : Nat) (s : List It) (l : List ItR) : Prop :=
  Blk w p 95 #[.slice A l.length c, .int .i64 nursery, .int .i64 kind, .bool mk] ∧ Its w base F 104 A c l ∧ F p ∧ base ≤ p ∧ its l = s

def MkrA (w : World) (base : Nat) (F : Nat → Prop) (p : Nat) (kind : Int) (mk : Bool) (A : Option Addr) (c : Nat) (s : List It) : Prop := ∃ l : List ItR, MkrL w base F p kind mk A c s l
def MdlA (w : World) (base : Nat) (F : Nat → Prop) (p : Nat) (nursery kind : Int) (mk : Bool) (A : Option Addr) (c : Nat) (s : List It) : Prop := ∃ l : List ItR, MdlL w base F p nursery kind mk A c s l
/-- places lie where they lay -/
def SameA (l l' : List ItR) : Prop := ∀ (i : Nat) (x : ItR), l[i]? = some x → ∃ x', l'[i]? = some x' ∧ x'.A = x.A ∧ x'.c = x.c
theorem SameA.refl (l : List ItR) : SameA l l := fun i x h => ⟨x, h, rfl, rfl⟩
theorem SameA.set {l : List ItR} {i : Nat} {x y : ItR} (hx : l[i]? = some x) (h1 : y.A = x.A) (h2 : y.c = x.c) : SameA l (l.set i y) := fun j z hz => by
  by_cases e : i = j
  · subst e
    rw [hx] at hz; injection hz with hz; subst hz
    exact ⟨y, by rw [List.getElem?_set_self (List.getElem?_eq_some_iff.1 hx).1], h1, h2⟩
  · exact ⟨z, by rw [List.getElem?_set_ne e]; exact hz, rfl, rfl⟩
def Mkr (w : World) (base : Nat) (F : Nat → Prop) (p : Nat) (kind : Int) (mk : Bool) (s : List It) : Prop := ∃ (A : Option Addr) (c : Nat), MkrA w base F p kind mk A c s
def Mdl (w : World) (base : Nat) (F : Nat → Prop) (p : Nat) (nursery kind : Int) (mk : Bool) (s : List It) : Prop := ∃ (A : Option Addr) (c : Nat), MdlA w base F p nursery kind mk A c s

section
variable {w w' : World} {base p : Nat} {F G : Nat → Prop} {n kind : Int} {mk : Bool} {s : List It}
theorem Mkr.fresh (h : Mkr w base F p kind mk s) (hb : Below w.heap.size w w') : Mkr w' base F p kind mk s := by
  obtain ⟨A, c, l, h1, h2, h3, h4, h5⟩ := h
  exact ⟨A, c, l, h1.fresh hb, h2.fresh hb, h3, h4, h5⟩
theorem Mkr.touch (h : Mkr w base F p kind mk s) (ht : Touch G w w') (hd : ∀ g, F g → ¬ G g) : Mkr w' base F p kind mk s := by
  obtain ⟨A, c, l, h1, h2, h3, h4, h5⟩ := h
  exact ⟨A, c, l, (ht.block p h1.lt (hd p h3)).trans h1, h2.touch ht hd, h3, h4, h5⟩
theorem Mkr.drewN (h : Mkr w base F p kind mk s) (n : Nat) : Mkr (w.drewN n) base F p kind mk s := by
  obtain ⟨A, c, l, h1, h2, h3, h4, h5⟩ := h
  exact ⟨A, c, l, h1.drewN n, h2.drewN n, h3, h4, h5⟩
theorem Mdl.drewN (h : Mdl w base F p n kind mk s) (k : Nat) : Mdl (w.drewN k) base F p n kind mk s := by
  obtain ⟨A, c, l, h1, h2, h3, h4, h5⟩ := h
  exact ⟨A, c, l, h1.drewN k, h2.drewN k, h3, h4, h5⟩
theorem Mkr.mono (h : Mkr w base F p kind mk s) (hF : ∀ g, F g → G g) : Mkr w base G p kind mk s := by
  obtain ⟨A, c, l, h1, h2, h3, h4, h5⟩ := h
  exact ⟨A, c, l, h1, h2.mono hF, hF p h3, h4, h5⟩
theorem Mdl.fresh (h : Mdl w base F p n kind mk s) (hb : Below w.heap.size w w') : Mdl w' base F p n kind mk s := by
  obtain ⟨A, c, l, h1, h2, h3, h4, h5⟩ := h
  exact ⟨A, c, l, h1.fresh hb, h2.fresh hb, h3, h4, h5⟩
theorem Mdl.touch (h : Mdl w base F p n kind mk s) (ht : Touch G w w') (hd : ∀ g, F g → ¬ G g) : Mdl w' base F p n kind mk s := by
  obtain ⟨A, c, l, h1, h2, h3, h4, h5⟩ := h
  exact ⟨A, c, l, (ht.block p h1.lt (hd p h3)).trans h1, h2.touch ht hd, h3, h4, h5⟩
theorem Mdl.mono (h : Mdl w base F p n kind mk s) (hF : ∀ g, F g → G g) : Mdl w base G p n kind mk s := by
  obtain ⟨A, c, l, h1, h2, h3, h4, h5⟩ := h
  exact ⟨A, c, l, h1, h2.mono hF, hF p h3, h4, h5⟩
end

/-- rows of ints are as they were -/
def IntKeep (w w' : World) : Prop := ∀ (g : Nat) (cs : Array Value) (fz : Nat × Nat), w.heap[g]? = some (Obj.cells cs 3 fz) → w'.heap[g]? = w.heap[g]?
theorem IntKeep.refl (w : World) : IntKeep w w := fun _ _ _ _ => rfl
theorem IntKeep.trans {w w1 w' : World} (h : IntKeep w w1) (h' : IntKeep w1 w') : IntKeep w w' := fun g cs fz hg => by
  have h1 := h g cs fz hg
  exact (h' g cs fz (h1.trans hg)).trans h1
theorem IntKeep.set {α : Type} [Flat α] {w : World} {base : Nat} {T : TypeId} {g c : Nat} {l : List α} (h : Own w base T (some ⟨g, 0, none⟩) c l) (hT : T ≠ 3) (o : Nat) (u : Value) : IntKeep w (w.setCell ⟨g, o, none⟩ u) := fun k cs fz hk =>
  Below.heap_setCell _ _ _ _ (fun e => by
    simp only at e
    subst e
    rcases h.2 with ⟨h1, -⟩ | ⟨g', cap, cur, hv, -, hh, -⟩
    · injection h1 with h1; cases h1
    · injection hv with hv; injection hv with hv; injection hv with hv
      subst hv
      rw [hk] at hh
      injection hh with hh; injection hh with _ hh _
      exact hT hh.symm)
theorem IntKeep.below {w w' : World} (h : Below w.heap.size w w') : IntKeep w w' := fun g _ _ hg => h.block g (Array.getElem?_eq_some_iff.1 hg).1
theorem Own.intKeep {w w' : World} {base : Nat} {A : Option Addr} {c : Nat} {l : List Int} (h : Own w base 3 A c l) (hk : IntKeep w w') : Own w' base 3 A c l := by
  refine ⟨h.1, ?_⟩
  rcases h.2 with h1 | ⟨g, cap, cur, hv, hb, hh, r⟩
  · exact .inl h1
  · exact .inr ⟨g, cap, cur, hv, hb, (hk _ _ _ hh).trans hh, r⟩

theorem mnew_yes (kind : Int) (w : World) (hk : kind = 1 ∨ kind = 2) :
    Calls Try.prog 51 #[.int .i64 kind] w fun e w' => e = .returned (.tuple #[.pointer (some ⟨w.heap.size, 0, none⟩), .int .i64 0]) ∧ Mkr w' w.heap.size (fun g => g = w.heap.size) w.heap.size kind false [] ∧ Below w.heap.size w w' := by
  have H : ∀ k : Int, Mkr (w.alloc (.cells #[.int .i64 k, .bool false, .slice none 0 0] 182)) w.heap.size (fun g => g = w.heap.size) w.heap.size k false [] := fun k =>
    ⟨none, 0, [], Blk.new _ _ _, Its.nil_ _ _ _ _, rfl, Nat.le_refl _, rfl⟩
  have HH := Lib.hid H; clear H
  rcases hk with rfl | rfl
  all_goals
    go_enter Try.func51, Try.ntmps51
    go_wp2
    go_ret2
    exact ⟨rfl, HH.out _, (Below.refl _ _).alloc (Nat.le_refl _) _⟩
theorem mnew_no (kind : Int) (w : World) (h1 : kind ≠ 1) (h2 : kind ≠ 2) :
    Calls Try.prog 51 #[.int .i64 kind] w fun e w' => e = .returned (.tuple #[.pointer none, .int .i64 1]) ∧ w = w' := by
  have d1 : (kind != 1) = true := by simpa using h1
  have d2 : (kind != 2) = true := by simpa using h2
  clear h1 h2
  go_enter Try.func51, Try.ntmps51
  go_wp2
  go_ret2
  exact ⟨rfl, rfl⟩
theorem marking_any (w : World) (base p : Nat) (F : Nat → Prop) (kind : Int) (mk : Bool) (s : List It) (h : Mkr w base F p kind mk s) :
    Calls Try.prog 55 #[.pointer (some ⟨p, 0, none⟩)] w fun e w' => e = .returned (.bool mk) ∧ w = w' := by
  obtain ⟨A, c, l, h1, h2, h3, h4, h5⟩ := h
  have c1 := h1.cell 1 (v := .bool mk) rfl
  clear h1 h2 h5
  go_enter Try.func55, Try.ntmps55
  go_wp2
  go_ret
  exact ⟨rfl, rfl⟩

set_option maxHeartbeats 800000 in
set_option maxRecDepth 100000 in
theorem mshadeL_any (w : World) (base p : Nat) (F : Nat → Prop) (kind n : Int) (mk : Bool) (A : Option Addr) (c : Nat) (s : List It) (l : List ItR) (h : MkrL w base F p kind mk A c s l) (hn : n = -1 ∨ ∃ m : Nat, n = (m : Int) ∧ m < s.length) (hs : s.length ≤ 1000) :
    Calls Try.prog 178 #[.pointer (some ⟨p, 0, none⟩), .int .i64 n] w fun e w' => e = .returned (.tuple #[]) ∧ (∃ l', MkrL w' base F p kind mk A c (shadeI mk n s) l' ∧ SameA l l') ∧ Touch F w w' ∧ IntKeep w w' ∧ w'.heap.size = w.heap.size := by
  have H := Lib.hid h
  obtain ⟨h1, h2, h3, h4, h5⟩ := h
  have c1 := h1.cell 1 (v := .bool mk) rfl
  have c2 := h1.cell 2 (v := .slice A l.length c) rfl
  have HS := Lib.hid h5
  rcases hn with rfl | ⟨m, rfl, hm⟩
  · have e1 : shadeI mk (-1) s = s := if_neg (by rintro ⟨-, h, -⟩; omega)
    rw [e1]
    clear h1 h2 h5 e1
    cases mk
    all_goals
      go_enter Try.func178, Try.ntmps178
      go_wp2
      go_end0
      exact ⟨rfl, ⟨l, H.out, SameA.refl l⟩, Touch.refl _ _, IntKeep.refl _, rfl⟩
  · rw [← h5, its_length] at hm
    rw [← h5, its_length] at hs
    obtain ⟨x, hx⟩ : ∃ x, l[m]? = some x := ⟨_, List.getElem?_eq_getElem hm⟩
    obtain ⟨g, rfl, hg1, hg2, q0, q1, q2⟩ := h2.cells hx
    have hst : stAt s m = some x.st := by rw [← h5]; exact stAt_get (its_get hx)
    have b0 : (0 : Int) ≤ (m : Int) := by omega
    have b1 : (m : Int) < (l.length : Int) := by omega
    have hne : g ≠ p := fun e => own_ne_ty h2.row h1 (by decide) (by rw [e]; rfl)
    have z1 := h2.row.frozen (g := g) rfl (m * 3 + 1)
    have hgF := h2.foot g rfl
    have hset := h2.setSt hx (by decide) 1 (by unfold I64; omega)
    have hblk := h1.far (p := ⟨g, m * 3 + 1, none⟩) (fun e => hne e.symm) (.int .i64 1)
    have hits := its_set l m x { x with st := 1 } (It.setst 1) hx rfl
    rw [h5] at hits
    obtain ⟨v, hv⟩ : ∃ v, x.st = v := ⟨_, rfl⟩
    rw [hv] at hst q1
    have hln : (l.set m { x with st := 1 }).length = l.length := List.length_set
    have hik := IntKeep.set h2.row (by decide) (m * 3 + 1) (.int .i64 1)
    have hsa := SameA.set (y := { x with st := 1 }) hx rfl rfl
    have HB := Lib.hid (And.intro hset (And.intro hblk (And.intro hits (And.intro hst (And.intro hln (And.intro hik hsa))))))
    clear h1 h2 h5 hx q0 q2 hst hset hblk hits hv hln hik hsa
    by_cases hc : mk = true ∧ v = 0
    · obtain ⟨rfl, rfl⟩ := hc
      go_enter Try.func178, Try.ntmps178
      go_wp2
      go_end0
      obtain ⟨k1, k2, k3, k4, k5, k6, k7⟩ := HB.out
      have e1 : shadeI true (m : Int) s = s.modify m (It.setst 1) := by unfold shadeI; rw [if_pos ⟨rfl, by omega, by simpa using k4⟩]; simp
      rw [e1]
      exact ⟨rfl, ⟨_, ⟨by rw [k5]; exact k2, k1, h3, h4, k3⟩, k7⟩, (Touch.refl _ _).setCell hgF _, k6, by simp [World.setCell]⟩
    · have e1 : shadeI mk (m : Int) s = s := if_neg (by rintro ⟨h, -, h'⟩; exact hc ⟨h, by rw [Int.toNat_natCast, HB.out.2.2.2.1] at h'; injection h'⟩)
      rw [e1]
      have HC := Lib.hid e1; clear e1
      cases mk with
      | false =>
        clear hc
        go_enter Try.func178, Try.ntmps178
        go_wp2
        go_end0
        exact ⟨rfl, ⟨l, H.out, SameA.refl l⟩, Touch.refl _ _, IntKeep.refl _, rfl⟩
      | true =>
        have d0 : (v == 0) = false := by simp at hc; simpa using hc
        clear hc
        go_enter Try.func178, Try.ntmps178
        go_wp2
        go_end0
        exact ⟨rfl, ⟨l, H.out, SameA.refl l⟩, Touch.refl _ _, IntKeep.refl _, rfl⟩
theorem mshadeA_any (w : World) (base p : Nat) (F : Nat → Prop) (kind n : Int) (mk : Bool) (A : Option Addr) (c : Nat) (s : List It) (h : MkrA w base F p kind mk A c s) (hn : n = -1 ∨ ∃ m : Nat, n = (m : Int) ∧ m < s.length) (hs : s.length ≤ 1000) :
    Calls Try.prog 178 #[.pointer (some ⟨p, 0, none⟩), .int .i64 n] w fun e w' => e = .returned (.tuple #[]) ∧ MkrA w' base F p kind mk A c (shadeI mk n s) ∧ Touch F w w' ∧ IntKeep w w' ∧ w'.heap.size = w.heap.size := by
  obtain ⟨l, h⟩ := h
  exact (mshadeL_any w base p F kind n mk A c s l h hn hs).mono fun e w' ⟨h1, ⟨l', h2, _⟩, h3⟩ => ⟨h1, ⟨l', h2⟩, h3⟩
theorem mshade_any (w : World) (base p : Nat) (F : Nat → Prop) (kind n : Int) (mk : Bool) (s : List It) (h : Mkr w base F p kind mk s) (hn : n = -1 ∨ ∃ m : Nat, n = (m : Int) ∧ m < s.length) (hs : s.length ≤ 1000) :
    Calls Try.prog 178 #[.pointer (some ⟨p, 0, none⟩), .int .i64 n] w fun e w' => e = .returned (.tuple #[]) ∧ Mkr w' base F p kind mk (shadeI mk n s) ∧ Touch F w w' ∧ IntKeep w w' ∧ w'.heap.size = w.heap.size := by
  obtain ⟨A, c, h⟩ := h
  exact (mshadeA_any w base p F kind n mk A c s h hn hs).mono fun e w' ⟨h1, h2, h3⟩ => ⟨h1, ⟨A, c, h2⟩, h3⟩

set_option maxHeartbeats 800000 in
set_option maxRecDepth 100000 in
theorem colours_any (w : World) (base p : Nat) (F : Nat → Prop) (kind : Int) (mk : Bool) (s : List It) (h : Mkr w base F p kind mk s) (hs : s.length ≤ 1000) :
    Calls Try.prog 54 #[.pointer (some ⟨p, 0, none⟩)] w fun e w' => ∃ A c, e = .returned (.slice A s.length c) ∧ Own w' w.heap.size 3 A c (s.map It.st) ∧ Below w.heap.size w w' := by
  obtain ⟨i0, hi, hz0, hz1, hz2⟩ := info_parts infoInt
  obtain ⟨A, c, l, h1, h2, h3, h4, h5⟩ := h
  have hl : s.length = l.length := by rw [← h5, its_length]
  rw [hl] at hs ⊢
  have c2 := h1.cell 2 (v := .slice A l.length c) rfl
  have H := Lib.hid (And.intro h1 (And.intro h2 h5)); clear h1 h2 h5 hl
  go_enter Try.func54, Try.ntmps54
  go_wp2_with fail
  clear c2
  go_loopg [3, 11] l.length (fun gk ov iv wr => ∃ (k : Nat) (A1 : Option Addr) (c1 : Nat), k ≤ l.length ∧ gk = l.length - k ∧ iv = .int .i64 k ∧ ov = .slice A1 k c1 ∧ Hid (Own wr w.heap.size 3 A1 c1 ((s.take k).map It.st)) ∧ Below w.heap.size w wr)
  case atStart => exact ⟨0, none, 0, Nat.zero_le _, rfl, rfl, rfl, Own.nil_, Below.refl _ _⟩
  case round =>
    obtain ⟨k, A1, c1, hk, rfl, rfl, rfl, hkeep, hbl⟩ := hrel
    have hsz := hbl.size
    by_cases hlt : k < l.length
    · obtain ⟨x, hx⟩ : ∃ x, l[k]? = some x := ⟨_, List.getElem?_eq_getElem hlt⟩
      obtain ⟨g, rfl, hg1, hg2, q0, q1, q2⟩ := (H.out.2.1.fresh hbl).cells hx
      have b0 : (0 : Int) ≤ (k : Int) := by omega
      have b1 : (k : Int) < (l.length : Int) := by omega
      have hxs := (H.out.2.1.sub k x hx).2.2.2
      have hsn : (s.take (k + 1)).map It.st = (s.take k).map It.st ++ [x.st] := by
        have : s[k]? = some x.it := by rw [← H.out.2.2]; exact its_get hx
        rw [List.take_add_one, this]; simp [ItR.it]
      have hlen : ((s.take k).map It.st).length = k := by
        rw [List.length_map, List.length_take]
        have : s.length = l.length := by rw [← H.out.2.2, its_length]
        omega
      have HX := Lib.hid (And.intro hsn (And.intro hlen hxs)); clear hsn hlen hxs hx
      go_wp2_with (at_builtin; go_must (refine wpList_app (α := Int) (n := k) (m := 1) (B := wr.heap.size + 1 + 1) (r := [x.st]) rfl (.tmp 15) (.tmp 18) _ rfl w.heap.size 3 i0 _ 8 Try.underlying47 hi hz0 hz1 hz2 rfl (by decide) int_one (by rfl) HX.out.2.1 ((hkeep.out.alloc _).alloc _) (by rfl) ?_ rfl (by omega) (by simp only [maxLen]; omega) (by simp; omega) ?_))
      · have := At.built (wr.alloc (.cells #[.slice x.A x.has.length x.c, .int .i64 x.st, .bool x.held] 187)) #[.int .i64 x.st] 3 [x.st] rfl (by intro z hz; simp at hz; subst hz; exact HX.out.2.2)
        simpa using this
      intro A2 c2 w2 hown2 hgr2 hat2
      have hbl2 : Below w.heap.size w w2 := ((hbl.alloc hsz _).alloc (by simp; omega) _).grown hgr2 (by simp; omega) (fun g hg => (hkeep.out.lt g hg).1)
      have HO2 := Lib.hid hown2; clear hown2
      go_wp2_with fail
      go_roundg (l.length - (k + 1))
      case measure => omega
      case rel => exact ⟨k + 1, A2, c2, by omega, rfl, by go_num, rfl, by unfold Hid; rw [HX.out.1, List.map_take]; exact HO2.out, hbl2⟩
    · obtain rfl : k = l.length := by omega
      have hk2 := hkeep.out
      have hsl : s.length = l.length := by rw [← H.out.2.2, its_length]
      rw [List.take_of_length_le (by omega)] at hk2
      have HK := Lib.hid hk2; clear hk2 hkeep hsl
      go_wp2_with fail
      go_ret
      exact ⟨A1, c1, rfl, HK.out, hbl⟩

end Go.Proofs.Ytpkccpegdpodoaa
