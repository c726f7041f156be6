/- RF: Live7. -/
import Derived.Test.YtljdnadejmkaeaaRF1
import Derived.Test.YtljdnadejmkaeaaRF14
import Derived.Test.YtljdnadejmkaeaaRF19
/- The reference's words on instructions: what is asked, whether there is a value. -/
namespace Go.Proofs.Ytljdnadejmkaeaa
open Go.RowKit

theorem rTells_any (op : Int) (w : World) : Calls Try.prog 108 #[.int .i64 op] w fun e w' => e = .returned (.bool (Liv.tells op)) ∧ Below w.heap.size w w' := by
  have hd : decide (op ∈ ([1, 2, 3, 7, 8, 10, 13, 15, 16, 18] : List Int)) = Liv.tells op := by unfold Liv.tells; simp
  have HD := Lib.hid hd; clear hd
  go_enter Try.func108, Try.ntmps108
  go_wp2_with fail
  have hat := At.built w #[.int .i64 1, .int .i64 2, .int .i64 3, .int .i64 7, .int .i64 8, .int .i64 10, .int .i64 13, .int .i64 15, .int .i64 16, .int .i64 18] 3 ([1, 2, 3, 7, 8, 10, 13, 15, 16, 18] : List Int) rfl (by intro z hz; simp at hz; rcases hz with rfl | rfl | rfl | rfl | rfl | rfl | rfl | rfl | rfl | rfl <;> (unfold Flat.ok; exact ⟨by decide, by decide⟩))
  refine (hasInt_any (some ⟨w.heap.size, 0, none⟩) 10 _ 10 _ op _ rfl hat (by decide)).mono ?_
  rintro e w1 ⟨rfl, rfl⟩
  rw [HD.out]
  clear hat
  go_wp2_with fail
  go_ret
  exact ⟨rfl, (Below.refl _ _).alloc (Nat.le_refl _) _⟩

theorem own_lit {α : Type} [Flat α] (w : World) (base g n : Nat) (e : TypeId) (cs : Array Value) (l : List α) (hg : g = w.heap.size) (hn : l.length = n) (hb : base ≤ w.heap.size) (hcs : cs.toList = flat l) (hm : n ≤ maxLen) : Own (w.alloc (.cells cs e)) base e (some ⟨g, 0, none⟩) n l := by
  subst hg hn
  have hs : cs.size = l.length * Flat.sz α := by rw [← Array.length_toList, hcs, flat_length]
  exact ⟨flat_length _, .inr ⟨w.heap.size, l.length, cs, rfl, hb, heap_alloc_new w _, Nat.le_refl _, hm, hs, by rw [hcs, List.take_of_length_le (by rw [flat_length]; exact Nat.le_refl _)]⟩⟩

def AskPost (op a b c : Int) (w : World) (e : Ending) (w' : World) : Prop :=
  ∃ A d, e = .returned (.slice A (([a, b, c] : List Int).take (Liv.asksN op)).length d) ∧ Own w' w.heap.size 3 A d (([a, b, c] : List Int).take (Liv.asksN op)) ∧ Below w.heap.size w w'

set_option maxRecDepth 100000 in
theorem rAsks_4 (a b c n ex k1 k2 : Int) (w : World) : Calls Try.prog 62 #[.agg #[.int .i64 4, .int .i64 a, .int .i64 b, .int .i64 c, .int .i64 n, .int .i64 ex, .int .i64 k1, .int .i64 k2]] w (AskPost 4 a b c w) := by
  go_enter Try.func62, Try.ntmps62
  go_wp2_with fail
  go_ret
  unfold AskPost
  rw [show ([a, b, c] : List Int).take (Liv.asksN 4) = [a] from rfl]
  exact ⟨some ⟨w.heap.size + 1, 0, none⟩, 1, rfl, own_lit (w.alloc _) w.heap.size (w.heap.size + 1) 1 3 (List.map (fun z : Int => Value.int .i64 z) [a]).toArray [a] (by simp) rfl (by simp) rfl (by simp [maxLen]), ((Below.refl _ _).alloc (Nat.le_refl _) _).alloc (by simp) _⟩
set_option maxRecDepth 100000 in
theorem rAsks_5 (a b c n ex k1 k2 : Int) (w : World) : Calls Try.prog 62 #[.agg #[.int .i64 5, .int .i64 a, .int .i64 b, .int .i64 c, .int .i64 n, .int .i64 ex, .int .i64 k1, .int .i64 k2]] w (AskPost 5 a b c w) := by
  go_enter Try.func62, Try.ntmps62
  go_wp2_with fail
  go_ret
  unfold AskPost
  rw [show ([a, b, c] : List Int).take (Liv.asksN 5) = [a] from rfl]
  exact ⟨some ⟨w.heap.size + 1, 0, none⟩, 1, rfl, own_lit (w.alloc _) w.heap.size (w.heap.size + 1) 1 3 (List.map (fun z : Int => Value.int .i64 z) [a]).toArray [a] (by simp) rfl (by simp) rfl (by simp [maxLen]), ((Below.refl _ _).alloc (Nat.le_refl _) _).alloc (by simp) _⟩
set_option maxRecDepth 100000 in
theorem rAsks_6 (a b c n ex k1 k2 : Int) (w : World) : Calls Try.prog 62 #[.agg #[.int .i64 6, .int .i64 a, .int .i64 b, .int .i64 c, .int .i64 n, .int .i64 ex, .int .i64 k1, .int .i64 k2]] w (AskPost 6 a b c w) := by
  go_enter Try.func62, Try.ntmps62
  go_wp2_with fail
  go_ret
  unfold AskPost
  rw [show ([a, b, c] : List Int).take (Liv.asksN 6) = [a] from rfl]
  exact ⟨some ⟨w.heap.size + 1, 0, none⟩, 1, rfl, own_lit (w.alloc _) w.heap.size (w.heap.size + 1) 1 3 (List.map (fun z : Int => Value.int .i64 z) [a]).toArray [a] (by simp) rfl (by simp) rfl (by simp [maxLen]), ((Below.refl _ _).alloc (Nat.le_refl _) _).alloc (by simp) _⟩
set_option maxRecDepth 100000 in
theorem rAsks_8 (a b c n ex k1 k2 : Int) (w : World) : Calls Try.prog 62 #[.agg #[.int .i64 8, .int .i64 a, .int .i64 b, .int .i64 c, .int .i64 n, .int .i64 ex, .int .i64 k1, .int .i64 k2]] w (AskPost 8 a b c w) := by
  go_enter Try.func62, Try.ntmps62
  go_wp2_with fail
  go_ret
  unfold AskPost
  rw [show ([a, b, c] : List Int).take (Liv.asksN 8) = [a] from rfl]
  exact ⟨some ⟨w.heap.size + 1, 0, none⟩, 1, rfl, own_lit (w.alloc _) w.heap.size (w.heap.size + 1) 1 3 (List.map (fun z : Int => Value.int .i64 z) [a]).toArray [a] (by simp) rfl (by simp) rfl (by simp [maxLen]), ((Below.refl _ _).alloc (Nat.le_refl _) _).alloc (by simp) _⟩
set_option maxRecDepth 100000 in
theorem rAsks_9 (a b c n ex k1 k2 : Int) (w : World) : Calls Try.prog 62 #[.agg #[.int .i64 9, .int .i64 a, .int .i64 b, .int .i64 c, .int .i64 n, .int .i64 ex, .int .i64 k1, .int .i64 k2]] w (AskPost 9 a b c w) := by
  go_enter Try.func62, Try.ntmps62
  go_wp2_with fail
  go_ret
  unfold AskPost
  rw [show ([a, b, c] : List Int).take (Liv.asksN 9) = [a] from rfl]
  exact ⟨some ⟨w.heap.size + 1, 0, none⟩, 1, rfl, own_lit (w.alloc _) w.heap.size (w.heap.size + 1) 1 3 (List.map (fun z : Int => Value.int .i64 z) [a]).toArray [a] (by simp) rfl (by simp) rfl (by simp [maxLen]), ((Below.refl _ _).alloc (Nat.le_refl _) _).alloc (by simp) _⟩
set_option maxRecDepth 100000 in
theorem rAsks_10 (a b c n ex k1 k2 : Int) (w : World) : Calls Try.prog 62 #[.agg #[.int .i64 10, .int .i64 a, .int .i64 b, .int .i64 c, .int .i64 n, .int .i64 ex, .int .i64 k1, .int .i64 k2]] w (AskPost 10 a b c w) := by
  go_enter Try.func62, Try.ntmps62
  go_wp2_with fail
  go_ret
  unfold AskPost
  rw [show ([a, b, c] : List Int).take (Liv.asksN 10) = [a] from rfl]
  exact ⟨some ⟨w.heap.size + 1, 0, none⟩, 1, rfl, own_lit (w.alloc _) w.heap.size (w.heap.size + 1) 1 3 (List.map (fun z : Int => Value.int .i64 z) [a]).toArray [a] (by simp) rfl (by simp) rfl (by simp [maxLen]), ((Below.refl _ _).alloc (Nat.le_refl _) _).alloc (by simp) _⟩
set_option maxRecDepth 100000 in
theorem rAsks_15 (a b c n ex k1 k2 : Int) (w : World) : Calls Try.prog 62 #[.agg #[.int .i64 15, .int .i64 a, .int .i64 b, .int .i64 c, .int .i64 n, .int .i64 ex, .int .i64 k1, .int .i64 k2]] w (AskPost 15 a b c w) := by
  go_enter Try.func62, Try.ntmps62
  go_wp2_with fail
  go_ret
  unfold AskPost
  rw [show ([a, b, c] : List Int).take (Liv.asksN 15) = [a] from rfl]
  exact ⟨some ⟨w.heap.size + 1, 0, none⟩, 1, rfl, own_lit (w.alloc _) w.heap.size (w.heap.size + 1) 1 3 (List.map (fun z : Int => Value.int .i64 z) [a]).toArray [a] (by simp) rfl (by simp) rfl (by simp [maxLen]), ((Below.refl _ _).alloc (Nat.le_refl _) _).alloc (by simp) _⟩
set_option maxRecDepth 100000 in
theorem rAsks_7 (a b c n ex k1 k2 : Int) (w : World) : Calls Try.prog 62 #[.agg #[.int .i64 7, .int .i64 a, .int .i64 b, .int .i64 c, .int .i64 n, .int .i64 ex, .int .i64 k1, .int .i64 k2]] w (AskPost 7 a b c w) := by
  go_enter Try.func62, Try.ntmps62
  go_wp2_with fail
  go_ret
  unfold AskPost
  rw [show ([a, b, c] : List Int).take (Liv.asksN 7) = [a,b] from rfl]
  exact ⟨some ⟨w.heap.size + 1, 0, none⟩, 2, rfl, own_lit (w.alloc _) w.heap.size (w.heap.size + 1) 2 3 (List.map (fun z : Int => Value.int .i64 z) [a,b]).toArray [a,b] (by simp) rfl (by simp) rfl (by simp [maxLen]), ((Below.refl _ _).alloc (Nat.le_refl _) _).alloc (by simp) _⟩
set_option maxRecDepth 100000 in
theorem rAsks_11 (a b c n ex k1 k2 : Int) (w : World) : Calls Try.prog 62 #[.agg #[.int .i64 11, .int .i64 a, .int .i64 b, .int .i64 c, .int .i64 n, .int .i64 ex, .int .i64 k1, .int .i64 k2]] w (AskPost 11 a b c w) := by
  go_enter Try.func62, Try.ntmps62
  go_wp2_with fail
  go_ret
  unfold AskPost
  rw [show ([a, b, c] : List Int).take (Liv.asksN 11) = [a,b] from rfl]
  exact ⟨some ⟨w.heap.size + 1, 0, none⟩, 2, rfl, own_lit (w.alloc _) w.heap.size (w.heap.size + 1) 2 3 (List.map (fun z : Int => Value.int .i64 z) [a,b]).toArray [a,b] (by simp) rfl (by simp) rfl (by simp [maxLen]), ((Below.refl _ _).alloc (Nat.le_refl _) _).alloc (by simp) _⟩
set_option maxRecDepth 100000 in
theorem rAsks_12 (a b c n ex k1 k2 : Int) (w : World) : Calls Try.prog 62 #[.agg #[.int .i64 12, .int .i64 a, .int .i64 b, .int .i64 c, .int .i64 n, .int .i64 ex, .int .i64 k1, .int .i64 k2]] w (AskPost 12 a b c w) := by
  go_enter Try.func62, Try.ntmps62
  go_wp2_with fail
  go_ret
  unfold AskPost
  rw [show ([a, b, c] : List Int).take (Liv.asksN 12) = [a,b] from rfl]
  exact ⟨some ⟨w.heap.size + 1, 0, none⟩, 2, rfl, own_lit (w.alloc _) w.heap.size (w.heap.size + 1) 2 3 (List.map (fun z : Int => Value.int .i64 z) [a,b]).toArray [a,b] (by simp) rfl (by simp) rfl (by simp [maxLen]), ((Below.refl _ _).alloc (Nat.le_refl _) _).alloc (by simp) _⟩
set_option maxRecDepth 100000 in
theorem rAsks_13 (a b c n ex k1 k2 : Int) (w : World) : Calls Try.prog 62 #[.agg #[.int .i64 13, .int .i64 a, .int .i64 b, .int .i64 c, .int .i64 n, .int .i64 ex, .int .i64 k1, .int .i64 k2]] w (AskPost 13 a b c w) := by
  go_enter Try.func62, Try.ntmps62
  go_wp2_with fail
  go_ret
  unfold AskPost
  rw [show ([a, b, c] : List Int).take (Liv.asksN 13) = [a,b] from rfl]
  exact ⟨some ⟨w.heap.size + 1, 0, none⟩, 2, rfl, own_lit (w.alloc _) w.heap.size (w.heap.size + 1) 2 3 (List.map (fun z : Int => Value.int .i64 z) [a,b]).toArray [a,b] (by simp) rfl (by simp) rfl (by simp [maxLen]), ((Below.refl _ _).alloc (Nat.le_refl _) _).alloc (by simp) _⟩
set_option maxRecDepth 100000 in
theorem rAsks_17 (a b c n ex k1 k2 : Int) (w : World) : Calls Try.prog 62 #[.agg #[.int .i64 17, .int .i64 a, .int .i64 b, .int .i64 c, .int .i64 n, .int .i64 ex, .int .i64 k1, .int .i64 k2]] w (AskPost 17 a b c w) := by
  go_enter Try.func62, Try.ntmps62
  go_wp2_with fail
  go_ret
  unfold AskPost
  rw [show ([a, b, c] : List Int).take (Liv.asksN 17) = [a,b] from rfl]
  exact ⟨some ⟨w.heap.size + 1, 0, none⟩, 2, rfl, own_lit (w.alloc _) w.heap.size (w.heap.size + 1) 2 3 (List.map (fun z : Int => Value.int .i64 z) [a,b]).toArray [a,b] (by simp) rfl (by simp) rfl (by simp [maxLen]), ((Below.refl _ _).alloc (Nat.le_refl _) _).alloc (by simp) _⟩
set_option maxRecDepth 100000 in
theorem rAsks_14 (a b c n ex k1 k2 : Int) (w : World) : Calls Try.prog 62 #[.agg #[.int .i64 14, .int .i64 a, .int .i64 b, .int .i64 c, .int .i64 n, .int .i64 ex, .int .i64 k1, .int .i64 k2]] w (AskPost 14 a b c w) := by
  go_enter Try.func62, Try.ntmps62
  go_wp2_with fail
  go_ret
  unfold AskPost
  rw [show ([a, b, c] : List Int).take (Liv.asksN 14) = [a,b,c] from rfl]
  exact ⟨some ⟨w.heap.size + 1, 0, none⟩, 3, rfl, own_lit (w.alloc _) w.heap.size (w.heap.size + 1) 3 3 (List.map (fun z : Int => Value.int .i64 z) [a,b,c]).toArray [a,b,c] (by simp) rfl (by simp) rfl (by simp [maxLen]), ((Below.refl _ _).alloc (Nat.le_refl _) _).alloc (by simp) _⟩

set_option maxRecDepth 100000 in
theorem rAsks_any (x : TI) (w : World) : Calls Try.prog 62 #[.agg #[.int .i64 x.op, .int .i64 x.a, .int .i64 x.b, .int .i64 x.c, .int .i64 x.n, .int .i64 x.exit, .int .i64 x.k.1, .int .i64 x.k.2]] w (AskPost x.op x.a x.b x.c w) := by
  obtain ⟨op, a, b, c, n, ex, ⟨k1, k2⟩⟩ := x
  show Calls Try.prog 62 #[.agg #[.int .i64 op, .int .i64 a, .int .i64 b, .int .i64 c, .int .i64 n, .int .i64 ex, .int .i64 k1, .int .i64 k2]] w (AskPost op a b c w)
  by_cases h4 : op = 4
  · subst h4; exact rAsks_4 a b c n ex k1 k2 w
  by_cases h5 : op = 5
  · subst h5; exact rAsks_5 a b c n ex k1 k2 w
  by_cases h6 : op = 6
  · subst h6; exact rAsks_6 a b c n ex k1 k2 w
  by_cases h7 : op = 7
  · subst h7; exact rAsks_7 a b c n ex k1 k2 w
  by_cases h8 : op = 8
  · subst h8; exact rAsks_8 a b c n ex k1 k2 w
  by_cases h9 : op = 9
  · subst h9; exact rAsks_9 a b c n ex k1 k2 w
  by_cases h10 : op = 10
  · subst h10; exact rAsks_10 a b c n ex k1 k2 w
  by_cases h11 : op = 11
  · subst h11; exact rAsks_11 a b c n ex k1 k2 w
  by_cases h12 : op = 12
  · subst h12; exact rAsks_12 a b c n ex k1 k2 w
  by_cases h13 : op = 13
  · subst h13; exact rAsks_13 a b c n ex k1 k2 w
  by_cases h14 : op = 14
  · subst h14; exact rAsks_14 a b c n ex k1 k2 w
  by_cases h15 : op = 15
  · subst h15; exact rAsks_15 a b c n ex k1 k2 w
  by_cases h17 : op = 17
  · subst h17; exact rAsks_17 a b c n ex k1 k2 w
  have hA : Liv.asksN op = 0 := by unfold Liv.asksN; simp [h4, h5, h6, h7, h8, h9, h10, h11, h12, h13, h14, h15, h17]
  have HA := Lib.hid hA; clear hA
  have e4 : (op == 4) = false := by simp [h4]
  have e5 : (op == 5) = false := by simp [h5]
  have e6 : (op == 6) = false := by simp [h6]
  have e7 : (op == 7) = false := by simp [h7]
  have e8 : (op == 8) = false := by simp [h8]
  have e9 : (op == 9) = false := by simp [h9]
  have e10 : (op == 10) = false := by simp [h10]
  have e11 : (op == 11) = false := by simp [h11]
  have e12 : (op == 12) = false := by simp [h12]
  have e13 : (op == 13) = false := by simp [h13]
  have e14 : (op == 14) = false := by simp [h14]
  have e15 : (op == 15) = false := by simp [h15]
  have e17 : (op == 17) = false := by simp [h17]
  clear h4 h5 h6 h7 h8 h9 h10 h11 h12 h13 h14 h15 h17
  go_enter Try.func62, Try.ntmps62
  go_wp2_with fail
  go_ret
  exact ⟨none, 0, by rw [HA.out]; rfl, by rw [HA.out]; exact Own.nil_, (Below.refl _ _).alloc (Nat.le_refl _) _⟩

end Go.Proofs.Ytljdnadejmkaeaa
