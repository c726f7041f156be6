/- scan: the busy numbers; the least that is free. -/
import Derived.Test.YtljdnadejmkaeaaScan1
import Derived.Shelf.GgClosure.Gives
import Derived.Maps.OwnOps
import Derived.Test.YtljdnadejmkaeaaDel
import Derived.Test.YtljdnadejmkaeaaHeld
import Derived.Deep.DeepCutAuto
import Derived.Deep.LoopGhost
import Derived.Deep.DrawnRows
namespace Go.Proofs.Ytljdnadejmkaeaa
open Go.RowKit Go.Maps

attribute [local go_sem ↓] Go.wp_at_zero Go.wp_at_succ

theorem lawInt : Keyed Try.prog 3 := int_keyed Try.underlying3
theorem zeroUnit (w : World) : (zeroValue 182).run Try.prog w = .ok (.agg #[]) w := by kernel_rfl
theorem wf_i64_ {x : Int} (h : I64 x) : (Lit.int .i64 x).wf = true := by
  obtain ⟨h1, h2⟩ := h
  simp [Lit.wf, IntKind.min, IntKind.max, IntKind.signed, IntKind.bits]; omega
theorem Blk.cells3 {w : World} {g : Nat} {t : TypeId} {a0 a1 a2 : Value} (h : Blk w g t #[a0, a1, a2]) : w.cell? ⟨g, 0, none⟩ = some a0 ∧ w.cell? ⟨g, 1, none⟩ = some a1 ∧ w.cell? ⟨g, 2, none⟩ = some a2 := ⟨h.cell 0 rfl, h.cell 1 rfl, h.cell 2 rfl⟩
theorem Blk.cells2 {w : World} {g : Nat} {t : TypeId} {a0 a1 : Value} (h : Blk w g t #[a0, a1]) : w.cell? ⟨g, 0, none⟩ = some a0 ∧ w.cell? ⟨g, 1, none⟩ = some a1 := ⟨h.cell 0 rfl, h.cell 1 rfl⟩
def ints (l : List Nat) : List Int := l.map fun k : Nat => (k : Int)
theorem ints_get {l : List Nat} {k : Nat} {x : Int} (h : (ints l)[k]? = some x) : ∃ j : Nat, x = (j : Int) ∧ l[k]? = some j := by
  unfold ints at h
  rw [List.getElem?_map] at h
  cases hq : l[k]? with
  | none => rw [hq] at h; cases h
  | some j => rw [hq] at h; injection h with h; exact ⟨j, h.symm, rfl⟩
theorem ints_length (l : List Nat) : (ints l).length = l.length := by unfold ints; rw [List.length_map]
/-- an element of a list of pairs, by getD -/
theorem At.pairD {w : World} {B : Nat} {A : Option Addr} {l : List (Int × Int)} {k : Nat} (h : At w B A l) (hk : k < l.length) :
    ∃ b o, A = some ⟨b, o, none⟩ ∧ b < B ∧ I64 (l.getD k (0, 0)).1 ∧ I64 (l.getD k (0, 0)).2 ∧ w.cell? ⟨b, o + k * 2, none⟩ = some (.int .i64 (l.getD k (0, 0)).1) ∧ w.cell? ⟨b, o + k * 2 + 1, none⟩ = some (.int .i64 (l.getD k (0, 0)).2) := by
  obtain ⟨b, o, x, y, rfl, hb, hx, h1, h2, g0, g1⟩ := h.pair hk
  have : l.getD k (0, 0) = (x, y) := by rw [List.getD_eq_getElem?_getD, hx]; rfl
  rw [this]
  exact ⟨b, o, rfl, hb, h1, h2, g0, g1⟩

set_option maxHeartbeats 1600000 in
set_option maxRecDepth 100000 in
theorem busy_any (B GS lc ac oc g : Nat) (LA AT OA : Option Addr) (l at_ : List (Int × Int)) (order : List Nat) (n : Nat) (f : Int × Int → Int) (w : World)
    (hS : Blk w GS 136 #[.slice LA l.length lc, .slice AT at_.length ac, .slice OA order.length oc]) (hl : At w B LA l) (ha : At w B AT at_) (ho : At w B OA (ints order)) (hB : B ≤ w.heap.size)
    (hn : n < l.length) (hal : at_.length = l.length) (hord : ∀ k ∈ order, k < l.length) (hsz : l.length ≤ 100000) (hol : order.length ≤ 100000)
    (eg : ∀ args w, (callFunc g args).run Try.prog w = .ok (.enter g args) w) (hg : ∀ (a : Int × Int) (W : World), Calls Try.prog g #[.agg #[.int .i64 a.1, .int .i64 a.2]] W fun e W' => e = .returned (.int .i64 (f a)) ∧ Below W.heap.size W W')
    (hf : ∀ a : Int × Int, I64 a.1 → I64 a.2 → I64 (f a)) :
    Calls Try.prog 83 #[.pointer (some ⟨GS, 0, none⟩), .int .i64 n, .func (.func g) #[] #[]] w fun e w' => e = .returned (.map (some w.heap.size)) ∧ w'.ownsMap Try.prog 3 unitElem w.heap.size order.length (Scn.setI (Scn.busy l at_ f n order)) ∧ Below w.heap.size w w' := by
  have hmm := @run_makeMap Try.prog
  have H := Lib.hid (And.intro hS (And.intro hl (And.intro ha (And.intro ho (And.intro hord hf))))); clear hS hl ha ho hord hf
  have HG := Lib.hid hg; clear hg
  have hSl := H.out.1.lt
  obtain ⟨s0, s1, s2⟩ := H.out.1.cells3
  go_enter Try.func83, Try.ntmps83
  go_wp2_with fail
  go_loopg [9, 10, 17] (order.length) (fun gk kv pv iv wr => ∃ (k : Nat), k ≤ order.length ∧ gk = order.length - k ∧ iv = .int .i64 k ∧ wr.ownsMap Try.prog 3 unitElem w.heap.size k (Scn.setI (Scn.busy l at_ f n (order.take k))) ∧ Below w.heap.size w wr ∧ w.heap.size + 1 ≤ wr.heap.size)
  case atStart => exact ⟨0, Nat.zero_le _, rfl, rfl, World.ownsMap_made _ _ _ _, (Below.refl _ _).alloc (Nat.le_refl _) _, by simp⟩
  case round =>
    obtain ⟨k, hk, rfl, rfl, hown, hbl, hsr⟩ := hrel
    clear s0 s1 s2 hmm
    have hSr : Blk wr GS 136 #[.slice LA l.length lc, .slice AT at_.length ac, .slice OA order.length oc] := (hbl.block _ hSl).trans H.out.1
    have HO := Lib.hid hown; clear hown
    by_cases hlt : k < order.length
    · obtain ⟨bo, oo, xo, rfl, hbo, hxo, -, g0⟩ := (H.out.2.2.2.1.below (hbl.mono hB)).int_ (by rw [ints_length]; exact hlt)
      obtain ⟨j, rfl, hj⟩ := ints_get hxo
      have hjl := H.out.2.2.2.2.1 j (List.mem_of_getElem? hj)
      obtain ⟨ba, oa, rfl, hba, ia0, ia1, a0, a1⟩ := (H.out.2.2.1.below (hbl.mono hB)).pairD (by omega : j < at_.length)
      obtain ⟨bl, ol, rfl, hbl0, -, -, l0, l1⟩ := (H.out.2.1.below (hbl.mono hB)).pairD hjl
      have n0 := ((H.out.2.1.below (hbl.mono hB)).pairD hn)
      obtain ⟨bl', ol', he, -, -, -, n0, n1⟩ := n0
      injection he with he; injection he with he1 he2; subst he1 he2
      have hsn := Scn.busy_snoc (l := l) (at_ := at_) (f := f) (n := n) hj
      obtain ⟨x, hx⟩ : ∃ x, at_.getD j (0, 0) = x := ⟨_, rfl⟩
      obtain ⟨y, hy⟩ : ∃ y, l.getD j (0, 0) = y := ⟨_, rfl⟩
      obtain ⟨z, hz⟩ : ∃ z, l.getD n (0, 0) = z := ⟨_, rfl⟩
      rw [hx] at hsn a0 a1 ia0 ia1
      rw [hy] at l0 l1
      rw [hz] at n0 n1
      have hbs : Scn.isBusy l at_ f n j = (decide (j ≠ n) && decide (0 ≤ f x) && Scn.meet y z) := by unfold Scn.isBusy; rw [hx, hy, hz]
      obtain ⟨p, hp⟩ : ∃ p, f x = p := ⟨_, rfl⟩
      have hgx := HG.out x wr
      rw [hp] at hbs hsn hgx
      have hwf := wf_i64_ (H.out.2.2.2.2.2 x ia0 ia1)
      rw [hp] at hwf
      rw [hbs] at hsn
      have HGX := Lib.hid hgx; clear hgx
      have HSN := Lib.hid (And.intro hsn hwf); clear hsn hwf hbs hx hy hz hp hj hxo
      obtain ⟨s0, s1, s2⟩ := hSr.cells3
      have hj0 : (0 : Int) ≤ (j : Int) := by omega
      have hja : (j : Int) < (at_.length : Int) := by omega
      have hjl2 : (j : Int) < (l.length : Int) := by omega
      have hn0 : (0 : Int) ≤ (n : Int) := by omega
      have hn1 : (n : Int) < (l.length : Int) := by omega
      have HSr := Lib.hid hSr; clear hSr
      go_wp2_with (go_at_fn g; refine HGX.out.mono ?_; rintro e w1 ⟨rfl, hb1⟩)
      have hs1 := hb1.size
      have c0 : Below wr.heap.size wr w1 := hb1
      obtain ⟨bb, hbb⟩ : ∃ bb, (decide (j ≠ n) && decide (0 ≤ p) && Scn.meet y z) = bb := ⟨_, rfl⟩
      have HBB := Lib.hid hbb; clear hbb
      have q0 := (hb1.cell (p := ⟨bl, ol + j * 2, none⟩) (show bl < wr.heap.size by omega)).trans l0
      have q1 := (hb1.cell (p := ⟨bl, ol + j * 2 + 1, none⟩) (show bl < wr.heap.size by omega)).trans l1
      have q2 := (hb1.cell (p := ⟨bl, ol + n * 2, none⟩) (show bl < wr.heap.size by omega)).trans n0
      have q3 := (hb1.cell (p := ⟨bl, ol + n * 2 + 1, none⟩) (show bl < wr.heap.size by omega)).trans n1
      have HS1 := Lib.hid (HSr.out.fresh hb1)
      clear s0 s1 s2 a0 a1 l0 l1 n0 n1
      go_cut [53] (fun ov W2 => ov = .bool bb ∧ Below w1.heap.size w1 W2)
      case first =>
        by_cases hjn : j = n
        · have ht : bb = false := by rw [← HBB.out]; simp [hjn]
          have hne : ((j : Int) != (n : Int)) = false := by simp [hjn]
          subst ht
          clear hjn
          refine wp_region_held_drew (S := (fun _ => True)) (by kernel_rfl) ?_ (fun hHeld0 => ?_)
          · first | trivial | ((try dsimp only); (trivial))
          refine held_take (v := ?_) 0 rfl (by kernel_rfl) (by kernel_rfl) (by kernel_rfl) (fun _ _ _ h => h) (by rfl) ?_ (by assumption) ?_
          rotate_left
          · (intro w hSw; (try dsimp only at hSw); go_simp; try with_reducible rfl)
          try simp only [Act.put, List.setIfInBounds_toArray, List.set_cons_zero, List.set_cons_succ]
          refine held_take (v := ?_) 1 rfl (by kernel_rfl) (by kernel_rfl) (by kernel_rfl) (fun _ _ _ h => h) (by rfl) ?_ (by assumption) ?_
          rotate_left
          · (intro w hSw; (try dsimp only at hSw); go_simp; try with_reducible rfl)
          try simp only [Act.put, List.setIfInBounds_toArray, List.set_cons_zero, List.set_cons_succ]
          refine held_take (v := ?_) 2 rfl (by kernel_rfl) (by kernel_rfl) (by kernel_rfl) (fun _ _ _ h => h) (by rfl) ?_ (by assumption) ?_
          rotate_left
          · (intro w hSw; (try dsimp only at hSw); go_simp; try with_reducible rfl)
          try simp only [Act.put, List.setIfInBounds_toArray, List.set_cons_zero, List.set_cons_succ]
          refine held_take (v := ?_) 3 rfl (by kernel_rfl) (by kernel_rfl) (by kernel_rfl) (fun _ _ _ h => h) (by rfl) ?_ (by assumption) ?_
          rotate_left
          · (intro w hSw; (try dsimp only at hSw); go_simp; try with_reducible rfl)
          try simp only [Act.put, List.setIfInBounds_toArray, List.set_cons_zero, List.set_cons_succ]
          refine held_skip 4 rfl (by kernel_rfl) (by kernel_rfl) (by kernel_rfl) (fun _ _ _ h => h) (by rfl) (by assumption) ?_
          try simp only [Act.put, List.setIfInBounds_toArray, List.set_cons_zero, List.set_cons_succ]
          refine held_skip 5 rfl (by kernel_rfl) (by kernel_rfl) (by kernel_rfl) (fun _ _ _ h => h) (by rfl) (by assumption) ?_
          try simp only [Act.put, List.setIfInBounds_toArray, List.set_cons_zero, List.set_cons_succ]
          refine held_take (v := ?_) 6 rfl (by kernel_rfl) (by kernel_rfl) (by kernel_rfl) (fun _ _ _ h => h) (by rfl) ?_ (by assumption) ?_
          rotate_left
          · (intro w hSw; (try dsimp only at hSw); go_simp; try with_reducible rfl)
          try simp only [Act.put, List.setIfInBounds_toArray, List.set_cons_zero, List.set_cons_succ]
          refine held_take (v := ?_) 7 rfl (by kernel_rfl) (by kernel_rfl) (by kernel_rfl) (fun _ _ _ h => h) (by rfl) ?_ (by assumption) ?_
          rotate_left
          · (intro w hSw; (try dsimp only at hSw); go_simp; try with_reducible rfl)
          try simp only [Act.put, List.setIfInBounds_toArray, List.set_cons_zero, List.set_cons_succ]
          refine held_skip 8 rfl (by kernel_rfl) (by kernel_rfl) (by kernel_rfl) (fun _ _ _ h => h) (by rfl) (by assumption) ?_
          try simp only [Act.put, List.setIfInBounds_toArray, List.set_cons_zero, List.set_cons_succ]
          refine held_skip 9 rfl (by kernel_rfl) (by kernel_rfl) (by kernel_rfl) (fun _ _ _ h => h) (by rfl) (by assumption) ?_
          try simp only [Act.put, List.setIfInBounds_toArray, List.set_cons_zero, List.set_cons_succ]
          refine held_skip 10 rfl (by kernel_rfl) (by kernel_rfl) (by kernel_rfl) (fun _ _ _ h => h) (by rfl) (by assumption) ?_
          try simp only [Act.put, List.setIfInBounds_toArray, List.set_cons_zero, List.set_cons_succ]
          refine held_skip 11 rfl (by kernel_rfl) (by kernel_rfl) (by kernel_rfl) (fun _ _ _ h => h) (by rfl) (by assumption) ?_
          try simp only [Act.put, List.setIfInBounds_toArray, List.set_cons_zero, List.set_cons_succ]
          refine held_skip 12 rfl (by kernel_rfl) (by kernel_rfl) (by kernel_rfl) (fun _ _ _ h => h) (by rfl) (by assumption) ?_
          try simp only [Act.put, List.setIfInBounds_toArray, List.set_cons_zero, List.set_cons_succ]
          refine held_skip 13 rfl (by kernel_rfl) (by kernel_rfl) (by kernel_rfl) (fun _ _ _ h => h) (by rfl) (by assumption) ?_
          try simp only [Act.put, List.setIfInBounds_toArray, List.set_cons_zero, List.set_cons_succ]
          refine held_skip 14 rfl (by kernel_rfl) (by kernel_rfl) (by kernel_rfl) (fun _ _ _ h => h) (by rfl) (by assumption) ?_
          try simp only [Act.put, List.setIfInBounds_toArray, List.set_cons_zero, List.set_cons_succ]
          refine held_skip 15 rfl (by kernel_rfl) (by kernel_rfl) (by kernel_rfl) (fun _ _ _ h => h) (by rfl) (by assumption) ?_
          try simp only [Act.put, List.setIfInBounds_toArray, List.set_cons_zero, List.set_cons_succ]
          refine held_skip 16 rfl (by kernel_rfl) (by kernel_rfl) (by kernel_rfl) (fun _ _ _ h => h) (by rfl) (by assumption) ?_
          try simp only [Act.put, List.setIfInBounds_toArray, List.set_cons_zero, List.set_cons_succ]
          refine held_skip 17 rfl (by kernel_rfl) (by kernel_rfl) (by kernel_rfl) (fun _ _ _ h => h) (by rfl) (by assumption) ?_
          try simp only [Act.put, List.setIfInBounds_toArray, List.set_cons_zero, List.set_cons_succ]
          refine held_skip 18 rfl (by kernel_rfl) (by kernel_rfl) (by kernel_rfl) (fun _ _ _ h => h) (by rfl) (by assumption) ?_
          try simp only [Act.put, List.setIfInBounds_toArray, List.set_cons_zero, List.set_cons_succ]
          refine held_skip 19 rfl (by kernel_rfl) (by kernel_rfl) (by kernel_rfl) (fun _ _ _ h => h) (by rfl) (by assumption) ?_
          try simp only [Act.put, List.setIfInBounds_toArray, List.set_cons_zero, List.set_cons_succ]
          refine held_skip 20 rfl (by kernel_rfl) (by kernel_rfl) (by kernel_rfl) (fun _ _ _ h => h) (by rfl) (by assumption) ?_
          try simp only [Act.put, List.setIfInBounds_toArray, List.set_cons_zero, List.set_cons_succ]
          refine held_skip 21 rfl (by kernel_rfl) (by kernel_rfl) (by kernel_rfl) (fun _ _ _ h => h) (by rfl) (by assumption) ?_
          try simp only [Act.put, List.setIfInBounds_toArray, List.set_cons_zero, List.set_cons_succ]
          refine held_skip 22 rfl (by kernel_rfl) (by kernel_rfl) (by kernel_rfl) (fun _ _ _ h => h) (by rfl) (by assumption) ?_
          try simp only [Act.put, List.setIfInBounds_toArray, List.set_cons_zero, List.set_cons_succ]
          refine held_take (v := ?_) 23 rfl (by kernel_rfl) (by kernel_rfl) (by kernel_rfl) (fun _ _ _ h => h) (by rfl) ?_ (by assumption) ?_
          rotate_left
          · (intro w hSw; (try dsimp only at hSw); go_simp; try with_reducible rfl)
          try simp only [Act.put, List.setIfInBounds_toArray, List.set_cons_zero, List.set_cons_succ]
          refine wpAnyH_done (by kernel_rfl) ?_ _
          go_wp2_with fail
          go_meet
          exact ⟨rfl, (Below.refl _ _).drew⟩
        · have hne : ((j : Int) != (n : Int)) = true := by simp; omega
          by_cases hp0 : 0 ≤ p
          · have ht : bb = Scn.meet y z := by rw [← HBB.out]; simp [hjn, hp0]
            have HT := Lib.hid ht; clear ht hjn
            refine wp_region_held_drew (S := (fun w' => w'.cell? ⟨GS, 0, none⟩ = some (.slice (some ⟨bl, ol, none⟩) l.length lc) ∧ w'.cell? ⟨bl, ol + j * 2, none⟩ = some (.int .i64 y.1) ∧ w'.cell? ⟨bl, ol + j * 2 + 1, none⟩ = some (.int .i64 y.2) ∧ w'.cell? ⟨bl, ol + n * 2, none⟩ = some (.int .i64 z.1) ∧ w'.cell? ⟨bl, ol + n * 2 + 1, none⟩ = some (.int .i64 z.2))) (by kernel_rfl) ?_ (fun hHeld0 => ?_)
            · first | trivial | ((try dsimp only); (exact ⟨HS1.out.cell 0 rfl, q0, q1, q2, q3⟩))
            refine held_take (v := ?_) 0 rfl (by kernel_rfl) (by kernel_rfl) (by kernel_rfl) (fun _ _ _ h => h) (by rfl) ?_ (by assumption) ?_
            rotate_left
            · (intro w hSw; (try dsimp only at hSw); go_simp; try with_reducible rfl)
            try simp only [Act.put, List.setIfInBounds_toArray, List.set_cons_zero, List.set_cons_succ]
            refine held_take (v := ?_) 1 rfl (by kernel_rfl) (by kernel_rfl) (by kernel_rfl) (fun _ _ _ h => h) (by rfl) ?_ (by assumption) ?_
            rotate_left
            · (intro w hSw; (try dsimp only at hSw); go_simp; try with_reducible rfl)
            try simp only [Act.put, List.setIfInBounds_toArray, List.set_cons_zero, List.set_cons_succ]
            refine held_take (v := ?_) 2 rfl (by kernel_rfl) (by kernel_rfl) (by kernel_rfl) (fun _ _ _ h => h) (by rfl) ?_ (by assumption) ?_
            rotate_left
            · (intro w hSw; (try dsimp only at hSw); go_simp; try with_reducible rfl)
            try simp only [Act.put, List.setIfInBounds_toArray, List.set_cons_zero, List.set_cons_succ]
            refine held_take (v := ?_) 3 rfl (by kernel_rfl) (by kernel_rfl) (by kernel_rfl) (fun _ _ _ h => h) (by rfl) ?_ (by assumption) ?_
            rotate_left
            · (intro w hSw; (try dsimp only at hSw); go_simp; try with_reducible rfl)
            try simp only [Act.put, List.setIfInBounds_toArray, List.set_cons_zero, List.set_cons_succ]
            refine held_take (v := ?_) 4 rfl (by kernel_rfl) (by kernel_rfl) (by kernel_rfl) (fun _ _ _ h => h) (by rfl) ?_ (by assumption) ?_
            rotate_left
            · (intro w hSw; (try dsimp only at hSw); go_simp; try with_reducible rfl)
            try simp only [Act.put, List.setIfInBounds_toArray, List.set_cons_zero, List.set_cons_succ]
            refine held_take (v := ?_) 5 rfl (by kernel_rfl) (by kernel_rfl) (by kernel_rfl) (fun _ _ _ h => h) (by rfl) ?_ (by assumption) ?_
            rotate_left
            · (intro w hSw; (try dsimp only at hSw); go_simp; try with_reducible rfl)
            try simp only [Act.put, List.setIfInBounds_toArray, List.set_cons_zero, List.set_cons_succ]
            refine held_take (v := ?_) 6 rfl (by kernel_rfl) (by kernel_rfl) (by kernel_rfl) (fun _ _ _ h => h) (by rfl) ?_ (by assumption) ?_
            rotate_left
            · (intro w hSw; (try dsimp only at hSw); go_simp; try with_reducible rfl)
            try simp only [Act.put, List.setIfInBounds_toArray, List.set_cons_zero, List.set_cons_succ]
            refine held_take (v := ?_) 7 rfl (by kernel_rfl) (by kernel_rfl) (by kernel_rfl) (fun _ _ _ h => h) (by rfl) ?_ (by assumption) ?_
            rotate_left
            · (intro w hSw; (try dsimp only at hSw); go_simp; try with_reducible rfl)
            try simp only [Act.put, List.setIfInBounds_toArray, List.set_cons_zero, List.set_cons_succ]
            refine held_take (v := ?_) 8 rfl (by kernel_rfl) (by kernel_rfl) (by kernel_rfl) (fun _ _ _ h => h) (by rfl) ?_ (by assumption) ?_
            rotate_left
            · (intro w hSw; (try dsimp only at hSw); go_simp; try with_reducible rfl)
            try simp only [Act.put, List.setIfInBounds_toArray, List.set_cons_zero, List.set_cons_succ]
            refine held_take (v := ?_) 9 rfl (by kernel_rfl) (by kernel_rfl) (by kernel_rfl) (fun _ _ _ h => h) (by rfl) ?_ (by assumption) ?_
            rotate_left
            · (intro w hSw; (try dsimp only at hSw); go_simp; try with_reducible rfl)
            try simp only [Act.put, List.setIfInBounds_toArray, List.set_cons_zero, List.set_cons_succ]
            refine held_take (v := ?_) 10 rfl (by kernel_rfl) (by kernel_rfl) (by kernel_rfl) (fun _ _ _ h => h) (by rfl) ?_ (by assumption) ?_
            rotate_left
            · (intro w hSw; (try dsimp only at hSw); go_simp; try with_reducible rfl)
            try simp only [Act.put, List.setIfInBounds_toArray, List.set_cons_zero, List.set_cons_succ]
            refine held_take (v := ?_) 11 rfl (by kernel_rfl) (by kernel_rfl) (by kernel_rfl) (fun _ _ _ h => h) (by rfl) ?_ (by assumption) ?_
            rotate_left
            · (intro w hSw; (try dsimp only at hSw); go_simp; try with_reducible rfl)
            try simp only [Act.put, List.setIfInBounds_toArray, List.set_cons_zero, List.set_cons_succ]
            refine held_take (v := ?_) 12 rfl (by kernel_rfl) (by kernel_rfl) (by kernel_rfl) (fun _ _ _ h => h) (by rfl) ?_ (by assumption) ?_
            rotate_left
            · (intro w hSw; (try dsimp only at hSw); go_simp; try with_reducible rfl)
            try simp only [Act.put, List.setIfInBounds_toArray, List.set_cons_zero, List.set_cons_succ]
            refine held_take (v := ?_) 13 rfl (by kernel_rfl) (by kernel_rfl) (by kernel_rfl) (fun _ _ _ h => h) (by rfl) ?_ (by assumption) ?_
            rotate_left
            · (intro w hSw; (try dsimp only at hSw); go_simp; try with_reducible rfl)
            try simp only [Act.put, List.setIfInBounds_toArray, List.set_cons_zero, List.set_cons_succ]
            refine held_take (v := ?_) 14 rfl (by kernel_rfl) (by kernel_rfl) (by kernel_rfl) (fun _ _ _ h => h) (by rfl) ?_ (by assumption) ?_
            rotate_left
            · (intro w hSw; (try dsimp only at hSw); go_simp; try with_reducible rfl)
            try simp only [Act.put, List.setIfInBounds_toArray, List.set_cons_zero, List.set_cons_succ]
            refine held_take (v := ?_) 15 rfl (by kernel_rfl) (by kernel_rfl) (by kernel_rfl) (fun _ _ _ h => h) (by rfl) ?_ (by assumption) ?_
            rotate_left
            · (intro w hSw; (try dsimp only at hSw); go_simp; try with_reducible rfl)
            try simp only [Act.put, List.setIfInBounds_toArray, List.set_cons_zero, List.set_cons_succ]
            refine held_take (v := ?_) 16 rfl (by kernel_rfl) (by kernel_rfl) (by kernel_rfl) (fun _ _ _ h => h) (by rfl) ?_ (by assumption) ?_
            rotate_left
            · (intro w hSw; (try dsimp only at hSw); go_simp; try with_reducible rfl)
            try simp only [Act.put, List.setIfInBounds_toArray, List.set_cons_zero, List.set_cons_succ]
            refine held_take (v := ?_) 17 rfl (by kernel_rfl) (by kernel_rfl) (by kernel_rfl) (fun _ _ _ h => h) (by rfl) ?_ (by assumption) ?_
            rotate_left
            · (intro w hSw; (try dsimp only at hSw); go_simp; try with_reducible rfl)
            try simp only [Act.put, List.setIfInBounds_toArray, List.set_cons_zero, List.set_cons_succ]
            refine held_take (v := ?_) 18 rfl (by kernel_rfl) (by kernel_rfl) (by kernel_rfl) (fun _ _ _ h => h) (by rfl) ?_ (by assumption) ?_
            rotate_left
            · (intro w hSw; (try dsimp only at hSw); go_simp; try with_reducible rfl)
            try simp only [Act.put, List.setIfInBounds_toArray, List.set_cons_zero, List.set_cons_succ]
            refine held_take (v := ?_) 19 rfl (by kernel_rfl) (by kernel_rfl) (by kernel_rfl) (fun _ _ _ h => h) (by rfl) ?_ (by assumption) ?_
            rotate_left
            · (intro w hSw; (try dsimp only at hSw); go_simp; try with_reducible rfl)
            try simp only [Act.put, List.setIfInBounds_toArray, List.set_cons_zero, List.set_cons_succ]
            refine held_take (v := ?_) 20 rfl (by kernel_rfl) (by kernel_rfl) (by kernel_rfl) (fun _ _ _ h => h) (by rfl) ?_ (by assumption) ?_
            rotate_left
            · (intro w hSw; (try dsimp only at hSw); go_simp; try with_reducible rfl)
            try simp only [Act.put, List.setIfInBounds_toArray, List.set_cons_zero, List.set_cons_succ]
            refine held_take (v := ?_) 21 rfl (by kernel_rfl) (by kernel_rfl) (by kernel_rfl) (fun _ _ _ h => h) (by rfl) ?_ (by assumption) ?_
            rotate_left
            · (intro w hSw; (try dsimp only at hSw); go_simp; try with_reducible rfl)
            try simp only [Act.put, List.setIfInBounds_toArray, List.set_cons_zero, List.set_cons_succ]
            refine held_call 22 (by kernel_rfl) rfl (fun K hK => ?_)
            go_simp
            go_at_call 86; refine (smeet_any y z _).mono ?_; rintro e w2 ⟨rfl, hb2d⟩; have hb2 : Below w1.heap.size w1 w2 := undrew hb2d; clear hb2d
            try (go_wp2_with fail)
            refine hK.out _ _ ?_ (fun hHeld1 => ?_)
            · first | trivial | ((try dsimp only); (exact ⟨(HS1.out.fresh hb2).cell 0 rfl, (hb2.cell (p := ⟨bl, ol + j * 2, none⟩) (show bl < w1.heap.size by omega)).trans q0, (hb2.cell (p := ⟨bl, ol + j * 2 + 1, none⟩) (show bl < w1.heap.size by omega)).trans q1, (hb2.cell (p := ⟨bl, ol + n * 2, none⟩) (show bl < w1.heap.size by omega)).trans q2, (hb2.cell (p := ⟨bl, ol + n * 2 + 1, none⟩) (show bl < w1.heap.size by omega)).trans q3⟩))
            clear hK K hHeld0
            try simp only [Act.put, List.setIfInBounds_toArray, List.set_cons_zero, List.set_cons_succ]
            refine held_take (v := ?_) 23 rfl (by kernel_rfl) (by kernel_rfl) (by kernel_rfl) (fun _ _ _ h => h) (by rfl) ?_ (by assumption) ?_
            rotate_left
            · (intro w hSw; (try dsimp only at hSw); go_simp; try with_reducible rfl)
            try simp only [Act.put, List.setIfInBounds_toArray, List.set_cons_zero, List.set_cons_succ]
            refine wpAnyH_done (by kernel_rfl) ?_ _
            go_wp2_with fail
            go_meet
            exact ⟨by rw [HT.out], hb2⟩
          · have ht : bb = false := by rw [← HBB.out]; simp [hp0]
            have hp0' : decide (0 ≤ p) = false := by simpa using hp0
            subst ht
            clear hp0 hjn
            refine wp_region_held_drew (S := (fun _ => True)) (by kernel_rfl) ?_ (fun hHeld0 => ?_)
            · first | trivial | ((try dsimp only); (trivial))
            refine held_take (v := ?_) 0 rfl (by kernel_rfl) (by kernel_rfl) (by kernel_rfl) (fun _ _ _ h => h) (by rfl) ?_ (by assumption) ?_
            rotate_left
            · (intro w hSw; (try dsimp only at hSw); go_simp; try with_reducible rfl)
            try simp only [Act.put, List.setIfInBounds_toArray, List.set_cons_zero, List.set_cons_succ]
            refine held_take (v := ?_) 1 rfl (by kernel_rfl) (by kernel_rfl) (by kernel_rfl) (fun _ _ _ h => h) (by rfl) ?_ (by assumption) ?_
            rotate_left
            · (intro w hSw; (try dsimp only at hSw); go_simp; try with_reducible rfl)
            try simp only [Act.put, List.setIfInBounds_toArray, List.set_cons_zero, List.set_cons_succ]
            refine held_take (v := ?_) 2 rfl (by kernel_rfl) (by kernel_rfl) (by kernel_rfl) (fun _ _ _ h => h) (by rfl) ?_ (by assumption) ?_
            rotate_left
            · (intro w hSw; (try dsimp only at hSw); go_simp; try with_reducible rfl)
            try simp only [Act.put, List.setIfInBounds_toArray, List.set_cons_zero, List.set_cons_succ]
            refine held_take (v := ?_) 3 rfl (by kernel_rfl) (by kernel_rfl) (by kernel_rfl) (fun _ _ _ h => h) (by rfl) ?_ (by assumption) ?_
            rotate_left
            · (intro w hSw; (try dsimp only at hSw); go_simp; try with_reducible rfl)
            try simp only [Act.put, List.setIfInBounds_toArray, List.set_cons_zero, List.set_cons_succ]
            refine held_take (v := ?_) 4 rfl (by kernel_rfl) (by kernel_rfl) (by kernel_rfl) (fun _ _ _ h => h) (by rfl) ?_ (by assumption) ?_
            rotate_left
            · (intro w hSw; (try dsimp only at hSw); go_simp; try with_reducible rfl)
            try simp only [Act.put, List.setIfInBounds_toArray, List.set_cons_zero, List.set_cons_succ]
            refine held_take (v := ?_) 5 rfl (by kernel_rfl) (by kernel_rfl) (by kernel_rfl) (fun _ _ _ h => h) (by rfl) ?_ (by assumption) ?_
            rotate_left
            · (intro w hSw; (try dsimp only at hSw); go_simp; try with_reducible rfl)
            try simp only [Act.put, List.setIfInBounds_toArray, List.set_cons_zero, List.set_cons_succ]
            refine held_take (v := ?_) 6 rfl (by kernel_rfl) (by kernel_rfl) (by kernel_rfl) (fun _ _ _ h => h) (by rfl) ?_ (by assumption) ?_
            rotate_left
            · (intro w hSw; (try dsimp only at hSw); go_simp; try with_reducible rfl)
            try simp only [Act.put, List.setIfInBounds_toArray, List.set_cons_zero, List.set_cons_succ]
            refine held_take (v := ?_) 7 rfl (by kernel_rfl) (by kernel_rfl) (by kernel_rfl) (fun _ _ _ h => h) (by rfl) ?_ (by assumption) ?_
            rotate_left
            · (intro w hSw; (try dsimp only at hSw); go_simp; try with_reducible rfl)
            try simp only [Act.put, List.setIfInBounds_toArray, List.set_cons_zero, List.set_cons_succ]
            refine held_skip 8 rfl (by kernel_rfl) (by kernel_rfl) (by kernel_rfl) (fun _ _ _ h => h) (by rfl) (by assumption) ?_
            try simp only [Act.put, List.setIfInBounds_toArray, List.set_cons_zero, List.set_cons_succ]
            refine held_skip 9 rfl (by kernel_rfl) (by kernel_rfl) (by kernel_rfl) (fun _ _ _ h => h) (by rfl) (by assumption) ?_
            try simp only [Act.put, List.setIfInBounds_toArray, List.set_cons_zero, List.set_cons_succ]
            refine held_skip 10 rfl (by kernel_rfl) (by kernel_rfl) (by kernel_rfl) (fun _ _ _ h => h) (by rfl) (by assumption) ?_
            try simp only [Act.put, List.setIfInBounds_toArray, List.set_cons_zero, List.set_cons_succ]
            refine held_skip 11 rfl (by kernel_rfl) (by kernel_rfl) (by kernel_rfl) (fun _ _ _ h => h) (by rfl) (by assumption) ?_
            try simp only [Act.put, List.setIfInBounds_toArray, List.set_cons_zero, List.set_cons_succ]
            refine held_skip 12 rfl (by kernel_rfl) (by kernel_rfl) (by kernel_rfl) (fun _ _ _ h => h) (by rfl) (by assumption) ?_
            try simp only [Act.put, List.setIfInBounds_toArray, List.set_cons_zero, List.set_cons_succ]
            refine held_skip 13 rfl (by kernel_rfl) (by kernel_rfl) (by kernel_rfl) (fun _ _ _ h => h) (by rfl) (by assumption) ?_
            try simp only [Act.put, List.setIfInBounds_toArray, List.set_cons_zero, List.set_cons_succ]
            refine held_skip 14 rfl (by kernel_rfl) (by kernel_rfl) (by kernel_rfl) (fun _ _ _ h => h) (by rfl) (by assumption) ?_
            try simp only [Act.put, List.setIfInBounds_toArray, List.set_cons_zero, List.set_cons_succ]
            refine held_skip 15 rfl (by kernel_rfl) (by kernel_rfl) (by kernel_rfl) (fun _ _ _ h => h) (by rfl) (by assumption) ?_
            try simp only [Act.put, List.setIfInBounds_toArray, List.set_cons_zero, List.set_cons_succ]
            refine held_skip 16 rfl (by kernel_rfl) (by kernel_rfl) (by kernel_rfl) (fun _ _ _ h => h) (by rfl) (by assumption) ?_
            try simp only [Act.put, List.setIfInBounds_toArray, List.set_cons_zero, List.set_cons_succ]
            refine held_skip 17 rfl (by kernel_rfl) (by kernel_rfl) (by kernel_rfl) (fun _ _ _ h => h) (by rfl) (by assumption) ?_
            try simp only [Act.put, List.setIfInBounds_toArray, List.set_cons_zero, List.set_cons_succ]
            refine held_skip 18 rfl (by kernel_rfl) (by kernel_rfl) (by kernel_rfl) (fun _ _ _ h => h) (by rfl) (by assumption) ?_
            try simp only [Act.put, List.setIfInBounds_toArray, List.set_cons_zero, List.set_cons_succ]
            refine held_skip 19 rfl (by kernel_rfl) (by kernel_rfl) (by kernel_rfl) (fun _ _ _ h => h) (by rfl) (by assumption) ?_
            try simp only [Act.put, List.setIfInBounds_toArray, List.set_cons_zero, List.set_cons_succ]
            refine held_skip 20 rfl (by kernel_rfl) (by kernel_rfl) (by kernel_rfl) (fun _ _ _ h => h) (by rfl) (by assumption) ?_
            try simp only [Act.put, List.setIfInBounds_toArray, List.set_cons_zero, List.set_cons_succ]
            refine held_skip 21 rfl (by kernel_rfl) (by kernel_rfl) (by kernel_rfl) (fun _ _ _ h => h) (by rfl) (by assumption) ?_
            try simp only [Act.put, List.setIfInBounds_toArray, List.set_cons_zero, List.set_cons_succ]
            refine held_skip 22 rfl (by kernel_rfl) (by kernel_rfl) (by kernel_rfl) (fun _ _ _ h => h) (by rfl) (by assumption) ?_
            try simp only [Act.put, List.setIfInBounds_toArray, List.set_cons_zero, List.set_cons_succ]
            refine held_take (v := ?_) 23 rfl (by kernel_rfl) (by kernel_rfl) (by kernel_rfl) (fun _ _ _ h => h) (by rfl) ?_ (by assumption) ?_
            rotate_left
            · (intro w hSw; (try dsimp only at hSw); go_simp; try with_reducible rfl)
            try simp only [Act.put, List.setIfInBounds_toArray, List.set_cons_zero, List.set_cons_succ]
            refine wpAnyH_done (by kernel_rfl) ?_ _
            go_wp2_with fail
            go_meet
            exact ⟨rfl, (Below.refl _ _).drew⟩
      case rest =>
        obtain ⟨rfl, hbc⟩ := hcut
        rename World => wc
        have hsc := hbc.size
        have hbwc : Below w.heap.size w wc := (hbl.trans (hb1.mono (by omega))).trans (hbc.mono (by omega))
        have hoc := (HO.out.kept (grownBy_below none hb1) (by simp)).kept (grownBy_below none hbc) (by simp)
        have hsn := HSN.out.1
        rw [HBB.out] at hsn
        cases bb with
        | false =>
          rw [if_neg (by decide), List.append_nil] at hsn
          have HW := Lib.hid (And.intro hoc hsn); clear hoc hsn
          go_wp2_with fail
          go_roundg (order.length - (k + 1))
          case measure => omega
          case rel => exact ⟨k + 1, by omega, rfl, by go_num, by rw [HW.out.2]; exact HW.out.1.mono (Nat.le_succ _), hbwc, by omega⟩
        | true =>
          rw [if_pos rfl] at hsn
          have HW := Lib.hid (And.intro hoc hsn); clear hoc hsn
          have hkey : keyOf Try.prog 3 (.int .i64 p) = some (.int .i64 p) := keyOf_int_mk Try.underlying3 HSN.out.2
          have HKEY := Lib.hid hkey; clear hkey
          go_wp2_with (first | (at_mapUpdate; refine wpList_mapUpdate_own _ rfl _ _ _ 141 rfl 3 182 lawInt Try.underlying141 (unitElem (H := Unit)) w.heap.size k _ rfl HW.out.1 (by unfold maxLen; omega) _ _ _ rfl rfl HKEY.out _ [] unitElem_mk ?_; intro w3 hown3 hgrow3) | fail)
          have hs3 := hgrow3.size
          go_roundg (order.length - (k + 1))
          case measure => omega
          case rel => exact ⟨k + 1, by omega, rfl, by go_num, by rw [HW.out.2, Scn.setI_snoc]; exact hown3, hbwc.grown hgrow3 (by omega) (fun j hj => by cases hj; exact Nat.le_refl _), by omega⟩
    · obtain rfl : k = order.length := by omega
      have ho' := HO.out
      rw [List.take_length] at ho'
      have HK := Lib.hid ho'; clear ho' hSr
      go_wp2_with fail
      go_ret
      exact ⟨rfl, HK.out, hbl⟩

set_option maxHeartbeats 800000 in
set_option maxRecDepth 100000 in
theorem least_any (M N m : Nat) (b : List Int) (w : World) (hown : w.ownsMap Try.prog 3 unitElem M N (Scn.setI b)) (hm : b.contains (m : Int) = false) (hlt : ∀ j, j < m → b.contains (j : Int) = true) (hm6 : m ≤ 100000) :
    Calls Try.prog 82 #[.map (some M)] w fun e w' => e = .returned (.int .i64 m) ∧ Below w.heap.size w w' := by
  have H := Lib.hid (And.intro hown (And.intro hm hlt)); clear hown hm hlt
  go_enter Try.func82, Try.ntmps82
  go_wp2_with fail
  go_loopg [3, 4, 5] (m + 1) (fun gk nv bv iv wr => ∃ (k : Nat), k ≤ m ∧ gk = m + 1 - k ∧ nv = .int .i64 k ∧ Below w.heap.size w wr)
  case atStart => exact ⟨0, Nat.zero_le _, rfl, rfl, Below.refl _ _⟩
  case round =>
    obtain ⟨k, hk, rfl, rfl, hbl⟩ := hrel
    have hsz := hbl.size
    have ho := H.out.1.kept (grownBy_below none hbl) (by simp)
    have hkey : keyOf Try.prog 3 (.int .i64 (k : Int)) = some (.int .i64 (k : Int)) := keyOf_int_mk Try.underlying3 (wf_i64_ ⟨by omega, by omega⟩)
    have HW := Lib.hid (And.intro ho hkey); clear ho hkey
    by_cases hkm : k = m
    · subst hkm
      have hh : Maps.has (Scn.setI b) (.int .i64 (k : Int)) = false := by rw [Scn.has_setI]; exact H.out.2.1
      go_wp2_with (first | (at_lookup; refine wpList_lookup_own_unit _ rfl _ _ 141 rfl 3 182 lawInt Try.underlying141 (zeroUnit _) M N _ rfl HW.out.1 _ _ rfl HW.out.2 ?_) | fail)
      go_ret
      exact ⟨rfl, hbl.alloc (by omega) _⟩
    · have hh : Maps.has (Scn.setI b) (.int .i64 (k : Int)) = true := by rw [Scn.has_setI]; exact H.out.2.2 k (by omega)
      go_wp2_with (first | (at_lookup; refine wpList_lookup_own_unit _ rfl _ _ 141 rfl 3 182 lawInt Try.underlying141 (zeroUnit _) M N _ rfl HW.out.1 _ _ rfl HW.out.2 ?_) | fail)
      go_roundg (m + 1 - (k + 1))
      case measure => omega
      case rel => exact ⟨k + 1, by omega, rfl, by go_num, hbl.alloc (by omega) _⟩

end Go.Proofs.Ytljdnadejmkaeaa
