/-
  Rows of the call's own, as lists of plain data; append, a store into a row, what stays over later steps.
-/
import Derived.Test.YtpkccpegdpodoaaBase
namespace Go.Proofs.Ytpkccpegdpodoaa
open Go.RowKit

instance : Flat (Int × Int) where
  cells p := [.int .i64 p.1, .int .i64 p.2]
  sz := 2
  len _ := rfl
  ok p := I64 p.1 ∧ I64 p.2
instance : Flat (Int × Int × Int) where
  cells p := [.int .i64 p.1, .int .i64 p.2.1, .int .i64 p.2.2]
  sz := 3
  len _ := rfl
  ok p := I64 p.1 ∧ I64 p.2.1 ∧ I64 p.2.2
/-- a word of 64 bits -/
structure U64 where
  val : Int
instance : Flat U64 where
  cells p := [.int .u64 p.val]
  sz := 1
  len _ := rfl
  ok p := 0 ≤ p.val ∧ p.val ≤ 18446744073709551615

/-- the cells of a list of plain data, one behind the other -/
def flat {α : Type} [Flat α] (l : List α) : List Value := l.flatMap Flat.cells

section
variable {α : Type} [Flat α]
theorem flat_nil : flat ([] : List α) = [] := rfl
theorem flat_cons (x : α) (l : List α) : flat (x :: l) = Flat.cells x ++ flat l := by simp [flat]
theorem flat_append (l r : List α) : flat (l ++ r) = flat l ++ flat r := by simp [flat]
theorem flat_one (x : α) : flat [x] = Flat.cells x := by simp [flat]
theorem flat_length (l : List α) : (flat l).length = l.length * Flat.sz α := by
  induction l with
  | nil => simp [flat]
  | cons x l ih => rw [flat_cons, List.length_append, ih, Flat.len, List.length_cons, Nat.succ_mul]; omega
theorem flat_get (l : List α) (i j : Nat) (x : α) (hx : l[i]? = some x) (hj : j < Flat.sz α) : (flat l)[i * Flat.sz α + j]? = (Flat.cells x)[j]? := by
  induction l generalizing i with
  | nil => simp at hx
  | cons y l ih =>
    rw [flat_cons]
    cases i with
    | zero =>
      simp only [List.getElem?_cons_zero, Option.some.injEq] at hx
      subst hx
      rw [Nat.zero_mul, Nat.zero_add, List.getElem?_append_left (by rw [Flat.len]; exact hj)]
    | succ i =>
      simp only [List.getElem?_cons_succ] at hx
      rw [List.getElem?_append_right (by rw [Flat.len, Nat.succ_mul]; omega), Flat.len, Nat.succ_mul, show i * Flat.sz α + Flat.sz α + j - Flat.sz α = i * Flat.sz α + j by omega]
      exact ih i hx
theorem flat_set (l : List α) (i : Nat) (x : α) (j : Nat) (u : Value) (y : α) (hx : l[i]? = some x) (hj : j < Flat.sz α) (hy : Flat.cells y = (Flat.cells x).set j u) :
    (flat l).set (i * Flat.sz α + j) u = flat (l.set i y) := by
  induction l generalizing i with
  | nil => simp at hx
  | cons z l ih =>
    cases i with
    | zero =>
      simp only [List.getElem?_cons_zero, Option.some.injEq] at hx
      subst hx
      rw [List.set_cons_zero, flat_cons, flat_cons, hy, Nat.zero_mul, Nat.zero_add, List.set_append_left _ _ (by rw [Flat.len]; exact hj)]
    | succ i =>
      simp only [List.getElem?_cons_succ] at hx
      rw [List.set_cons_succ, flat_cons, flat_cons, List.set_append_right _ _ (by rw [Flat.len, Nat.succ_mul]; omega), Flat.len, Nat.succ_mul,
        show i * Flat.sz α + Flat.sz α + j - Flat.sz α = i * Flat.sz α + j by omega, ih i hx]
/-- the cells of a list that a slice reads as -/
theorem At.news {w : World} {B : Nat} {A : Option Addr} {l : List α} (h : At w B A l) (hne : l ≠ []) : ∃ b o, A = some ⟨b, o, none⟩ ∧ b < B ∧ CellsAt w b o (flat l) := by
  obtain ⟨x0, hx0⟩ : ∃ x, l[0]? = some x := by
    cases l with
    | nil => exact absurd rfl hne
    | cons y l => exact ⟨y, rfl⟩
  obtain ⟨b, o, cs, rfl, hb, -, -⟩ := h 0 x0 hx0
  refine ⟨b, o, rfl, hb, fun j u hu => ?_⟩
  have hlt : j < (flat l).length := (List.getElem?_eq_some_iff.1 hu).1
  rw [flat_length] at hlt
  have hs : 0 < Flat.sz α := by
    rcases Nat.eq_zero_or_pos (Flat.sz α) with h0 | h0
    · rw [h0] at hlt; simp at hlt
    · exact h0
  have hi : j / Flat.sz α < l.length := by rw [Nat.div_lt_iff_lt_mul hs]; exact hlt
  obtain ⟨x, hx⟩ : ∃ x, l[j / Flat.sz α]? = some x := ⟨_, List.getElem?_eq_getElem hi⟩
  obtain ⟨b', o', cs', hA, -, hc, hr⟩ := h _ x hx
  simp only [Option.some.injEq, Addr.mk.injEq] at hA
  obtain ⟨rfl, rfl, -⟩ := hA
  have hcs : cs' = Flat.cells x := hr.1
  subst hcs
  have hm := Nat.mod_lt j hs
  have hd := flat_get l (j / Flat.sz α) (j % Flat.sz α) x hx hm
  have he : j / Flat.sz α * Flat.sz α + j % Flat.sz α = j := Nat.div_add_mod' j _
  rw [he] at hd
  have := hc (j % Flat.sz α) u (by rw [← hd]; exact hu)
  have e2 : o + j / Flat.sz α * Enc.sz α + j % Flat.sz α = o + j := by
    show o + j / Flat.sz α * Flat.sz α + j % Flat.sz α = o + j
    omega
  rw [e2] at this
  exact this
end

/-- the row's block of a slice's address -/
def rowOf (A : Option Addr) : Option Nat := A.map (·.block)
theorem ownBlock_slice (A : Option Addr) (n c : Nat) : Value.ownBlock (.slice A n c) = rowOf A := by cases A <;> rfl

/-- THE SLICE (A, length, c) OWNS THE LIST l, in a row among the blocks from base on -/
def Own {α : Type} [Flat α] (w : World) (base : Nat) (e : TypeId) (A : Option Addr) (c : Nat) (l : List α) : Prop :=
  w.ownsRow base e (Flat.sz α) (.slice A l.length c) l.length (flat l)

section
variable {α : Type} [Flat α] {w w' : World} {base : Nat} {e : TypeId} {A : Option Addr} {c : Nat} {l : List α}
theorem Own.nil_ : Own w base e none 0 ([] : List α) := World.ownsRow_nil w base e _
theorem Own.lt (h : Own w base e A c l) : ∀ g, rowOf A = some g → base ≤ g ∧ g < w.heap.size := fun g hg => World.ownsRow.lt h g (by rw [ownBlock_slice]; exact hg)
theorem Own.base_le {base' : Nat} (h : Own w base e A c l) (hb : base' ≤ base) : Own w base' e A c l := by
  refine ⟨h.1, ?_⟩
  rcases h.2 with h2 | ⟨g, cap, cur, hv, hg, r⟩
  · exact .inl h2
  · exact .inr ⟨g, cap, cur, hv, by omega, r⟩
theorem Own.block_ (h : Own w base e A c l) (hb : ∀ g, rowOf A = some g → w'.heap[g]? = w.heap[g]?) : Own w' base e A c l := by
  refine ⟨h.1, ?_⟩
  rcases h.2 with h2 | ⟨g, cap, cur, hv, hg, hh, r⟩
  · exact .inl h2
  · refine .inr ⟨g, cap, cur, hv, hg, ?_, r⟩
    rw [hb g (by injection hv with h1; subst h1; rfl)]; exact hh
theorem Own.fresh (h : Own w base e A c l) (hb : Below w.heap.size w w') : Own w' base e A c l := h.block_ fun g hg => hb.block g (h.lt g hg).2
theorem Own.below {B : Nat} (h : Own w base e A c l) (hb : Below B w w') (hlt : ∀ g, rowOf A = some g → g < B) : Own w' base e A c l := h.block_ fun g hg => hb.block g (hlt g hg)
theorem Own.alloc (h : Own w base e A c l) (o : Obj) : Own (w.alloc o) base e A c l := World.ownsRow.alloc h o
theorem Own.drewN (h : Own w base e A c l) (n : Nat) : Own (w.drewN n) base e A c l := h
theorem Own.drew (h : Own w base e A c l) : Own w.drew base e A c l := h
theorem Own.setCell (h : Own w base e A c l) (p : Addr) (u : Value) (hp : rowOf A ≠ some p.block) : Own (w.setCell p u) base e A c l :=
  h.block_ fun g hg => Below.heap_setCell _ _ _ _ (fun e => hp (by rw [hg, e]))
theorem Own.grown {row : Option Nat} (h : Own w base e A c l) (hg : w.grownBy w' row) (hne : ∀ g, rowOf A = some g → row ≠ some g) : Own w' base e A c l :=
  h.block_ fun g hg' => hg.block g (h.lt g hg').2 (fun e => hne g hg' e.symm)
theorem Own.le_cap (h : Own w base e A c l) : l.length ≤ c ∧ c ≤ maxLen := by
  rcases h.2 with ⟨h1, h2⟩ | ⟨g, cap, cur, hv, hg, hh, h1, h2, _⟩
  · injection h1 with _ h3 h4; rw [h2] at *; subst h4; simp [maxLen]
  · injection hv with _ _ h3; subst h3; exact ⟨h1, h2⟩
theorem Own.at_zero (h : Own w base e A c l) {a : Addr} (hA : A = some a) : ∃ g, a = ⟨g, 0, none⟩ ∧ base ≤ g ∧ g < w.heap.size := by
  rcases h.2 with ⟨h1, _⟩ | ⟨g, cap, cur, hv, hg, hh, _⟩
  · injection h1 with h3; rw [hA] at h3; cases h3
  · injection hv with h3; rw [hA] at h3; injection h3 with h3; subst h3
    exact ⟨g, rfl, hg, (Array.getElem?_eq_some_iff.1 hh).1⟩
theorem Own.some_ (h : Own w base e A c l) (hl : 0 < l.length) : ∃ g, A = some ⟨g, 0, none⟩ ∧ base ≤ g ∧ g < w.heap.size := by
  rcases h.2 with ⟨_, h2⟩ | ⟨g, cap, cur, hv, hg, hh, _⟩
  · omega
  · injection hv with h3; exact ⟨g, h3, hg, (Array.getElem?_eq_some_iff.1 hh).1⟩
theorem Own.cells_ (h : Own w base e A c l) {g o : Nat} {s : Option Nat} (hA : A = some ⟨g, o, s⟩) : CellsAt w g 0 (flat l) := by
  obtain ⟨g', he, -, -⟩ := h.at_zero hA
  injection he with h1 h2 h3
  subst h1 h2 h3 hA
  intro j u hu
  have := World.ownsRow.cells h (g := g) rfl j u hu
  rw [add_mk] at this
  exact this
/-- an owned row reads as its list -/
theorem Own.at_ (h : Own w base e A c l) (hok : ∀ x ∈ l, Flat.ok x) : At w w.heap.size A l := by
  intro i x hx
  have hi : i < l.length := (List.getElem?_eq_some_iff.1 hx).1
  obtain ⟨g, rfl, -, hlt⟩ := h.some_ (by omega)
  refine ⟨g, 0, Flat.cells x, rfl, hlt, fun j u hu => ?_, rfl, hok x (List.mem_of_getElem? hx)⟩
  have hj : j < Flat.sz α := by rw [← Flat.len x]; exact (List.getElem?_eq_some_iff.1 hu).1
  have := h.cells_ rfl (i * Flat.sz α + j) u (by rw [flat_get l i j x hx hj]; exact hu)
  rw [show 0 + i * Enc.sz α + j = 0 + (i * Flat.sz α + j) from by show 0 + i * Flat.sz α + j = _; omega]
  exact this
theorem Own.frozen (h : Own w base e A c l) {g : Nat} (hA : rowOf A = some g) (j : Nat) : w.frozen? ⟨g, j, none⟩ = false := by
  rcases h.2 with ⟨h1, _⟩ | ⟨g', cap, cur, hv, hg, hh, _⟩
  · injection h1 with h3; rw [h3] at hA; cases hA
  · injection hv with h3; rw [h3] at hA; injection hA with hA; subst hA
    simp [World.frozen?, hh]
/-- a store into an owned row -/
theorem Own.set_ (h : Own w base e A c l) {g i j : Nat} {x y : α} {u : Value} (hA : A = some ⟨g, 0, none⟩) (hx : l[i]? = some x) (hj : j < Flat.sz α) (hy : Flat.cells y = (Flat.cells x).set j u) :
    Own (w.setCell ⟨g, i * Flat.sz α + j, none⟩ u) base e A c (l.set i y) := by
  subst hA
  have hl : (l.set i y).length = l.length := List.length_set
  unfold Own
  rw [hl, ← flat_set l i x j u y hx hj hy]
  refine ⟨by rw [List.length_set]; exact h.1, ?_⟩
  rcases h.2 with ⟨h1, _⟩ | ⟨g', cap, cur, hv, hg, hh, h1, h2, h3, h4⟩
  · injection h1 with h3; cases h3
  · injection hv with h5 _ h6; injection h5 with h5; injection h5 with h5; subst h5 h6
    have hi : i < l.length := (List.getElem?_eq_some_iff.1 hx).1
    refine .inr ⟨g, c, cur.setIfInBounds (i * Flat.sz α + j) u, rfl, hg, ?_, h1, h2, by rw [Array.size_setIfInBounds]; exact h3, ?_⟩
    · simp [World.setCell, Array.getElem?_modify, hh]
    · rw [Array.toList_setIfInBounds, List.take_set, h4]
end

/-- a struct of two numbers stored into an owned row -/
theorem Own.set_two {w : World} {base : Nat} {e : TypeId} {c : Nat} {l : List (Int × Int)} [Flat (Int × Int)] {g i : Nat} {x : Int × Int} {a b : Int} (hsz : Flat.sz (Int × Int) = 2) (hcell : ∀ p : Int × Int, Flat.cells p = [.int .i64 p.1, .int .i64 p.2])
    (h : Own w base e (some ⟨g, 0, none⟩) c l) (hx : l[i]? = some x) : Own ((w.setCell ⟨g, i * 2, none⟩ (.int .i64 a)).setCell ⟨g, i * 2 + 1, none⟩ (.int .i64 b)) base e (some ⟨g, 0, none⟩) c (l.set i (a, b)) := by
  have hi : i < l.length := (List.getElem?_eq_some_iff.1 hx).1
  have h1 := h.set_ (j := 0) (y := (a, x.2)) (u := .int .i64 a) rfl hx (by omega) (by rw [hcell, hcell]; rfl)
  have h2 := h1.set_ (i := i) (x := (a, x.2)) (j := 1) (y := (a, b)) (u := .int .i64 b) rfl (by rw [List.getElem?_set_self hi]) (by omega) (by rw [hcell, hcell]; rfl)
  rw [List.set_set, hsz, Nat.add_zero] at h2
  exact h2

/-- a literal's new block reads as its list -/
theorem At.built {α : Type} [Flat α] (w : World) (cs : Array Value) (e : TypeId) (l : List α) (hcs : cs.toList = flat l) (hok : ∀ x ∈ l, Flat.ok x) :
    At (w.alloc (.cells cs e)) (w.heap.size + 1) (some ⟨w.heap.size, 0, none⟩) l := by
  intro i x hx
  refine ⟨w.heap.size, 0, Flat.cells x, rfl, Nat.lt_succ_self _, fun j u hu => ?_, rfl, hok x (List.mem_of_getElem? hx)⟩
  have hj : j < Flat.sz α := by rw [← Flat.len x]; exact (List.getElem?_eq_some_iff.1 hu).1
  rw [World.cell?_alloc_at _ _ _ _ rfl, ← Array.getElem?_toList, hcs, show 0 + i * Enc.sz α + j = i * Flat.sz α + j from by show 0 + i * Flat.sz α + j = _; omega, flat_get l i j x hx hj]
  exact hu

/-- append onto an owned row of what a slice reads as (nil, empty or not) -/
theorem run_app {α : Type} [Flat α] {P : Program} (w : World) (base : Nat) (t ty e : TypeId) (i : TypeInfo) (z : Value) (bytes : Nat) (ht : P.underlying t = some (.slice e)) (hi : P.info? e = some i) (hz : i.zero = some z)
    (hsize : i.size = Flat.sz α) (hby : i.bytes = bytes) (hzs : z.cells.size = Flat.sz α) (hsz : 0 < Flat.sz α) (hone : ∀ x : α, ∀ u ∈ Flat.cells x, u.oneCell' = true)
    {A : Option Addr} {c : Nat} {l : List α} (hown : Own w base e A c l) {B : Nat} {X : Option Addr} {m d : Nat} {r : List α} (hr : At w B X r) (hm : r.length = m)
    (hbytes : (l.length + m) * bytes ≤ 140737488355328) (h63 : l.length + m ≤ maxLen) (hbase : base ≤ w.heap.size) :
    ∃ A' c' w', (Builtin.append_ #[t, t] ty #[.slice A l.length c, .slice X m d]).run P w = .ok (.slice A' (l.length + m) c') w' ∧ Own w' base e A' c' (l ++ r) ∧ w.grownBy w' (rowOf A) ∧
      (rowOf A' = rowOf A ∨ rowOf A' = some w.heap.size) := by
  subst hm
  rcases List.eq_nil_or_concat r with rfl | ⟨r0, x0, hr0⟩
  · -- nothing is appended
    have hcap := hown.le_cap
    refine ⟨A, c, w, ?_, by simpa using hown, World.grownBy.refl w _, .inl rfl⟩
    cases A with
    | none =>
      have hl : l.length = 0 := by
        rcases hown.2 with ⟨_, h2⟩ | ⟨g, cap, cur, hv, _⟩
        · exact h2
        · injection hv with hv; cases hv
      cases X <;> simp [Builtin.append_, run_underlying ht, sizeOf, typeInfo, hi, Builtin.lenOf, Builtin.firstCells, loadCells, loadCellsFrom, hl]
    | some a =>
      cases X <;> simp [Builtin.append_, run_underlying ht, sizeOf, typeInfo, hi, Builtin.lenOf, Builtin.firstCells, loadCells, loadCellsFrom, hcap.1, storeCells]
  · have hne : r ≠ [] := by rw [hr0]; simp
    obtain ⟨b, o, rfl, hb, hc⟩ := hr.news hne
    obtain ⟨v', w', hrun, h2, h3, h4, h5⟩ := run_append_own_at (P := P) w base t ty e i z (Flat.sz α) bytes ht hi hz hsize hby hzs hsz (.slice A l.length c) l.length (flat l) hown ⟨b, o, none⟩ r.length d (flat r)
      (flat_length r) (fun j u hu => by rw [add_mk]; exact hc j u hu) (fun u hu => by
        unfold flat at hu
        obtain ⟨x, -, hx⟩ := List.mem_flatMap.1 hu
        exact hone x u hx) h63 hbytes hbase
    have hlen : (l ++ r).length = l.length + r.length := List.length_append
    rcases h2.2 with ⟨rfl, h6⟩ | ⟨g, cap, cur, rfl, h6⟩
    · have : 0 < r.length := List.length_pos_iff.2 hne
      omega
    · refine ⟨some ⟨g, 0, none⟩, cap, w', hrun, ?_, by rw [ownBlock_slice] at h3; exact h3, by simpa [ownBlock_slice] using h5⟩
      unfold Own
      rw [hlen, flat_append]
      exact h2

theorem wpList_app {α : Type} [Flat α] {P : Program} {w : World} {ops : Array Oper} {rest : List Oper} {o : Oper} {a : Act} {Q : Exit → Act → World → Prop} (hgd : o.guard = none) (s x : Operand) (t : TypeId)
    (ho : o.op = .call { callee := .builtin .append, args := #[s, x], argTypes := #[t, t] })
    (base : Nat) (e : TypeId) (i : TypeInfo) (z : Value) (bytes : Nat) (ht : P.underlying t = some (.slice e)) (hi : P.info? e = some i) (hz : i.zero = some z)
    (hsize : i.size = Flat.sz α) (hby : i.bytes = bytes) (hzs : z.cells.size = Flat.sz α) (hsz : 0 < Flat.sz α) (hone : ∀ x : α, ∀ u ∈ Flat.cells x, u.oneCell' = true)
    {A : Option Addr} {n c : Nat} {l : List α} (hs : a.eval s = .slice A n c) (hn : l.length = n) (hown : Own w base e A c l) {B : Nat} {X : Option Addr} {m d : Nat} {r : List α} (hx : a.eval x = .slice X m d) (hr : At w B X r) (hm : r.length = m)
    (hbytes : (n + m) * bytes ≤ 140737488355328) (h63 : n + m ≤ maxLen) (hbase : base ≤ w.heap.size)
    (h : ∀ A' c' w', Own w' base e A' c' (l ++ r) → w.grownBy w' (rowOf A) → (rowOf A' = rowOf A ∨ rowOf A' = some w.heap.size) → wpList P ops Q rest (a.put o.dst (.slice A' (n + m) c')) w') :
    wpList P ops Q (o :: rest) a w := by
  subst hn
  refine wpList_plain hgd fun K hK => ?_
  obtain ⟨A', c', w', hrun, h2, h3, h4⟩ := run_app (α := α) (P := P) w base t o.type e i z bytes ht hi hz hsize hby hzs hsz hone hown hr hm hbytes h63 hbase
  unfold Oper.wp execOp
  simp only [ho, resolve, invoke, builtin, Sem.run_bind, Sem.run_pure, Result.andThen_ok, List.map_toArray, List.map_cons, List.map_nil, hs, hx]
  rw [hrun]
  exact hK _ _ (h A' c' w' h2 h3 h4)

/-! ### a block that is known whole -/
/-- block g is just the cells cs of element type t, none of them frozen -/
def Blk (w : World) (g : Nat) (t : TypeId) (cs : Array Value) : Prop := w.heap[g]? = some (.cells cs t (0, 0))

section
variable {w w' : World} {g : Nat} {t : TypeId} {cs : Array Value}
theorem Blk.lt (h : Blk w g t cs) : g < w.heap.size := (Array.getElem?_eq_some_iff.1 h).1
theorem Blk.cell (h : Blk w g t cs) (i : Nat) {v : Value} (hv : cs[i]? = some v) : w.cell? ⟨g, i, none⟩ = some v := (cell_of_row w g i cs t (0, 0) h).trans hv
theorem Blk.frozen (h : Blk w g t cs) (i : Nat) : w.frozen? ⟨g, i, none⟩ = false := by
  unfold Blk at h; simp [World.frozen?, h]
theorem Blk.new (w : World) (t : TypeId) (cs : Array Value) : Blk (w.alloc (.cells cs t)) w.heap.size t cs := heap_alloc_new w _
theorem Blk.at_ (w : World) (t : TypeId) (cs : Array Value) {g : Nat} (hg : g = w.heap.size) : Blk (w.alloc (.cells cs t)) g t cs := by subst hg; exact heap_alloc_new w _
theorem Blk.drew (h : Blk w g t cs) : Blk w.drew g t cs := h
theorem Blk.drewN (h : Blk w g t cs) (n : Nat) : Blk (w.drewN n) g t cs := h
theorem Blk.alloc (h : Blk w g t cs) (o : Obj) : Blk (w.alloc o) g t cs := (Below.heap_alloc w o g h.lt).trans h
theorem Blk.set_ (h : Blk w g t cs) (i : Nat) (u : Value) : Blk (w.setCell ⟨g, i, none⟩ u) g t (cs.setIfInBounds i u) := by
  unfold Blk at h ⊢
  simp [World.setCell, Array.getElem?_modify, h]
theorem Blk.far (h : Blk w g t cs) {p : Addr} (hp : g ≠ p.block) (u : Value) : Blk (w.setCell p u) g t cs := (Below.heap_setCell w p u g hp).trans h
theorem Blk.fresh (h : Blk w g t cs) (hb : Below w.heap.size w w') : Blk w' g t cs := (hb.block g h.lt).trans h
theorem Blk.grown {row : Option Nat} (h : Blk w g t cs) (hb : w.grownBy w' row) (hg : row ≠ some g) : Blk w' g t cs := (hb.block g h.lt (fun e => hg e.symm)).trans h
theorem Blk.cells8 {a0 a1 a2 a3 a4 a5 a6 a7 : Value} (h : Blk w g t #[a0, a1, a2, a3, a4, a5, a6, a7]) :
    w.cell? ⟨g, 0, none⟩ = some a0 ∧ w.cell? ⟨g, 1, none⟩ = some a1 ∧ w.cell? ⟨g, 2, none⟩ = some a2 ∧ w.cell? ⟨g, 3, none⟩ = some a3 ∧ w.cell? ⟨g, 4, none⟩ = some a4 ∧ w.cell? ⟨g, 5, none⟩ = some a5 ∧ w.cell? ⟨g, 6, none⟩ = some a6 ∧ w.cell? ⟨g, 7, none⟩ = some a7 :=
  ⟨h.cell 0 rfl, h.cell 1 rfl, h.cell 2 rfl, h.cell 3 rfl, h.cell 4 rfl, h.cell 5 rfl, h.cell 6 rfl, h.cell 7 rfl⟩
theorem Blk.cells4 {a0 a1 a2 a3 : Value} (h : Blk w g t #[a0, a1, a2, a3]) :
    w.cell? ⟨g, 0, none⟩ = some a0 ∧ w.cell? ⟨g, 1, none⟩ = some a1 ∧ w.cell? ⟨g, 2, none⟩ = some a2 ∧ w.cell? ⟨g, 3, none⟩ = some a3 :=
  ⟨h.cell 0 rfl, h.cell 1 rfl, h.cell 2 rfl, h.cell 3 rfl⟩
theorem At.ok_ {α : Type} [Flat α] {B : Nat} {A : Option Addr} {l : List α} (h : At w B A l) : ∀ x ∈ l, Flat.ok x := by
  intro x hx
  obtain ⟨i, hi⟩ := List.mem_iff_getElem?.1 hx
  obtain ⟨b, o, cs, -, -, -, hr⟩ := h i x hi
  exact hr.2
theorem own_ne_blk {α : Type} [Flat α] {base : Nat} {e : TypeId} {A : Option Addr} {c : Nat} {l : List α} (h : Own w base e A c l) (hg : g < base) : rowOf A ≠ some g := fun he => by have := h.lt g he; omega
end

section
variable {w w' : World} {g : Nat} {t : TypeId} {cs cs' : Array Value}
theorem Blk.setRow (h : Blk w g t cs) : Blk (w.setRow g cs') g t cs' := setRow_heap w g cs cs' t (0, 0) h
theorem Blk.setRow_far (h : Blk w g t cs) {g' : Nat} (hg : g ≠ g') : Blk (w.setRow g' cs') g t cs := (setRow_other w g' g cs' hg).trans h
theorem Own.setRow {α : Type} [Flat α] {base : Nat} {e : TypeId} {A : Option Addr} {c : Nat} {l : List α} (h : Own w base e A c l) {g' : Nat} (hg : rowOf A ≠ some g') : Own (w.setRow g' cs') base e A c l :=
  h.block_ fun k hk => setRow_other w g' k cs' (fun e => hg (by rw [hk, e]))
end

/-- a whole struct loaded from, stored into a block that is known whole -/
theorem wpList_ld {P : Program} {ops : Array Oper} {rest : List Oper} {o : Oper} {a : Act} {w : World} {Q : Exit → Act → World → Prop} (hgd : o.guard = none) (ty : TypeId) (x : Operand) (ho : o.op = .load ty x)
    (g : Nat) (hx : a.eval x = .pointer (some ⟨g, 0, none⟩)) {t : TypeId} {cs : Array Value} {d : TypeDesc} (hg : Blk w g t cs)
    (hu : P.underlying ty = some d) (hd : (match d with | .struct _ | .array _ _ => true | _ => false) = true) (hi : (P.info? ty).map (·.size) = some cs.size)
    (h : wpList P ops Q rest (a.put o.dst (.agg cs)) w) : wpList P ops Q (o :: rest) a w :=
  wpList_load_row hgd ty x ho g hx t cs (0, 0) d hg hu hd hi h
theorem wpList_st {P : Program} {ops : Array Oper} {rest : List Oper} {o : Oper} {a : Act} {w : World} {Q : Exit → Act → World → Prop} (hgd : o.guard = none) (ty : TypeId) (x y : Operand) (ho : o.op = .store ty x y)
    (g : Nat) {cells : Array Value} (hx : a.eval x = .pointer (some ⟨g, 0, none⟩)) (hy : a.eval y = .agg cells)
    {t : TypeId} {old : Array Value} (hg : Blk w g t old) (hi : (P.info? ty).map (·.size) = some cells.size)
    (hold : old.size = cells.size) (h1 : cells.toList.all (·.oneCell') = true)
    (h : wpList P ops Q rest (a.put o.dst undef) (w.setRow g cells)) : wpList P ops Q (o :: rest) a w :=
  wpList_store_row hgd ty x y ho g cells hx hy t old hg hi hold (by rw [← Array.all_toList]; exact h1) h

theorem bel_setRow {B g : Nat} {w0 w : World} (hb : Below B w0 w) (hBg : B ≤ g) (cs : Array Value) : Below B w0 (w.setRow g cs) :=
  hb.trans ⟨rfl, rfl, rfl, by simp, fun k hk => setRow_other w g k cs (by omega)⟩

/-- a struct and a plain value handed back -/
theorem results_cell_tmp {P : Program} {fn : Func} {p q : Tmp} {ty : TypeId} (h : fn.results = #[.cell p ty, .tmp q]) (tmps : Array Value) (w : World) (g : Nat) (t : TypeId) (cs : Array Value) (d : TypeDesc)
    (hp : tmps.getD p undef = .pointer (some ⟨g, 0, none⟩)) (hg : Blk w g t cs)
    (hu : P.underlying ty = some d) (hd : (match d with | .struct _ | .array _ _ => true | _ => false) = true) (hi : (P.info? ty).map (·.size) = some cs.size) :
    (results fn tmps).run P w = .ok (.tuple #[.agg cs, tmps.getD q undef]) w := by
  have hp' : tmps[p]?.getD undef = .pointer (some ⟨g, 0, none⟩) := by simpa using hp
  simp [results, h, hp', asAddr, run_loadVar_row w g t ty cs (0, 0) d hg hu hd hi]

/-- the world at hand behind a name, of which only what is said is known -/
theorem wp_world {P : Program} {c : Code} {Q : Exit → Act → World → Prop} {a : Act} {w0 : World} (p : World → Prop) (h0 : p w0) (h : ∀ w, p w → Code.wp P c Q a w) : Code.wp P c Q a w0 := h w0 h0
theorem wpList_world {P : Program} {ops : Array Oper} {Q : Exit → Act → World → Prop} {l : List Oper} {a : Act} {w0 : World} (p : World → Prop) (h0 : p w0) (h : ∀ w, p w → wpList P ops Q l a w) : wpList P ops Q l a w0 := h w0 h0
theorem calls_world {P : Program} {f : FuncId} {args : Array Value} {R : Ending → World → Prop} {w0 : World} (p : World → Prop) (h0 : p w0) (h : ∀ w, p w → Calls P f args w R) : Calls P f args w0 R := h w0 h0

end Go.Proofs.Ytpkccpegdpodoaa
