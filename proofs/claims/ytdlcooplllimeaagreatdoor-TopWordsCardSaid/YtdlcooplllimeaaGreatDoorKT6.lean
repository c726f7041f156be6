/- KT: Del, Steps. -/
import Derived.Test.YtdlcooplllimeaaGreatDoorKT1
import Derived.Deep.RegionLaw
/- Rows of the call's own cut short in place: clear of a tail, append within the room. No program is named here. -/
namespace Go.Proofs.YtdlcooplllimeaaGreatDoor
open Go.RowKit

theorem grownBy_setCell (w : World) (g o : Nat) (u : Value) : w.grownBy (w.setCell ⟨g, o, none⟩ u) (some g) :=
  ⟨rfl, rfl, rfl, by simp [World.setCell], fun k _ hk => Below.heap_setCell w ⟨g, o, none⟩ u k (fun e => hk (by rw [e]))⟩
theorem grownBy_setCells (g : Nat) : ∀ (vs : List Value) (o : Nat) (w : World), w.grownBy (w.setCells g o vs) (some g)
  | [], _, w => World.grownBy.refl w _
  | v :: r, o, w => (grownBy_setCell w g o v).trans (grownBy_setCells g r (o + 1) _)
theorem grownBy_drew (w : World) (row : Option Nat) : w.grownBy w.drew row := ⟨rfl, rfl, rfl, Nat.le_refl _, fun _ _ _ => rfl⟩
theorem grownBy_drewN {w w' : World} {row : Option Nat} (h : w.grownBy w' row) (n : Nat) : w.grownBy (w'.drewN n) row := ⟨h.os, h.tape, h.output, h.size, h.block⟩
theorem grownBy_undrew {w w' : World} {row : Option Nat} (h : w.drew.grownBy w' row) : w.grownBy w' row := ⟨h.os, h.tape, h.output, h.size, h.block⟩
theorem grownBy_below {w w' : World} (row : Option Nat) (h : Below w.heap.size w w') : w.grownBy w' row := ⟨h.os, h.tape, h.output, h.size, fun k hk _ => h.block k hk⟩
theorem below_grown {w w' : World} {B g : Nat} (h : w.grownBy w' (some g)) (hB : B ≤ g) (hBw : B ≤ w.heap.size) : Below B w w' := (Below.refl _ _).grown h hBw (fun k hk => by injection hk with hk; omega)

section
variable {α : Type} [Flat α] {w : World} {base : Nat} {e : TypeId} {c g : Nat} {l : List α}
theorem Own.setCell_tail (h : Own w base e (some ⟨g, 0, none⟩) c l) {j : Nat} (hj : l.length * Flat.sz α ≤ j) (u : Value) : Own (w.setCell ⟨g, j, none⟩ u) base e (some ⟨g, 0, none⟩) c l := by
  refine ⟨h.1, ?_⟩
  rcases h.2 with ⟨h1, _⟩ | ⟨g', cap, cur, hv, hg, hh, h1, h2, h3, h4⟩
  · injection h1 with h1; cases h1
  · injection hv with h5 _ h6; injection h5 with h5; injection h5 with h5; subst h5 h6
    refine .inr ⟨g, c, cur.setIfInBounds j u, rfl, hg, ?_, h1, h2, by rw [Array.size_setIfInBounds]; exact h3, ?_⟩
    · simp [World.setCell, Array.getElem?_modify, hh]
    · rw [Array.toList_setIfInBounds, List.take_set_of_le hj, h4]
theorem Own.setCells_tail : ∀ (vs : List Value) (j : Nat) (w : World), Own w base e (some ⟨g, 0, none⟩) c l → l.length * Flat.sz α ≤ j → Own (w.setCells g j vs) base e (some ⟨g, 0, none⟩) c l
  | [], _, _, h, _ => h
  | v :: r, j, w, h, hj => Own.setCells_tail r (j + 1) _ (h.setCell_tail hj v) (by omega)
theorem Own.some_cell (h : Own w base e (some ⟨g, 0, none⟩) c l) {j : Nat} (hj : j < c * Flat.sz α) : (w.cell? ⟨g, j, none⟩).isSome = true := by
  rcases h.2 with ⟨h1, _⟩ | ⟨g', cap, cur, hv, hg, hh, h1, h2, h3, h4⟩
  · injection h1 with h1; cases h1
  · injection hv with h5 _ h6; injection h5 with h5; injection h5 with h5; subst h5 h6
    rw [cell_of_row w g j cur e (0, 0) hh, Array.getElem?_eq_getElem (by omega)]
    rfl

theorem run_clear_own {P : Program} (h : Own w base e (some ⟨g, 0, none⟩) c l) (k : Nat) (hk : k ≤ l.length) (t ty : TypeId) (ht : P.underlying t = some (.slice e)) (z : Value) (hv : ∀ w, (zeroValue e).run P w = .ok z w) (hzs : z.cells.size = Flat.sz α)
    (hz1 : z.cells.toList.all (·.oneCell') = true) (X : Option Addr) (n c' : Nat) (hroom : k + n ≤ c) (hX : 0 < n → X = some ⟨g, k * Flat.sz α, none⟩) :
    ∃ w', (Builtin.clear_ #[t] ty #[.slice X n c']).run P w = .ok (.tuple #[]) w' ∧ Own w' base e (some ⟨g, 0, none⟩) c (l.take k) ∧ w.grownBy w' (some g) := by
  rcases Nat.lt_or_ge 0 n with hlt | hge
  · rw [hX hlt]
    obtain ⟨m, hm⟩ : ∃ m, n = m + 1 := ⟨n - 1, by omega⟩
    have hlen : (Builtin.zeroCells z.cells n).toList.length = n * Flat.sz α := by simp [Builtin.zeroCells, hzs]
    have hle : k * Flat.sz α + n * Flat.sz α ≤ c * Flat.sz α := by rw [← Nat.add_mul]; exact Nat.mul_le_mul_right _ (by omega)
    have hst := run_storeCells_cells (P := P) g (k * Flat.sz α) (Builtin.zeroCells z.cells n).toList 0 w
      (fun j hj => by rw [hlen] at hj; exact h.some_cell (by omega)) (fun j _ => h.frozen rfl _) (fun v hv' => by
        simp only [Builtin.zeroCells, Array.toList_map, List.mem_map] at hv'
        obtain ⟨i, hi, rfl⟩ := hv'
        have hpos : 0 < z.cells.size := by
          rcases Nat.eq_zero_or_pos z.cells.size with h0 | h0
          · simp [h0] at hi
          · exact h0
        rw [getElem!_pos z.cells _ (Nat.mod_lt _ hpos)]
        exact List.all_eq_true.1 hz1 _ (by simp))
    simp only [Nat.add_zero] at hst
    refine ⟨w.setCells g (k * Flat.sz α) (Builtin.zeroCells z.cells n).toList, ?_, Own.setCells_tail _ (k * Flat.sz α) w (h.take_ k hk) (by rw [List.length_take, Nat.min_eq_left hk]; exact Nat.le_refl _), grownBy_setCells g _ _ _⟩
    · subst hm
      simp [Builtin.clear_, run_underlying ht, hv, hst]
  · have h0 : n = 0 := by omega
    subst h0
    refine ⟨w, ?_, h.take_ k hk, World.grownBy.refl w _⟩
    cases X <;> simp [Builtin.clear_, run_underlying ht]

theorem wpList_clear_own {P : Program} {ops : Array Oper} {rest : List Oper} {o : Oper} {a : Act} {Q : Exit → Act → World → Prop} (hgd : o.guard = none) (x : Operand) (t : TypeId)
    (ho : o.op = .call { callee := .builtin .clear, args := #[x], argTypes := #[t] }) (ht : P.underlying t = some (.slice e)) (z : Value) (hv : ∀ w, (zeroValue e).run P w = .ok z w) (hzs : z.cells.size = Flat.sz α)
    (hz1 : z.cells.toList.all (·.oneCell') = true) (h : Own w base e (some ⟨g, 0, none⟩) c l) (k : Nat) (hk : k ≤ l.length) {X : Option Addr} {n c' : Nat} (hx : a.eval x = .slice X n c') (hroom : k + n ≤ c) (hX : 0 < n → X = some ⟨g, k * Flat.sz α, none⟩)
    (hK : ∀ w', Own w' base e (some ⟨g, 0, none⟩) c (l.take k) → w.grownBy w' (some g) → wpList P ops Q rest (a.put o.dst (.tuple #[])) w') : wpList P ops Q (o :: rest) a w := by
  refine wpList_plain hgd fun K hK' => ?_
  obtain ⟨w', hrun, h2, h3⟩ := run_clear_own (P := P) h k hk t o.type ht z hv hzs hz1 X n c' hroom hX
  unfold Oper.wp execOp
  simp only [ho, resolve, invoke, builtin, Sem.run_bind, Sem.run_pure, Result.andThen_ok, List.map_toArray, List.map_cons, List.map_nil, hx, hrun]
  exact hK' _ _ (hK w' h2 h3)

theorem step_app_fits {P : Program} {ops : Array Oper} {o : Oper} {a : Act} {K : Act → World → Prop} {Q : Exit → Act → World → Prop} {E : Prop} (hgd : o.guard = none) (s x : Operand) (t : TypeId)
    (ho : o.op = .call { callee := .builtin .append, args := #[s, x], argTypes := #[t, t] }) (i : TypeInfo) (ht : P.underlying t = some (.slice e)) (hi : P.info? e = some i) (hsize : i.size = Flat.sz α) (hone : ∀ x : α, ∀ u ∈ Flat.cells x, u.oneCell' = true)
    {n : Nat} (hs : a.eval s = .slice (some ⟨g, 0, none⟩) n c) (hn : l.length = n) (hown : Own w base e (some ⟨g, 0, none⟩) c l) {ad : Addr} {m d : Nat} {r : List α} (hx : a.eval x = .slice (some ad) m d) (hm : r.length = m)
    (hc : ∀ j u, (flat r)[j]? = some u → w.cell? (ad.add j) = some u) {nm : Nat} (hnm : n + m = nm) (hroom : nm ≤ c)
    (h : ∀ w', Own w' base e (some ⟨g, 0, none⟩) c (l ++ r) → w.grownBy w' (some g) → K (a.put o.dst (.slice (some ⟨g, 0, none⟩) nm c)) w') :
    if Region.wanted o (yielded ops a.tmps) = true then Oper.wp P o a w K Q else E := by
  have hw : Region.wanted o (yielded ops a.tmps) = true := by simp [Region.wanted, hgd]
  rw [if_pos hw]
  subst hn hm hnm
  obtain ⟨w', hrun, h2, h3⟩ := run_append_fits (P := P) w base t o.type e i (Flat.sz α) ht hi hsize g l.length c (flat l) hown ad r.length d (flat r) (flat_length r) hc (fun u hu => by
    unfold flat at hu
    obtain ⟨y, -, hy⟩ := List.mem_flatMap.1 hu
    exact hone y u hy) hroom
  unfold Oper.wp execOp
  simp only [ho, resolve, invoke, builtin, Sem.run_bind, Sem.run_pure, Result.andThen_ok, List.map_toArray, List.map_cons, List.map_nil, hs, hx, hrun]
  refine h w' ?_ h3
  unfold Own
  rw [List.length_append, flat_append]
  exact h2
end

/-- a predicate that lays only blocks of its own, asked while one row is written -/
def PredQ (P : Program) (g : Nat) (lb : Array Value) {α : Type} [Flat α] (v : α → Value) (p : α → Bool) (l : List α) (row : Option Nat) (w : World) : Prop :=
  ∀ (W : World) (x : α), x ∈ l → Flat.ok x → w.grownBy W row → Calls P g (#[v x] ++ lb) W fun e W' => e = .returned (.bool (p x)) ∧ Below W.heap.size W W'

end Go.Proofs.YtdlcooplllimeaaGreatDoor

/- append as a step of a region that draws; a list cut at its head. No program is named here. -/
namespace Go.Proofs.YtdlcooplllimeaaGreatDoor
open Go.RowKit

theorem At.drop_ {α : Type} [Enc α] {w : World} {B b o : Nat} {l : List α} (h : At w B (some ⟨b, o, none⟩) l) (k : Nat) : At w B (some ⟨b, o + k * Enc.sz α, none⟩) (l.drop k) := by
  intro i x hx
  rw [List.getElem?_drop] at hx
  obtain ⟨b', o', cs, hA, hb, hc, hr⟩ := h (k + i) x hx
  injection hA with hA; injection hA with h1 h2; subst h1 h2
  refine ⟨b, _, cs, rfl, hb, ?_, hr⟩
  rw [Nat.add_assoc, ← Nat.add_mul]; exact hc
theorem At.cut_ {α : Type} [Enc α] {w : World} {B b o c k : Nat} {l : List α} {A : Option Addr} (h : At w B (some ⟨b, o, none⟩) l) (hl : l.length ≤ c) (hA : (if c = k then some (⟨b, o, none⟩ : Addr) else some ⟨b, o + k * Enc.sz α, none⟩) = A) : At w B A (l.drop k) := by
  subst hA
  split
  · have : l.drop k = [] := List.drop_eq_nil_of_le (by omega)
    rw [this]; exact At.nil_
  · exact h.drop_ k

theorem step_app {α : Type} [Flat α] {P : Program} {w : World} {ops : Array Oper} {o : Oper} {a : Act} {K : Act → World → Prop} {Q : Exit → Act → World → Prop} {E : Prop} (hgd : o.guard = none) (s x : Operand) (t : TypeId)
    (ho : o.op = .call { callee := .builtin .append, args := #[s, x], argTypes := #[t, t] })
    (base : Nat) (e : TypeId) (i : TypeInfo) (z : Value) (bytes : Nat) (ht : P.underlying t = some (.slice e)) (hi : P.info? e = some i) (hz : i.zero = some z)
    (hsize : i.size = Flat.sz α) (hby : i.bytes = bytes) (hzs : z.cells.size = Flat.sz α) (hsz : 0 < Flat.sz α) (hone : ∀ x : α, ∀ u ∈ Flat.cells x, u.oneCell' = true)
    {A : Option Addr} {n c : Nat} {l : List α} (hs : a.eval s = .slice A n c) (hn : l.length = n) (hown : Own w base e A c l) {B : Nat} {X : Option Addr} {m d : Nat} {r : List α} (hx : a.eval x = .slice X m d) (hr : At w B X r) (hm : r.length = m) {nm : Nat} (hnm : n + m = nm)
    (hbytes : nm * bytes ≤ 140737488355328) (h63 : nm ≤ maxLen) (hbase : base ≤ w.heap.size)
    (h : ∀ A' c' w', Own w' base e A' c' (l ++ r) → w.grownBy w' (rowOf A) → (rowOf A' = rowOf A ∨ rowOf A' = some w.heap.size) → K (a.put o.dst (.slice A' nm c')) w') :
    if Region.wanted o (yielded ops a.tmps) = true then Oper.wp P o a w K Q else E := by
  have hw : Region.wanted o (yielded ops a.tmps) = true := by simp [Region.wanted, hgd]
  rw [if_pos hw]
  subst hn hnm
  obtain ⟨A', c', w', hrun, h2, h3, h4⟩ := run_app (α := α) (P := P) w base t o.type e i z bytes ht hi hz hsize hby hzs hsz hone hown hr hm hbytes h63 hbase
  unfold Oper.wp execOp
  simp only [ho, resolve, invoke, builtin, Sem.run_bind, Sem.run_pure, Result.andThen_ok, List.map_toArray, List.map_cons, List.map_nil, hs, hx]
  rw [hrun]
  exact h A' c' w' h2 h3 h4

end Go.Proofs.YtdlcooplllimeaaGreatDoor
