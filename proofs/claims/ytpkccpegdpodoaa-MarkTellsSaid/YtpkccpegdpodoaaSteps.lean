/- append as a step of a region that draws; a list cut at its head. No program is named here. -/
import Derived.Test.YtpkccpegdpodoaaDel
namespace Go.Proofs.Ytpkccpegdpodoaa
open Go.RowKit

theorem At.drop_ {α : Type} [Enc α] {w : World} {B b o : Nat} {l : List α} (h : At w B (some ⟨b, o, none⟩) l) (k : Nat) : At w B (some ⟨b, o + k * Enc.sz α, none⟩) (l.drop k) := by
  intro i x hx
  rw [List.getElem?_drop] at hx
  obtain ⟨b', o', cs, hA, hb, hc, hr⟩ := h (k + i) x hx
  injection hA with hA; injection hA with h1 h2; subst h1 h2
  refine ⟨b, _, cs, rfl, hb, ?_, hr⟩
  rw [Nat.add_assoc, ← Nat.add_mul]; exact hc
theorem At.cut_ {α : Type} [Enc α] {w : World} {B b o c k : Nat} {l : List α} {A : Option Addr} (h : At w B (some ⟨b, o, none⟩) l) (hl : l.length ≤ c) (hA : (if c = k then some (⟨b, o, none⟩ : Addr) else some ⟨b, o + k * Enc.sz α, none⟩) = A) : At w B A (l.drop k) := by
  subst hA
  split
  · have : l.drop k = [] := List.drop_eq_nil_of_le (by omega)
    rw [this]; exact At.nil_
  · exact h.drop_ k

theorem step_app {α : Type} [Flat α] {P : Program} {w : World} {ops : Array Oper} {o : Oper} {a : Act} {K : Act → World → Prop} {Q : Exit → Act → World → Prop} {E : Prop} (hgd : o.guard = none) (s x : Operand) (t : TypeId)
    (ho : o.op = .call { callee := .builtin .append, args := #[s, x], argTypes := #[t, t] })
    (base : Nat) (e : TypeId) (i : TypeInfo) (z : Value) (bytes : Nat) (ht : P.underlying t = some (.slice e)) (hi : P.info? e = some i) (hz : i.zero = some z)
    (hsize : i.size = Flat.sz α) (hby : i.bytes = bytes) (hzs : z.cells.size = Flat.sz α) (hsz : 0 < Flat.sz α) (hone : ∀ x : α, ∀ u ∈ Flat.cells x, u.oneCell' = true)
    {A : Option Addr} {n c : Nat} {l : List α} (hs : a.eval s = .slice A n c) (hn : l.length = n) (hown : Own w base e A c l) {B : Nat} {X : Option Addr} {m d : Nat} {r : List α} (hx : a.eval x = .slice X m d) (hr : At w B X r) (hm : r.length = m) {nm : Nat} (hnm : n + m = nm)
    (hbytes : nm * bytes ≤ 140737488355328) (h63 : nm ≤ maxLen) (hbase : base ≤ w.heap.size)
    (h : ∀ A' c' w', Own w' base e A' c' (l ++ r) → w.grownBy w' (rowOf A) → (rowOf A' = rowOf A ∨ rowOf A' = some w.heap.size) → K (a.put o.dst (.slice A' nm c')) w') :
    if Region.wanted o (yielded ops a.tmps) = true then Oper.wp P o a w K Q else E := by
  have hw : Region.wanted o (yielded ops a.tmps) = true := by simp [Region.wanted, hgd]
  rw [if_pos hw]
  subst hn hnm
  obtain ⟨A', c', w', hrun, h2, h3, h4⟩ := run_app (α := α) (P := P) w base t o.type e i z bytes ht hi hz hsize hby hzs hsz hone hown hr hm hbytes h63 hbase
  unfold Oper.wp execOp
  simp only [ho, resolve, invoke, builtin, Sem.run_bind, Sem.run_pure, Result.andThen_ok, List.map_toArray, List.map_cons, List.map_nil, hs, hx]
  rw [hrun]
  exact h A' c' w' h2 h3 h4

end Go.Proofs.Ytpkccpegdpodoaa
