/- Elements of any type as plain rows of cells: 'Raw n'. A list that a slice reads as, of whatever type, reads as raw rows too; copying keeps the rows. -/
import Derived.Test.YtpkccpegdpodoaaClone
namespace Go.Proofs.Ytpkccpegdpodoaa
open Go.RowKit

structure Raw (n : Nat) where
  cs : List Value
  len : cs.length = n
  one : ∀ u ∈ cs, u.oneCell' = true

instance (n : Nat) : Flat (Raw n) where
  cells r := r.cs
  sz := n
  len r := r.len
  ok _ := True

def Raw.set {n : Nat} (r : Raw n) (j : Nat) (u : Value) (hu : u.oneCell' = true) : Raw n :=
  ⟨r.cs.set j u, by rw [List.length_set]; exact r.len, fun v hv => by
    rcases List.mem_or_eq_of_mem_set hv with h | h
    · exact r.one v h
    · rw [h]; exact hu⟩

theorem raw_one {n : Nat} : ∀ x : Raw n, ∀ u ∈ Flat.cells x, u.oneCell' = true := fun x u hu => x.one u hu

theorem At.raws {α : Type} [Enc α] {n : Nat} (hn : Enc.sz α = n) {w : World} {B : Nat} {A : Option Addr} {xs : List α} (h : At w B A xs)
    (hone : ∀ cs x, Enc.rd w B cs (x : α) → ∀ u ∈ cs, u.oneCell' = true) :
    ∃ rs : List (Raw n), rs.length = xs.length ∧ At w B A rs ∧ ∀ (i : Nat) (r : Raw n) (x : α), rs[i]? = some r → xs[i]? = some x → Enc.rd w B r.cs x := by
  subst hn
  have H : ∀ i : Fin xs.length, ∃ r : Raw (Enc.sz α), (∃ b o, A = some ⟨b, o, none⟩ ∧ b < B ∧ CellsAt w b (o + i.val * Enc.sz α) r.cs) ∧ Enc.rd w B r.cs xs[i.val] := by
    intro i
    obtain ⟨b, o, cs, hA, hb, hc, hr⟩ := h i.val xs[i.val] (List.getElem?_eq_getElem i.isLt)
    exact ⟨⟨cs, Enc.len hr, hone cs _ hr⟩, ⟨b, o, hA, hb, hc⟩, hr⟩
  obtain ⟨f, hf⟩ := Classical.axiomOfChoice H
  have get : ∀ (i : Nat) (r : Raw (Enc.sz α)), (List.ofFn f)[i]? = some r → ∃ hi : i < xs.length, r = f ⟨i, hi⟩ := by
    intro i r hr
    rw [List.getElem?_ofFn] at hr
    split at hr
    · rename_i hi
      injection hr with hr
      exact ⟨hi, hr.symm⟩
    · cases hr
  refine ⟨List.ofFn f, List.length_ofFn, fun i r hr => ?_, fun i r x hr hx => ?_⟩
  · obtain ⟨hi, rfl⟩ := get i r hr
    obtain ⟨⟨b, o, hA, hb, hc⟩, -⟩ := hf ⟨i, hi⟩
    exact ⟨b, o, (f ⟨i, hi⟩).cs, hA, hb, hc, rfl, trivial⟩
  · obtain ⟨hi, rfl⟩ := get i r hr
    have := (hf ⟨i, hi⟩).2
    have hx' : xs[i] = x := by rw [List.getElem?_eq_getElem hi] at hx; injection hx
    rw [← hx']; exact this

/-- one cell of an element stored -/
theorem Own.set_raw {n : Nat} {w : World} {base : Nat} {e : TypeId} {c : Nat} {l : List (Raw n)} {g i j : Nat} {x : Raw n} {u : Value} (h : Own w base e (some ⟨g, 0, none⟩) c l) (hx : l[i]? = some x) (hj : j < n) (hu : u.oneCell' = true) :
    Own (w.setCell ⟨g, i * n + j, none⟩ u) base e (some ⟨g, 0, none⟩) c (l.set i (x.set j u hu)) := h.set_ rfl hx hj rfl

theorem Own.raw_cell {n : Nat} {w : World} {base : Nat} {e : TypeId} {c : Nat} {l : List (Raw n)} {g : Nat} (h : Own w base e (some ⟨g, 0, none⟩) c l) {i j : Nat} {x : Raw n} {u : Value} (hx : l[i]? = some x) (hu : x.cs[j]? = some u) : w.cell? ⟨g, i * n + j, none⟩ = some u := by
  have hj : j < n := by have := (List.getElem?_eq_some_iff.1 hu).1; rw [x.len] at this; exact this
  have := h.cells_ (g := g) (o := 0) rfl (i * n + j) u ((flat_get l i j x hx hj).trans hu)
  rw [Nat.zero_add] at this; exact this
theorem Raw.has {n : Nat} (x : Raw n) (j : Nat) (hj : j < n) : ∃ u, x.cs[j]? = some u := ⟨_, List.getElem?_eq_getElem (by rw [x.len]; exact hj)⟩
theorem At.raw_cell {n : Nat} {w : World} {B : Nat} {b o : Nat} {l : List (Raw n)} (h : At w B (some ⟨b, o, none⟩) l) {i j : Nat} {x : Raw n} {u : Value} (hx : l[i]? = some x) (hu : x.cs[j]? = some u) : w.cell? ⟨b, o + i * n + j, none⟩ = some u := by
  obtain ⟨b', o', cs, hA, hb, hc, hr, -⟩ := h i x hx
  injection hA with hA; injection hA with h1 h2; subst h1 h2 hr
  exact hc j u hu

/-- two cells of an element stored: some raw row is owned -/
theorem Own.set_raw2 {n : Nat} {w : World} {base : Nat} {e : TypeId} {c : Nat} {l : List (Raw n)} {g i j k : Nat} {x : Raw n} {u v : Value} (h : Own w base e (some ⟨g, 0, none⟩) c l) (hx : l[i]? = some x) (hj : j < n) (hk : k < n) (hu : u.oneCell' = true) (hv : v.oneCell' = true) :
    Own ((w.setCell ⟨g, i * n + j, none⟩ u).setCell ⟨g, i * n + k, none⟩ v) base e (some ⟨g, 0, none⟩) c (l.set i ((x.set j u hu).set k v hv)) := by
  have hi : i < l.length := (List.getElem?_eq_some_iff.1 hx).1
  have h1 := h.set_raw hx hj hu
  have h2 := h1.set_raw (i := i) (x := x.set j u hu) (by rw [List.getElem?_set_self hi]) hk hv
  rw [List.set_set] at h2
  exact h2

theorem raw_ext {n : Nat} {a b : Raw n} (h : a.cs = b.cs) : a = b := by cases a; cases b; cases h; rfl
/-- a struct of four cells stored into an owned row -/
theorem Own.set_raw4 {w : World} {base : Nat} {e : TypeId} {c : Nat} {l : List (Raw 4)} {g i : Nat} {x : Raw 4} {u0 u1 u2 u3 : Value} (h : Own w base e (some ⟨g, 0, none⟩) c l) (hx : l[i]? = some x) (r : Raw 4) (hr : r.cs = [u0, u1, u2, u3]) :
    Own ((((w.setCell ⟨g, i * 4, none⟩ u0).setCell ⟨g, i * 4 + 1, none⟩ u1).setCell ⟨g, i * 4 + 2, none⟩ u2).setCell ⟨g, i * 4 + 3, none⟩ u3) base e (some ⟨g, 0, none⟩) c (l.set i r) := by
  have hi : i < l.length := (List.getElem?_eq_some_iff.1 hx).1
  have o0 := r.one u0 (by rw [hr]; simp)
  have o1 := r.one u1 (by rw [hr]; simp)
  have o2 := r.one u2 (by rw [hr]; simp)
  have o3 := r.one u3 (by rw [hr]; simp)
  have h0 := h.set_raw (j := 0) hx (by decide) o0
  have h1 := h0.set_raw (i := i) (j := 1) (x := x.set 0 u0 o0) (by rw [List.getElem?_set_self hi]) (by decide) o1
  rw [List.set_set] at h1
  have h2 := h1.set_raw (i := i) (j := 2) (x := (x.set 0 u0 o0).set 1 u1 o1) (by rw [List.getElem?_set_self hi]) (by decide) o2
  rw [List.set_set] at h2
  have h3 := h2.set_raw (i := i) (j := 3) (x := ((x.set 0 u0 o0).set 1 u1 o1).set 2 u2 o2) (by rw [List.getElem?_set_self hi]) (by decide) o3
  rw [List.set_set] at h3
  have hcs : (((x.set 0 u0 o0).set 1 u1 o1).set 2 u2 o2).set 3 u3 o3 = r := by
    apply raw_ext
    obtain ⟨cs, hlen, hone⟩ := x
    rcases cs with _ | ⟨a, _ | ⟨b, _ | ⟨c', _ | ⟨d, _ | ⟨f, cs⟩⟩⟩⟩⟩ <;> simp at hlen
    rw [hr]; rfl
  rw [hcs] at h3
  exact h3

/-- lists of flat data over a store into another block -/
theorem At.far_ {α : Type} [Flat α] {w : World} {B : Nat} {A : Option Addr} {xs : List α} (h : At w B A xs) {p : Addr} (hp : rowOf A ≠ some p.block) (u : Value) : At (w.setCell p u) B A xs := by
  intro i x hx
  obtain ⟨b, o, cs, rfl, hb, hc, hr⟩ := h i x hx
  exact ⟨b, o, cs, rfl, hb, hc.keep fun q hq => World.cell?_setCell_other w p q u (fun e => hp (by subst e; simp [rowOf, hq])), hr⟩
theorem At.grown_ {α : Type} [Flat α] {w w' : World} {B : Nat} {A : Option Addr} {xs : List α} (h : At w B A xs) (hB : B ≤ w.heap.size) {row : Option Nat} (hg : w.grownBy w' row) (hr : ∀ g, rowOf A = some g → row ≠ some g) : At w' B A xs := by
  intro i x hx
  obtain ⟨b, o, cs, rfl, hb, hc, hr'⟩ := h i x hx
  refine ⟨b, o, cs, rfl, hb, hc.keep fun q hq => ?_, hr'⟩
  unfold World.cell?
  rw [hq, hg.block b (by omega) (fun e => hr b rfl e.symm)]

end Go.Proofs.Ytpkccpegdpodoaa
