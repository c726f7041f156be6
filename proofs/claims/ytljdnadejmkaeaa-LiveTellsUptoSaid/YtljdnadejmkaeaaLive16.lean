/- live.Spans: what its closure does to the spans that are being made; the loop over the instructions. -/
import Derived.Test.YtljdnadejmkaeaaLive15
namespace Go.Proofs.Ytljdnadejmkaeaa
open Go.RowKit

/-- the spans being made, and what the closure holds -/
def SpSt (w : World) (base g c n GT GN GO : Nat) (tr : Array Value) (o : List (Int × Int)) : Prop :=
  Own w base 78 (some ⟨g, 0, none⟩) c o ∧ Blk w GT 72 tr ∧ Blk w GN 3 #[.int .i64 n] ∧ Blk w GO 74 #[.slice (some ⟨g, 0, none⟩) n c]
section
variable {w w' : World} {base g c n GT GN GO : Nat} {tr : Array Value} {o : List (Int × Int)}
theorem SpSt.fresh (h : SpSt w base g c n GT GN GO tr o) (hb : Below w.heap.size w w') : SpSt w' base g c n GT GN GO tr o := ⟨h.1.fresh hb, h.2.1.fresh hb, h.2.2.1.fresh hb, h.2.2.2.fresh hb⟩
theorem SpSt.alloc (h : SpSt w base g c n GT GN GO tr o) (x : Obj) : SpSt (w.alloc x) base g c n GT GN GO tr o := ⟨h.1.alloc _, h.2.1.alloc _, h.2.2.1.alloc _, h.2.2.2.alloc _⟩
theorem SpSt.drew (h : SpSt w base g c n GT GN GO tr o) : SpSt w.drew base g c n GT GN GO tr o := h
theorem SpSt.ne (h : SpSt w base g c n GT GN GO tr o) : (some g ≠ some GT) ∧ (some g ≠ some GN) ∧ (some g ≠ some GO) := ⟨own_ne_ty h.1 h.2.1 (by decide), own_ne_ty h.1 h.2.2.1 (by decide), own_ne_ty h.1 h.2.2.2 (by decide)⟩
theorem SpSt.grown {o' : List (Int × Int)} (h : SpSt w base g c n GT GN GO tr o) (hg : w.grownBy w' (some g)) (ho : Own w' base 78 (some ⟨g, 0, none⟩) c o') : SpSt w' base g c n GT GN GO tr o' :=
  ⟨ho, h.2.1.grown hg h.ne.1, h.2.2.1.grown hg h.ne.2.1, h.2.2.2.grown hg h.ne.2.2⟩
theorem SpSt.base_le (h : SpSt w base g c n GT GN GO tr o) : base ≤ g ∧ g < w.heap.size := h.1.lt g rfl
theorem SpSt.below {o' : List (Int × Int)} (h : SpSt w base g c n GT GN GO tr o') (hg : w.grownBy w' (some g)) (hb : base ≤ w.heap.size) : Below base w w' :=
  (Below.refl _ _).grown hg hb (fun k hk => by injection hk with hk; subst hk; exact h.base_le.1)
end

theorem ask_st (base g c n ln lc GT GN GO bs : Nat) (LA : Option Addr) (at_ loop : Int) (v0 v1 v3 v4 v5 v6 v7 v8 v9 v10 v11 v12 : Value) (o : List (Int × Int)) (l : List Int) (w : World)
    (h : SpSt w base g c n GT GN GO #[v0, v1, .int .i64 loop, v3, v4, v5, v6, v7, v8, v9, v10, v11, v12] o) (hon : o.length = n) (hL : Own w bs 3 LA lc l) (hok : ∀ z ∈ l, Flat.ok z) (hln : l.length = ln) (hb : base ≤ w.heap.size) (hl : ln ≤ 9223372036854775807) (hv : ∀ v ∈ l, 0 ≤ v ∧ v < n) :
    Calls Try.prog 66 #[.int .i64 at_, .slice LA ln lc, .pointer (some ⟨GT, 0, none⟩), .pointer (some ⟨GN, 0, none⟩), .pointer (some ⟨GO, 0, none⟩)] w fun e w' => e = .returned (.tuple #[]) ∧ SpSt w' base g c n GT GN GO #[v0, v1, .int .i64 loop, v3, v4, v5, v6, v7, v8, v9, v10, v11, v12] (Liv.runE (Liv.evs n loop at_ l) o) ∧ Below base w w' ∧ w.grownBy w' (some g) := by
  have hne : rowOf LA ≠ some g := own_own_ty h.1 hL (by decide) g rfl
  refine (ask_any w.heap.size base g c n ln lc GT GN GO LA at_ loop v0 v1 v3 v4 v5 v6 v7 v8 v9 v10 v11 v12 o l w h.2.1 h.2.2.1 h.2.2.2 h.1 hon (hL.at_ hok) hln (Nat.le_refl _) hne hl hv).mono ?_
  rintro e w' ⟨rfl, ho, hg⟩
  exact ⟨rfl, h.grown hg ho, h.below hg hb, hg⟩

namespace Liv
/-- the events of the first k instructions -/
def evK (ins : List TI) (exits : List Ex) (loop : Int) (k : Nat) : List (Int × Int) := (ins.zipIdx.take k).flatMap fun p => insEvs ins.length loop exits p.2 p.1
theorem evK_snoc {ins : List TI} {exits : List Ex} {loop : Int} {k : Nat} {x : TI} (h : ins[k]? = some x) : evK ins exits loop (k + 1) = evK ins exits loop k ++ evs ins.length loop k (asks x) ++ evs ins.length loop k (exitVals exits x.exit) := by
  have hz : ins.zipIdx[k]? = some (x, k) := by rw [List.getElem?_zipIdx, h]; simp
  unfold evK
  rw [fm_snoc _ _ _ _ hz, List.append_assoc]; rfl
theorem evK_all (ins : List TI) (exits : List Ex) (loop : Int) : evK ins exits loop ins.length = ins.zipIdx.flatMap (fun p => insEvs ins.length loop exits p.2 p.1) := by
  unfold evK; rw [List.take_of_length_le (by rw [List.length_zipIdx]; exact Nat.le_refl _)]
end Liv

end Go.Proofs.Ytljdnadejmkaeaa
