/- KT: Copy. -/
import Derived.Test.YtdlcooplllimeaaGreatDoorKT1
import Derived.Laws.CopyRow
import Derived.Deep.RegionLaw
import Derived.Deep.OwnRows
/- copy into a block that is known whole, whatever the element's size; make of a variable size. No program is named here. -/
namespace Go.Proofs.YtdlcooplllimeaaGreatDoor
open Go.RowKit

section
variable {α : Type} [Flat α]
theorem flat_drop (l : List α) (k : Nat) : (flat l).drop (k * Flat.sz α) = flat (l.drop k) := by
  by_cases hk : k ≤ l.length
  · have h := flat_append (l.take k) (l.drop k)
    rw [List.take_append_drop] at h
    rw [h, List.drop_left' (by rw [flat_length, List.length_take, Nat.min_eq_left hk])]
  · rw [List.drop_eq_nil_of_le (by omega : l.length ≤ k), flat_nil, List.drop_eq_nil_of_le]
    rw [flat_length]
    exact Nat.mul_le_mul_right _ (by omega)

theorem run_copy_blk {P : Program} (w : World) (dT sT ty e : TypeId) (g k dLen dCap : Nat) (ad : Addr) (m d : Nat) (l r : List α) (t : TypeId) (hu : P.underlying dT = some (.slice e)) (i : TypeInfo) (hi : P.info? e = some i) (hsize : i.size = Flat.sz α)
    (hg : Blk w g t (flat l).toArray) (hn : r.length = Nat.min m dLen) (hsrc : ∀ j u, (flat r)[j]? = some u → w.cell? (ad.add j) = some u) (hfit : k + r.length ≤ l.length) (hone : ∀ x : α, ∀ u ∈ Flat.cells x, u.oneCell' = true) :
    (Builtin.copy_ #[dT, sT] ty #[.slice (some ⟨g, k * Flat.sz α, none⟩) dLen dCap, .slice (some ad) m d]).run P w = .ok (goInt r.length) (w.setRow g (flat (l.take k ++ r ++ l.drop (k + r.length))).toArray) := by
  have hl := run_loadCells_list (P := P) w ad (flat r) hsrc
  rw [flat_length] at hl
  have hfit2 : k * Flat.sz α + r.length * Flat.sz α ≤ l.length * Flat.sz α := by rw [← Nat.add_mul]; exact Nat.mul_le_mul_right _ hfit
  have hst := run_storeCells_at P g (k * Flat.sz α) t (flat r) 0 (flat l).toArray w hg (by rw [flat_length]; simpa [flat_length] using hfit2) (fun u hu => by
    unfold flat at hu
    obtain ⟨y, -, hy⟩ := List.mem_flatMap.1 hu
    exact hone y u hy)
  have hrow : (flat l).toArray.toList.take (k * Flat.sz α + 0) ++ flat r ++ (flat l).toArray.toList.drop (k * Flat.sz α + 0 + (flat r).length) = flat (l.take k ++ r ++ l.drop (k + r.length)) := by
    rw [Nat.add_zero, List.toList_toArray, flat_take l k (by omega), flat_length, ← Nat.add_mul, flat_drop, flat_append, flat_append]
  rw [hrow] at hst
  simp [Builtin.copy_, run_underlying hu, Builtin.lenOf, Builtin.firstCells, sizeOf, typeInfo, hi, hsize, ← hn, hl, hst]

theorem wpList_copy_blk {P : Program} {w : World} {ops : Array Oper} {rest : List Oper} {o : Oper} {a : Act} {Q : Exit → Act → World → Prop} (hgd : o.guard = none) (d s : Operand) (dT sT : TypeId)
    (ho : o.op = .call { callee := .builtin .copy, args := #[d, s], argTypes := #[dT, sT] }) (e : TypeId) (hu : P.underlying dT = some (.slice e)) (i : TypeInfo) (hi : P.info? e = some i) (hsize : i.size = Flat.sz α)
    (g k : Nat) {dLen dCap : Nat} {ad : Addr} {m c : Nat} (l r : List α) (t : TypeId) (hd : a.eval d = .slice (some ⟨g, k * Flat.sz α, none⟩) dLen dCap) (hs : a.eval s = .slice (some ad) m c)
    (hg : Blk w g t (flat l).toArray) (hn : r.length = Nat.min m dLen) (hsrc : ∀ j u, (flat r)[j]? = some u → w.cell? (ad.add j) = some u) (hfit : k + r.length ≤ l.length) (hone : ∀ x : α, ∀ u ∈ Flat.cells x, u.oneCell' = true)
    (z : Nat) (hz : r.length = z) (h : ∀ w', Blk w' g t (flat (l.take k ++ r ++ l.drop (k + r.length))).toArray → w.grownBy w' (some g) → wpList P ops Q rest (a.put o.dst (goInt z)) w') : wpList P ops Q (o :: rest) a w := by
  refine wpList_plain hgd fun K hK => ?_
  have hrun := run_copy_blk (P := P) w dT sT o.type e g k dLen dCap ad m c l r t hu i hi hsize hg hn hsrc hfit hone
  subst hz
  unfold Oper.wp
  simp [execOp, ho, resolve, invoke, builtin, hd, hs, hrun, Result.andThen]
  have hK2 := h (w.setRow g (flat (l.take k ++ r ++ l.drop (k + r.length))).toArray) hg.setRow ⟨rfl, rfl, rfl, by simp [World.setRow], fun j hj hne => setRow_other w g j _ (fun e => hne (by rw [e]))⟩
  exact hK _ _ (by simpa using hK2)

theorem step_copy_blk {P : Program} {w : World} {ops : Array Oper} {o : Oper} {a : Act} {K : Act → World → Prop} {Q : Exit → Act → World → Prop} {E : Prop} (hgd : o.guard = none) (d s : Operand) (dT sT : TypeId)
    (ho : o.op = .call { callee := .builtin .copy, args := #[d, s], argTypes := #[dT, sT] }) (e : TypeId) (hu : P.underlying dT = some (.slice e)) (i : TypeInfo) (hi : P.info? e = some i) (hsize : i.size = Flat.sz α)
    (g k : Nat) {dLen dCap : Nat} {ad : Addr} {m c : Nat} (l r : List α) (t : TypeId) (hd : a.eval d = .slice (some ⟨g, k * Flat.sz α, none⟩) dLen dCap) (hs : a.eval s = .slice (some ad) m c)
    (hg : Blk w g t (flat l).toArray) (hn : r.length = Nat.min m dLen) (hsrc : ∀ j u, (flat r)[j]? = some u → w.cell? (ad.add j) = some u) (hfit : k + r.length ≤ l.length) (hone : ∀ x : α, ∀ u ∈ Flat.cells x, u.oneCell' = true) (z : Nat) (hz : r.length = z)
    (h : ∀ w', Blk w' g t (flat (l.take k ++ r ++ l.drop (k + r.length))).toArray → w.grownBy w' (some g) → K (a.put o.dst (goInt z)) w') :
    if Region.wanted o (yielded ops a.tmps) = true then Oper.wp P o a w K Q else E := by
  have hw : Region.wanted o (yielded ops a.tmps) = true := by simp [Region.wanted, hgd]
  rw [if_pos hw]
  have hrun := run_copy_blk (P := P) w dT sT o.type e g k dLen dCap ad m c l r t hu i hi hsize hg hn hsrc hfit hone
  subst hz
  unfold Oper.wp execOp
  simp only [ho, resolve, invoke, builtin, Sem.run_bind, Sem.run_pure, Result.andThen_ok, List.map_toArray, List.map_cons, List.map_nil, hd, hs, hrun]
  exact h (w.setRow g (flat (l.take k ++ r ++ l.drop (k + r.length))).toArray) hg.setRow ⟨rfl, rfl, rfl, by simp [World.setRow], fun j hj hne => setRow_other w g j _ (fun e => hne (by rw [e]))⟩

/-- a made row's cells -/
theorem flat_replicate_made (z : α) (n : Nat) (hs : 0 < Flat.sz α) (zs : Array Value) (hz : zs.toList = Flat.cells z) : madeCells zs (n * Flat.sz α) = (flat (List.replicate n z)).toArray := by
  have hzs : zs.size = Flat.sz α := by rw [← Array.length_toList, hz, Flat.len]
  apply Array.ext'
  rw [List.toList_toArray]
  apply List.ext_getElem
  · rw [flat_length, List.length_replicate]; simp [madeCells]
  · intro i h1 h2
    have hi : i < n * Flat.sz α := by simpa [madeCells] using h1
    have hq : i / Flat.sz α < n := by rw [Nat.div_lt_iff_lt_mul hs]; exact hi
    have hm := Nat.mod_lt i hs
    have hg := flat_get (List.replicate n z) (i / Flat.sz α) (i % Flat.sz α) z (by rw [List.getElem?_replicate, if_pos hq]) hm
    rw [Nat.div_add_mod' i _] at hg
    have h3 : (flat (List.replicate n z))[i]? = some (flat (List.replicate n z))[i] := List.getElem?_eq_getElem h2
    rw [h3] at hg
    have : (madeCells zs (n * Flat.sz α)).toList[i] = zs[i % zs.size]! := by simp [madeCells]
    rw [this, hzs]
    have h4 : zs[i % Flat.sz α]! = zs[i % Flat.sz α]'(by omega) := getElem!_pos zs _ (by omega)
    rw [h4]
    have h5 : zs[i % Flat.sz α]? = (Flat.cells z)[i % Flat.sz α]? := by rw [← hz]; simp
    rw [← h5, Array.getElem?_eq_getElem (by omega)] at hg
    exact (Option.some.inj hg).symm
/-- make of a variable size, at whatever flat element -/
theorem run_make_flat {P : Program} (t e : TypeId) (z : Value) (bytes : Nat) (ht : P.underlying t = some (.slice e)) (hinfo : (P.info? e).map (fun i => (i.zero, i.size, i.bytes)) = some (some z, Flat.sz α, bytes)) (z' : α) (hz : z.cells.toList = Flat.cells z') (hs : 0 < Flat.sz α)
    (kl kc : IntKind) (n : Nat) (hbytes : bytes * n ≤ 281474976710656) (h63 : n ≤ 9223372036854775807) (w : World) :
    (Instr.makeSlice t (.int kl (n : Int)) (.int kc (n : Int))).run P w = .ok (.slice (some ⟨w.heap.size, 0, none⟩) n n) (w.alloc (.cells (flat (List.replicate n z')).toArray e)) := by
  obtain ⟨i, hi, hzz⟩ := Option.map_eq_some_iff.1 hinfo
  simp only [Prod.mk.injEq] at hzz
  obtain ⟨hz0, hsz, hb⟩ := hzz
  have hb' : (i.bytes : Int) * (n : Int) ≤ 281474976710656 := by
    have h : ((i.bytes * n : Nat) : Int) ≤ 281474976710656 := by rw [hb]; omega
    rwa [Int.natCast_mul] at h
  have hr := run_make (P := P) w t e i z ht hi hz0 kl kc n n (by omega) (Int.le_refl _) hb' (by omega)
  simp only [Int.toNat_natCast, hsz] at hr
  rw [← flat_replicate_made z' n hs z.cells hz]
  exact hr
end

end Go.Proofs.YtdlcooplllimeaaGreatDoor
