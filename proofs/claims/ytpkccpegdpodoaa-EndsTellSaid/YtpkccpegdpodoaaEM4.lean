/-
  Who is due, who stays for them and the rounds of ends are as the document says: any graph, any things. No condition beyond the form's own.
-/
import Derived.Test.YtpkccpegdpodoaaEM1
import Derived.Test.YtpkccpegdpodoaaEM2
import Derived.Test.YtpkccpegdpodoaaEM3
import Derived.BigQuiet
import Derived.Test.YtpkccpegdpodoaaRows
import Derived.ProofKit
import Derived.OpenShut
import Derived.JoinedCond
import Derived.Deep.CondSized
/- ends.Rounds: the rounds as they lie, what each number reaches (a map), the closures. -/
namespace Go.Proofs.Ytpkccpegdpodoaa
open Go.RowKit Go.Maps

attribute [local go_sem ↓] Go.wp_at_zero Go.wp_at_succ

/-! ### rounds as they lie -/
def Rws (w : World) (base : Nat) (OA : Option Addr) (oc : Nat) (hs : List SlR) : Prop := Own w base 47 OA oc hs ∧ ∀ y ∈ hs, Own w base 3 y.A y.c y.l ∧ ∀ k ∈ y.l, I64 k
section
variable {w w' : World} {base : Nat} {OA OA' : Option Addr} {oc oc' : Nat} {hs : List SlR}
theorem Rws.nil_ : Rws w base none 0 [] := ⟨Own.nil_, fun y h => by simp at h⟩
theorem Rws.fresh (h : Rws w base OA oc hs) (hb : Below w.heap.size w w') : Rws w' base OA oc hs := ⟨h.1.fresh hb, fun y hy => ⟨(h.2 y hy).1.fresh hb, (h.2 y hy).2⟩⟩
theorem Rws.base_le {b : Nat} (h : Rws w base OA oc hs) (hb : b ≤ base) : Rws w b OA oc hs := ⟨h.1.base_le hb, fun y hy => ⟨(h.2 y hy).1.base_le hb, (h.2 y hy).2⟩⟩
theorem Rws.push {y : SlR} (h : Rws w base OA oc hs) (hrow : Own w' base 47 OA' oc' (hs ++ [y])) (hg : w.grownBy w' (rowOf OA)) (hy : Own w base 3 y.A y.c y.l) (hyk : ∀ k ∈ y.l, I64 k) : Rws w' base OA' oc' (hs ++ [y]) := by
  have grow : ∀ {z : SlR}, Own w base 3 z.A z.c z.l → Own w' base 3 z.A z.c z.l := fun {z} hz => hz.grown hg (fun g hg' e => own_own_ty h.1 hz (by decide) g e hg')
  refine ⟨hrow, fun z hz => ?_⟩
  rcases List.mem_append.1 hz with hz | hz
  · exact ⟨grow (h.2 z hz).1, (h.2 z hz).2⟩
  · rw [List.mem_singleton] at hz; subst hz; exact ⟨grow hy, hyk⟩
theorem Rws.setL (h : Rws w base OA oc hs) {L : Nat} {cs : Array Value} (hL : Blk w L 47 cs) (hne : rowOf OA ≠ some L) (i : Nat) (u : Value) : Rws (w.setCell ⟨L, i, none⟩ u) base OA oc hs :=
  ⟨h.1.setCell _ _ hne, fun y hy => ⟨(h.2 y hy).1.setCell _ _ (own_ne_ty (h.2 y hy).1 hL (by decide)), (h.2 y hy).2⟩⟩
theorem Rws.at_ (h : Rws w base OA oc hs) : At w w.heap.size OA (hs.map SlR.l) := by
  intro i x hx
  rw [List.getElem?_map] at hx
  cases hs' : hs[i]? with
  | none => rw [hs'] at hx; cases hx
  | some y =>
    rw [hs'] at hx
    injection hx with hx
    subst hx
    obtain ⟨b, o, cs, hA, hb, hc, hr⟩ := h.1.at_ (fun _ _ => trivial) i y hs'
    have hy := h.2 y (List.mem_of_getElem? hs')
    have hcap := hy.1.le_cap
    refine ⟨b, o, cs, hA, hb, hc, y.A, y.c, hr.1, hcap.1, hcap.2, fun e => ?_, hy.1.at_ (fun k hk => hy.2 k hk)⟩
    rcases hy.1.2 with ⟨h1, -⟩ | ⟨g', cap, cur, hv, -⟩
    · injection h1
    · rw [e] at hv; injection hv with hv; cases hv
end

/-! ### what each number reaches: a map -/
def heldElem (v : Value) : Option (DataW Value × List MemPlace) := some (.held v, [])
theorem heldElem_inv {v u : Value} {ps : List MemPlace} (h : heldElem v = some (.held u, ps)) : v = u := by
  unfold heldElem at h
  simp only [Option.some.injEq, Prod.mk.injEq, DataW.held.injEq] at h
  exact h.1
def Had (w : World) (b n : Nat) (D : DataW Value) : Prop := w.ownsMap Try.prog 3 heldElem b n D
section
variable {w w' : World} {b n : Nat} {D : DataW Value}
theorem Had.lt (h : Had w b n D) : b < w.heap.size := World.ownsMap.lt h
theorem Had.fresh (h : Had w b n D) (hb : Below w.heap.size w w') : Had w' b n D := by
  have hlt := h.lt
  obtain ⟨es, clock, hh, r⟩ := h
  exact ⟨es, clock, (hb.block b hlt).trans hh, r⟩
theorem Had.drewN (h : Had w b n D) (k : Nat) : Had (w.drewN k) b n D := h
theorem Had.own_ne {α : Type} [Flat α] {base : Nat} {T : TypeId} {A : Option Addr} {c : Nat} {l : List α} (h : Had w b n D) (ho : Own w base T A c l) : rowOf A ≠ some b := by
  intro e
  obtain ⟨es, clock, hh, -⟩ := h
  rcases ho.2 with ⟨h1, -⟩ | ⟨g', cap, cur, hv, -, hg, -⟩
  · injection h1 with h1; subst h1; cases e
  · injection hv with hv
    subst hv
    have e : some g' = some b := e
    injection e with e
    subst e
    rw [hh] at hg; cases hg
theorem Had.blk_ne {g : Nat} {t : TypeId} {cs : Array Value} (h : Had w b n D) (hg : Blk w g t cs) : g ≠ b := by
  intro e
  obtain ⟨es, clock, hh, -⟩ := h
  subst e
  unfold Blk at hg
  rw [hh] at hg; cases hg
theorem Had.kept {row : Option Nat} (h : Had w b n D) (hg : w.grownBy w' row) (hne : some b ≠ row) : Had w' b n D := World.ownsMap.kept h hg hne
theorem Had.far (h : Had w b n D) {p : Addr} (hp : b ≠ p.block) (u : Value) : Had (w.setCell p u) b n D := World.ownsMap.setCell h hp u
end
/-- the numbers of l lie in the map, each with what it reaches -/
def HadOk (w : World) (base N : Nat) (D : DataW Value) (R : Int → List Bool) (l : List Int) : Prop :=
  ∀ x ∈ l, ∃ S c, (∀ z, D.atKey (.int .i64 x) z = .held (.slice S N c)) ∧ Own w base 4 S c (R x)
section
variable {w w' : World} {base N : Nat} {D : DataW Value} {R : Int → List Bool} {l : List Int}
theorem HadOk.own (h : HadOk w base N D R l) (hk : ∀ {S : Option Addr} {c : Nat} {r : List Bool}, Own w base 4 S c r → Own w' base 4 S c r) : HadOk w' base N D R l := fun x hx => by
  obtain ⟨S, c, h1, h2⟩ := h x hx
  exact ⟨S, c, h1, hk h2⟩
theorem HadOk.fresh (h : HadOk w base N D R l) (hb : Below w.heap.size w w') : HadOk w' base N D R l := h.own fun o => o.fresh hb
theorem HadOk.sub {r : List Int} (h : HadOk w base N D R l) (hr : ∀ x ∈ r, x ∈ l) : HadOk w base N D R r := fun x hx => h x (hr x hx)
theorem HadOk.put {S : Option Addr} {c : Nat} {x : Int} (h : HadOk w base N D R l) (hD : IsMap D) (ho : Own w base 4 S c (R x)) : HadOk w base N (D.put (.int .i64 x) (.held (.slice S N c))) R (l ++ [x]) := by
  intro y hy
  by_cases e : y = x
  · subst e
    exact ⟨S, c, fun z => atKey_put_same (k := .int .i64 y) hD (show WideAt.IsKeyLit (.int .i64 y) from trivial) _ z, ho⟩
  · rcases List.mem_append.1 hy with hy | hy
    · obtain ⟨T, d, h1, h2⟩ := h y hy
      exact ⟨T, d, fun z => by rw [atKey_put_other (fun e2 => e (by injection e2))]; exact h1 z, h2⟩
    · rw [List.mem_singleton] at hy; exact absurd hy e
end
theorem Had.isMap {w : World} {b n : Nat} {D : DataW Value} (h : Had w b n D) : IsMap D := World.ownsMap.isMap h
theorem zeroBools (w : World) : (zeroValue 60).run Try.prog w = .ok (.slice none 0 0) w := by kernel_rfl
theorem Had.look {w : World} {b n N : Nat} {D : DataW Value} {x : Int} {S : Option Addr} {c : Nat} (h : Had w b n D) (hx : I64 x) (hat : ∀ z, D.atKey (.int .i64 x) z = .held (.slice S N c)) :
    (Instr.lookup 200 (.map (some b)) (.int .i64 x) false).run Try.prog w = .ok (.slice S N c) w := by
  obtain ⟨v, ps, h1, h2⟩ := World.ownsMap.lookup h keyInt Try.underlying200 (zeroBools w) rfl (keyOf_int_mk Try.underlying3 (WalkArith.wf_i64 hx))
  rw [hat] at h2
  have e := heldElem_inv h2
  rw [e] at h1
  exact h1

/-! ### the closures -/
set_option maxHeartbeats 800000 in
set_option maxRecDepth 100000 in
theorem rd11_any (w : World) (base V M mb n N : Nat) (D : DataW Value) (R : Int → List Bool) (l : List Int) (x k : Int) (hV : Blk w V 3 #[.int .i64 x]) (hM : Blk w M 200 #[.map (some mb)]) (hD : Had w mb n D)
    (hok : HadOk w base N D R l) (hR : ∀ y, (R y).length = N) (hk : k ∈ l) (hki : I64 k) (hx : ∃ n : Nat, x = (n : Int) ∧ n < N) :
    Calls Try.prog 151 #[.int .i64 k, .pointer (some ⟨V, 0, none⟩), .pointer (some ⟨M, 0, none⟩)] w fun e w' => e = .returned (.bool ((k != x) && (R k).getD x.toNat false)) ∧ w = w' := by
  obtain ⟨m, rfl, hm⟩ := hx
  obtain ⟨S, c, hat, ho⟩ := hok k hk
  have hrun := hD.look hki hat
  obtain ⟨b, hb⟩ : ∃ b, (R k)[m]? = some b := ⟨_, List.getElem?_eq_getElem (by rw [hR]; exact hm)⟩
  have hg : (R k).getD ((m : Int)).toNat false = b := by rw [Int.toNat_natCast, List.getD_eq_getElem?_getD, hb]; rfl
  rw [hg]
  obtain ⟨g, rfl, _, _⟩ := ho.some_ (by rw [hR]; omega)
  have c0 := ho.cell_bool hb
  have v0 := hV.cell 0 (v := .int .i64 (m : Int)) rfl
  have m0 := hM.cell 0 (v := .map (some mb)) rfl
  have n0 : (0 : Int) ≤ (m : Int) := by omega
  have n1 : (m : Int) < (N : Int) := by omega
  clear hV hM hD hok hR ho hb hg hat hk
  by_cases hq : k = (m : Int)
  · have d0 : (k != (m : Int)) = false := by simp [hq]
    rw [d0, Bool.false_and]
    have HX := Lib.hid hq; clear hq
    go_enter Try.func151, Try.ntmps151
    go_wp2_with fail
    go_ret
    exact ⟨rfl, rfl⟩
  · have d0 : (k != (m : Int)) = true := by simpa using hq
    rw [d0, Bool.true_and]
    have HX := Lib.hid hq; clear hq
    go_enter Try.func151, Try.ntmps151
    go_wp2_with fail
    go_ret
    exact ⟨rfl, rfl⟩

set_option maxHeartbeats 800000 in
set_option maxRecDepth 100000 in
theorem rd1_any (w : World) (base L M mb n N : Nat) (D : DataW Value) (R : Int → List Bool) (A : Option Addr) (c q : Nat) (l : List Int) (x : Int) (hq : l.length = q) (hL : Blk w L 47 #[.slice A q c]) (hM : Blk w M 200 #[.map (some mb)]) (hD : Had w mb n D)
    (hl : Own w base 3 A c l) (hli : ∀ y ∈ l, I64 y) (hok : HadOk w base N D R l) (hR : ∀ y, (R y).length = N) (hq2 : q ≤ 100) (hN : N ≤ 100) (hx : ∃ n : Nat, x = (n : Int) ∧ n < N) :
    Calls Try.prog 149 #[.int .i64 x, .pointer (some ⟨L, 0, none⟩), .pointer (some ⟨M, 0, none⟩)] w fun e w' => e = .returned (.bool (hadB R l x)) ∧ Below w.heap.size w w' := by
  have hLlt := hL.lt
  have heg : ∀ args w, (callFunc 151 args).run Try.prog w = .ok (.enter 151 args) w := fun _ _ => by kernel_rfl
  have l0 := hL.cell 0 (v := .slice A q c) rfl
  have hxi : I64 x := by obtain ⟨m, rfl, hm⟩ := hx; exact ⟨by omega, by omega⟩
  have hcall := containsFuncE_any A c w.heap.size 151 q #[.pointer (some ⟨w.heap.size, 0, none⟩), .pointer (some ⟨M, 0, none⟩)] (fun k => (k != x) && (R k).getD x.toNat false) l (w.alloc (.cells #[.int .i64 x] 3)) hq ((hl.at_ hli).alloc (Nat.le_refl _) _) (by simp) (by omega) heg (fun U k hk hki hg => by
    have hbl : Below w.heap.size w U := ((Below.refl _ _).alloc (Nat.le_refl _) _).grown hg (by simp) (fun g hg => by cases hg)
    refine (rd11_any U base w.heap.size M mb n N D R l x k ((Blk.new w _ _).grown hg (by simp)) (hM.fresh hbl) (hD.fresh hbl) (hok.fresh hbl) hR hk hki hx).mono ?_
    rintro e U' ⟨rfl, rfl⟩
    exact ⟨rfl, Below.refl _ _⟩)
  have HC := Lib.hid hcall; clear hcall heg hL hM hD hl hli hok hR hx
  go_enter Try.func149, Try.ntmps149
  go_wp2_with fail
  refine HC.out.mono ?_
  rintro e w1 ⟨rfl, hb⟩
  go_wp2_with fail
  go_ret
  exact ⟨rfl, ((Below.refl _ _).alloc (Nat.le_refl _) _).trans (hb.mono (by simp))⟩

set_option maxHeartbeats 800000 in
set_option maxRecDepth 100000 in
theorem rd2_any (w : World) (base K : Nat) (A : Option Addr) (c q : Nat) (l : List Int) (x : Int) (hq : l.length = q) (hK : Blk w K 47 #[.slice A q c]) (hl : Own w base 3 A c l) (hli : ∀ y ∈ l, I64 y) (hq2 : q ≤ 100) :
    Calls Try.prog 152 #[.int .i64 x, .pointer (some ⟨K, 0, none⟩)] w fun e w' => e = .returned (.bool (l.contains x)) ∧ w = w' := by
  have l0 := hK.cell 0 (v := .slice A q c) rfl
  have hc := containsIntE_any A c w.heap.size q l x w hq (hl.at_ hli) (by omega)
  obtain ⟨b, hb⟩ : ∃ b, l.contains x = b := ⟨_, rfl⟩
  rw [hb] at hc ⊢
  have HC := Lib.hid hc; clear hK hl hli hq hc hb
  go_enter Try.func152, Try.ntmps152
  go_wp2_with fail
  refine HC.out.mono ?_
  rintro e w1 ⟨rfl, rfl⟩
  go_wp2_with fail
  go_ret
  exact ⟨rfl, rfl⟩

end Go.Proofs.Ytpkccpegdpodoaa

/- ends.Rounds. -/
namespace Go.Proofs.Ytpkccpegdpodoaa
open Go.RowKit Go.Maps

attribute [local go_sem ↓] Go.wp_at_zero Go.wp_at_succ

/-- a map's entry written, in a region that draws -/
theorem step_put {H : Type} {P : Program} {w : World} {ops : Array Oper} {o : Oper} {a : Act} {Kp : Act → World → Prop} {Q : Exit → Act → World → Prop} {E : Prop} (hgd : o.guard = none) (m x v : Operand) (t : TypeId) (hop : o.op = Op.mapUpdate t m x v)
    (k e : TypeId) (K : Keyed P k) (ht : P.underlying t = some (.map k e)) (R : Value → Option (DataW H × List MemPlace)) (b n : Nat) (D : DataW H)
    (hm : a.eval m = .map (some b)) (hown : w.ownsMap P k R b n D) (hn : n < maxLen) (key val : Value) (kl : Lit) (hx : a.eval x = key) (hv : a.eval v = val) (hkey : keyOf P k key = some kl)
    (d : DataW H) (ps : List MemPlace) (hval : R val = some (d, ps))
    (hK : ∀ w', w'.ownsMap P k R b (n + 1) (D.put kl d) → w.grownBy w' (some b) → Kp (a.put o.dst undef) w') :
    if Region.wanted o (yielded ops a.tmps) = true then Oper.wp P o a w Kp Q else E := by
  have hw : Region.wanted o (yielded ops a.tmps) = true := by simp [Region.wanted, hgd]
  rw [if_pos hw]
  obtain ⟨w', hrun, r1, r2⟩ := hown.update K ht hn hkey hval
  unfold Oper.wp
  simp [execOp, hop, hm, hx, hv, hrun, Result.andThen]
  exact hK w' r1 r2

noncomputable def rE (has : List (List Int)) (x : Int) : List Bool := fromL has (has.getD x.toNat []) []
theorem rE_len (has : List (List Int)) (x : Int) : (rE has x).length = has.length := by unfold rE; rw [fromL_length]
def ERPost (has : List (List Int)) (roots l : List Int) (w : World) (e : Ending) (w' : World) : Prop :=
  Below w.heap.size w w' ∧ ((endsE has roots l = 0 ∧ ∃ OA oc hs, hs.map SlR.l = roundsI (rE has) (duI (fromL has roots []) l) ∧ e = .returned (.tuple #[.slice OA hs.length oc, .int .i64 0]) ∧ Rws w' w.heap.size OA oc hs) ∨
    (endsE has roots l ≠ 0 ∧ e = .returned (.tuple #[.slice none 0 0, .int .i64 (endsE has roots l)])))

/-- where the rounds stand: L left's cell, M the map's, mb the map -/
structure RdS (wb : Nat) (L M mb q N : Nat) (D : DataW Value) (has : List (List Int)) (all : List (List Int)) (wr : World) (l : List Int) (A : Option Addr) (c : Nat) (OA : Option Addr) (oc : Nat) (hs : List SlR) : Prop where
  had : Had wr mb q D
  ok : HadOk wr wb N D (rE has) l
  bL : Blk wr L 47 #[.slice A l.length c]
  bM : Blk wr M 200 #[.map (some mb)]
  own : Own wr wb 3 A c l
  src : RightL N l
  rws : Rws wr wb OA oc hs
  ne : rowOf OA ≠ some L
  sum : hs.map SlR.l ++ roundsI (rE has) l = all
  len : hs.length + l.length ≤ 100
section
variable {wb L M mb q N : Nat} {D : DataW Value} {has all : List (List Int)} {wr w' : World} {l : List Int} {A : Option Addr} {c : Nat} {OA : Option Addr} {oc : Nat} {hs : List SlR}
theorem RdS.fresh (h : RdS wb L M mb q N D has all wr l A c OA oc hs) (hb : Below wr.heap.size wr w') : RdS wb L M mb q N D has all w' l A c OA oc hs :=
  ⟨h.had.fresh hb, h.ok.fresh hb, h.bL.fresh hb, h.bM.fresh hb, h.own.fresh hb, h.src, h.rws.fresh hb, h.ne, h.sum, h.len⟩
theorem RdS.i64 (h : RdS wb L M mb q N D has all wr l A c OA oc hs) (hN : N ≤ 100) : ∀ x ∈ l, I64 x := fun x hx => by
  obtain ⟨n, rfl, hn⟩ := h.src x hx
  exact ⟨by omega, by omega⟩
/-- a round's end: what is now is laid behind, what is next is left -/
theorem RdS.next {NA A2 : Option Addr} {nc c2 : Nat} {OA2 : Option Addr} {oc2 : Nat} {w2 w3 : World} (h : RdS wb L M mb q N D has all wr l A c OA oc hs) (hne : l ≠ []) (hN : N ≤ 100)
    (hrow : Own w2 wb 47 OA2 oc2 (hs ++ [⟨NA, nc, nowE (rE has) l⟩])) (hg : wr.grownBy w2 (rowOf OA)) (hat : rowOf OA2 ≠ some L) (hy : Own wr wb 3 NA nc (nowE (rE has) l))
    (hb : Below w2.heap.size w2 w3) (ho : Own w3 wb 3 A2 c2 (nextE (rE has) l)) :
    RdS wb L M mb q N D has all (w3.setCell ⟨L, 0, none⟩ (.slice A2 (nextE (rE has) l).length c2)) (nextE (rE has) l) A2 c2 OA2 oc2 (hs ++ [⟨NA, nc, nowE (rE has) l⟩]) := by
  have hi := h.i64 hN
  have hL2 : Blk w2 L 47 #[.slice A l.length c] := h.bL.grown hg h.ne
  have hL3 := hL2.fresh hb
  have hM3 : Blk w3 M 200 #[.map (some mb)] := (h.bM.grown hg (own_ne_ty h.rws.1 h.bM (by decide))).fresh hb
  have hD3 : Had w3 mb q D := (h.had.kept hg (fun e => h.had.own_ne h.rws.1 e.symm)).fresh hb
  have hR3 := (h.rws.push hrow hg hy (fun k hk => hi k (nowE_sub _ _ k hk))).fresh hb
  have hlt := nextE_lt (R := rE has) hne
  refine ⟨hD3.far (fun e => hD3.blk_ne hL3 e.symm) _, ?_, ?_, hM3.far (fun e => ?_) _, ho.setCell _ _ (own_ne_ty ho hL3 (by decide)), fun x hx => h.src x (nextE_sub _ _ x hx), hR3.setL hL3 hat 0 _, hat, ?_, ?_⟩
  · exact (h.ok.sub (nextE_sub _ _)).own (fun {S c r} o => by
      have o2 : Own w2 wb 4 S c r := o.grown hg (fun g hg' e => own_own_ty h.rws.1 o (by decide) g e hg')
      exact (o2.fresh hb).setCell _ _ (own_ne_ty (o2.fresh hb) hL3 (by decide)))
  · have := hL3.set_ 0 (.slice A2 (nextE (rE has) l).length c2)
    simpa using this
  · simp only at e
    subst e
    unfold Blk at hL3 hM3
    rw [hL3] at hM3
    injection hM3 with hM3; injection hM3 with _ hM3 _
    exact absurd hM3 (by decide)
  · rw [← h.sum, roundsI_cons hne]; simp
  · have := h.len; simp; omega
end

set_option maxHeartbeats 6400000 in
set_option maxRecDepth 100000 in
theorem eRounds_any (B hc rc lc : Nat) (HA RA LA : Option Addr) (has : List (List Int)) (roots l : List Int) (w : World) (hh : At w B HA has) (hr : At w B RA roots) (hla : At w B LA l) (hB : B ≤ w.heap.size) (hl : has.length ≤ 9223372036854775807) (hrl : roots.length ≤ 9223372036854775807) (hll : l.length ≤ 9223372036854775807) (hrc : roots.length ≤ rc ∧ rc ≤ maxLen) :
    Calls Try.prog 82 #[.agg #[.slice HA has.length hc, .slice RA roots.length rc], .slice LA l.length lc] w (ERPost has roots l w) := by
  obtain ⟨P, hP⟩ : ∃ P, ERPost has roots l w = P := ⟨_, rfl⟩
  have HP := Lib.hid hP
  rw [hP]; clear hP
  obtain ⟨i0, hi, hz0, hz1, hz2⟩ := info_parts infoInt
  obtain ⟨j0, hj, hy0, hy1, hy2⟩ := info_parts infoIntsG
  have heg1 : ∀ args w, (callFunc 149 args).run Try.prog w = .ok (.enter 149 args) w := fun _ _ => by kernel_rfl
  have heg2 : ∀ args w, (callFunc 152 args).run Try.prog w = .ok (.enter 152 args) w := fun _ _ => by kernel_rfl
  have HEG := Lib.hid (And.intro heg1 heg2); clear heg1 heg2
  have HH := Lib.hid (And.intro hh (And.intro hr hla)); clear hh hr hla
  go_enter Try.func82, Try.ntmps82
  go_wp2_with fail
  refine calls_world (fun W => Blk W w.heap.size 49 #[.slice HA has.length hc, .slice RA roots.length rc] ∧ Below w.heap.size w W ∧ w.heap.size + 1 ≤ W.heap.size) ⟨Blk.new _ _ _, (Below.refl _ _).alloc (Nat.le_refl _) _, by simp⟩ ?_
  rintro W ⟨hG, hb0, hs0⟩
  refine (due_any B hc rc lc HA RA LA has roots l W (HH.out.1.below (hb0.mono hB)) (HH.out.2.1.below (hb0.mono hB)) (HH.out.2.2.below (hb0.mono hB)) (by omega) hl hrl hll hrc).mono ?_
  rintro e w1 ⟨hb1, hcase⟩
  have hbl1 := hb0.trans (hb1.mono (by omega))
  have hs1 := hb1.size
  have hG1 := hG.fresh hb1
  clear hG
  obtain ⟨N, hN⟩ : ∃ N, has.length = N := ⟨_, rfl⟩
  rw [hN] at hG1 hcase hl
  rcases hcase with ⟨h0, A, c, S, sc, rfl, hoA, hoS⟩ | ⟨h0, rfl⟩
  rotate_left
  · have hne : (endsE has roots l != 0) = true := by simp [h0]
    obtain ⟨er, her⟩ : ∃ er, endsE has roots l = er := ⟨_, rfl⟩
    rw [her] at hne h0 ⊢
    have HE := Lib.hid (And.intro her h0); clear her h0
    go_upto_region 2 with fail
    refine wp_world (fun V => Below w.heap.size w V) (by first | exact hbl1.alloc (by omega) _ | exact (hbl1.alloc (by omega) _).setCell (by simp; omega) _) ?_
    intro V hbV
    clear hbl1 hs1 hG1
    go_wp2_with fail
    rw [← HP.out]
    exact ⟨hbV, .inr (by rw [HE.out.1]; exact ⟨HE.out.2, rfl⟩)⟩
  obtain ⟨hge, hlq, hin⟩ := endsE_right h0
  obtain ⟨gl, grl, ghl, gright, gsrc⟩ := grErr_ok hge
  obtain ⟨du, hdu⟩ : ∃ du, duI (fromL has roots []) l = du := ⟨_, rfl⟩
  rw [hdu] at hoA ⊢
  have hsrc : RightL N du := by rw [← hdu, ← hN]; exact duI_src
  obtain ⟨q, hq⟩ : ∃ q, du.length = q := ⟨_, rfl⟩
  have hN100 : N ≤ 100 := by omega
  have hqN : q ≤ 100 := by have := duI_length (fromL has roots []) l; rw [fromL_length, hdu, hq] at this; omega
  rw [hq]
  have HG := Lib.hid (And.intro h0 (And.intro gright (And.intro ghl (And.intro hdu (And.intro hsrc (And.intro hq (And.intro hN (And.intro hoA (And.intro hbl1 hG1))))))))); clear h0 gright gsrc ghl hdu hsrc hq hoA hoS hge hin hbl1 hG1 gl
  have hmm := @run_makeMap Try.prog
  go_upto_region 5 with fail
  refine wp_world (fun V => Blk V w1.heap.size 47 #[.slice A q c] ∧ Blk V (w1.heap.size + 2) 200 #[.map (some (w1.heap.size + 1))] ∧ Had V (w1.heap.size + 1) 0 (.map []) ∧ Below w1.heap.size w1 V ∧ w1.heap.size + 3 ≤ V.heap.size) ?_ ?_
  · refine ⟨((Blk.new w1 _ _).alloc _).alloc _, Blk.at_ _ _ _ (by simp), ?_, (((Below.refl _ _).alloc (Nat.le_refl _) _).alloc (by simp) _).alloc (by simp; omega) _, by simp⟩
    have := World.ownsMap_made (w1.alloc (.cells #[.slice A q c] 47)) Try.prog 3 heldElem
    simp only [World.size_alloc] at this
    exact this.alloc _
  rintro V ⟨hL, hM, hD, hbV, hsV⟩
  clear hmm
  have hbw := HG.out.2.2.2.2.2.2.2.2.1.trans (hbV.mono (by omega))
  have hGV := HG.out.2.2.2.2.2.2.2.2.2.fresh hbV
  have hoV := (HG.out.2.2.2.2.2.2.2.1.fresh hbV).base_le (show w.heap.size ≤ W.heap.size by omega)
  have l0 := hL.cell 0 (v := .slice A q c) rfl
  have HV := Lib.hid (And.intro hL (And.intro hM (And.intro hD (And.intro hbw (And.intro hGV hoV))))); clear hL hM hD hbV hbw hGV hoV
  go_wp2_with fail
  clear l0
  go_loopg [27] q (fun gk iv wr => ∃ (k : Nat) (D : DataW Value), k ≤ q ∧ gk = q - k ∧ iv = .int .i64 k ∧ Hid (Had wr (w1.heap.size + 1) k D ∧ HadOk wr w.heap.size N D (rE has) (du.take k) ∧ Blk wr w1.heap.size 47 #[.slice A q c] ∧ Blk wr (w1.heap.size + 2) 200 #[.map (some (w1.heap.size + 1))] ∧ Blk wr w.heap.size 49 #[.slice HA N hc, .slice RA roots.length rc] ∧ Own wr w.heap.size 3 A c du) ∧ Below w.heap.size w wr ∧ w1.heap.size + 3 ≤ wr.heap.size)
  case atStart => exact ⟨0, .map [], Nat.zero_le _, rfl, rfl, ⟨HV.out.2.2.1, (fun x hx => by simp at hx), HV.out.1, HV.out.2.1, HV.out.2.2.2.2.1, HV.out.2.2.2.2.2⟩, HV.out.2.2.2.1, hsV⟩
  case round =>
    clear hsV
    obtain ⟨k, D, hk, rfl, rfl, hkeep, hbl, hsz⟩ := hrel
    by_cases hlt : k < q
    · obtain ⟨x, hx⟩ : ∃ x, du[k]? = some x := ⟨_, List.getElem?_eq_getElem (by have := HG.out.2.2.2.2.2.1; omega)⟩
      obtain ⟨n, rfl, hnN⟩ := HG.out.2.2.2.2.1 x (List.mem_of_getElem? hx)
      obtain ⟨g, rfl, hg1, hg2⟩ := hkeep.out.2.2.2.2.2.some_ (by have := HG.out.2.2.2.2.2.1; omega)
      have x0 := hkeep.out.2.2.2.2.2.cell_int hx
      obtain ⟨hb, ho, hl2, XA, xc, rfl, hhb, hx2, hc0, hxat, hxl, hxc⟩ := (HH.out.1.below (hbl.mono hB)).slice_ (k := n) (by have := HG.out.2.2.2.2.2.2.1; omega)
      have hgd : has.getD (n : Int).toNat [] = hl2 := by rw [Int.toNat_natCast, List.getD_eq_getElem?_getD, hx2]; rfl
      have hrow : RightL has.length hl2 := HG.out.2.1 hl2 (List.mem_of_getElem? hx2)
      have hrl10 := HG.out.2.2.1 hl2 (List.mem_of_getElem? hx2)
      have hGw := hkeep.out.2.2.2.2.1
      have hMw := hkeep.out.2.2.2.1
      have m0 := hMw.cell 0 (v := .map (some (w1.heap.size + 1))) rfl
      have g0 := hGw.cell 0 (v := .slice (some ⟨hb, ho, none⟩) N hc) rfl
      have g1 := hGw.cell 1 (v := .slice RA roots.length rc) rfl
      have hfr := wfrom_any wr.drew.heap.size hc rc xc roots.length (some ⟨hb, ho, none⟩) RA XA has hl2 wr.drew (((HH.out.1.below (hbl.mono hB)).more (by have : w.heap.size ≤ wr.heap.size := hbl.size; show B ≤ wr.heap.size; omega)).drew) ((hxat.more (by have : w.heap.size ≤ wr.heap.size := hbl.size; show B ≤ wr.heap.size; omega)).drew) (Nat.le_refl _) HG.out.2.1 hrow (by have := HG.out.2.2.2.2.2.2.1; omega) (by omega) HG.out.2.2.1
      rw [HG.out.2.2.2.2.2.2.1] at hfr
      have b0 : (0 : Int) ≤ (k : Int) := by omega
      have b1 : (k : Int) < (q : Int) := by omega
      have n0 : (0 : Int) ≤ (n : Int) := by omega
      have n1 : (n : Int) < (N : Int) := by omega
      obtain ⟨hn2, hhn2⟩ : ∃ z, hl2.length = z := ⟨_, rfl⟩
      rw [hhn2] at hfr hc0 hxl
      have HX := Lib.hid (And.intro hkeep.out (And.intro hx (And.intro hgd (And.intro hfr hbl)))); clear hx hgd hfr hkeep hxat hrow hGw hMw hx2
      have hGlt : w.heap.size < wr.heap.size := by omega
      have hMlt : w1.heap.size + 2 < wr.heap.size := by omega
      have hhlt : hb < wr.heap.size := by omega
      have hhm : hb ≠ w1.heap.size + 1 := by omega
      go_upto_region 8 with fail
      refine wp_region_held_drew (S := (fun w' => w'.cell? ⟨w.heap.size, 0, none⟩ = some (.slice (some ⟨hb, ho, none⟩) N hc) ∧ w'.cell? ⟨w.heap.size, 1, none⟩ = some (.slice RA roots.length rc) ∧ w'.cell? ⟨w1.heap.size + 2, 0, none⟩ = some (.map (some (w1.heap.size + 1))) ∧ w'.cell? ⟨hb, ho + n, none⟩ = some (.slice XA hn2 xc))) (by kernel_rfl) ?_ (fun hHeld0 => ?_)
      · first | trivial | ((try dsimp only); (exact ⟨g0, g1, m0, hc0⟩))
      refine held_take (v := ?_) 0 rfl (by kernel_rfl) (by kernel_rfl) (by kernel_rfl) (fun _ _ _ h => h) (by rfl) ?_ (by assumption) ?_
      rotate_left
      · (intro w hSw; (try dsimp only at hSw); go_simp; try with_reducible rfl)
      try simp only [Act.put, List.setIfInBounds_toArray, List.set_cons_zero, List.set_cons_succ]
      refine held_take (v := ?_) 1 rfl (by kernel_rfl) (by kernel_rfl) (by kernel_rfl) (fun _ _ _ h => h) (by rfl) ?_ (by assumption) ?_
      rotate_left
      · (intro w hSw; (try dsimp only at hSw); go_simp; try with_reducible rfl)
      try simp only [Act.put, List.setIfInBounds_toArray, List.set_cons_zero, List.set_cons_succ]
      refine held_take (v := ?_) 2 rfl (by kernel_rfl) (by kernel_rfl) (by kernel_rfl) (fun _ _ _ h => h) (by rfl) ?_ (by assumption) ?_
      rotate_left
      · (intro w hSw; (try dsimp only at hSw); go_simp; try with_reducible rfl)
      try simp only [Act.put, List.setIfInBounds_toArray, List.set_cons_zero, List.set_cons_succ]
      refine held_take (v := ?_) 3 rfl (by kernel_rfl) (by kernel_rfl) (by kernel_rfl) (fun _ _ _ h => h) (by rfl) ?_ (by assumption) ?_
      rotate_left
      · (intro w hSw; (try dsimp only at hSw); go_simp; try with_reducible rfl)
      try simp only [Act.put, List.setIfInBounds_toArray, List.set_cons_zero, List.set_cons_succ]
      refine held_take (v := ?_) 4 rfl (by kernel_rfl) (by kernel_rfl) (by kernel_rfl) (fun _ _ _ h => h) (by rfl) ?_ (by assumption) ?_
      rotate_left
      · (intro w hSw; (try dsimp only at hSw); go_simp; try with_reducible rfl)
      try simp only [Act.put, List.setIfInBounds_toArray, List.set_cons_zero, List.set_cons_succ]
      refine held_take (v := ?_) 5 rfl (by kernel_rfl) (by kernel_rfl) (by kernel_rfl) (fun _ _ _ h => h) (by rfl) ?_ (by assumption) ?_
      rotate_left
      · (intro w hSw; (try dsimp only at hSw); go_simp; try with_reducible rfl)
      try simp only [Act.put, List.setIfInBounds_toArray, List.set_cons_zero, List.set_cons_succ]
      refine held_take (v := ?_) 6 rfl (by kernel_rfl) (by kernel_rfl) (by kernel_rfl) (fun _ _ _ h => h) (by rfl) ?_ (by assumption) ?_
      rotate_left
      · (intro w hSw; (try dsimp only at hSw); go_simp; try with_reducible rfl)
      try simp only [Act.put, List.setIfInBounds_toArray, List.set_cons_zero, List.set_cons_succ]
      refine held_take (v := ?_) 7 rfl (by kernel_rfl) (by kernel_rfl) (by kernel_rfl) (fun _ _ _ h => h) (by rfl) ?_ (by assumption) ?_
      rotate_left
      · (intro w hSw; (try dsimp only at hSw); go_simp; try with_reducible rfl)
      try simp only [Act.put, List.setIfInBounds_toArray, List.set_cons_zero, List.set_cons_succ]
      refine held_call 8 (by kernel_rfl) rfl (fun K hK => ?_)
      go_simp
      go_at_call 105; refine HX.out.2.2.2.1.mono ?_; rintro e w5 ⟨SA, sc5, rfl, ho5, hb5⟩; have hb5' : Below wr.heap.size wr w5 := undrew hb5; have hs5 : wr.heap.size ≤ w5.heap.size := hb5'.size; have k0 := (hb5'.cell (p := ⟨w.heap.size, 0, none⟩) hGlt).trans g0; have k1 := (hb5'.cell (p := ⟨w.heap.size, 1, none⟩) hGlt).trans g1; have k2 := (hb5'.cell (p := ⟨w1.heap.size + 2, 0, none⟩) hMlt).trans m0; have k3 := (hb5'.cell (p := ⟨hb, ho + n, none⟩) hhlt).trans hc0; have H5 := Lib.hid (And.intro ho5 hb5'); clear ho5 hb5 hb5'
      try (go_wp2_with fail)
      refine hK.out _ _ ?_ (fun hHeld1 => ?_)
      · first | trivial | ((try dsimp only); (exact ⟨k0, k1, k2, k3⟩))
      clear hK K hHeld0
      try simp only [Act.put, List.setIfInBounds_toArray, List.set_cons_zero, List.set_cons_succ]
      refine held_call 9 (by kernel_rfl) rfl (fun K hK => ?_)
      refine step_put rfl _ _ _ 200 rfl 3 60 keyInt Try.underlying200 heldElem (w1.heap.size + 1) k D rfl (HX.out.1.1.fresh H5.out.2) (by simp only [maxLen]; omega) _ _ (.int .i64 (n : Int)) rfl rfl (keyOf_int_mk Try.underlying3 (WalkArith.wf_i64 (by omega))) _ [] rfl ?_; intro w8 ho8 hg8; have hM8 : Blk w8 (w1.heap.size + 2) 200 #[.map (some (w1.heap.size + 1))] := (HX.out.1.2.2.2.1.fresh H5.out.2).grown hg8 (by simp); have hG8 : Blk w8 w.heap.size 49 #[.slice (some ⟨hb, ho, none⟩) N hc, .slice RA roots.length rc] := (HX.out.1.2.2.2.2.1.fresh H5.out.2).grown hg8 (fun e => by injection e with e; omega); have j0 := hG8.cell 0 (v := .slice (some ⟨hb, ho, none⟩) N hc) rfl; have j1 := hG8.cell 1 (v := .slice RA roots.length rc) rfl; have j2 := hM8.cell 0 (v := .map (some (w1.heap.size + 1))) rfl; have j3 : w8.cell? ⟨hb, ho + n, none⟩ = some (.slice XA hn2 xc) := (World.cell?_of_block (hg8.block hb (by omega) (fun e => hhm (by injection e)))).trans k3; have H8 := Lib.hid (And.intro ho8 (And.intro hg8 (And.intro hM8 hG8))); clear ho8 hg8 hM8 hG8
      refine hK.out _ _ ?_ (fun hHeld2 => ?_)
      · first | trivial | ((try dsimp only); (exact ⟨j0, j1, j2, j3⟩))
      clear hK K hHeld1
      try simp only [Act.put, List.setIfInBounds_toArray, List.set_cons_zero, List.set_cons_succ]
      refine wpAnyH_done (by kernel_rfl) ?_ _
      go_wp2_with fail
      clear k0 k1 k2 k3 j0 j1 j2 j3 m0 g0 g1
      go_roundg (q - (k + 1))
      case measure => omega
      case rel =>
        have hD5 := HX.out.1.1.fresh H5.out.2
        have kp : ∀ {α : Type} [Flat α] {T : TypeId} {S : Option Addr} {c : Nat} {r : List α}, Own w5 w.heap.size T S c r → Own w8 w.heap.size T S c r := fun o => o.grown H8.out.2.1 (fun g hg e => hD5.own_ne o (hg.trans e.symm))
        refine ⟨k + 1, _, by omega, rfl, by go_num, ⟨H8.out.1, ?_, (HX.out.1.2.2.1.fresh H5.out.2).grown H8.out.2.1 (fun e => by injection e with e; omega), H8.out.2.2.1, H8.out.2.2.2, kp (HX.out.1.2.2.2.2.2.fresh H5.out.2)⟩, (HX.out.2.2.2.2.trans (H5.out.2.mono (by omega))).grown H8.out.2.1 (by omega) (fun g e => by injection e with e; omega), by have := H8.out.2.1.size; omega⟩
        rw [List.take_add_one, HX.out.2.1]
        refine ((HX.out.1.2.1.fresh H5.out.2).own kp).put hD5.isMap ?_
        unfold rE
        rw [HX.out.2.2.1]
        exact kp (H5.out.1.base_le (by show w.heap.size ≤ wr.heap.size; omega))
    · obtain rfl : q = k := by omega
      have hk := hkeep.out
      rw [List.take_of_length_le (by have := HG.out.2.2.2.2.2.1; omega)] at hk
      have hst : RdS w.heap.size w1.heap.size (w1.heap.size + 2) (w1.heap.size + 1) q N D has (roundsI (rE has) du) wr du A c none 0 [] := ⟨hk.1, hk.2.1, by rw [HG.out.2.2.2.2.2.1]; exact hk.2.2.1, hk.2.2.2.1, hk.2.2.2.2.2, HG.out.2.2.2.2.1, Rws.nil_, by simp [rowOf], rfl, by have := HG.out.2.2.2.2.2.1; simp; omega⟩
      have HS := Lib.hid (And.intro hst hbl); clear hst hk hkeep hbl HV hlt
      go_wp2_with fail
      go_loopg [12] q (fun gk ov wt => ∃ (l : List Int) (A' : Option Addr) (c' : Nat) (OA : Option Addr) (oc : Nat) (m : Nat) (hs : List SlR), gk = l.length ∧ ov = .slice OA m oc ∧ Hid (RdS w.heap.size w1.heap.size (w1.heap.size + 2) (w1.heap.size + 1) q N D has (roundsI (rE has) du) wt l A' c' OA oc hs ∧ hs.length = m) ∧ Below w.heap.size w wt ∧ w1.heap.size + 3 ≤ wt.heap.size)
      case atStart => exact ⟨du, A, c, none, 0, 0, [], HG.out.2.2.2.2.2.1.symm, rfl, ⟨HS.out.1, rfl⟩, HS.out.2, hsz⟩
      case round =>
        clear hsz
        obtain ⟨cur, A', c', OA, oc, m, hs, hgk, rfl, hkeep, hbl, hsz⟩ := hrel
        obtain ⟨wo, rfl⟩ : ∃ wo : World, wo = wr := ⟨_, rfl⟩
        obtain ⟨ql, hql⟩ : ∃ ql, cur.length = ql := ⟨_, rfl⟩
        have hL := hkeep.out.1.bL
        rw [hql] at hL hgk
        have l0 := hL.cell 0 (v := .slice A' ql c') rfl
        have hlen : m + ql ≤ 100 := by have := hkeep.out.1.len; have := hkeep.out.2; omega
        have hwb : w.heap.size ≤ wo.heap.size := hbl.size
        by_cases hne : cur = []
        · have hq0 : ql = 0 := by rw [← hql, hne]; rfl
          subst hq0
          have hsum := hkeep.out.1.sum
          rw [hne, roundsI_nil, List.append_nil] at hsum
          have HE := Lib.hid (And.intro hsum hkeep.out); clear hsum hkeep hne hL
          go_wp2_with fail
          rw [← HP.out]
          exact ⟨hbl, .inl ⟨HG.out.1, OA, oc, hs, by rw [HE.out.1, HG.out.2.2.2.1], by rw [HE.out.2.2]; rfl, HE.out.2.1.rws⟩⟩
        · have hq1 : (0 : Int) < (ql : Int) := by have := List.length_pos_iff.2 hne; omega
          have hi := hkeep.out.1.i64 hN100
          have hfl : (nowL (rE has) cur).length ≤ ql := by rw [← hql]; exact List.length_filter_le _ _
          have HC := Lib.hid (And.intro hkeep.out.1 (And.intro hkeep.out.2 (And.intro hi (And.intro hne hL)))); clear hkeep hi hne hL
          go_wp2_with fail
          refine (cloneInt_any A' c' wo.heap.size ql cur wo hql (HC.out.1.own.at_ HC.out.2.2.1) (Nat.le_refl _) (by omega)).mono ?_
          rintro e w3 ⟨CA, cc, rfl, ho3, hb3⟩
          have hs3 := hb3.size
          have hR3 := HC.out.1.fresh hb3
          have hL3 := HC.out.2.2.2.2.fresh hb3
          have hLlt := HC.out.2.2.2.2.lt
          have hCne : ∀ {g : Nat}, g < wo.heap.size → rowOf CA ≠ some g := fun {g} hg e => by have := (ho3.lt g e).1; omega
          have hdel := deleteFuncInt_any CA cc wo.heap.size 149 ql #[.pointer (some ⟨w1.heap.size, 0, none⟩), .pointer (some ⟨w1.heap.size + 2, 0, none⟩)] (hadB (rE has) cur) cur w3 hql ho3 HC.out.2.2.1 HEG.out.1 (fun U x hx hok hg =>
            rd1_any U w.heap.size w1.heap.size (w1.heap.size + 2) (w1.heap.size + 1) q N D (rE has) A' c' ql cur x hql (hL3.grown hg (hCne hLlt)) (hR3.bM.grown hg (hCne HC.out.1.bM.lt)) (hR3.had.kept hg (fun e => hCne HC.out.1.had.lt e.symm))
              (hR3.own.grown hg (fun g hg' => hCne (HC.out.1.own.lt g hg').2)) HC.out.2.2.1 (fun y hy => by
                obtain ⟨S, d, h1, h2⟩ := HC.out.1.ok y hy
                exact ⟨S, d, h1, (h2.fresh hb3).grown hg (fun g hg' => hCne (h2.lt g hg').2)⟩) (fun y => by rw [rE_len]; exact HG.out.2.2.2.2.2.2.1) (by omega) hN100 (HC.out.1.src x hx))
          obtain ⟨kn, hkn⟩ : ∃ kn, (nowL (rE has) cur).length = kn := ⟨_, rfl⟩
          change Calls _ _ _ _ (fun e w' => e = .returned (.slice CA (nowL (rE has) cur).length cc) ∧ Own w' wo.heap.size 3 CA cc (nowL (rE has) cur) ∧ w3.grownBy w' (rowOf CA)) at hdel
          rw [hkn] at hdel hfl
          have HD := Lib.hid (And.intro hdel (And.intro hkn (And.intro ho3 hb3))); clear hdel hkn ho3 hb3 hR3 hL3 hCne
          go_wp2_with fail
          refine HD.out.1.mono ?_
          rintro e w4 ⟨rfl, ho4, hg4⟩
          have hs4 := hg4.size
          have hb4 : Below wo.heap.size wo w4 := HD.out.2.2.2.grown hg4 (by omega) (fun g hg => (HD.out.2.2.1.lt g hg).1)
          have hkn := HD.out.2.1
          have H4 := Lib.hid (And.intro ho4 (And.intro hb4 hkn)); clear ho4 hb4 hg4 HD l0 hkn
          have hsm := HC.out.2.1
          have HSM := Lib.hid hsm; clear hsm
          go_upto_region 13 with fail
          refine wp_world (fun V => Blk V w4.heap.size 47 #[.slice CA kn cc] ∧ Below wo.heap.size wo V ∧ Own V w.heap.size 3 CA cc (nowL (rE has) cur) ∧ w4.heap.size < V.heap.size) ⟨Blk.new _ _ _, H4.out.2.1.alloc (by omega) _, (H4.out.1.alloc _).base_le hwb, by simp⟩ ?_
          rintro V ⟨hK, hbV, hoN, hsV⟩
          have k0 := hK.cell 0 (v := .slice CA kn cc) rfl
          have z0 := hK.frozen 0
          have HV := Lib.hid (And.intro hK (And.intro hoN hbV)); clear hK hoN hbV
          by_cases hn0 : kn = 0
          subst hn0
          have hnil : nowL (rE has) cur = [] := List.length_eq_zero_iff.1 H4.out.2.2
          have hE : nowE (rE has) cur = cur := by unfold nowE; rw [if_pos hnil]
          have l1 := (HC.out.2.2.2.2.fresh HV.out.2.2).cell 0 (v := .slice A' ql c') rfl
          have HN := Lib.hid hE; clear hE hnil
          go_upto_region 15 with fail
          refine wp_world (fun V2 => ∃ (NA : Option Addr) (nc nn : Nat), Hid (Blk V2 w4.heap.size 47 #[.slice NA nn nc] ∧ Own V2 w.heap.size 3 NA nc (nowE (rE has) cur) ∧ (nowE (rE has) cur).length = nn) ∧ Below wo.heap.size wo V2 ∧ w4.heap.size < V2.heap.size ∧ nn ≤ 100) ?_ ?_
          · refine ⟨A', c', ql, ⟨?_, ?_, by rw [HN.out]; exact hql⟩, HV.out.2.2.setCell (by simp only; omega) _, by simpa using hsV, by omega⟩
            · have := HV.out.1.set_ 0 (.slice A' ql c')
              simpa using this
            · rw [HN.out]; exact (HC.out.1.own.fresh HV.out.2.2).setCell _ _ (own_ne_ty (HC.out.1.own.fresh HV.out.2.2) HV.out.1 (by decide))
          clear k0 z0 l1 HV HN hsV
          rotate_left
          have d0 : ((kn : Int) == 0) = false := by simp; omega
          have hE : nowE (rE has) cur = nowL (rE has) cur := by unfold nowE; rw [if_neg (fun e => hn0 (by rw [← H4.out.2.2, e]; rfl))]
          have HN := Lib.hid hE; clear hE hn0
          go_upto_region 15 with fail
          refine wp_world (fun V2 => ∃ (NA : Option Addr) (nc nn : Nat), Hid (Blk V2 w4.heap.size 47 #[.slice NA nn nc] ∧ Own V2 w.heap.size 3 NA nc (nowE (rE has) cur) ∧ (nowE (rE has) cur).length = nn) ∧ Below wo.heap.size wo V2 ∧ w4.heap.size < V2.heap.size ∧ nn ≤ 100) ?_ ?_
          · exact ⟨CA, cc, kn, ⟨HV.out.1, by rw [HN.out]; exact HV.out.2.1, by rw [HN.out]; exact H4.out.2.2⟩, HV.out.2.2, hsV, by omega⟩
          clear k0 z0 HV HN hsV d0
          rotate_left
          all_goals (
            clear H4
            rintro V2 ⟨NA, nc, nn, hV2, hbV2, hsV2, hnn⟩
            have hS2 := HC.out.1.fresh hbV2
            have hL2 := HC.out.2.2.2.2.fresh hbV2
            have k1 := hV2.out.1.cell 0 (v := .slice NA nn nc) rfl
            have hlt2 := hbV2.size
            have hcs : (#[Value.slice NA nn nc] : Array Value).toList = flat [(⟨NA, nc, nowE (rE has) cur⟩ : SlR)] := by simp [flat, Flat.cells, hV2.out.2.2]
            have hLl := hL2.lt
            have H2 := Lib.hid (And.intro hS2 (And.intro hL2 (And.intro hbV2 hcs))); clear hS2 hL2 hbV2 hcs
            go_upto_region 16 with (at_builtin; go_must (refine wpList_app (α := SlR) (n := m) (m := 1) (B := V2.heap.size + 1) (r := [⟨NA, nc, nowE (rE has) cur⟩]) rfl (.tmp 52) (.tmp 54) _ rfl w.heap.size 47 j0 _ 24 Try.underlying46 hj hy0 hy1 hy2 rfl (by decide) slr_one (by rfl) HSM.out (H2.out.1.rws.1.alloc _) (by rfl) (At.built V2 _ _ [(⟨NA, nc, nowE (rE has) cur⟩ : SlR)] H2.out.2.2.2 (fun _ _ => trivial)) rfl (by omega) (by simp only [maxLen]; omega) (by simp; omega) ?_); intro A3 c3 w5 ho5 hgr5 hat5; have s5 := hgr5.size; simp only [World.size_alloc] at s5; have HA5 := Lib.hid (And.intro ho5 (And.intro hgr5 hat5)); clear ho5 hgr5 hat5 k1)
            have hSA := H2.out.1.fresh ((Below.refl V2.heap.size V2).alloc (Nat.le_refl _) (.cells #[.slice NA nn nc] 47))
            have hL5 : Blk w5 w1.heap.size 47 #[.slice A' ql c'] := (H2.out.2.1.alloc _).grown HA5.out.2.1 hSA.ne
            have hrl : rowOf OA ≠ some w4.heap.size := fun e => by have := (HC.out.1.rws.1.lt _ e).2; omega
            have hK5 : Blk w5 w4.heap.size 47 #[.slice NA nn nc] := (hV2.out.1.alloc _).grown HA5.out.2.1 hrl
            have hN5 : Own w5 w.heap.size 3 NA nc (nowE (rE has) cur) := (hV2.out.2.1.alloc _).grown HA5.out.2.1 (fun g hg' e => own_own_ty hSA.rws.1 (hV2.out.2.1.alloc _) (by decide) g e hg')
            have hO5 : Own w5 w.heap.size 3 A' c' cur := hSA.own.grown HA5.out.2.1 (fun g hg' e => own_own_ty hSA.rws.1 hSA.own (by decide) g e hg')
            have l5 := hL5.cell 0 (v := .slice A' ql c') rfl
            have hb5 : Below w.heap.size w w5 := ((hbl.trans (H2.out.2.2.1.mono hwb)).alloc (by omega) _).grown HA5.out.2.1 (by simp; omega) (fun g hg => (hSA.rws.1.lt g hg).1)
            have hne3 : rowOf A3 ≠ some w1.heap.size := by
              rcases HA5.out.2.2 with e | e
              · rw [e]; exact hSA.ne
              · rw [e]; intro e2; injection e2 with e2; simp only [World.size_alloc] at e2; omega
            have H5 := Lib.hid (And.intro hSA (And.intro hL5 (And.intro hK5 (And.intro hN5 (And.intro hO5 (And.intro hb5 hne3)))))); clear hSA hL5 hK5 hN5 hO5 hb5 hne3 hrl
            go_wp2_with fail
            refine (cloneInt_any A' c' w5.heap.size ql cur w5 hql (H5.out.2.2.2.2.1.at_ HC.out.2.2.1) (Nat.le_refl _) (by omega)).mono ?_
            rintro e w6 ⟨DA, dc, rfl, ho6, hb6⟩
            have hs6 := hb6.size
            have hDne : ∀ {g : Nat}, g < w5.heap.size → rowOf DA ≠ some g := fun {g} hg e => by have := (ho6.lt g e).1; omega
            have hdel := deleteFuncInt_any DA dc w5.heap.size 152 ql #[.pointer (some ⟨w4.heap.size, 0, none⟩)] (fun x => (nowE (rE has) cur).contains x) cur w6 hql ho6 HC.out.2.2.1 HEG.out.2 (fun U x hx hok hg => by
              refine (rd2_any U w.heap.size w4.heap.size NA nc nn (nowE (rE has) cur) x hV2.out.2.2 ((H5.out.2.2.1.fresh hb6).grown hg (hDne H5.out.2.2.1.lt)) ((H5.out.2.2.2.1.fresh hb6).grown hg (fun g hg' => hDne (H5.out.2.2.2.1.lt g hg').2)) (fun y hy => HC.out.2.2.1 y (nowE_sub _ _ y hy)) hnn).mono ?_
              rintro e U' ⟨rfl, rfl⟩
              exact ⟨rfl, Below.refl _ _⟩)
            rw [next_eq] at hdel
            obtain ⟨kx, hkx⟩ : ∃ kx, (nextE (rE has) cur).length = kx := ⟨_, rfl⟩
            rw [hkx] at hdel
            have HD := Lib.hid (And.intro hdel (And.intro hkx (And.intro ho6 hb6))); clear hdel hkx ho6 hb6 hDne l5
            go_wp2_with fail
            refine HD.out.1.mono ?_
            rintro e w7 ⟨rfl, ho7, hg7⟩
            have hs7 := hg7.size
            have hb7 : Below w5.heap.size w5 w7 := HD.out.2.2.2.grown hg7 (by omega) (fun g hg => (HD.out.2.2.1.lt g hg).1)
            have hL7 := H5.out.2.1.fresh hb7
            have l7 := hL7.cell 0 (v := .slice A' ql c') rfl
            have z7 := hL7.frozen 0
            have H7 := Lib.hid (And.intro ho7 hb7); clear ho7 hb7 hg7 hL7
            have hlast := nextE_lt (R := rE has) HC.out.2.2.2.1
            rw [HD.out.2.1, hql] at hlast
            go_wp2_with fail
            go_roundg kx
            case measure => omega
            case rel =>
              refine ⟨nextE (rE has) cur, DA, dc, A3, c3, m + 1, hs ++ [⟨NA, nc, nowE (rE has) cur⟩], HD.out.2.1.symm, rfl, ⟨?_, by rw [List.length_append, HSM.out]; rfl⟩, (H5.out.2.2.2.2.2.1.trans (H7.out.2.mono (by omega))).setCell (by simp only; omega) _, by simp; omega⟩
              have := RdS.next H5.out.1 HC.out.2.2.2.1 hN100 HA5.out.1 HA5.out.2.1 H5.out.2.2.2.2.2.2 (hV2.out.2.1.alloc _) H7.out.2 (H7.out.1.base_le (by omega))
              rw [HD.out.2.1] at this
              exact this)

end Go.Proofs.Ytpkccpegdpodoaa

/- R.Rounds. -/
namespace Go.Proofs.Ytpkccpegdpodoaa
open Go.RowKit

attribute [local go_sem ↓] Go.wp_at_zero Go.wp_at_succ

structure RrS (wb N : Nat) (has all : List (List Int)) (wr : World) (l : List Int) (A : Option Addr) (c : Nat) (OA : Option Addr) (oc : Nat) (hs : List SlR) : Prop where
  own : Own wr wb 3 A c l
  src : RightL N l
  rws : Rws wr wb OA oc hs
  sum : hs.map SlR.l ++ roundsI (rE has) l = all
  len : hs.length + l.length ≤ 100
section
variable {wb N : Nat} {has all : List (List Int)} {wr w' : World} {l : List Int} {A : Option Addr} {c : Nat} {OA : Option Addr} {oc : Nat} {hs : List SlR}
theorem RrS.fresh (h : RrS wb N has all wr l A c OA oc hs) (hb : Below wr.heap.size wr w') : RrS wb N has all w' l A c OA oc hs :=
  ⟨h.own.fresh hb, h.src, h.rws.fresh hb, h.sum, h.len⟩
theorem RrS.i64 (h : RrS wb N has all wr l A c OA oc hs) (hN : N ≤ 100) : ∀ x ∈ l, I64 x := fun x hx => by
  obtain ⟨n, rfl, hn⟩ := h.src x hx
  exact ⟨by omega, by omega⟩
theorem RrS.next {NA A2 : Option Addr} {nc c2 : Nat} {OA2 : Option Addr} {oc2 : Nat} {w2 : World} (h : RrS wb N has all wr l A c OA oc hs) (hne : l ≠ []) (hN : N ≤ 100)
    (hrow : Own w2 wb 47 OA2 oc2 (hs ++ [⟨NA, nc, nowE (rE has) l⟩])) (hg : wr.grownBy w2 (rowOf OA)) (hy : Own wr wb 3 NA nc (nowE (rE has) l)) (ho : Own wr wb 3 A2 c2 (nextE (rE has) l)) :
    RrS wb N has all w2 (nextE (rE has) l) A2 c2 OA2 oc2 (hs ++ [⟨NA, nc, nowE (rE has) l⟩]) := by
  have hi := h.i64 hN
  have hlt := nextE_lt (R := rE has) hne
  refine ⟨ho.grown hg (fun g hg' e => own_own_ty h.rws.1 ho (by decide) g e hg'), fun x hx => h.src x (nextE_sub _ _ x hx), h.rws.push hrow hg hy (fun k hk => hi k (nowE_sub _ _ k hk)), ?_, ?_⟩
  · rw [← h.sum, roundsI_cons hne]; simp
  · have := h.len; simp; omega
end
theorem had_snoc {R : Int → List Bool} {l : List Int} {j : Nat} {k n : Int} {b : Bool} (h : l[j]? = some k) (hb : ((l.take j).any fun k => (k != n) && (R k).getD n.toNat false) = b) :
    ((l.take (j + 1)).any fun k => (k != n) && (R k).getD n.toNat false) = (b || ((k != n) && (R k).getD n.toNat false)) := by
  rw [any_snocI _ _ _ _ h, hb]

set_option maxHeartbeats 6400000 in
set_option maxRecDepth 100000 in
theorem rRounds_any (B hc rc lc q0 : Nat) (HA RA LA : Option Addr) (has : List (List Int)) (roots l : List Int) (w : World) (hh : At w B HA has) (hr : At w B RA roots) (hla : At w B LA l) (hB : B ≤ w.heap.size) (hq : l.length = q0) (he : endsE has roots l = 0) :
    Calls Try.prog 84 #[.agg #[.slice HA has.length hc, .slice RA roots.length rc], .slice LA q0 lc] w fun e w' => (∃ OA oc hs, hs.map SlR.l = roundsI (rE has) (duI (fromL has roots []) l) ∧ e = .returned (.slice OA hs.length oc) ∧ Rws w' w.heap.size OA oc hs) ∧ Below w.heap.size w w' := by
  obtain ⟨hge, hlq, hin⟩ := endsE_right he
  obtain ⟨gl, grl, ghl, gright, gsrc⟩ := grErr_ok hge
  obtain ⟨i0, hi, hz0, hz1, hz2⟩ := info_parts infoInt
  obtain ⟨j0, hj, hy0, hy1, hy2⟩ := info_parts infoIntsG
  have hdue := fun (W : World) (hb : Below w.heap.size w W) => rDue_any B hc rc lc q0 HA RA LA has roots l W (hh.below (hb.mono hB)) (hr.below (hb.mono hB)) (hla.below (hb.mono hB)) (by have := hb.size; omega) hq he
  obtain ⟨du, hdu⟩ : ∃ du, duI (fromL has roots []) l = du := ⟨_, rfl⟩
  have hsrc : RightL has.length du := by rw [← hdu]; exact duI_src
  have hqN : du.length ≤ 100 := by have := duI_length (fromL has roots []) l; rw [fromL_length, hdu] at this; omega
  rw [hdu] at hdue ⊢
  obtain ⟨N, hN⟩ : ∃ N, has.length = N := ⟨_, rfl⟩
  obtain ⟨q, hq⟩ : ∃ q, du.length = q := ⟨_, rfl⟩
  rw [hq] at hdue hqN
  rw [hN] at hdue gl hsrc
  have HH := Lib.hid (And.intro hh (And.intro hdue (And.intro gright (And.intro ghl (And.intro hsrc (And.intro hN hq)))))); clear hh hr hla gright gsrc ghl hsrc hin he hge hdue hq hdu
  rw [hN]
  clear hN
  go_enter Try.func84, Try.ntmps84
  go_wp2_with fail
  refine calls_world (fun W => Blk W w.heap.size 49 #[.slice HA N hc, .slice RA roots.length rc] ∧ Below w.heap.size w W ∧ w.heap.size + 1 ≤ W.heap.size) ⟨Blk.new _ _ _, (Below.refl _ _).alloc (Nat.le_refl _) _, by simp⟩ ?_
  rintro W ⟨hG, hb0, hs0⟩
  refine (HH.out.2.1 W hb0).mono ?_
  rintro e w1 ⟨⟨A, c, S, sc, rfl, hoA, -⟩, hb1⟩
  have hs1 := hb1.size
  have hst : RrS w.heap.size N has (roundsI (rE has) du) w1 du A c none 0 [] := ⟨hoA.base_le (by omega), HH.out.2.2.2.2.1, Rws.nil_, rfl, by have := HH.out.2.2.2.2.2.2; simp; omega⟩
  have HS := Lib.hid (And.intro hst (And.intro (hG.fresh hb1) (hb0.trans (hb1.mono (by omega))))); clear hst hoA hG hb1
  go_wp2_with fail
  go_loopg [5, 7] q (fun gk lv ov wt => ∃ (l : List Int) (A' : Option Addr) (c' : Nat) (OA : Option Addr) (oc m ql : Nat) (hs : List SlR), gk = ql ∧ lv = .slice A' ql c' ∧ ov = .slice OA m oc ∧ Hid (RrS w.heap.size N has (roundsI (rE has) du) wt l A' c' OA oc hs ∧ hs.length = m ∧ l.length = ql ∧ Blk wt w.heap.size 49 #[.slice HA N hc, .slice RA roots.length rc]) ∧ Below w.heap.size w wt ∧ w.heap.size + 1 ≤ wt.heap.size)
  case atStart => exact ⟨du, A, c, none, 0, 0, q, [], rfl, rfl, rfl, ⟨HS.out.1, rfl, HH.out.2.2.2.2.2.2, HS.out.2.1⟩, HS.out.2.2, by omega⟩
  case round =>
    obtain ⟨cur, A', c', OA, oc, m, ql, hs, rfl, rfl, rfl, hkeep, hbl, hsz⟩ := hrel
    obtain ⟨wo, rfl⟩ : ∃ wo : World, wo = wr := ⟨_, rfl⟩
    obtain ⟨ql, hqle⟩ : ∃ ql : Nat, ql = gk := ⟨_, rfl⟩
    subst hqle
    have hlen : m + ql ≤ 100 := by have := hkeep.out.1.len; have := hkeep.out.2.1; have := hkeep.out.2.2.1; omega
    have hwb : w.heap.size ≤ wo.heap.size := hbl.size
    by_cases hne : cur = []
    · have hq0 : ql = 0 := by rw [← hkeep.out.2.2.1, hne]; rfl
      subst hq0
      have hsum := hkeep.out.1.sum
      rw [hne, roundsI_nil, List.append_nil] at hsum
      have HE := Lib.hid (And.intro hsum hkeep.out); clear hsum hkeep hne
      go_wp2_with fail
      go_ret
      exact ⟨⟨OA, oc, hs, HE.out.1, by rw [HE.out.2.2.1]; rfl, HE.out.2.1.rws⟩, hbl⟩
    · have hq1 : (0 : Int) < (ql : Int) := by have := List.length_pos_iff.2 hne; have := hkeep.out.2.2.1; omega
      have hq2 : 0 < ql := by omega
      have hi64 := hkeep.out.1.i64 gl
      have HC := Lib.hid (And.intro hkeep.out.1 (And.intro hkeep.out.2.1 (And.intro hkeep.out.2.2.1 (And.intro hkeep.out.2.2.2 (And.intro hi64 hne))))); clear hkeep hi64 hne
      go_wp2_with fail
      go_loopg [8, 9, 26] ql (fun gk nv xv iv wi => ∃ (i : Nat) (NA : Option Addr) (nc nn : Nat) (XA : Option Addr) (xc xn : Nat), i ≤ ql ∧ gk = ql - i ∧ iv = .int .i64 i ∧ nv = .slice NA nn nc ∧ xv = .slice XA xn xc ∧ nn ≤ i ∧ xn ≤ i ∧
        Hid (Own wi wo.heap.size 3 NA nc ((cur.take i).filter fun n => !hadB (rE has) cur n) ∧ ((cur.take i).filter fun n => !hadB (rE has) cur n).length = nn ∧ Own wi wo.heap.size 3 XA xc ((cur.take i).filter fun n => hadB (rE has) cur n) ∧ ((cur.take i).filter fun n => hadB (rE has) cur n).length = xn ∧ ∀ g, rowOf NA = some g → rowOf XA ≠ some g) ∧ Below wo.heap.size wo wi)
      case atStart => exact ⟨0, none, 0, 0, none, 0, 0, Nat.zero_le _, rfl, rfl, rfl, rfl, Nat.le_refl _, Nat.le_refl _, ⟨Own.nil_, rfl, Own.nil_, rfl, fun g hg => by cases hg⟩, Below.refl _ _⟩
      case round =>
        obtain ⟨i, NA, nc, nn, XA, xc, xn, hil, rfl, rfl, rfl, rfl, hnn, hxn, hkeep, hbi⟩ := hrel
        obtain ⟨wi, rfl⟩ : ∃ wi : World, wi = wr := ⟨_, rfl⟩
        have hsi := hbi.size
        by_cases hlti : i < ql
        · obtain ⟨x, hx⟩ : ∃ x, cur[i]? = some x := ⟨_, List.getElem?_eq_getElem (by have := HC.out.2.2.1; omega)⟩
          obtain ⟨n, rfl, hnN⟩ := HC.out.1.src x (List.mem_of_getElem? hx)
          have hO := HC.out.1.own.fresh hbi
          obtain ⟨ga, rfl, hga1, hga2⟩ := hO.some_ (by have := HC.out.2.2.1; omega)
          have x0 := hO.cell_int hx
          have c0 : (0 : Int) ≤ (i : Int) := by omega
          have c1 : (i : Int) < (ql : Int) := by omega
          have HI := Lib.hid (And.intro hkeep.out (And.intro hx hO)); clear hkeep hx hO
          go_wp2_with fail
          clear x0
          go_loopg [12, 32] ql (fun gk bv jv wj => ∃ (j : Nat) (b : Bool), j ≤ ql ∧ gk = ql - j ∧ jv = .int .i64 j ∧ bv = .bool b ∧ Hid (((cur.take j).any fun k => (k != (n : Int)) && (rE has k).getD (n : Int).toNat false) = b) ∧ Below wi.heap.size wi wj)
          case atStart => exact ⟨0, false, Nat.zero_le _, rfl, rfl, rfl, by simp [Hid], Below.refl _ _⟩
          case round =>
            obtain ⟨j, b, hjl, rfl, rfl, rfl, hb, hbj⟩ := hrel
            have hsj := hbj.size
            have hOj := HI.out.2.2.fresh hbj
            by_cases hltj : j < ql
            · obtain ⟨k, hk⟩ : ∃ k, cur[j]? = some k := ⟨_, List.getElem?_eq_getElem (by have := HC.out.2.2.1; omega)⟩
              obtain ⟨kk, rfl, hkN⟩ := HC.out.1.src k (List.mem_of_getElem? hk)
              have k0 := hOj.cell_int hk
              have hsn := had_snoc hk hb.out
              have d0 : (0 : Int) ≤ (j : Int) := by omega
              have d1 : (j : Int) < (ql : Int) := by omega
              cases b with
              | true =>
                rw [Bool.true_or] at hsn
                have HX := Lib.hid hsn; clear hsn hk hOj
                go_upto_region 12 with fail
                go_quiet (fail)
                go_wp2_with fail
                go_roundg (ql - (j + 1))
                case measure => omega
                case rel => exact ⟨j + 1, true, by omega, rfl, by go_num, rfl, HX.out, below_drewN hbj _⟩
              | false =>
                rw [Bool.false_or] at hsn
                by_cases hkn : kk = n
                · have d3 : ((kk : Int) != (n : Int)) = false := by simp [hkn]
                  rw [d3, Bool.false_and] at hsn
                  have HX := Lib.hid hsn; clear hsn hk hOj hkn
                  go_upto_region 12 with fail
                  go_quiet (fail)
                  go_wp2_with fail
                  go_roundg (ql - (j + 1))
                  case measure => omega
                  case rel => exact ⟨j + 1, false, by omega, rfl, by go_num, rfl, HX.out, below_drewN hbj _⟩
                · have d3 : ((kk : Int) != (n : Int)) = true := by simp; omega
                  rw [d3, Bool.true_and] at hsn
                  have hbw : Below w.heap.size w wr := hbl.trans ((hbi.mono hwb).trans (hbj.mono (by omega)))
                  obtain ⟨hb', ho, hl2, YA, yc, rfl, hhb, hx2, hc0, hxat, hxl, hxc⟩ := (HH.out.1.below (hbw.mono hB)).slice_ (k := kk) (by have := HH.out.2.2.2.2.2.1; omega)
                  have hgd : rE has (kk : Int) = fromL has hl2 [] := by unfold rE; rw [Int.toNat_natCast, List.getD_eq_getElem?_getD, hx2]; rfl
                  have hrow : RightL has.length hl2 := HH.out.2.2.1 hl2 (List.mem_of_getElem? hx2)
                  have hrl10 := HH.out.2.2.2.1 hl2 (List.mem_of_getElem? hx2)
                  obtain ⟨v, hv⟩ : ∃ v, (fromL has hl2 [])[n]? = some v := ⟨_, List.getElem?_eq_getElem (by rw [fromL_length, HH.out.2.2.2.2.2.1]; exact hnN)⟩
                  rw [hgd, Int.toNat_natCast, List.getD_eq_getElem?_getD, hv] at hsn
                  have hGw := (((HC.out.2.2.2.1.fresh hbi).fresh hbj))
                  have g0 := hGw.cell 0 (v := .slice (some ⟨hb', ho, none⟩) N hc) rfl
                  have g1 := hGw.cell 1 (v := .slice RA roots.length rc) rfl
                  have hfr := rfrom_any wr.drew.heap.size hc rc yc 0 roots.length (some ⟨hb', ho, none⟩) RA YA none has hl2 [] wr.drew (((HH.out.1.below (hbw.mono hB)).more (by have : w.heap.size ≤ wr.heap.size := hbw.size; show B ≤ wr.heap.size; omega)).drew) ((hxat.more (by have : w.heap.size ≤ wr.heap.size := hbw.size; show B ≤ wr.heap.size; omega)).drew) At.nil_ (Nat.le_refl _) HH.out.2.2.1 hrow (fun p hp => by simp at hp) (by have := HH.out.2.2.2.2.2.1; omega) (by omega) (by simp) HH.out.2.2.2.1
                  rw [HH.out.2.2.2.2.2.1] at hfr
                  obtain ⟨hn2, hhn2⟩ : ∃ z, hl2.length = z := ⟨_, rfl⟩
                  rw [hhn2] at hfr hc0 hxl
                  have n0 : (0 : Int) ≤ (n : Int) := by omega
                  have n1 : (n : Int) < (N : Int) := by omega
                  have kk0 : (0 : Int) ≤ (kk : Int) := by omega
                  have kk1 : (kk : Int) < (N : Int) := by omega
                  have HX := Lib.hid (And.intro hsn (And.intro hfr hv)); clear hsn hk hOj hkn hfr hv hgd hrow hxat hx2 hGw
                  have hGlt : w.heap.size < wr.heap.size := by omega
                  have hhlt : hb' < wr.heap.size := by omega
                  go_upto_region 12 with fail
                  refine wp_region_held_drew (S := (fun w' => w'.cell? ⟨w.heap.size, 0, none⟩ = some (.slice (some ⟨hb', ho, none⟩) N hc) ∧ w'.cell? ⟨w.heap.size, 1, none⟩ = some (.slice RA roots.length rc) ∧ w'.cell? ⟨hb', ho + kk, none⟩ = some (.slice YA hn2 yc))) (by kernel_rfl) ?_ (fun hHeld0 => ?_)
                  · first | trivial | ((try dsimp only); (exact ⟨g0, g1, hc0⟩))
                  refine held_take (v := ?_) 0 rfl (by kernel_rfl) (by kernel_rfl) (by kernel_rfl) (fun _ _ _ h => h) (by rfl) ?_ (by assumption) ?_
                  rotate_left
                  · (intro w hSw; (try dsimp only at hSw); go_simp; try with_reducible rfl)
                  try simp only [Act.put, List.setIfInBounds_toArray, List.set_cons_zero, List.set_cons_succ]
                  refine held_take (v := ?_) 1 rfl (by kernel_rfl) (by kernel_rfl) (by kernel_rfl) (fun _ _ _ h => h) (by rfl) ?_ (by assumption) ?_
                  rotate_left
                  · (intro w hSw; (try dsimp only at hSw); go_simp; try with_reducible rfl)
                  try simp only [Act.put, List.setIfInBounds_toArray, List.set_cons_zero, List.set_cons_succ]
                  refine held_take (v := ?_) 2 rfl (by kernel_rfl) (by kernel_rfl) (by kernel_rfl) (fun _ _ _ h => h) (by rfl) ?_ (by assumption) ?_
                  rotate_left
                  · (intro w hSw; (try dsimp only at hSw); go_simp; try with_reducible rfl)
                  try simp only [Act.put, List.setIfInBounds_toArray, List.set_cons_zero, List.set_cons_succ]
                  refine held_take (v := ?_) 3 rfl (by kernel_rfl) (by kernel_rfl) (by kernel_rfl) (fun _ _ _ h => h) (by rfl) ?_ (by assumption) ?_
                  rotate_left
                  · (intro w hSw; (try dsimp only at hSw); go_simp; try with_reducible rfl)
                  try simp only [Act.put, List.setIfInBounds_toArray, List.set_cons_zero, List.set_cons_succ]
                  refine held_take (v := ?_) 4 rfl (by kernel_rfl) (by kernel_rfl) (by kernel_rfl) (fun _ _ _ h => h) (by rfl) ?_ (by assumption) ?_
                  rotate_left
                  · (intro w hSw; (try dsimp only at hSw); go_simp; try with_reducible rfl)
                  try simp only [Act.put, List.setIfInBounds_toArray, List.set_cons_zero, List.set_cons_succ]
                  refine held_take (v := ?_) 5 rfl (by kernel_rfl) (by kernel_rfl) (by kernel_rfl) (fun _ _ _ h => h) (by rfl) ?_ (by assumption) ?_
                  rotate_left
                  · (intro w hSw; (try dsimp only at hSw); go_simp; try with_reducible rfl)
                  try simp only [Act.put, List.setIfInBounds_toArray, List.set_cons_zero, List.set_cons_succ]
                  refine held_take (v := ?_) 6 rfl (by kernel_rfl) (by kernel_rfl) (by kernel_rfl) (fun _ _ _ h => h) (by rfl) ?_ (by assumption) ?_
                  rotate_left
                  · (intro w hSw; (try dsimp only at hSw); go_simp; try with_reducible rfl)
                  try simp only [Act.put, List.setIfInBounds_toArray, List.set_cons_zero, List.set_cons_succ]
                  refine held_take (v := ?_) 7 rfl (by kernel_rfl) (by kernel_rfl) (by kernel_rfl) (fun _ _ _ h => h) (by rfl) ?_ (by assumption) ?_
                  rotate_left
                  · (intro w hSw; (try dsimp only at hSw); go_simp; try with_reducible rfl)
                  try simp only [Act.put, List.setIfInBounds_toArray, List.set_cons_zero, List.set_cons_succ]
                  refine held_take (v := ?_) 8 rfl (by kernel_rfl) (by kernel_rfl) (by kernel_rfl) (fun _ _ _ h => h) (by rfl) ?_ (by assumption) ?_
                  rotate_left
                  · (intro w hSw; (try dsimp only at hSw); go_simp; try with_reducible rfl)
                  try simp only [Act.put, List.setIfInBounds_toArray, List.set_cons_zero, List.set_cons_succ]
                  refine held_take (v := ?_) 9 rfl (by kernel_rfl) (by kernel_rfl) (by kernel_rfl) (fun _ _ _ h => h) (by rfl) ?_ (by assumption) ?_
                  rotate_left
                  · (intro w hSw; (try dsimp only at hSw); go_simp; try with_reducible rfl)
                  try simp only [Act.put, List.setIfInBounds_toArray, List.set_cons_zero, List.set_cons_succ]
                  refine held_take (v := ?_) 10 rfl (by kernel_rfl) (by kernel_rfl) (by kernel_rfl) (fun _ _ _ h => h) (by rfl) ?_ (by assumption) ?_
                  rotate_left
                  · (intro w hSw; (try dsimp only at hSw); go_simp; try with_reducible rfl)
                  try simp only [Act.put, List.setIfInBounds_toArray, List.set_cons_zero, List.set_cons_succ]
                  refine held_take (v := ?_) 11 rfl (by kernel_rfl) (by kernel_rfl) (by kernel_rfl) (fun _ _ _ h => h) (by rfl) ?_ (by assumption) ?_
                  rotate_left
                  · (intro w hSw; (try dsimp only at hSw); go_simp; try with_reducible rfl)
                  try simp only [Act.put, List.setIfInBounds_toArray, List.set_cons_zero, List.set_cons_succ]
                  refine held_take (v := ?_) 13 rfl (by kernel_rfl) (by kernel_rfl) (by kernel_rfl) (fun _ _ _ h => h) (by rfl) ?_ (by assumption) ?_
                  rotate_left
                  · (intro w hSw; (try dsimp only at hSw); go_simp; try with_reducible rfl)
                  try simp only [Act.put, List.setIfInBounds_toArray, List.set_cons_zero, List.set_cons_succ]
                  refine held_call 12 (by kernel_rfl) rfl (fun K hK => ?_)
                  go_simp
                  go_at_call 33; refine HX.out.2.1.mono ?_; rintro e w5 ⟨SA, sc5, rfl, ho5, hb5⟩; have hb5' : Below wr.heap.size wr w5 := undrew hb5; have hs5 : wr.heap.size ≤ w5.heap.size := hb5'.size; have p0 := (hb5'.cell (p := ⟨w.heap.size, 0, none⟩) hGlt).trans g0; have p1 := (hb5'.cell (p := ⟨w.heap.size, 1, none⟩) hGlt).trans g1; have p2 := (hb5'.cell (p := ⟨hb', ho + kk, none⟩) hhlt).trans hc0; obtain ⟨sg, rfl, _, _⟩ := ho5.some_ (by rw [fromL_length]; have := HH.out.2.2.2.2.2.1; omega); have s5 := ho5.cell_bool HX.out.2.2; clear ho5 hb5
                  try (go_wp2_with fail)
                  refine hK.out _ _ ?_ (fun hHeld1 => ?_)
                  · first | trivial | ((try dsimp only); (exact ⟨p0, p1, p2⟩))
                  clear hK K hHeld0
                  try simp only [Act.put, List.setIfInBounds_toArray, List.set_cons_zero, List.set_cons_succ]
                  refine held_take (v := ?_) 14 rfl (by kernel_rfl) (by kernel_rfl) (by kernel_rfl) (fun _ _ _ h => h) (by rfl) ?_ (by assumption) ?_
                  rotate_left
                  · (intro w hSw; (try dsimp only at hSw); go_simp; try with_reducible rfl)
                  try simp only [Act.put, List.setIfInBounds_toArray, List.set_cons_zero, List.set_cons_succ]
                  refine held_call 15 (by kernel_rfl) rfl (fun K hK => ?_)
                  go_simp
                  refine hK.out _ _ ?_ (fun hHeld2 => ?_)
                  · first | trivial | ((try dsimp only); (exact ⟨p0, p1, p2⟩))
                  clear hK K hHeld1
                  try simp only [Act.put, List.setIfInBounds_toArray, List.set_cons_zero, List.set_cons_succ]
                  refine held_take (v := ?_) 16 rfl (by kernel_rfl) (by kernel_rfl) (by kernel_rfl) (fun _ _ _ h => h) (by rfl) ?_ (by assumption) ?_
                  rotate_left
                  · (intro w hSw; (try dsimp only at hSw); go_simp; try with_reducible rfl)
                  try simp only [Act.put, List.setIfInBounds_toArray, List.set_cons_zero, List.set_cons_succ]
                  refine held_take (v := ?_) 17 rfl (by kernel_rfl) (by kernel_rfl) (by kernel_rfl) (fun _ _ _ h => h) (by rfl) ?_ (by assumption) ?_
                  rotate_left
                  · (intro w hSw; (try dsimp only at hSw); go_simp; try with_reducible rfl)
                  try simp only [Act.put, List.setIfInBounds_toArray, List.set_cons_zero, List.set_cons_succ]
                  refine held_take (v := ?_) 18 rfl (by kernel_rfl) (by kernel_rfl) (by kernel_rfl) (fun _ _ _ h => h) (by rfl) ?_ (by assumption) ?_
                  rotate_left
                  · (intro w hSw; (try dsimp only at hSw); go_simp; try with_reducible rfl)
                  try simp only [Act.put, List.setIfInBounds_toArray, List.set_cons_zero, List.set_cons_succ]
                  refine wpAnyH_done (by kernel_rfl) ?_ _
                  go_wp2_with fail
                  go_roundg (ql - (j + 1))
                  case measure => omega
                  case rel => exact ⟨j + 1, v, by omega, rfl, by go_num, rfl, HX.out.1, hbj.trans (hb5'.mono hsj)⟩
            · obtain rfl : ql = j := by omega
              have hbb := hb.out
              rw [List.take_of_length_le (by have := HC.out.2.2.1; omega)] at hbb
              have hbb2 : hadB (rE has) cur (n : Int) = b := hbb
              have hs1 := filter_snocM cur (fun n => !hadB (rE has) cur n) i n HI.out.2.1
              have hs2 := filter_snocM cur (fun n => hadB (rE has) cur n) i n HI.out.2.1
              rw [hbb2] at hs1 hs2
              have hbij : Below wo.heap.size wo wr := hbi.trans (hbj.mono hsi)
              cases b with
              | true =>
                simp only [Bool.not_true, if_true, Bool.false_eq_true, if_false, List.append_nil] at hs1 hs2
                have HX := Lib.hid (And.intro hs1 (And.intro hs2 (And.intro (HI.out.1.1.fresh hbj) (And.intro (HI.out.1.2.2.1.fresh hbj) HI.out.1)))); clear hs1 hs2 hbb hbb2 hb hOj
                go_wp2_with (at_builtin; go_must (refine wpList_app (α := Int) (n := xn) (m := 1) (B := wr.heap.size + 1) (r := [(n : Int)]) rfl (.tmp 56) (.tmp 58) _ rfl wo.heap.size 3 i0 _ 8 Try.underlying47 hi hz0 hz1 hz2 rfl (by decide) int_one (by rfl) HX.out.2.2.2.2.2.2.2.1 (HX.out.2.2.2.1.alloc _) (by rfl) (At.built wr _ _ [(n : Int)] rfl (by intro z hz; simp at hz; subst hz; exact (by unfold I64; omega : I64 (n : Int)))) rfl (by omega) (by simp only [maxLen]; omega) (by simp; omega) ?_); intro A5 c5 w5 ho5 hgr5 hat5; have H5 := Lib.hid (And.intro ho5 (And.intro hgr5 hat5)); clear ho5 hgr5 hat5)
                go_roundg (ql - (i + 1))
                case measure => omega
                case rel =>
                  refine ⟨i + 1, NA, nc, nn, A5, c5, xn + 1, by omega, rfl, by go_num, rfl, rfl, by omega, by omega, ⟨?_, by rw [HX.out.1]; exact HX.out.2.2.2.2.2.1, by rw [HX.out.2.1]; exact H5.out.1, by rw [HX.out.2.1, List.length_append, HX.out.2.2.2.2.2.2.2.1]; rfl, ?_⟩, (hbij.alloc (by omega) _).grown H5.out.2.1 (by simp; omega) (fun g hg => (HX.out.2.2.2.1.lt g hg).1)⟩
                  · rw [HX.out.1]
                    exact (HX.out.2.2.1.alloc _).grown H5.out.2.1 (fun g hg e => HX.out.2.2.2.2.2.2.2.2 g hg e)
                  · intro g hg e
                    rcases H5.out.2.2 with e2 | e2
                    · exact HX.out.2.2.2.2.2.2.2.2 g hg (e2.symm.trans e)
                    · have h1 := e2.symm.trans e
                      injection h1 with h1
                      have := (HX.out.2.2.1.lt g hg).2
                      simp only [World.size_alloc] at h1
                      omega
              | false =>
                simp only [Bool.not_false, if_true, Bool.false_eq_true, if_false, List.append_nil] at hs1 hs2
                have HX := Lib.hid (And.intro hs1 (And.intro hs2 (And.intro (HI.out.1.1.fresh hbj) (And.intro (HI.out.1.2.2.1.fresh hbj) HI.out.1)))); clear hs1 hs2 hbb hbb2 hb hOj
                go_wp2_with (at_builtin; go_must (refine wpList_app (α := Int) (n := nn) (m := 1) (B := wr.heap.size + 1) (r := [(n : Int)]) rfl (.tmp 60) (.tmp 62) _ rfl wo.heap.size 3 i0 _ 8 Try.underlying47 hi hz0 hz1 hz2 rfl (by decide) int_one (by rfl) HX.out.2.2.2.2.2.1 (HX.out.2.2.1.alloc _) (by rfl) (At.built wr _ _ [(n : Int)] rfl (by intro z hz; simp at hz; subst hz; exact (by unfold I64; omega : I64 (n : Int)))) rfl (by omega) (by simp only [maxLen]; omega) (by simp; omega) ?_); intro A5 c5 w5 ho5 hgr5 hat5; have H5 := Lib.hid (And.intro ho5 (And.intro hgr5 hat5)); clear ho5 hgr5 hat5)
                go_roundg (ql - (i + 1))
                case measure => omega
                case rel =>
                  refine ⟨i + 1, A5, c5, nn + 1, XA, xc, xn, by omega, rfl, by go_num, rfl, rfl, by omega, by omega, ⟨by rw [HX.out.1]; exact H5.out.1, by rw [HX.out.1, List.length_append, HX.out.2.2.2.2.2.1]; rfl, ?_, by rw [HX.out.2.1]; exact HX.out.2.2.2.2.2.2.2.1, ?_⟩, (hbij.alloc (by omega) _).grown H5.out.2.1 (by simp; omega) (fun g hg => (HX.out.2.2.1.lt g hg).1)⟩
                  · rw [HX.out.2.1]
                    exact (HX.out.2.2.2.1.alloc _).grown H5.out.2.1 (fun g hg e => HX.out.2.2.2.2.2.2.2.2 g e hg)
                  · intro g hg e
                    rcases H5.out.2.2 with e2 | e2
                    · exact HX.out.2.2.2.2.2.2.2.2 g (e2.symm.trans hg) e
                    · have h1 := e2.symm.trans hg
                      injection h1 with h1
                      have := (HX.out.2.2.2.1.lt g e).2
                      simp only [World.size_alloc] at h1
                      omega
        · obtain rfl : ql = i := by omega
          have hk := hkeep.out
          rw [List.take_of_length_le (by have := HC.out.2.2.1; omega)] at hk
          have hst := HC.out.1.fresh hbi
          have hG2 := HC.out.2.2.2.1.fresh hbi
          have hbw : Below w.heap.size w wi := hbl.trans (hbi.mono hwb)
          have hxlt := nextE_lt (R := rE has) HC.out.2.2.2.2.2
          rw [HC.out.2.2.1] at hxlt
          by_cases hn0 : nn = 0
          · subst hn0
            have hnil : nowL (rE has) cur = [] := List.length_eq_zero_iff.1 hk.2.1
            have hE1 : nowE (rE has) cur = cur := by unfold nowE; rw [if_pos hnil]
            have hE2 : nextE (rE has) cur = [] := by unfold nextE; rw [if_pos hnil]
            have hcs : (#[Value.slice A' ql c'] : Array Value).toList = flat [(⟨A', c', cur⟩ : SlR)] := by simp [flat, Flat.cells, HC.out.2.2.1]
            have HX := Lib.hid (And.intro hst (And.intro HC.out.2.1 (And.intro hcs (And.intro hE1 (And.intro hE2 hG2))))); clear hst hcs hE1 hE2 hG2 hk hkeep hnil
            go_wp2_with (at_builtin; go_must (refine wpList_app (α := SlR) (n := m) (m := 1) (B := wi.heap.size + 1) (r := [⟨A', c', cur⟩]) rfl (.tmp 69) (.tmp 71) _ rfl w.heap.size 47 j0 _ 24 Try.underlying46 hj hy0 hy1 hy2 rfl (by decide) slr_one (by rfl) HX.out.2.1 (HX.out.1.rws.1.alloc _) (by rfl) (At.built wi _ _ [(⟨A', c', cur⟩ : SlR)] HX.out.2.2.1 (fun _ _ => trivial)) rfl (by omega) (by simp only [maxLen]; omega) (by simp; omega) ?_); intro A3 c3 w5 ho5 hgr5 hat5; have H5 := Lib.hid (And.intro ho5 (And.intro hgr5 hat5)); clear ho5 hgr5 hat5)
            go_roundg 0
            case measure => omega
            case rel =>
              have hsa := HX.out.1.fresh ((Below.refl wi.heap.size wi).alloc (Nat.le_refl _) (.cells #[.slice A' ql c'] 47))
              have hnx := RrS.next (NA := A') (nc := c') (A2 := none) (c2 := 0) hsa HC.out.2.2.2.2.2 gl (by rw [HX.out.2.2.2.1]; exact H5.out.1) H5.out.2.1 (by rw [HX.out.2.2.2.1]; exact hsa.own) (by rw [HX.out.2.2.2.2.1]; exact Own.nil_)
              refine ⟨nextE (rE has) cur, none, 0, A3, c3, m + 1, 0, _, rfl, rfl, rfl, ⟨hnx, by rw [List.length_append, HX.out.2.1]; rfl, by rw [HX.out.2.2.2.2.1]; rfl, (HX.out.2.2.2.2.2.alloc _).grown H5.out.2.1 (own_ne_ty hsa.rws.1 (HX.out.2.2.2.2.2.alloc _) (by decide))⟩, (hbw.alloc (by omega) _).grown H5.out.2.1 (by simp; omega) (fun g hg => (hsa.rws.1.lt g hg).1), by have := H5.out.2.1.size; simp at this; omega⟩
          · have hne0 : nowL (rE has) cur ≠ [] := fun e => hn0 (by rw [← hk.2.1]; exact congrArg List.length e)
            have hE1 : nowE (rE has) cur = nowL (rE has) cur := by unfold nowE; rw [if_neg hne0]
            have hE2 : nextE (rE has) cur = nextL (rE has) cur := by unfold nextE; rw [if_neg hne0]
            have hcs : (#[Value.slice NA nn nc] : Array Value).toList = flat [(⟨NA, nc, nowL (rE has) cur⟩ : SlR)] := by
              have := hk.2.1
              change (nowL (rE has) cur).length = nn at this
              simp [flat, Flat.cells, this]
            have d5 : ((nn : Int) == 0) = false := by simp; omega
            have hxn2 : xn < ql := by rw [hE2] at hxlt; have := hk.2.2.2.1; change (nextL (rE has) cur).length = xn at this; omega
            have hx3 : (nextL (rE has) cur).length = xn := hk.2.2.2.1
            have HX := Lib.hid (And.intro hst (And.intro HC.out.2.1 (And.intro hcs (And.intro hE1 (And.intro hE2 (And.intro hG2 (And.intro hk hx3))))))); clear hst hcs hE1 hE2 hG2 hk hkeep hne0 hn0 hx3
            go_wp2_with (at_builtin; go_must (refine wpList_app (α := SlR) (n := m) (m := 1) (B := wi.heap.size + 1) (r := [⟨NA, nc, nowL (rE has) cur⟩]) rfl (.tmp 69) (.tmp 71) _ rfl w.heap.size 47 j0 _ 24 Try.underlying46 hj hy0 hy1 hy2 rfl (by decide) slr_one (by rfl) HX.out.2.1 (HX.out.1.rws.1.alloc _) (by rfl) (At.built wi _ _ [(⟨NA, nc, nowL (rE has) cur⟩ : SlR)] HX.out.2.2.1 (fun _ _ => trivial)) rfl (by omega) (by simp only [maxLen]; omega) (by simp; omega) ?_); intro A3 c3 w5 ho5 hgr5 hat5; have H5 := Lib.hid (And.intro ho5 (And.intro hgr5 hat5)); clear ho5 hgr5 hat5)
            go_roundg xn
            case measure => omega
            case rel =>
              have hsa := HX.out.1.fresh ((Below.refl wi.heap.size wi).alloc (Nat.le_refl _) (.cells #[.slice NA nn nc] 47))
              have hnx := RrS.next (NA := NA) (nc := nc) (A2 := XA) (c2 := xc) hsa HC.out.2.2.2.2.2 gl (by rw [HX.out.2.2.2.1]; exact H5.out.1) H5.out.2.1 (by rw [HX.out.2.2.2.1]; exact (HX.out.2.2.2.2.2.2.1.1.alloc _).base_le hwb) (by rw [HX.out.2.2.2.2.1]; exact (HX.out.2.2.2.2.2.2.1.2.2.1.alloc _).base_le hwb)
              refine ⟨nextE (rE has) cur, XA, xc, A3, c3, m + 1, xn, _, rfl, rfl, rfl, ⟨hnx, by rw [List.length_append, HX.out.2.1]; rfl, by rw [HX.out.2.2.2.2.1]; exact HX.out.2.2.2.2.2.2.2, (HX.out.2.2.2.2.2.1.alloc _).grown H5.out.2.1 (own_ne_ty hsa.rws.1 (HX.out.2.2.2.2.2.1.alloc _) (by decide))⟩, (hbw.alloc (by omega) _).grown H5.out.2.1 (by simp; omega) (fun g hg => (hsa.rws.1.lt g hg).1), by have := H5.out.2.1.size; simp at this; omega⟩

end Go.Proofs.Ytpkccpegdpodoaa

/- The closed fact 'ended'; the law EndsTell, walked. -/
namespace Go.Proofs.Ytpkccpegdpodoaa
open Go.RowKit

attribute [local go_sem ↓] Go.wp_at_zero Go.wp_at_succ

theorem from_ended1 : fromL [[1], [], []] [2] [] = [false, false, true] := by
  symm
  refine fromL_eq rfl (fun n hn => ?_) (fun n hn => ?_) (fun n k l h1 h2 h3 => ?_) (fun k v hk hp => ?_)
  · match n, hn with
    | 0, hn => simp at hn
    | 1, hn => simp at hn
    | 2, _ => exact .root (by simp)
    | n + 3, hn => simp at hn
  · simp at hn; obtain rfl : n = 2 := by omega
    rfl
  · match n, h2 with
    | 0, h2 => simp at h1
    | 1, h2 => simp at h1
    | 2, h2 => simp at h2; subst h2; simp at h3
    | n + 3, h2 => simp at h2
  · simp at hp
theorem from_ended2 : fromL [[1], [], []] [0] [] = [true, true, false] := by
  symm
  have h0 : RT [[1], [], []] [0] [] 0 := .root (by simp)
  refine fromL_eq rfl (fun n hn => ?_) (fun n hn => ?_) (fun n k l h1 h2 h3 => ?_) (fun k v hk hp => ?_)
  · match n, hn with
    | 0, _ => exact h0
    | 1, _ => exact .edge (n := 0) (l := [1]) h0 rfl (by simp)
    | 2, hn => simp at hn
    | n + 3, hn => simp at hn
  · simp at hn; subst hn; rfl
  · match n, h2 with
    | 0, h2 => simp at h2; subst h2; simp at h3; obtain rfl : k = 1 := by omega
               rfl
    | 1, h2 => simp at h2; subst h2; simp at h3
    | 2, h2 => simp at h1
    | n + 3, h2 => simp at h2
  · simp at hp
theorem at_rows3 {w : World} {B g a : Nat} {t : TypeId} (hg : Blk w g t #[.slice (some ⟨a, 0, none⟩) 1 1, .slice none 0 0, .slice none 0 0]) (hB : g < B) (h : At w B (some ⟨a, 0, none⟩) [(1 : Int)]) : At w B (some ⟨g, 0, none⟩) [([1] : List Int), [], []] := by
  have key : ∀ (i : Nat) (v : Value), i < 3 → (#[Value.slice (some ⟨a, 0, none⟩) 1 1, .slice none 0 0, .slice none 0 0] : Array Value)[i]? = some v → CellsAt w g (0 + i * 1) [v] := by
    intro i v _ hv j u hu
    have hj : j = 0 := by have := (List.getElem?_eq_some_iff.1 hu).1; simp at this; exact this
    subst hj
    simp at hu
    subst hu
    rw [show 0 + i * 1 + 0 = i by omega]
    exact hg.cell i hv
  intro i x hx
  match i, hx with
  | 0, hx => simp at hx; subst hx; exact ⟨g, 0, [_], rfl, hB, key 0 _ (by omega) rfl, some ⟨a, 0, none⟩, 1, rfl, by simp, by simp [maxLen], (fun e => by cases e), h⟩
  | 1, hx => simp at hx; subst hx; exact ⟨g, 0, [_], rfl, hB, key 1 _ (by omega) rfl, none, 0, rfl, Nat.le_refl _, by simp [maxLen], fun _ => rfl, At.nil_⟩
  | 2, hx => simp at hx; subst hx; exact ⟨g, 0, [_], rfl, hB, key 2 _ (by omega) rfl, none, 0, rfl, Nat.le_refl _, by simp [maxLen], fun _ => rfl, At.nil_⟩
  | i + 3, hx => simp at hx
theorem du_ended : duI (fromL [[1], [], []] [2] []) [0, 2] = [0] := by rw [from_ended1]; rfl
theorem st_ended : stI [[1], [], []] [2] [0, 2] = [0, 1] := by unfold stI; rw [du_ended, from_ended2, from_ended1]; rfl
theorem stI_ok {has : List (List Int)} {roots l : List Int} (h : has.length ≤ 1000000) : ∀ x ∈ stI has roots l, Flat.ok x := by
  unfold stI
  exact rising_ok _ (by rw [stayE_length, fromL_length]; exact h)
theorem duI_ok {has : List (List Int)} {roots l : List Int} (h : has.length ≤ 1000000) : ∀ x ∈ duI (fromL has roots []) l, Flat.ok x := by
  unfold duI
  exact rising_ok _ (by rw [dueL_length, fromL_length]; exact h)

set_option maxHeartbeats 800000 in
set_option maxRecDepth 100000 in
theorem ended_any (w : World) : Calls Try.prog 79 #[] w fun e w' => e = .returned (.bool true) ∧ Below w.heap.size w w' := by
  have h1 : endsE [[1], [], []] [2] [0, 2] = 0 := by decide
  have H := Lib.hid h1; clear h1
  go_enter Try.func79, Try.ntmps79
  go_wp2_with fail
  refine calls_world (fun W => At W W.heap.size (some ⟨w.heap.size + 1, 0, none⟩) [([1] : List Int), [], []] ∧ At W W.heap.size (some ⟨w.heap.size + 1 + 1, 0, none⟩) [(2 : Int)] ∧ At W W.heap.size (some ⟨w.heap.size + 1 + 1 + 1, 0, none⟩) [(0 : Int), 2] ∧ Below w.heap.size w W) ⟨?_, ?_, ?_, ?_⟩ ?_
  · have h0 := At.built w #[.int .i64 1] 3 [(1 : Int)] rfl (by intro x hx; simp at hx; subst hx; exact (by unfold I64; omega : I64 1))
    refine at_rows3 (((Blk.at_ _ _ _ (by simp)).alloc _).alloc _) (by simp) ?_
    exact (((h0.alloc (by simp) _).alloc (by simp) _).alloc (by simp) _).more (by simp)
  · have := (At.built ((w.alloc (.cells #[.int .i64 1] 3)).alloc (.cells #[.slice (some ⟨w.heap.size, 0, none⟩) 1 1, .slice none 0 0, .slice none 0 0] 47)) #[.int .i64 2] 3 [(2 : Int)] rfl (by intro x hx; simp at hx; subst hx; exact (by unfold I64; omega : I64 2))).alloc (by simp) (.cells #[.int .i64 0, .int .i64 2] 3)
    simp only [World.size_alloc] at this
    exact this.more (by simp)
  · have := At.built (((w.alloc (.cells #[.int .i64 1] 3)).alloc (.cells #[.slice (some ⟨w.heap.size, 0, none⟩) 1 1, .slice none 0 0, .slice none 0 0] 47)).alloc (.cells #[.int .i64 2] 3)) #[.int .i64 0, .int .i64 2] 3 [(0 : Int), 2] rfl (by intro x hx; simp at hx; show I64 x; unfold I64; omega)
    simp only [World.size_alloc] at this
    exact this.more (by simp)
  · exact ((((Below.refl _ _).alloc (Nat.le_refl _) _).alloc (by simp) _).alloc (by simp; omega) _).alloc (by simp; omega) _
  rintro W ⟨hA, hB, hC, hb⟩
  have hs := hb.size
  refine (eDue_any W.heap.size 3 1 2 (some ⟨w.heap.size + 1, 0, none⟩) (some ⟨w.heap.size + 1 + 1, 0, none⟩) (some ⟨w.heap.size + 1 + 1 + 1, 0, none⟩) [[1], [], []] [2] [0, 2] W hA hB hC (Nat.le_refl _) (by simp) (by simp) (by simp) ⟨by simp, by simp [maxLen]⟩).mono ?_
  rintro e w1 ⟨hb1, hp⟩
  clear hA hB hC
  rcases hp with ⟨-, A1, c1, S1, d1, rfl, hown, hown2⟩ | ⟨h0, -⟩
  rotate_left
  · exact absurd H.out h0
  rw [du_ended] at hown
  rw [du_ended, st_ended]
  rw [st_ended] at hown2
  have HO := Lib.hid (And.intro hown hown2); clear hown hown2
  have hs1 := hb1.size
  go_wp2_with fail
  refine calls_world (fun V => At V V.heap.size (some ⟨w1.heap.size, 0, none⟩) [(0 : Int)] ∧ Below w1.heap.size w1 V ∧ w1.heap.size < V.heap.size) ⟨?_, (Below.refl _ _).alloc (Nat.le_refl _) _, by simp⟩ ?_
  · have := At.built w1 #[.int .i64 0] 3 [(0 : Int)] rfl (by intro x hx; simp at hx; show I64 x; unfold I64; omega)
    exact this.more (by simp)
  rintro V ⟨hD, hb2, hs2⟩
  have hat := (HO.out.1.fresh hb2).at_ (by intro x hx; simp at hx; show I64 x; unfold I64; omega)
  refine (eqInt_n A1 _ c1 1 V.heap.size 1 1 [(0 : Int)] [(0 : Int)] V rfl rfl hat hD (by simp)).mono ?_
  rintro e w3 ⟨rfl, rfl⟩
  clear hat hD
  go_wp2_with fail
  refine calls_world (fun U => At U U.heap.size (some ⟨V.heap.size, 0, none⟩) [(0 : Int), 1] ∧ Below V.heap.size V U) ⟨?_, (Below.refl _ _).alloc (Nat.le_refl _) _⟩ ?_
  · have := At.built V #[.int .i64 0, .int .i64 1] 3 [(0 : Int), 1] rfl (by intro x hx; simp at hx; show I64 x; unfold I64; omega)
    exact this.more (by simp)
  rintro U ⟨hD, hb3⟩
  have hat := ((HO.out.2.fresh hb2).fresh hb3).at_ (by intro x hx; simp at hx; show I64 x; unfold I64; omega)
  refine (eqInt_n S1 _ d1 2 U.heap.size 2 2 [(0 : Int), 1] [(0 : Int), 1] U rfl rfl hat hD (by simp)).mono ?_
  rintro e w3 ⟨rfl, rfl⟩
  clear hat hD
  go_wp2_with fail
  go_ret
  exact ⟨rfl, hb.trans ((hb1.mono hs).trans ((hb2.mono (by omega)).trans (hb3.mono (by omega))))⟩

set_option maxHeartbeats 6400000 in
set_option maxRecDepth 100000 in
theorem endsTell_any (B hc rc lc : Nat) (HA RA LA : Option Addr) (has : List (List Int)) (roots l : List Int) (w : World) (hh : At w B HA has) (hr : At w B RA roots) (hla : At w B LA l) (hB : B ≤ w.heap.size) (hl : has.length ≤ 9223372036854775807) (hrl : roots.length ≤ 9223372036854775807) (hll : l.length ≤ 9223372036854775807) (hrc : roots.length ≤ rc ∧ rc ≤ maxLen) :
    Calls Try.prog 11 #[.agg #[.slice HA has.length hc, .slice RA roots.length rc], .slice LA l.length lc] w fun e w' => e = .returned (.bool true) ∧ Below w.heap.size w w' := by
  have HH := Lib.hid (And.intro hh (And.intro hr hla)); clear hh hr hla
  go_enter Try.func11, Try.ntmps11
  go_wp2_with fail
  refine calls_world (fun W => Blk W w.heap.size 49 #[.slice HA has.length hc, .slice RA roots.length rc] ∧ Below w.heap.size w W ∧ w.heap.size + 1 ≤ W.heap.size) ⟨Blk.new _ _ _, (Below.refl _ _).alloc (Nat.le_refl _) _, by simp⟩ ?_
  rintro W ⟨hG, hb0, hs0⟩
  refine (ended_any W).mono ?_
  rintro e w1 ⟨rfl, hb1⟩
  have hs1 := hb1.size
  have hbl1 := hb0.trans (hb1.mono (by omega))
  have HG1 := Lib.hid (hG.fresh hb1); clear hG
  have g0 := HG1.out.cell 0 (v := .slice HA has.length hc) rfl
  have g1 := HG1.out.cell 1 (v := .slice RA roots.length rc) rfl
  go_wp2_with fail
  refine (endsFault_any B hc rc lc HA RA LA has roots l w1 (HH.out.1.below (hbl1.mono hB)) (HH.out.2.1.below (hbl1.mono hB)) (HH.out.2.2.below (hbl1.mono hB)) (by omega) hl hrl hll).mono ?_
  rintro e w2 ⟨rfl, hb2⟩
  have hs2 := hb2.size
  have hbl2 := hbl1.trans (hb2.mono (by omega))
  have HG2 := Lib.hid (HG1.out.fresh hb2)
  clear g0 g1 HG1
  have g0 := HG2.out.cell 0 (v := .slice HA has.length hc) rfl
  have g1 := HG2.out.cell 1 (v := .slice RA roots.length rc) rfl
  go_wp2_with fail
  refine (eDue_any B hc rc lc HA RA LA has roots l w2 (HH.out.1.below (hbl2.mono hB)) (HH.out.2.1.below (hbl2.mono hB)) (HH.out.2.2.below (hbl2.mono hB)) (by omega) hl hrl hll hrc).mono ?_
  rintro e w3 ⟨hb3, hdu⟩
  have hs3 := hb3.size
  have hbl3 := hbl2.trans (hb3.mono (by omega))
  have HG3 := Lib.hid (HG2.out.fresh hb3)
  clear g0 g1 HG2
  have g0 := HG3.out.cell 0 (v := .slice HA has.length hc) rfl
  have g1 := HG3.out.cell 1 (v := .slice RA roots.length rc) rfl
  obtain ⟨ee, hee⟩ : ∃ ee, endsE has roots l = ee := ⟨_, rfl⟩
  have hround := eRounds_any B hc rc lc HA RA LA has roots l w3 (HH.out.1.below (hbl3.mono hB)) (HH.out.2.1.below (hbl3.mono hB)) (HH.out.2.2.below (hbl3.mono hB)) (by omega) hl hrl hll hrc
  unfold ERPost at hround
  rw [hee] at hdu hround ⊢
  by_cases h0 : ee = 0
  rotate_left
  · rcases hdu with ⟨h, -⟩ | ⟨-, rfl⟩
    · exact absurd h h0
    have hne : (ee != 0) = true := by simp [h0]
    have HE := Lib.hid (And.intro hround h0); clear hround h0 hee
    go_wp2_with fail
    refine HE.out.1.mono ?_
    rintro e w4 ⟨hb4, hrr⟩
    have hs4 := hb4.size
    rcases hrr with ⟨h, -⟩ | ⟨-, rfl⟩
    · exact absurd h HE.out.2
    go_wp2_with fail
    go_ret
    exact ⟨rfl, hbl3.trans (hb4.mono (by omega))⟩
  subst h0
  obtain ⟨hge, hlq, hin⟩ := endsE_right hee
  obtain ⟨gl, grl, ghl, gright, gsrc⟩ := grErr_ok hge
  rcases hdu with ⟨-, A3, c3, S3, d3, rfl, ho3, ht3⟩ | ⟨h, -⟩
  rotate_left
  · exact absurd rfl h
  have HN := Lib.hid (And.intro ho3 (And.intro ht3 (And.intro hround hee))); clear ho3 ht3 hround
  go_wp2_with fail
  refine HN.out.2.2.1.mono ?_
  rintro e w4 ⟨hb4, hrr⟩
  have hs4 := hb4.size
  have hbl4 := hbl3.trans (hb4.mono (by omega))
  rcases hrr with ⟨-, OA, oc, os, hos, rfl, hO4⟩ | ⟨h, -⟩
  rotate_left
  · exact absurd rfl h
  have HG4 := Lib.hid (HG3.out.fresh hb4)
  have H4 := Lib.hid (And.intro hos (And.intro hO4 (And.intro (HN.out.1.fresh hb4) (HN.out.2.1.fresh hb4)))); clear hos hO4
  clear g0 g1 HG3
  have g0 := HG4.out.cell 0 (v := .slice HA has.length hc) rfl
  have g1 := HG4.out.cell 1 (v := .slice RA roots.length rc) rfl
  go_wp2_with fail
  refine (rDue_any B hc rc lc l.length HA RA LA has roots l w4 (HH.out.1.below (hbl4.mono hB)) (HH.out.2.1.below (hbl4.mono hB)) (HH.out.2.2.below (hbl4.mono hB)) (by omega) rfl HN.out.2.2.2).mono ?_
  rintro e w5 ⟨⟨A5, c5, S5, d5, rfl, ho5, ht5⟩, hb5⟩
  have hs5 := hb5.size
  have hbl5 := hbl4.trans (hb5.mono (by omega))
  have HG5 := Lib.hid (HG4.out.fresh hb5)
  have H5 := Lib.hid (And.intro ho5 (And.intro ht5 (And.intro (H4.out.2.1.fresh hb5) (And.intro (H4.out.2.2.1.fresh hb5) (H4.out.2.2.2.fresh hb5))))); clear ho5 ht5
  clear g0 g1 HG4
  have g0 := HG5.out.cell 0 (v := .slice HA has.length hc) rfl
  have g1 := HG5.out.cell 1 (v := .slice RA roots.length rc) rfl
  go_wp2_with fail
  refine (rRounds_any B hc rc lc l.length HA RA LA has roots l w5 (HH.out.1.below (hbl5.mono hB)) (HH.out.2.1.below (hbl5.mono hB)) (HH.out.2.2.below (hbl5.mono hB)) (by omega) rfl HN.out.2.2.2).mono ?_
  rintro e w6 ⟨⟨PA, pc, ps, hps, rfl, hO6⟩, hb6⟩
  have hs6 := hb6.size
  have hbl6 := hbl5.trans (hb6.mono (by omega))
  have hde := duI_ok (roots := roots) (l := l) (show has.length ≤ 1000000 by omega)
  have hse := stI_ok (roots := roots) (l := l) (show has.length ≤ 1000000 by omega)
  have hdl : (duI (fromL has roots []) l).length ≤ 100 := by have := duI_length (fromL has roots []) l; rw [fromL_length] at this; omega
  have hsl : (stI has roots l).length ≤ 100 := by have := rising_length (stayE (fromL has (duI (fromL has roots []) l) []) (fromL has roots [])); rw [stayE_length, fromL_length] at this; unfold stI; omega
  obtain ⟨rs, hrs⟩ : ∃ rs, roundsI (rE has) (duI (fromL has roots []) l) = rs := ⟨_, rfl⟩
  obtain ⟨n, hn⟩ : ∃ n, rs.length = n := ⟨_, rfl⟩
  have hol : os.length = n := by rw [← hn, ← hrs, ← H4.out.1, List.length_map]
  have hpl : ps.length = n := by rw [← hn, ← hrs, ← hps, List.length_map]
  have hnq : n ≤ 100 := by rw [← hn, ← hrs]; exact Nat.le_trans (roundsI_len _ _ _ (Nat.le_refl _)) hdl
  have a1 : At w6 w6.heap.size A3 (duI (fromL has roots []) l) := (H5.out.2.2.2.1.fresh hb6).at_ hde
  have a2 : At w6 w6.heap.size S3 (stI has roots l) := (H5.out.2.2.2.2.fresh hb6).at_ hse
  have a3 : At w6 w6.heap.size A5 (duI (fromL has roots []) l) := (H5.out.1.fresh hb6).at_ hde
  have a4 : At w6 w6.heap.size S5 (stI has roots l) := (H5.out.2.1.fresh hb6).at_ hse
  have r1 : At w6 w6.heap.size OA rs := by have := (H5.out.2.2.1.fresh hb6).at_; rw [H4.out.1, hrs] at this; exact this
  have r2 : At w6 w6.heap.size PA rs := by have := hO6.at_; rw [hps, hrs] at this; exact this
  have hee1 := eqInt_n A3 A5 c3 c5 w6.heap.size _ _ _ _ w6 rfl rfl a1 a3 (by omega)
  have hee2 := eqInt_n S3 S5 d3 d5 w6.heap.size _ _ _ _ w6 rfl rfl a2 a4 (by omega)
  rw [decide_eq_true rfl] at hee1 hee2
  rw [hol, hpl]
  have H6 := Lib.hid (And.intro hee1 (And.intro hee2 (And.intro r1 (And.intro r2 hn)))); clear hee1 hee2 a1 a2 a3 a4 r1 r2 hps hO6 hde hse hn hrs hol hpl g0 g1
  go_wp2_with fail
  refine H6.out.1.mono ?_
  rintro e w7 ⟨rfl, rfl⟩
  go_wp2_with fail
  refine H6.out.2.1.mono ?_
  rintro e w8 ⟨rfl, rfl⟩
  go_wp2_with fail
  go_loopg [80] n (fun gk iv wr => ∃ k : Nat, k ≤ n ∧ gk = n - k ∧ iv = .int .i64 k ∧ Below w6.heap.size w6 wr)
  case atStart => exact ⟨0, Nat.zero_le _, rfl, rfl, Below.refl _ _⟩
  case round =>
    obtain ⟨k, hk, rfl, rfl, hbk⟩ := hrel
    by_cases hlt : k < n
    · obtain ⟨b1, o1, x1, X1, xc1, rfl, hb1', hx1, e1, hX1, hX64a, hX64b⟩ := H6.out.2.2.1.slice_ (k := k) (by have := H6.out.2.2.2.2; omega)
      obtain ⟨b2, o2, x2, X2, xc2, rfl, hb2', hx2, e2, hX2, -, -⟩ := H6.out.2.2.2.1.slice_ (k := k) (by have := H6.out.2.2.2.2; omega)
      obtain rfl : x1 = x2 := by rw [hx1] at hx2; injection hx2
      have q1 : wr.cell? ⟨b1, o1 + k, none⟩ = some (.slice X1 x1.length xc1) := (hbk.cell hb1').trans e1
      have q2 : wr.cell? ⟨b2, o2 + k, none⟩ = some (.slice X2 x1.length xc2) := (hbk.cell hb2').trans e2
      have c0 : (0 : Int) ≤ (k : Int) := by omega
      have c1 : (k : Int) < (n : Int) := by omega
      have hx64 : x1.length ≤ 9223372036854775807 := by have := hX64a; have := hX64b; unfold maxLen at this; omega
      have hAt1 := hX1.below hbk
      have hAt2 := hX2.below hbk
      have heq := fun (V : World) (h1 : At V w6.heap.size X1 x1) (h2 : At V w6.heap.size X2 x1) => eqInt_n X1 X2 xc1 xc2 w6.heap.size _ _ x1 x1 V rfl rfl h1 h2 hx64
      have HX := Lib.hid (And.intro heq (And.intro hAt1 hAt2)); clear heq hAt1 hAt2 hX1 hX2 hx1 hx2
      go_upto_region 17 with fail
      go_quiet ((go_at_call 31; exact Calls.quiet_of_same ((HX.out.1 _ (by first | exact HX.out.2.1 | exact HX.out.2.1.drew | exact HX.out.2.1.drewN _) (by first | exact HX.out.2.2 | exact HX.out.2.2.drew | exact HX.out.2.2.drewN _)).mono fun _ _ h => by rw [decide_eq_true rfl] at h; exact ⟨h.1, h.2.symm⟩)))
      go_wp2_with fail
      go_roundg (n - (k + 1))
      case measure => omega
      case rel => exact ⟨k + 1, by omega, rfl, by go_num, below_drewN hbk _⟩
    · obtain rfl : n = k := by omega
      go_wp2_with fail
      go_ret
      exact ⟨rfl, hbl6.trans (hbk.mono (by omega))⟩

end Go.Proofs.Ytpkccpegdpodoaa

/-
  Go's struct types as Lean's (printed by gentypes.py): their cells, their reading, what an element of a slice of them holds.
-/
namespace Go.Proofs.Ytpkccpegdpodoaa
open Go.RowKit

structure Mk where
  cell : Int
  kind : Int
  num : Int
  vals : List Int

instance : Enc Mk where
  sz := 4
  rd w B cs x := ∃ (c_vals : Value), cs = [.int .i64 x.cell] ++ ([.int .i64 x.kind] ++ ([.int .i64 x.num] ++ ([c_vals]))) ∧ I64 x.cell ∧ I64 x.kind ∧ I64 x.num ∧ Enc.rd w B [c_vals] x.vals
  len := by
    rintro w B cs x ⟨c_vals, rfl, h0, h1, h2, h3⟩
    simp only [List.length_append, List.length_cons, List.length_nil]
  keep := by
    rintro w w2 B cs x ⟨c_vals, rfl, h0, h1, h2, h3⟩ hk
    exact ⟨_, rfl, h0, h1, h2, Enc.keep h3 hk⟩
  more := by
    rintro w B B2 cs x ⟨c_vals, rfl, h0, h1, h2, h3⟩ hB
    exact ⟨_, rfl, h0, h1, h2, Enc.more h3 hB⟩

theorem At.mk_ {w : World} {B : Nat} {A : Option Addr} {l : List Mk} {k : Nat} (h : At w B A l) (hk : k < l.length) :
    ∃ b o x A_vals c_vals, A = some ⟨b, o, none⟩ ∧ b < B ∧ l[k]? = some x ∧ w.cell? ⟨b, o + k * 4, none⟩ = some (.int .i64 x.cell) ∧ w.cell? ⟨b, o + k * 4 + 1, none⟩ = some (.int .i64 x.kind) ∧ w.cell? ⟨b, o + k * 4 + 2, none⟩ = some (.int .i64 x.num) ∧ w.cell? ⟨b, o + k * 4 + 3, none⟩ = some (.slice A_vals x.vals.length c_vals) ∧ At w B A_vals x.vals ∧ (x.vals.length ≤ c_vals ∧ c_vals ≤ maxLen) ∧ I64 x.cell ∧ I64 x.kind ∧ I64 x.num := by
  obtain ⟨x, hx⟩ : ∃ x, l[k]? = some x := ⟨l[k], List.getElem?_eq_getElem hk⟩
  obtain ⟨b, o, cs, rfl, hb, hc, hr⟩ := h k x hx
  obtain ⟨c_vals, rfl, h0, h1, h2, h3⟩ := hr
  obtain ⟨A_vals, d_vals, e3, l1_vals, l2_vals, -, at_vals⟩ := h3
  injection e3 with e3; subst e3
  exact ⟨b, o, x, A_vals, d_vals, rfl, hb, hx, hc 0 _ rfl, hc 1 _ rfl, hc 2 _ rfl, hc 3 _ rfl, at_vals, ⟨l1_vals, l2_vals⟩, h0, h1, h2⟩

structure Ex where
  at_ : Int
  steps : Int
  sets : List (Int × Int)
  makes : List Mk

instance : Enc Ex where
  sz := 4
  rd w B cs x := ∃ (c_sets : Value) (c_makes : Value), cs = [.int .i64 x.at_] ++ ([.int .i64 x.steps] ++ ([c_sets] ++ ([c_makes]))) ∧ I64 x.at_ ∧ I64 x.steps ∧ Enc.rd w B [c_sets] x.sets ∧ Enc.rd w B [c_makes] x.makes
  len := by
    rintro w B cs x ⟨c_sets, c_makes, rfl, h0, h1, h2, h3⟩
    simp only [List.length_append, List.length_cons, List.length_nil]
  keep := by
    rintro w w2 B cs x ⟨c_sets, c_makes, rfl, h0, h1, h2, h3⟩ hk
    exact ⟨_, _, rfl, h0, h1, Enc.keep h2 hk, Enc.keep h3 hk⟩
  more := by
    rintro w B B2 cs x ⟨c_sets, c_makes, rfl, h0, h1, h2, h3⟩ hB
    exact ⟨_, _, rfl, h0, h1, Enc.more h2 hB, Enc.more h3 hB⟩

theorem At.ex_ {w : World} {B : Nat} {A : Option Addr} {l : List Ex} {k : Nat} (h : At w B A l) (hk : k < l.length) :
    ∃ b o x A_sets c_sets A_makes c_makes, A = some ⟨b, o, none⟩ ∧ b < B ∧ l[k]? = some x ∧ w.cell? ⟨b, o + k * 4, none⟩ = some (.int .i64 x.at_) ∧ w.cell? ⟨b, o + k * 4 + 1, none⟩ = some (.int .i64 x.steps) ∧ w.cell? ⟨b, o + k * 4 + 2, none⟩ = some (.slice A_sets x.sets.length c_sets) ∧ w.cell? ⟨b, o + k * 4 + 3, none⟩ = some (.slice A_makes x.makes.length c_makes) ∧ At w B A_sets x.sets ∧ (x.sets.length ≤ c_sets ∧ c_sets ≤ maxLen) ∧ At w B A_makes x.makes ∧ (x.makes.length ≤ c_makes ∧ c_makes ≤ maxLen) ∧ I64 x.at_ ∧ I64 x.steps := by
  obtain ⟨x, hx⟩ : ∃ x, l[k]? = some x := ⟨l[k], List.getElem?_eq_getElem hk⟩
  obtain ⟨b, o, cs, rfl, hb, hc, hr⟩ := h k x hx
  obtain ⟨c_sets, c_makes, rfl, h0, h1, h2, h3⟩ := hr
  obtain ⟨A_sets, d_sets, e2, l1_sets, l2_sets, -, at_sets⟩ := h2
  injection e2 with e2; subst e2
  obtain ⟨A_makes, d_makes, e3, l1_makes, l2_makes, -, at_makes⟩ := h3
  injection e3 with e3; subst e3
  exact ⟨b, o, x, A_sets, d_sets, A_makes, d_makes, rfl, hb, hx, hc 0 _ rfl, hc 1 _ rfl, hc 2 _ rfl, hc 3 _ rfl, at_sets, ⟨l1_sets, l2_sets⟩, at_makes, ⟨l1_makes, l2_makes⟩, h0, h1⟩

structure Fr where
  fn : Int
  at_ : Int
  fto : Int
  gen : Int
  self : (Int × Int)
  regs : List (Int × Int)
  tries : List (Int × Int)

instance : Enc Fr where
  sz := 8
  rd w B cs x := ∃ (c_regs : Value) (c_tries : Value), cs = [.int .i64 x.fn] ++ ([.int .i64 x.at_] ++ ([.int .i64 x.fto] ++ ([.int .i64 x.gen] ++ ([.int .i64 x.self.1, .int .i64 x.self.2] ++ ([c_regs] ++ ([c_tries])))))) ∧ I64 x.fn ∧ I64 x.at_ ∧ I64 x.fto ∧ I64 x.gen ∧ I64 x.self.1 ∧ I64 x.self.2 ∧ Enc.rd w B [c_regs] x.regs ∧ Enc.rd w B [c_tries] x.tries
  len := by
    rintro w B cs x ⟨c_regs, c_tries, rfl, h0, h1, h2, h3, h4, h5, h6, h7⟩
    simp only [List.length_append, List.length_cons, List.length_nil]
  keep := by
    rintro w w2 B cs x ⟨c_regs, c_tries, rfl, h0, h1, h2, h3, h4, h5, h6, h7⟩ hk
    exact ⟨_, _, rfl, h0, h1, h2, h3, h4, h5, Enc.keep h6 hk, Enc.keep h7 hk⟩
  more := by
    rintro w B B2 cs x ⟨c_regs, c_tries, rfl, h0, h1, h2, h3, h4, h5, h6, h7⟩ hB
    exact ⟨_, _, rfl, h0, h1, h2, h3, h4, h5, Enc.more h6 hB, Enc.more h7 hB⟩

theorem At.fr_ {w : World} {B : Nat} {A : Option Addr} {l : List Fr} {k : Nat} (h : At w B A l) (hk : k < l.length) :
    ∃ b o x A_regs c_regs A_tries c_tries, A = some ⟨b, o, none⟩ ∧ b < B ∧ l[k]? = some x ∧ w.cell? ⟨b, o + k * 8, none⟩ = some (.int .i64 x.fn) ∧ w.cell? ⟨b, o + k * 8 + 1, none⟩ = some (.int .i64 x.at_) ∧ w.cell? ⟨b, o + k * 8 + 2, none⟩ = some (.int .i64 x.fto) ∧ w.cell? ⟨b, o + k * 8 + 3, none⟩ = some (.int .i64 x.gen) ∧ w.cell? ⟨b, o + k * 8 + 4, none⟩ = some (.int .i64 x.self.1) ∧ w.cell? ⟨b, o + k * 8 + 5, none⟩ = some (.int .i64 x.self.2) ∧ w.cell? ⟨b, o + k * 8 + 6, none⟩ = some (.slice A_regs x.regs.length c_regs) ∧ w.cell? ⟨b, o + k * 8 + 7, none⟩ = some (.slice A_tries x.tries.length c_tries) ∧ At w B A_regs x.regs ∧ (x.regs.length ≤ c_regs ∧ c_regs ≤ maxLen) ∧ At w B A_tries x.tries ∧ (x.tries.length ≤ c_tries ∧ c_tries ≤ maxLen) ∧ I64 x.fn ∧ I64 x.at_ ∧ I64 x.fto ∧ I64 x.gen ∧ I64 x.self.1 ∧ I64 x.self.2 := by
  obtain ⟨x, hx⟩ : ∃ x, l[k]? = some x := ⟨l[k], List.getElem?_eq_getElem hk⟩
  obtain ⟨b, o, cs, rfl, hb, hc, hr⟩ := h k x hx
  obtain ⟨c_regs, c_tries, rfl, h0, h1, h2, h3, h4, h5, h6, h7⟩ := hr
  obtain ⟨A_regs, d_regs, e6, l1_regs, l2_regs, -, at_regs⟩ := h6
  injection e6 with e6; subst e6
  obtain ⟨A_tries, d_tries, e7, l1_tries, l2_tries, -, at_tries⟩ := h7
  injection e7 with e7; subst e7
  exact ⟨b, o, x, A_regs, d_regs, A_tries, d_tries, rfl, hb, hx, hc 0 _ rfl, hc 1 _ rfl, hc 2 _ rfl, hc 3 _ rfl, hc 4 _ rfl, hc 5 _ rfl, hc 6 _ rfl, hc 7 _ rfl, at_regs, ⟨l1_regs, l2_regs⟩, at_tries, ⟨l1_tries, l2_tries⟩, h0, h1, h2, h3, h4, h5⟩

structure Ce where
  kind : Int
  num : Int
  vals : List (Int × Int)
  frames : List Fr

instance : Enc Ce where
  sz := 4
  rd w B cs x := ∃ (c_vals : Value) (c_frames : Value), cs = [.int .i64 x.kind] ++ ([.int .i64 x.num] ++ ([c_vals] ++ ([c_frames]))) ∧ I64 x.kind ∧ I64 x.num ∧ Enc.rd w B [c_vals] x.vals ∧ Enc.rd w B [c_frames] x.frames
  len := by
    rintro w B cs x ⟨c_vals, c_frames, rfl, h0, h1, h2, h3⟩
    simp only [List.length_append, List.length_cons, List.length_nil]
  keep := by
    rintro w w2 B cs x ⟨c_vals, c_frames, rfl, h0, h1, h2, h3⟩ hk
    exact ⟨_, _, rfl, h0, h1, Enc.keep h2 hk, Enc.keep h3 hk⟩
  more := by
    rintro w B B2 cs x ⟨c_vals, c_frames, rfl, h0, h1, h2, h3⟩ hB
    exact ⟨_, _, rfl, h0, h1, Enc.more h2 hB, Enc.more h3 hB⟩

theorem At.ce_ {w : World} {B : Nat} {A : Option Addr} {l : List Ce} {k : Nat} (h : At w B A l) (hk : k < l.length) :
    ∃ b o x A_vals c_vals A_frames c_frames, A = some ⟨b, o, none⟩ ∧ b < B ∧ l[k]? = some x ∧ w.cell? ⟨b, o + k * 4, none⟩ = some (.int .i64 x.kind) ∧ w.cell? ⟨b, o + k * 4 + 1, none⟩ = some (.int .i64 x.num) ∧ w.cell? ⟨b, o + k * 4 + 2, none⟩ = some (.slice A_vals x.vals.length c_vals) ∧ w.cell? ⟨b, o + k * 4 + 3, none⟩ = some (.slice A_frames x.frames.length c_frames) ∧ At w B A_vals x.vals ∧ (x.vals.length ≤ c_vals ∧ c_vals ≤ maxLen) ∧ At w B A_frames x.frames ∧ (x.frames.length ≤ c_frames ∧ c_frames ≤ maxLen) ∧ I64 x.kind ∧ I64 x.num := by
  obtain ⟨x, hx⟩ : ∃ x, l[k]? = some x := ⟨l[k], List.getElem?_eq_getElem hk⟩
  obtain ⟨b, o, cs, rfl, hb, hc, hr⟩ := h k x hx
  obtain ⟨c_vals, c_frames, rfl, h0, h1, h2, h3⟩ := hr
  obtain ⟨A_vals, d_vals, e2, l1_vals, l2_vals, -, at_vals⟩ := h2
  injection e2 with e2; subst e2
  obtain ⟨A_frames, d_frames, e3, l1_frames, l2_frames, -, at_frames⟩ := h3
  injection e3 with e3; subst e3
  exact ⟨b, o, x, A_vals, d_vals, A_frames, d_frames, rfl, hb, hx, hc 0 _ rfl, hc 1 _ rfl, hc 2 _ rfl, hc 3 _ rfl, at_vals, ⟨l1_vals, l2_vals⟩, at_frames, ⟨l1_frames, l2_frames⟩, h0, h1⟩

structure TI where
  op : Int
  a : Int
  b : Int
  c : Int
  n : Int
  exit : Int
  k : (Int × Int)

instance : Enc TI where
  sz := 8
  rd w B cs x := cs = [.int .i64 x.op] ++ ([.int .i64 x.a] ++ ([.int .i64 x.b] ++ ([.int .i64 x.c] ++ ([.int .i64 x.n] ++ ([.int .i64 x.exit] ++ ([.int .i64 x.k.1, .int .i64 x.k.2])))))) ∧ I64 x.op ∧ I64 x.a ∧ I64 x.b ∧ I64 x.c ∧ I64 x.n ∧ I64 x.exit ∧ I64 x.k.1 ∧ I64 x.k.2
  len h := by rw [h.1]; rfl
  keep h _ := h
  more h _ := h

theorem At.tI_ {w : World} {B : Nat} {A : Option Addr} {l : List TI} {k : Nat} (h : At w B A l) (hk : k < l.length) :
    ∃ b o x, A = some ⟨b, o, none⟩ ∧ b < B ∧ l[k]? = some x ∧ w.cell? ⟨b, o + k * 8, none⟩ = some (.int .i64 x.op) ∧ w.cell? ⟨b, o + k * 8 + 1, none⟩ = some (.int .i64 x.a) ∧ w.cell? ⟨b, o + k * 8 + 2, none⟩ = some (.int .i64 x.b) ∧ w.cell? ⟨b, o + k * 8 + 3, none⟩ = some (.int .i64 x.c) ∧ w.cell? ⟨b, o + k * 8 + 4, none⟩ = some (.int .i64 x.n) ∧ w.cell? ⟨b, o + k * 8 + 5, none⟩ = some (.int .i64 x.exit) ∧ w.cell? ⟨b, o + k * 8 + 6, none⟩ = some (.int .i64 x.k.1) ∧ w.cell? ⟨b, o + k * 8 + 7, none⟩ = some (.int .i64 x.k.2) ∧ I64 x.op ∧ I64 x.a ∧ I64 x.b ∧ I64 x.c ∧ I64 x.n ∧ I64 x.exit ∧ I64 x.k.1 ∧ I64 x.k.2 := by
  obtain ⟨x, hx⟩ : ∃ x, l[k]? = some x := ⟨l[k], List.getElem?_eq_getElem hk⟩
  obtain ⟨b, o, cs, rfl, hb, hc, hr⟩ := h k x hx
  obtain ⟨rfl, h0, h1, h2, h3, h4, h5, h6, h7⟩ := hr
  exact ⟨b, o, x, rfl, hb, hx, hc 0 _ rfl, hc 1 _ rfl, hc 2 _ rfl, hc 3 _ rfl, hc 4 _ rfl, hc 5 _ rfl, hc 6 _ rfl, hc 7 _ rfl, h0, h1, h2, h3, h4, h5, h6, h7⟩

structure TT where
  fn : Int
  at_ : Int
  loop : Int
  ins : List TI
  exits : List Ex
  turn : Ex
  back : Ex

instance : Enc TT where
  sz := 13
  rd w B cs x := ∃ (c_ins : Value) (c_exits : Value) (c_turn : List Value) (c_back : List Value), cs = [.int .i64 x.fn] ++ ([.int .i64 x.at_] ++ ([.int .i64 x.loop] ++ ([c_ins] ++ ([c_exits] ++ (c_turn ++ (c_back)))))) ∧ I64 x.fn ∧ I64 x.at_ ∧ I64 x.loop ∧ Enc.rd w B [c_ins] x.ins ∧ Enc.rd w B [c_exits] x.exits ∧ Enc.rd w B c_turn x.turn ∧ Enc.rd w B c_back x.back
  len := by
    rintro w B cs x ⟨c_ins, c_exits, c_turn, c_back, rfl, h0, h1, h2, h3, h4, h5, h6⟩
    have g5 := Enc.len h5
    have g6 := Enc.len h6
    simp only [List.length_append, List.length_cons, List.length_nil, g5, g6]
    rfl
  keep := by
    rintro w w2 B cs x ⟨c_ins, c_exits, c_turn, c_back, rfl, h0, h1, h2, h3, h4, h5, h6⟩ hk
    exact ⟨_, _, _, _, rfl, h0, h1, h2, Enc.keep h3 hk, Enc.keep h4 hk, Enc.keep h5 hk, Enc.keep h6 hk⟩
  more := by
    rintro w B B2 cs x ⟨c_ins, c_exits, c_turn, c_back, rfl, h0, h1, h2, h3, h4, h5, h6⟩ hB
    exact ⟨_, _, _, _, rfl, h0, h1, h2, Enc.more h3 hB, Enc.more h4 hB, Enc.more h5 hB, Enc.more h6 hB⟩

structure RM where
  cell : (Int × Int)
  kind : Int
  num : Int
  vals : List (Int × Int)

instance : Enc RM where
  sz := 5
  rd w B cs x := ∃ (c_vals : Value), cs = [.int .i64 x.cell.1, .int .i64 x.cell.2] ++ ([.int .i64 x.kind] ++ ([.int .i64 x.num] ++ ([c_vals]))) ∧ I64 x.cell.1 ∧ I64 x.cell.2 ∧ I64 x.kind ∧ I64 x.num ∧ Enc.rd w B [c_vals] x.vals
  len := by
    rintro w B cs x ⟨c_vals, rfl, h0, h1, h2, h3, h4⟩
    simp only [List.length_append, List.length_cons, List.length_nil]
  keep := by
    rintro w w2 B cs x ⟨c_vals, rfl, h0, h1, h2, h3, h4⟩ hk
    exact ⟨_, rfl, h0, h1, h2, h3, Enc.keep h4 hk⟩
  more := by
    rintro w B B2 cs x ⟨c_vals, rfl, h0, h1, h2, h3, h4⟩ hB
    exact ⟨_, rfl, h0, h1, h2, h3, Enc.more h4 hB⟩

theorem At.rM_ {w : World} {B : Nat} {A : Option Addr} {l : List RM} {k : Nat} (h : At w B A l) (hk : k < l.length) :
    ∃ b o x A_vals c_vals, A = some ⟨b, o, none⟩ ∧ b < B ∧ l[k]? = some x ∧ w.cell? ⟨b, o + k * 5, none⟩ = some (.int .i64 x.cell.1) ∧ w.cell? ⟨b, o + k * 5 + 1, none⟩ = some (.int .i64 x.cell.2) ∧ w.cell? ⟨b, o + k * 5 + 2, none⟩ = some (.int .i64 x.kind) ∧ w.cell? ⟨b, o + k * 5 + 3, none⟩ = some (.int .i64 x.num) ∧ w.cell? ⟨b, o + k * 5 + 4, none⟩ = some (.slice A_vals x.vals.length c_vals) ∧ At w B A_vals x.vals ∧ (x.vals.length ≤ c_vals ∧ c_vals ≤ maxLen) ∧ I64 x.cell.1 ∧ I64 x.cell.2 ∧ I64 x.kind ∧ I64 x.num := by
  obtain ⟨x, hx⟩ : ∃ x, l[k]? = some x := ⟨l[k], List.getElem?_eq_getElem hk⟩
  obtain ⟨b, o, cs, rfl, hb, hc, hr⟩ := h k x hx
  obtain ⟨c_vals, rfl, h0, h1, h2, h3, h4⟩ := hr
  obtain ⟨A_vals, d_vals, e4, l1_vals, l2_vals, -, at_vals⟩ := h4
  injection e4 with e4; subst e4
  exact ⟨b, o, x, A_vals, d_vals, rfl, hb, hx, hc 0 _ rfl, hc 1 _ rfl, hc 2 _ rfl, hc 3 _ rfl, hc 4 _ rfl, at_vals, ⟨l1_vals, l2_vals⟩, h0, h1, h2, h3⟩

structure RE where
  at_ : Int
  steps : Int
  sets : List (Int × Int × Int)
  makes : List RM

instance : Enc RE where
  sz := 4
  rd w B cs x := ∃ (c_sets : Value) (c_makes : Value), cs = [.int .i64 x.at_] ++ ([.int .i64 x.steps] ++ ([c_sets] ++ ([c_makes]))) ∧ I64 x.at_ ∧ I64 x.steps ∧ Enc.rd w B [c_sets] x.sets ∧ Enc.rd w B [c_makes] x.makes
  len := by
    rintro w B cs x ⟨c_sets, c_makes, rfl, h0, h1, h2, h3⟩
    simp only [List.length_append, List.length_cons, List.length_nil]
  keep := by
    rintro w w2 B cs x ⟨c_sets, c_makes, rfl, h0, h1, h2, h3⟩ hk
    exact ⟨_, _, rfl, h0, h1, Enc.keep h2 hk, Enc.keep h3 hk⟩
  more := by
    rintro w B B2 cs x ⟨c_sets, c_makes, rfl, h0, h1, h2, h3⟩ hB
    exact ⟨_, _, rfl, h0, h1, Enc.more h2 hB, Enc.more h3 hB⟩

theorem At.rE_ {w : World} {B : Nat} {A : Option Addr} {l : List RE} {k : Nat} (h : At w B A l) (hk : k < l.length) :
    ∃ b o x A_sets c_sets A_makes c_makes, A = some ⟨b, o, none⟩ ∧ b < B ∧ l[k]? = some x ∧ w.cell? ⟨b, o + k * 4, none⟩ = some (.int .i64 x.at_) ∧ w.cell? ⟨b, o + k * 4 + 1, none⟩ = some (.int .i64 x.steps) ∧ w.cell? ⟨b, o + k * 4 + 2, none⟩ = some (.slice A_sets x.sets.length c_sets) ∧ w.cell? ⟨b, o + k * 4 + 3, none⟩ = some (.slice A_makes x.makes.length c_makes) ∧ At w B A_sets x.sets ∧ (x.sets.length ≤ c_sets ∧ c_sets ≤ maxLen) ∧ At w B A_makes x.makes ∧ (x.makes.length ≤ c_makes ∧ c_makes ≤ maxLen) ∧ I64 x.at_ ∧ I64 x.steps := by
  obtain ⟨x, hx⟩ : ∃ x, l[k]? = some x := ⟨l[k], List.getElem?_eq_getElem hk⟩
  obtain ⟨b, o, cs, rfl, hb, hc, hr⟩ := h k x hx
  obtain ⟨c_sets, c_makes, rfl, h0, h1, h2, h3⟩ := hr
  obtain ⟨A_sets, d_sets, e2, l1_sets, l2_sets, -, at_sets⟩ := h2
  injection e2 with e2; subst e2
  obtain ⟨A_makes, d_makes, e3, l1_makes, l2_makes, -, at_makes⟩ := h3
  injection e3 with e3; subst e3
  exact ⟨b, o, x, A_sets, d_sets, A_makes, d_makes, rfl, hb, hx, hc 0 _ rfl, hc 1 _ rfl, hc 2 _ rfl, hc 3 _ rfl, at_sets, ⟨l1_sets, l2_sets⟩, at_makes, ⟨l1_makes, l2_makes⟩, h0, h1⟩

structure RO where
  op : Int
  a : Int
  b : Int
  c : Int
  n : Int
  exit : Int
  k : (Int × Int)

instance : Enc RO where
  sz := 8
  rd w B cs x := cs = [.int .i64 x.op] ++ ([.int .i64 x.a] ++ ([.int .i64 x.b] ++ ([.int .i64 x.c] ++ ([.int .i64 x.n] ++ ([.int .i64 x.exit] ++ ([.int .i64 x.k.1, .int .i64 x.k.2])))))) ∧ I64 x.op ∧ I64 x.a ∧ I64 x.b ∧ I64 x.c ∧ I64 x.n ∧ I64 x.exit ∧ I64 x.k.1 ∧ I64 x.k.2
  len h := by rw [h.1]; rfl
  keep h _ := h
  more h _ := h

theorem At.rO_ {w : World} {B : Nat} {A : Option Addr} {l : List RO} {k : Nat} (h : At w B A l) (hk : k < l.length) :
    ∃ b o x, A = some ⟨b, o, none⟩ ∧ b < B ∧ l[k]? = some x ∧ w.cell? ⟨b, o + k * 8, none⟩ = some (.int .i64 x.op) ∧ w.cell? ⟨b, o + k * 8 + 1, none⟩ = some (.int .i64 x.a) ∧ w.cell? ⟨b, o + k * 8 + 2, none⟩ = some (.int .i64 x.b) ∧ w.cell? ⟨b, o + k * 8 + 3, none⟩ = some (.int .i64 x.c) ∧ w.cell? ⟨b, o + k * 8 + 4, none⟩ = some (.int .i64 x.n) ∧ w.cell? ⟨b, o + k * 8 + 5, none⟩ = some (.int .i64 x.exit) ∧ w.cell? ⟨b, o + k * 8 + 6, none⟩ = some (.int .i64 x.k.1) ∧ w.cell? ⟨b, o + k * 8 + 7, none⟩ = some (.int .i64 x.k.2) ∧ I64 x.op ∧ I64 x.a ∧ I64 x.b ∧ I64 x.c ∧ I64 x.n ∧ I64 x.exit ∧ I64 x.k.1 ∧ I64 x.k.2 := by
  obtain ⟨x, hx⟩ : ∃ x, l[k]? = some x := ⟨l[k], List.getElem?_eq_getElem hk⟩
  obtain ⟨b, o, cs, rfl, hb, hc, hr⟩ := h k x hx
  obtain ⟨rfl, h0, h1, h2, h3, h4, h5, h6, h7⟩ := hr
  exact ⟨b, o, x, rfl, hb, hx, hc 0 _ rfl, hc 1 _ rfl, hc 2 _ rfl, hc 3 _ rfl, hc 4 _ rfl, hc 5 _ rfl, hc 6 _ rfl, hc 7 _ rfl, h0, h1, h2, h3, h4, h5, h6, h7⟩

structure RC where
  fn : Int
  at_ : Int
  loop : Int
  slots : Int
  orders : List RO
  exits : List RE
  turn : RE
  back : RE

instance : Enc RC where
  sz := 14
  rd w B cs x := ∃ (c_orders : Value) (c_exits : Value) (c_turn : List Value) (c_back : List Value), cs = [.int .i64 x.fn] ++ ([.int .i64 x.at_] ++ ([.int .i64 x.loop] ++ ([.int .i64 x.slots] ++ ([c_orders] ++ ([c_exits] ++ (c_turn ++ (c_back))))))) ∧ I64 x.fn ∧ I64 x.at_ ∧ I64 x.loop ∧ I64 x.slots ∧ Enc.rd w B [c_orders] x.orders ∧ Enc.rd w B [c_exits] x.exits ∧ Enc.rd w B c_turn x.turn ∧ Enc.rd w B c_back x.back
  len := by
    rintro w B cs x ⟨c_orders, c_exits, c_turn, c_back, rfl, h0, h1, h2, h3, h4, h5, h6, h7⟩
    have g6 := Enc.len h6
    have g7 := Enc.len h7
    simp only [List.length_append, List.length_cons, List.length_nil, g6, g7]
    rfl
  keep := by
    rintro w w2 B cs x ⟨c_orders, c_exits, c_turn, c_back, rfl, h0, h1, h2, h3, h4, h5, h6, h7⟩ hk
    exact ⟨_, _, _, _, rfl, h0, h1, h2, h3, Enc.keep h4 hk, Enc.keep h5 hk, Enc.keep h6 hk, Enc.keep h7 hk⟩
  more := by
    rintro w B B2 cs x ⟨c_orders, c_exits, c_turn, c_back, rfl, h0, h1, h2, h3, h4, h5, h6, h7⟩ hB
    exact ⟨_, _, _, _, rfl, h0, h1, h2, h3, Enc.more h4 hB, Enc.more h5 hB, Enc.more h6 hB, Enc.more h7 hB⟩

structure Gr where
  has : List (List Int)
  roots : List Int

instance : Enc Gr where
  sz := 2
  rd w B cs x := ∃ (c_has : Value) (c_roots : Value), cs = [c_has] ++ ([c_roots]) ∧ Enc.rd w B [c_has] x.has ∧ Enc.rd w B [c_roots] x.roots
  len := by
    rintro w B cs x ⟨c_has, c_roots, rfl, h0, h1⟩
    simp only [List.length_append, List.length_cons, List.length_nil]
  keep := by
    rintro w w2 B cs x ⟨c_has, c_roots, rfl, h0, h1⟩ hk
    exact ⟨_, _, rfl, Enc.keep h0 hk, Enc.keep h1 hk⟩
  more := by
    rintro w B B2 cs x ⟨c_has, c_roots, rfl, h0, h1⟩ hB
    exact ⟨_, _, rfl, Enc.more h0 hB, Enc.more h1 hB⟩

theorem At.gr_ {w : World} {B : Nat} {A : Option Addr} {l : List Gr} {k : Nat} (h : At w B A l) (hk : k < l.length) :
    ∃ b o x A_has c_has A_roots c_roots, A = some ⟨b, o, none⟩ ∧ b < B ∧ l[k]? = some x ∧ w.cell? ⟨b, o + k * 2, none⟩ = some (.slice A_has x.has.length c_has) ∧ w.cell? ⟨b, o + k * 2 + 1, none⟩ = some (.slice A_roots x.roots.length c_roots) ∧ At w B A_has x.has ∧ (x.has.length ≤ c_has ∧ c_has ≤ maxLen) ∧ At w B A_roots x.roots ∧ (x.roots.length ≤ c_roots ∧ c_roots ≤ maxLen) := by
  obtain ⟨x, hx⟩ : ∃ x, l[k]? = some x := ⟨l[k], List.getElem?_eq_getElem hk⟩
  obtain ⟨b, o, cs, rfl, hb, hc, hr⟩ := h k x hx
  obtain ⟨c_has, c_roots, rfl, h0, h1⟩ := hr
  obtain ⟨A_has, d_has, e0, l1_has, l2_has, -, at_has⟩ := h0
  injection e0 with e0; subst e0
  obtain ⟨A_roots, d_roots, e1, l1_roots, l2_roots, -, at_roots⟩ := h1
  injection e1 with e1; subst e1
  exact ⟨b, o, x, A_has, d_has, A_roots, d_roots, rfl, hb, hx, hc 0 _ rfl, hc 1 _ rfl, at_has, ⟨l1_has, l2_has⟩, at_roots, ⟨l1_roots, l2_roots⟩⟩

structure Hp where
  words : List U64
  roots : List U64

instance : Enc Hp where
  sz := 2
  rd w B cs x := ∃ (c_words : Value) (c_roots : Value), cs = [c_words] ++ ([c_roots]) ∧ Enc.rd w B [c_words] x.words ∧ Enc.rd w B [c_roots] x.roots
  len := by
    rintro w B cs x ⟨c_words, c_roots, rfl, h0, h1⟩
    simp only [List.length_append, List.length_cons, List.length_nil]
  keep := by
    rintro w w2 B cs x ⟨c_words, c_roots, rfl, h0, h1⟩ hk
    exact ⟨_, _, rfl, Enc.keep h0 hk, Enc.keep h1 hk⟩
  more := by
    rintro w B B2 cs x ⟨c_words, c_roots, rfl, h0, h1⟩ hB
    exact ⟨_, _, rfl, Enc.more h0 hB, Enc.more h1 hB⟩

theorem At.hp_ {w : World} {B : Nat} {A : Option Addr} {l : List Hp} {k : Nat} (h : At w B A l) (hk : k < l.length) :
    ∃ b o x A_words c_words A_roots c_roots, A = some ⟨b, o, none⟩ ∧ b < B ∧ l[k]? = some x ∧ w.cell? ⟨b, o + k * 2, none⟩ = some (.slice A_words x.words.length c_words) ∧ w.cell? ⟨b, o + k * 2 + 1, none⟩ = some (.slice A_roots x.roots.length c_roots) ∧ At w B A_words x.words ∧ (x.words.length ≤ c_words ∧ c_words ≤ maxLen) ∧ At w B A_roots x.roots ∧ (x.roots.length ≤ c_roots ∧ c_roots ≤ maxLen) := by
  obtain ⟨x, hx⟩ : ∃ x, l[k]? = some x := ⟨l[k], List.getElem?_eq_getElem hk⟩
  obtain ⟨b, o, cs, rfl, hb, hc, hr⟩ := h k x hx
  obtain ⟨c_words, c_roots, rfl, h0, h1⟩ := hr
  obtain ⟨A_words, d_words, e0, l1_words, l2_words, -, at_words⟩ := h0
  injection e0 with e0; subst e0
  obtain ⟨A_roots, d_roots, e1, l1_roots, l2_roots, -, at_roots⟩ := h1
  injection e1 with e1; subst e1
  exact ⟨b, o, x, A_words, d_words, A_roots, d_roots, rfl, hb, hx, hc 0 _ rfl, hc 1 _ rfl, at_words, ⟨l1_words, l2_words⟩, at_roots, ⟨l1_roots, l2_roots⟩⟩

structure De where
  do_ : Int
  a : Int
  b : Int
  n : Int

instance : Enc De where
  sz := 4
  rd w B cs x := cs = [.int .i64 x.do_] ++ ([.int .i64 x.a] ++ ([.int .i64 x.b] ++ ([.int .i64 x.n]))) ∧ I64 x.do_ ∧ I64 x.a ∧ I64 x.b ∧ I64 x.n
  len h := by rw [h.1]; rfl
  keep h _ := h
  more h _ := h

theorem At.de_ {w : World} {B : Nat} {A : Option Addr} {l : List De} {k : Nat} (h : At w B A l) (hk : k < l.length) :
    ∃ b o x, A = some ⟨b, o, none⟩ ∧ b < B ∧ l[k]? = some x ∧ w.cell? ⟨b, o + k * 4, none⟩ = some (.int .i64 x.do_) ∧ w.cell? ⟨b, o + k * 4 + 1, none⟩ = some (.int .i64 x.a) ∧ w.cell? ⟨b, o + k * 4 + 2, none⟩ = some (.int .i64 x.b) ∧ w.cell? ⟨b, o + k * 4 + 3, none⟩ = some (.int .i64 x.n) ∧ I64 x.do_ ∧ I64 x.a ∧ I64 x.b ∧ I64 x.n := by
  obtain ⟨x, hx⟩ : ∃ x, l[k]? = some x := ⟨l[k], List.getElem?_eq_getElem hk⟩
  obtain ⟨b, o, cs, rfl, hb, hc, hr⟩ := h k x hx
  obtain ⟨rfl, h0, h1, h2, h3⟩ := hr
  exact ⟨b, o, x, rfl, hb, hx, hc 0 _ rfl, hc 1 _ rfl, hc 2 _ rfl, hc 3 _ rfl, h0, h1, h2, h3⟩

end Go.Proofs.Ytpkccpegdpodoaa

/-
  From an argument's reading to Lean's data: what it asks of a type, and the general laws (integers, structs of integers, slices).
-/
namespace Go.Proofs.Ytpkccpegdpodoaa
open Go.RowKit Go.ChangeShapes Go.WideShapes Go.Deep

/-- how many bytes a value of the type has, whether a value's slices fit a bound on bytes, how many values it holds -/
class Meas (α : Type) where
  bytes : Nat
  fits : Nat → α → Prop
  blk : α → Nat

def blkSum {α : Type} [Meas α] : List α → Nat
  | [] => 0
  | x :: l => Meas.blk x + blkSum l

instance : Meas Int where
  bytes := 8
  fits _ _ := True
  blk _ := 1
instance : Meas (Int × Int) where
  bytes := 16
  fits _ _ := True
  blk _ := 3
instance : Meas (Int × Int × Int) where
  bytes := 24
  fits _ _ := True
  blk _ := 5
instance : Meas U64 where
  bytes := 8
  fits _ _ := True
  blk _ := 1
instance {α : Type} [Meas α] : Meas (List α) where
  bytes := 24
  fits M l := l.length * Meas.bytes α ≤ M ∧ ∀ x ∈ l, Meas.fits M x
  blk l := blkSum l + 1

theorem bulk_pos {H : Type} (d : DataW H) : 1 ≤ Rows.uptoBulk d := by
  cases d with
  | lit l => cases l <;> simp [Rows.uptoBulk]
  | nil => simp [Rows.uptoBulk]
  | ptr d => simp [Rows.uptoBulk]
  | slice elems spare => simp [Rows.uptoBulk]
  | agg parts => simp [Rows.uptoBulk]
  | iface t d => simp [Rows.uptoBulk]
  | map entries => simp [Rows.uptoBulk]
  | held h => simp [Rows.uptoBulk]

/-- a type of the program's whose every reading is Lean's data of type α -/
def Opens (α : Type) [Enc α] [Meas α] (P : Program) (t : TypeId) : Prop :=
  P.bytesOf t = Meas.bytes α ∧ P.cellsOf t = Enc.sz α ∧ 0 < Enc.sz α ∧
    ∀ (H : Type) (enc : TypeId × Value → H) (w : World) (spare : Nat → Bool) (held : Bool) (fuel : Nat) (cs : List Value) (x : DataW H × List MemPlace), DataW.trod enc P w 0 spare held fuel t cs = some x →
      ∃ a : α, Enc.rd w w.heap.size cs a ∧ (∀ M, (∀ n ∈ x.1.weights P t, n ≤ M) → Meas.fits M a) ∧ Meas.blk a ≤ Rows.uptoBulk x.1

theorem opens_int {P : Program} {t : TypeId} (ht : P.underlying t = some (.int .i64)) (hb : P.bytesOf t = 8) (hc : P.cellsOf t = 1) : Opens Int P t := by
  refine ⟨hb, hc, Nat.zero_lt_one, fun H enc w spare held fuel cs x h => ?_⟩
  obtain ⟨n, rfl, rfl, hwf⟩ := DataW.trod_int ht h
  refine ⟨n, ⟨rfl, ?_⟩, fun _ _ => trivial, bulk_pos _⟩
  have : -9223372036854775808 ≤ n ∧ n ≤ 9223372036854775807 := by simpa [Lit.wf, IntKind.min, IntKind.max, IntKind.signed, IntKind.bits] using hwf
  exact this

theorem opens_u64 {P : Program} {t : TypeId} (ht : P.underlying t = some (.int .u64)) (hb : P.bytesOf t = 8) (hc : P.cellsOf t = 1) : Opens U64 P t := by
  refine ⟨hb, hc, Nat.zero_lt_one, fun H enc w spare held fuel cs x h => ?_⟩
  obtain ⟨n, rfl, rfl, hwf⟩ := DataW.trod_int ht h
  refine ⟨⟨n⟩, ⟨rfl, ?_⟩, fun _ _ => trivial, bulk_pos _⟩
  have : 0 ≤ n ∧ n ≤ 18446744073709551615 := by simpa [Lit.wf, IntKind.min, IntKind.max, IntKind.signed, IntKind.bits] using hwf
  exact this

theorem mem_weightsAll {H : Type} {P : Program} {e : TypeId} {l : List (DataW H)} {d : DataW H} (hd : d ∈ l) : ∀ n ∈ d.weights P e, n ∈ DataW.weightsAll P e l := by
  induction l with
  | nil => cases hd
  | cons y l ih =>
    intro n hn
    simp only [DataW.weightsAll, List.mem_append]
    rcases List.mem_cons.1 hd with rfl | h
    · exact .inl hn
    · exact .inr (ih h n hn)

theorem blkSum_le {α H : Type} [Meas α] (f : Nat → α) (D : Nat → DataW H) : ∀ n, (∀ i, i < n → Meas.blk (f i) ≤ Rows.uptoBulk (D i)) → blkSum ((List.range n).map f) ≤ Rows.uptoBulkAll ((List.range n).map D) := by
  intro n
  have key : ∀ l : List Nat, (∀ i ∈ l, Meas.blk (f i) ≤ Rows.uptoBulk (D i)) → blkSum (l.map f) ≤ Rows.uptoBulkAll (l.map D) := by
    intro l
    induction l with
    | nil => intro _; simp [blkSum, Rows.uptoBulkAll]
    | cons i l ih =>
      intro h
      simp only [List.map_cons, blkSum, Rows.uptoBulkAll]
      have h1 := h i (by simp)
      have h2 := ih fun j hj => h j (by simp [hj])
      omega
  exact fun h => key _ fun i hi => h i (List.mem_range.1 hi)

theorem opens_list {α : Type} [Enc α] [Meas α] [Inhabited α] {P : Program} {t e : TypeId} (ht : P.underlying t = some (.slice e)) (hb : P.bytesOf t = 24) (hc : P.cellsOf t = 1) (he : Opens α P e) : Opens (List α) P t := by
  refine ⟨hb, hc, Nat.zero_lt_one, fun H enc w spare held fuel cs x h => ?_⟩
  rcases open_slice ht h with ⟨rfl, rfl⟩ | ⟨a, len, cap, m, n, D, Pl, rfl, hba, hl, hm, hmm, rfl, hi⟩
  · exact ⟨[], ⟨none, 0, rfl, Nat.le_refl _, by simp [maxLen], fun _ => rfl, At.nil_⟩, fun _ _ => ⟨by simp, by simp⟩, by simp [Meas.blk, blkSum, Rows.uptoBulk]⟩
  · have hlm : len ≤ m := by subst hmm; split <;> omega
    obtain ⟨f, hf⟩ := choose_lt (α := α) (n := len) (p := fun i y => ∃ cs', w.cells? 0 (a.add (i * P.cellsOf e)) (P.cellsOf e) = some cs' ∧ Enc.rd w w.heap.size cs' y ∧ (∀ M, (∀ n ∈ (D i).weights P e, n ≤ M) → Meas.fits M y) ∧ Meas.blk y ≤ Rows.uptoBulk (D i)) (fun i hil => by
      obtain ⟨cs', h1, h2⟩ := hi i (by omega)
      obtain ⟨y, hy1, hy2, hy3⟩ := he.2.2.2 H enc w spare held n cs' (D i, Pl i) h2
      exact ⟨y, cs', h1, hy1, hy2, hy3⟩)
    refine ⟨(List.range len).map f, ⟨some a, cap, by simp, by simpa using hl, hm, by simp, ?_⟩, fun M hM => ⟨?_, ?_⟩, ?_⟩
    · intro i y hy
      have hil : i < len := by
        have := (List.getElem?_eq_some_iff.1 hy).1
        simpa using this
      have hyf : y = f i := by
        rw [List.getElem?_map, List.getElem?_range hil] at hy
        simpa using hy.symm
      subst hyf
      have hspot : a.spot = none := by
        obtain ⟨cs0, h1, -, -, -⟩ := hf 0 (by omega)
        obtain ⟨-, hlen, hcell⟩ := World.cells?_some h1
        rw [he.2.1] at hlen hcell
        have h0 := hcell 0 he.2.2.1
        rw [List.getElem?_eq_getElem (by rw [hlen]; exact he.2.2.1), Nat.zero_mul] at h0
        exact World.cell?_spot (a := a) h0
      obtain ⟨cs', h1, h2, -, -⟩ := hf i hil
      obtain ⟨-, hlen, hcell⟩ := World.cells?_some h1
      rw [he.2.1] at hlen hcell h1
      obtain ⟨b, o, spot⟩ := a
      have hpos := he.2.2.1
      have h0 := hcell 0 hpos
      rw [List.getElem?_eq_getElem (by omega)] at h0
      simp only at hspot
      subst hspot
      refine ⟨b, o, cs', rfl, ?_, ?_, h2⟩
      · rw [add_mk, add_mk] at h0
        exact block_lt_of_cell h0
      · intro j u hu
        have hj : j < Enc.sz α := by rw [← hlen]; exact (List.getElem?_eq_some_iff.1 hu).1
        have := hcell j hj
        rw [add_mk, add_mk, hu] at this
        exact this
    · have h1 := hM ((len + (m - len)) * P.bytesOf e) (by simp [DataW.weights, ht])
      rw [he.1] at h1
      simp only [List.length_map, List.length_range]
      exact Nat.le_trans (Nat.mul_le_mul_right _ (by omega)) h1
    · intro y hy
      obtain ⟨i, hi', rfl⟩ := List.mem_map.1 hy
      have hil := List.mem_range.1 hi'
      obtain ⟨-, -, -, h3, -⟩ := hf i hil
      refine h3 M fun n hn => hM n ?_
      simp only [DataW.weights, ht, List.mem_cons, List.mem_append]
      exact .inr (.inl (mem_weightsAll (List.mem_map.2 ⟨i, hi', rfl⟩) n hn))
    · have h1 := blkSum_le f D len fun i hil => by
        obtain ⟨-, -, -, -, h4⟩ := hf i hil
        exact h4
      simp only [Meas.blk, Rows.uptoBulk]
      omega

/-- a list of known length, written out -/
theorem len1 {α : Type} {l : List α} (h : l.length = 1) : ∃ a, l = [a] := by
  match l, h with | [a], _ => exact ⟨a, rfl⟩
theorem lenS {α : Type} {l : List α} {n : Nat} (h : l.length = n + 1) : ∃ a r, l = a :: r ∧ r.length = n := by
  match l, h with | a :: r, h => exact ⟨a, r, rfl, by simpa using h⟩

end Go.Proofs.Ytpkccpegdpodoaa

/-
  The types of this seat's arguments, opened (printed by genopen.py).
-/
namespace Go.Proofs.Ytpkccpegdpodoaa
open Go.RowKit Go.ChangeShapes Go.WideShapes Go.Deep

theorem opens_Int : Opens Int Try.prog 3 := opens_int Try.underlying3 (by kernel_rfl) (by kernel_rfl)

theorem opens_P_Val : Opens (Int × Int) Try.prog 23 := by
  refine ⟨by kernel_rfl, by kernel_rfl, by decide, ?_⟩
  intro H enc w spare held fuel cs x h
  obtain ⟨xs, n, -, rfl, hl, hxl, hf⟩ := DataW.trod_struct Try.underlying23 h
  have hl' : cs.length = 1 + 1 := hl.trans (by kernel_rfl)
  have hxl' : xs.length = 1 + 1 := hxl
  obtain ⟨c0, r, rfl, hl2⟩ := lenS hl'
  obtain ⟨c1, rfl⟩ := len1 hl2
  obtain ⟨y0, s, rfl, hxl2⟩ := lenS hxl'
  obtain ⟨y1, rfl⟩ := len1 hxl2
  have g0 : DataW.trod enc Try.prog w 0 spare held n 3 (([c0, c1].drop 0).take (Try.prog.cellsOf 3)) = some y0 := hf 0 _ rfl
  have g1 : DataW.trod enc Try.prog w 0 spare held n 3 (([c0, c1].drop 1).take (Try.prog.cellsOf 3)) = some y1 := hf 1 _ rfl
  rw [show Try.prog.cellsOf 3 = 1 from opens_Int.2.1] at g0 g1
  obtain ⟨a0, ⟨e0, i0⟩, -, -⟩ := opens_Int.2.2.2 _ _ _ _ _ _ _ _ g0
  obtain ⟨a1, ⟨e1, i1⟩, -, -⟩ := opens_Int.2.2.2 _ _ _ _ _ _ _ _ g1
  injection e0 with e0; subst e0
  injection e1 with e1; subst e1
  refine ⟨(a0, a1), ⟨rfl, i0, i1⟩, fun _ _ => trivial, ?_⟩
  have b0 := bulk_pos y0.1
  have b1 := bulk_pos y1.1
  simp only [Meas.blk, Rows.uptoBulk, Rows.uptoBulkAll, List.map_cons, List.map_nil]
  omega
theorem opens_P_Val_l : Opens (List (Int × Int)) Try.prog 35 := opens_list Try.underlying35 (by kernel_rfl) (by kernel_rfl) opens_P_Val

theorem opens_P_Try : Opens (Int × Int) Try.prog 152 := by
  refine ⟨by kernel_rfl, by kernel_rfl, by decide, ?_⟩
  intro H enc w spare held fuel cs x h
  obtain ⟨xs, n, -, rfl, hl, hxl, hf⟩ := DataW.trod_struct Try.underlying152 h
  have hl' : cs.length = 1 + 1 := hl.trans (by kernel_rfl)
  have hxl' : xs.length = 1 + 1 := hxl
  obtain ⟨c0, r, rfl, hl2⟩ := lenS hl'
  obtain ⟨c1, rfl⟩ := len1 hl2
  obtain ⟨y0, s, rfl, hxl2⟩ := lenS hxl'
  obtain ⟨y1, rfl⟩ := len1 hxl2
  have g0 : DataW.trod enc Try.prog w 0 spare held n 3 (([c0, c1].drop 0).take (Try.prog.cellsOf 3)) = some y0 := hf 0 _ rfl
  have g1 : DataW.trod enc Try.prog w 0 spare held n 3 (([c0, c1].drop 1).take (Try.prog.cellsOf 3)) = some y1 := hf 1 _ rfl
  rw [show Try.prog.cellsOf 3 = 1 from opens_Int.2.1] at g0 g1
  obtain ⟨a0, ⟨e0, i0⟩, -, -⟩ := opens_Int.2.2.2 _ _ _ _ _ _ _ _ g0
  obtain ⟨a1, ⟨e1, i1⟩, -, -⟩ := opens_Int.2.2.2 _ _ _ _ _ _ _ _ g1
  injection e0 with e0; subst e0
  injection e1 with e1; subst e1
  refine ⟨(a0, a1), ⟨rfl, i0, i1⟩, fun _ _ => trivial, ?_⟩
  have b0 := bulk_pos y0.1
  have b1 := bulk_pos y1.1
  simp only [Meas.blk, Rows.uptoBulk, Rows.uptoBulkAll, List.map_cons, List.map_nil]
  omega
theorem opens_P_Try_l : Opens (List (Int × Int)) Try.prog 146 := opens_list Try.underlying146 (by kernel_rfl) (by kernel_rfl) opens_P_Try

instance : Meas Fr where
  bytes := 96
  fits M x := Meas.fits M x.regs ∧ Meas.fits M x.tries
  blk x := 1 + 1 + 1 + 1 + 1 + 3 + Meas.blk x.regs + Meas.blk x.tries
instance : Inhabited Fr := ⟨⟨default, default, default, default, default, default, default⟩⟩
theorem opens_Fr : Opens Fr Try.prog 148 := by
  refine ⟨by kernel_rfl, by kernel_rfl, by decide, ?_⟩
  intro H enc w spare held fuel cs x h
  obtain ⟨xs, n, -, rfl, hl, hxl, hf⟩ := DataW.trod_struct Try.underlying148 h
  have hl1 : cs.length = 7 + 1 := hl.trans (by kernel_rfl)
  have hx1 : xs.length = 6 + 1 := hxl
  obtain ⟨c0, r0, rfl, hl2⟩ := lenS hl1
  obtain ⟨c1, r1, rfl, hl3⟩ := lenS hl2
  obtain ⟨c2, r2, rfl, hl4⟩ := lenS hl3
  obtain ⟨c3, r3, rfl, hl5⟩ := lenS hl4
  obtain ⟨c4, r4, rfl, hl6⟩ := lenS hl5
  obtain ⟨c5, r5, rfl, hl7⟩ := lenS hl6
  obtain ⟨c6, r6, rfl, hl8⟩ := lenS hl7
  obtain ⟨c7, rfl⟩ := len1 hl8
  obtain ⟨y0, s0, rfl, hx2⟩ := lenS hx1
  obtain ⟨y1, s1, rfl, hx3⟩ := lenS hx2
  obtain ⟨y2, s2, rfl, hx4⟩ := lenS hx3
  obtain ⟨y3, s3, rfl, hx5⟩ := lenS hx4
  obtain ⟨y4, s4, rfl, hx6⟩ := lenS hx5
  obtain ⟨y5, s5, rfl, hx7⟩ := lenS hx6
  obtain ⟨y6, rfl⟩ := len1 hx7
  have g0 : DataW.trod enc Try.prog w 0 spare held n 3 (([c0, c1, c2, c3, c4, c5, c6, c7].drop 0).take (Try.prog.cellsOf 3)) = some y0 := hf 0 _ rfl
  have g1 : DataW.trod enc Try.prog w 0 spare held n 3 (([c0, c1, c2, c3, c4, c5, c6, c7].drop 1).take (Try.prog.cellsOf 3)) = some y1 := hf 1 _ rfl
  have g2 : DataW.trod enc Try.prog w 0 spare held n 3 (([c0, c1, c2, c3, c4, c5, c6, c7].drop 2).take (Try.prog.cellsOf 3)) = some y2 := hf 2 _ rfl
  have g3 : DataW.trod enc Try.prog w 0 spare held n 3 (([c0, c1, c2, c3, c4, c5, c6, c7].drop 3).take (Try.prog.cellsOf 3)) = some y3 := hf 3 _ rfl
  have g4 : DataW.trod enc Try.prog w 0 spare held n 23 (([c0, c1, c2, c3, c4, c5, c6, c7].drop 4).take (Try.prog.cellsOf 23)) = some y4 := hf 4 _ rfl
  have g5 : DataW.trod enc Try.prog w 0 spare held n 35 (([c0, c1, c2, c3, c4, c5, c6, c7].drop 6).take (Try.prog.cellsOf 35)) = some y5 := hf 5 _ rfl
  have g6 : DataW.trod enc Try.prog w 0 spare held n 146 (([c0, c1, c2, c3, c4, c5, c6, c7].drop 7).take (Try.prog.cellsOf 146)) = some y6 := hf 6 _ rfl
  rw [show Try.prog.cellsOf 3 = 1 from opens_Int.2.1] at g0
  obtain ⟨a0, q0, f0, b0⟩ := opens_Int.2.2.2 _ _ _ _ _ _ _ _ g0
  obtain ⟨e0, i0⟩ := q0
  injection e0 with e0; subst e0
  rw [show Try.prog.cellsOf 3 = 1 from opens_Int.2.1] at g1
  obtain ⟨a1, q1, f1, b1⟩ := opens_Int.2.2.2 _ _ _ _ _ _ _ _ g1
  obtain ⟨e1, i1⟩ := q1
  injection e1 with e1; subst e1
  rw [show Try.prog.cellsOf 3 = 1 from opens_Int.2.1] at g2
  obtain ⟨a2, q2, f2, b2⟩ := opens_Int.2.2.2 _ _ _ _ _ _ _ _ g2
  obtain ⟨e2, i2⟩ := q2
  injection e2 with e2; subst e2
  rw [show Try.prog.cellsOf 3 = 1 from opens_Int.2.1] at g3
  obtain ⟨a3, q3, f3, b3⟩ := opens_Int.2.2.2 _ _ _ _ _ _ _ _ g3
  obtain ⟨e3, i3⟩ := q3
  injection e3 with e3; subst e3
  rw [show Try.prog.cellsOf 23 = 2 from opens_P_Val.2.1] at g4
  obtain ⟨a4, q4, f4, b4⟩ := opens_P_Val.2.2.2 _ _ _ _ _ _ _ _ g4
  obtain ⟨e4, i4⟩ := q4
  injection e4 with e4 k4; injection k4 with k4; subst e4 k4
  rw [show Try.prog.cellsOf 35 = 1 from opens_P_Val_l.2.1] at g5
  obtain ⟨a5, q5, f5, b5⟩ := opens_P_Val_l.2.2.2 _ _ _ _ _ _ _ _ g5
  rw [show Try.prog.cellsOf 146 = 1 from opens_P_Try_l.2.1] at g6
  obtain ⟨a6, q6, f6, b6⟩ := opens_P_Try_l.2.2.2 _ _ _ _ _ _ _ _ g6
  refine ⟨⟨a0, a1, a2, a3, a4, a5, a6⟩, ⟨c6, c7, rfl, i0, i1, i2, i3, i4.1, i4.2, q5, q6⟩, fun M hM => ⟨f5 M fun m hm => hM m (by simp [DataW.weights, DataW.weightsEach, Try.underlying148, hm]), f6 M fun m hm => hM m (by simp [DataW.weights, DataW.weightsEach, Try.underlying148, hm])⟩, ?_⟩
  have t_ : Meas.blk a0 ≤ Rows.uptoBulk y0.1 ∧ Meas.blk a1 ≤ Rows.uptoBulk y1.1 ∧ Meas.blk a2 ≤ Rows.uptoBulk y2.1 ∧ Meas.blk a3 ≤ Rows.uptoBulk y3.1 ∧ Meas.blk a4 ≤ Rows.uptoBulk y4.1 ∧ Meas.blk a5 ≤ Rows.uptoBulk y5.1 ∧ Meas.blk a6 ≤ Rows.uptoBulk y6.1 := ⟨b0, b1, b2, b3, b4, b5, b6⟩
  show 1 + 1 + 1 + 1 + 1 + 3 + Meas.blk a5 + Meas.blk a6 ≤ _
  have z0 : 1 ≤ Rows.uptoBulk y0.1 := b0
  have z1 : 1 ≤ Rows.uptoBulk y1.1 := b1
  have z2 : 1 ≤ Rows.uptoBulk y2.1 := b2
  have z3 : 1 ≤ Rows.uptoBulk y3.1 := b3
  have z4 : 3 ≤ Rows.uptoBulk y4.1 := b4
  simp only [Rows.uptoBulk, Rows.uptoBulkAll, List.map_cons, List.map_nil]
  omega
theorem opens_Fr_l : Opens (List Fr) Try.prog 36 := opens_list Try.underlying36 (by kernel_rfl) (by kernel_rfl) opens_Fr

instance : Meas Ce where
  bytes := 64
  fits M x := Meas.fits M x.vals ∧ Meas.fits M x.frames
  blk x := 1 + 1 + 1 + Meas.blk x.vals + Meas.blk x.frames
instance : Inhabited Ce := ⟨⟨default, default, default, default⟩⟩
theorem opens_Ce : Opens Ce Try.prog 38 := by
  refine ⟨by kernel_rfl, by kernel_rfl, by decide, ?_⟩
  intro H enc w spare held fuel cs x h
  obtain ⟨xs, n, -, rfl, hl, hxl, hf⟩ := DataW.trod_struct Try.underlying38 h
  have hl1 : cs.length = 3 + 1 := hl.trans (by kernel_rfl)
  have hx1 : xs.length = 3 + 1 := hxl
  obtain ⟨c0, r0, rfl, hl2⟩ := lenS hl1
  obtain ⟨c1, r1, rfl, hl3⟩ := lenS hl2
  obtain ⟨c2, r2, rfl, hl4⟩ := lenS hl3
  obtain ⟨c3, rfl⟩ := len1 hl4
  obtain ⟨y0, s0, rfl, hx2⟩ := lenS hx1
  obtain ⟨y1, s1, rfl, hx3⟩ := lenS hx2
  obtain ⟨y2, s2, rfl, hx4⟩ := lenS hx3
  obtain ⟨y3, rfl⟩ := len1 hx4
  have g0 : DataW.trod enc Try.prog w 0 spare held n 3 (([c0, c1, c2, c3].drop 0).take (Try.prog.cellsOf 3)) = some y0 := hf 0 _ rfl
  have g1 : DataW.trod enc Try.prog w 0 spare held n 3 (([c0, c1, c2, c3].drop 1).take (Try.prog.cellsOf 3)) = some y1 := hf 1 _ rfl
  have g2 : DataW.trod enc Try.prog w 0 spare held n 35 (([c0, c1, c2, c3].drop 2).take (Try.prog.cellsOf 35)) = some y2 := hf 2 _ rfl
  have g3 : DataW.trod enc Try.prog w 0 spare held n 36 (([c0, c1, c2, c3].drop 3).take (Try.prog.cellsOf 36)) = some y3 := hf 3 _ rfl
  rw [show Try.prog.cellsOf 3 = 1 from opens_Int.2.1] at g0
  obtain ⟨a0, q0, f0, b0⟩ := opens_Int.2.2.2 _ _ _ _ _ _ _ _ g0
  obtain ⟨e0, i0⟩ := q0
  injection e0 with e0; subst e0
  rw [show Try.prog.cellsOf 3 = 1 from opens_Int.2.1] at g1
  obtain ⟨a1, q1, f1, b1⟩ := opens_Int.2.2.2 _ _ _ _ _ _ _ _ g1
  obtain ⟨e1, i1⟩ := q1
  injection e1 with e1; subst e1
  rw [show Try.prog.cellsOf 35 = 1 from opens_P_Val_l.2.1] at g2
  obtain ⟨a2, q2, f2, b2⟩ := opens_P_Val_l.2.2.2 _ _ _ _ _ _ _ _ g2
  rw [show Try.prog.cellsOf 36 = 1 from opens_Fr_l.2.1] at g3
  obtain ⟨a3, q3, f3, b3⟩ := opens_Fr_l.2.2.2 _ _ _ _ _ _ _ _ g3
  refine ⟨⟨a0, a1, a2, a3⟩, ⟨c2, c3, rfl, i0, i1, q2, q3⟩, fun M hM => ⟨f2 M fun m hm => hM m (by simp [DataW.weights, DataW.weightsEach, Try.underlying38, hm]), f3 M fun m hm => hM m (by simp [DataW.weights, DataW.weightsEach, Try.underlying38, hm])⟩, ?_⟩
  have t_ : Meas.blk a0 ≤ Rows.uptoBulk y0.1 ∧ Meas.blk a1 ≤ Rows.uptoBulk y1.1 ∧ Meas.blk a2 ≤ Rows.uptoBulk y2.1 ∧ Meas.blk a3 ≤ Rows.uptoBulk y3.1 := ⟨b0, b1, b2, b3⟩
  show 1 + 1 + 1 + Meas.blk a2 + Meas.blk a3 ≤ _
  have z0 : 1 ≤ Rows.uptoBulk y0.1 := b0
  have z1 : 1 ≤ Rows.uptoBulk y1.1 := b1
  simp only [Rows.uptoBulk, Rows.uptoBulkAll, List.map_cons, List.map_nil]
  omega
theorem opens_Ce_l : Opens (List Ce) Try.prog 66 := opens_list Try.underlying66 (by kernel_rfl) (by kernel_rfl) opens_Ce

theorem opens_LInt : Opens (List Int) Try.prog 47 := opens_list Try.underlying47 (by kernel_rfl) (by kernel_rfl) opens_Int

theorem opens_LLInt : Opens (List (List Int)) Try.prog 46 := opens_list Try.underlying46 (by kernel_rfl) (by kernel_rfl) opens_LInt

instance : Meas Gr where
  bytes := 48
  fits M x := Meas.fits M x.has ∧ Meas.fits M x.roots
  blk x := 1 + Meas.blk x.has + Meas.blk x.roots
instance : Inhabited Gr := ⟨⟨default, default⟩⟩
theorem opens_Gr : Opens Gr Try.prog 49 := by
  refine ⟨by kernel_rfl, by kernel_rfl, by decide, ?_⟩
  intro H enc w spare held fuel cs x h
  obtain ⟨xs, n, -, rfl, hl, hxl, hf⟩ := DataW.trod_struct Try.underlying49 h
  have hl1 : cs.length = 1 + 1 := hl.trans (by kernel_rfl)
  have hx1 : xs.length = 1 + 1 := hxl
  obtain ⟨c0, r0, rfl, hl2⟩ := lenS hl1
  obtain ⟨c1, rfl⟩ := len1 hl2
  obtain ⟨y0, s0, rfl, hx2⟩ := lenS hx1
  obtain ⟨y1, rfl⟩ := len1 hx2
  have g0 : DataW.trod enc Try.prog w 0 spare held n 46 (([c0, c1].drop 0).take (Try.prog.cellsOf 46)) = some y0 := hf 0 _ rfl
  have g1 : DataW.trod enc Try.prog w 0 spare held n 47 (([c0, c1].drop 1).take (Try.prog.cellsOf 47)) = some y1 := hf 1 _ rfl
  rw [show Try.prog.cellsOf 46 = 1 from opens_LLInt.2.1] at g0
  obtain ⟨a0, q0, f0, b0⟩ := opens_LLInt.2.2.2 _ _ _ _ _ _ _ _ g0
  rw [show Try.prog.cellsOf 47 = 1 from opens_LInt.2.1] at g1
  obtain ⟨a1, q1, f1, b1⟩ := opens_LInt.2.2.2 _ _ _ _ _ _ _ _ g1
  refine ⟨⟨a0, a1⟩, ⟨c0, c1, rfl, q0, q1⟩, fun M hM => ⟨f0 M fun m hm => hM m (by simp [DataW.weights, DataW.weightsEach, Try.underlying49, hm]), f1 M fun m hm => hM m (by simp [DataW.weights, DataW.weightsEach, Try.underlying49, hm])⟩, ?_⟩
  have t_ : Meas.blk a0 ≤ Rows.uptoBulk y0.1 ∧ Meas.blk a1 ≤ Rows.uptoBulk y1.1 := ⟨b0, b1⟩
  show 1 + Meas.blk a0 + Meas.blk a1 ≤ _
  simp only [Rows.uptoBulk, Rows.uptoBulkAll, List.map_cons, List.map_nil]
  omega

theorem opens_U64 : Opens U64 Try.prog 24 := opens_u64 Try.underlying24 (by kernel_rfl) (by kernel_rfl)
instance : Inhabited U64 := ⟨⟨0⟩⟩
theorem opens_LU64 : Opens (List U64) Try.prog 39 := opens_list Try.underlying39 (by kernel_rfl) (by kernel_rfl) opens_U64

instance : Meas Hp where
  bytes := 48
  fits M x := Meas.fits M x.words ∧ Meas.fits M x.roots
  blk x := 1 + Meas.blk x.words + Meas.blk x.roots
instance : Inhabited Hp := ⟨⟨default, default⟩⟩
theorem opens_Hp : Opens Hp Try.prog 70 := by
  refine ⟨by kernel_rfl, by kernel_rfl, by decide, ?_⟩
  intro H enc w spare held fuel cs x h
  obtain ⟨xs, n, -, rfl, hl, hxl, hf⟩ := DataW.trod_struct Try.underlying70 h
  have hl1 : cs.length = 1 + 1 := hl.trans (by kernel_rfl)
  have hx1 : xs.length = 1 + 1 := hxl
  obtain ⟨c0, r0, rfl, hl2⟩ := lenS hl1
  obtain ⟨c1, rfl⟩ := len1 hl2
  obtain ⟨y0, s0, rfl, hx2⟩ := lenS hx1
  obtain ⟨y1, rfl⟩ := len1 hx2
  have g0 : DataW.trod enc Try.prog w 0 spare held n 39 (([c0, c1].drop 0).take (Try.prog.cellsOf 39)) = some y0 := hf 0 _ rfl
  have g1 : DataW.trod enc Try.prog w 0 spare held n 39 (([c0, c1].drop 1).take (Try.prog.cellsOf 39)) = some y1 := hf 1 _ rfl
  rw [show Try.prog.cellsOf 39 = 1 from opens_LU64.2.1] at g0
  obtain ⟨a0, q0, f0, b0⟩ := opens_LU64.2.2.2 _ _ _ _ _ _ _ _ g0
  rw [show Try.prog.cellsOf 39 = 1 from opens_LU64.2.1] at g1
  obtain ⟨a1, q1, f1, b1⟩ := opens_LU64.2.2.2 _ _ _ _ _ _ _ _ g1
  refine ⟨⟨a0, a1⟩, ⟨c0, c1, rfl, q0, q1⟩, fun M hM => ⟨f0 M fun m hm => hM m (by simp [DataW.weights, DataW.weightsEach, Try.underlying70, hm]), f1 M fun m hm => hM m (by simp [DataW.weights, DataW.weightsEach, Try.underlying70, hm])⟩, ?_⟩
  have t_ : Meas.blk a0 ≤ Rows.uptoBulk y0.1 ∧ Meas.blk a1 ≤ Rows.uptoBulk y1.1 := ⟨b0, b1⟩
  show 1 + Meas.blk a0 + Meas.blk a1 ≤ _
  simp only [Rows.uptoBulk, Rows.uptoBulkAll, List.map_cons, List.map_nil]
  omega

instance : Meas De where
  bytes := 32
  fits M x := True
  blk x := 1 + 1 + 1 + 1 + 1
instance : Inhabited De := ⟨⟨default, default, default, default⟩⟩
theorem opens_De : Opens De Try.prog 97 := by
  refine ⟨by kernel_rfl, by kernel_rfl, by decide, ?_⟩
  intro H enc w spare held fuel cs x h
  obtain ⟨xs, n, -, rfl, hl, hxl, hf⟩ := DataW.trod_struct Try.underlying97 h
  have hl1 : cs.length = 3 + 1 := hl.trans (by kernel_rfl)
  have hx1 : xs.length = 3 + 1 := hxl
  obtain ⟨c0, r0, rfl, hl2⟩ := lenS hl1
  obtain ⟨c1, r1, rfl, hl3⟩ := lenS hl2
  obtain ⟨c2, r2, rfl, hl4⟩ := lenS hl3
  obtain ⟨c3, rfl⟩ := len1 hl4
  obtain ⟨y0, s0, rfl, hx2⟩ := lenS hx1
  obtain ⟨y1, s1, rfl, hx3⟩ := lenS hx2
  obtain ⟨y2, s2, rfl, hx4⟩ := lenS hx3
  obtain ⟨y3, rfl⟩ := len1 hx4
  have g0 : DataW.trod enc Try.prog w 0 spare held n 3 (([c0, c1, c2, c3].drop 0).take (Try.prog.cellsOf 3)) = some y0 := hf 0 _ rfl
  have g1 : DataW.trod enc Try.prog w 0 spare held n 3 (([c0, c1, c2, c3].drop 1).take (Try.prog.cellsOf 3)) = some y1 := hf 1 _ rfl
  have g2 : DataW.trod enc Try.prog w 0 spare held n 3 (([c0, c1, c2, c3].drop 2).take (Try.prog.cellsOf 3)) = some y2 := hf 2 _ rfl
  have g3 : DataW.trod enc Try.prog w 0 spare held n 3 (([c0, c1, c2, c3].drop 3).take (Try.prog.cellsOf 3)) = some y3 := hf 3 _ rfl
  rw [show Try.prog.cellsOf 3 = 1 from opens_Int.2.1] at g0
  obtain ⟨a0, q0, f0, b0⟩ := opens_Int.2.2.2 _ _ _ _ _ _ _ _ g0
  obtain ⟨e0, i0⟩ := q0
  injection e0 with e0; subst e0
  rw [show Try.prog.cellsOf 3 = 1 from opens_Int.2.1] at g1
  obtain ⟨a1, q1, f1, b1⟩ := opens_Int.2.2.2 _ _ _ _ _ _ _ _ g1
  obtain ⟨e1, i1⟩ := q1
  injection e1 with e1; subst e1
  rw [show Try.prog.cellsOf 3 = 1 from opens_Int.2.1] at g2
  obtain ⟨a2, q2, f2, b2⟩ := opens_Int.2.2.2 _ _ _ _ _ _ _ _ g2
  obtain ⟨e2, i2⟩ := q2
  injection e2 with e2; subst e2
  rw [show Try.prog.cellsOf 3 = 1 from opens_Int.2.1] at g3
  obtain ⟨a3, q3, f3, b3⟩ := opens_Int.2.2.2 _ _ _ _ _ _ _ _ g3
  obtain ⟨e3, i3⟩ := q3
  injection e3 with e3; subst e3
  refine ⟨⟨a0, a1, a2, a3⟩, ⟨rfl, i0, i1, i2, i3⟩, fun M hM => trivial, ?_⟩
  have t_ : Meas.blk a0 ≤ Rows.uptoBulk y0.1 ∧ Meas.blk a1 ≤ Rows.uptoBulk y1.1 ∧ Meas.blk a2 ≤ Rows.uptoBulk y2.1 ∧ Meas.blk a3 ≤ Rows.uptoBulk y3.1 := ⟨b0, b1, b2, b3⟩
  show 1 + 1 + 1 + 1 + 1 ≤ _
  have z0 : 1 ≤ Rows.uptoBulk y0.1 := b0
  have z1 : 1 ≤ Rows.uptoBulk y1.1 := b1
  have z2 : 1 ≤ Rows.uptoBulk y2.1 := b2
  have z3 : 1 ≤ Rows.uptoBulk y3.1 := b3
  simp only [Rows.uptoBulk, Rows.uptoBulkAll, List.map_cons, List.map_nil]
  omega
theorem opens_De_l : Opens (List De) Try.prog 88 := opens_list Try.underlying88 (by kernel_rfl) (by kernel_rfl) opens_De

theorem opens_P_RPair : Opens (Int × Int) Try.prog 63 := by
  refine ⟨by kernel_rfl, by kernel_rfl, by decide, ?_⟩
  intro H enc w spare held fuel cs x h
  obtain ⟨xs, n, -, rfl, hl, hxl, hf⟩ := DataW.trod_struct Try.underlying63 h
  have hl' : cs.length = 1 + 1 := hl.trans (by kernel_rfl)
  have hxl' : xs.length = 1 + 1 := hxl
  obtain ⟨c0, r, rfl, hl2⟩ := lenS hl'
  obtain ⟨c1, rfl⟩ := len1 hl2
  obtain ⟨y0, s, rfl, hxl2⟩ := lenS hxl'
  obtain ⟨y1, rfl⟩ := len1 hxl2
  have g0 : DataW.trod enc Try.prog w 0 spare held n 3 (([c0, c1].drop 0).take (Try.prog.cellsOf 3)) = some y0 := hf 0 _ rfl
  have g1 : DataW.trod enc Try.prog w 0 spare held n 3 (([c0, c1].drop 1).take (Try.prog.cellsOf 3)) = some y1 := hf 1 _ rfl
  rw [show Try.prog.cellsOf 3 = 1 from opens_Int.2.1] at g0 g1
  obtain ⟨a0, ⟨e0, i0⟩, -, -⟩ := opens_Int.2.2.2 _ _ _ _ _ _ _ _ g0
  obtain ⟨a1, ⟨e1, i1⟩, -, -⟩ := opens_Int.2.2.2 _ _ _ _ _ _ _ _ g1
  injection e0 with e0; subst e0
  injection e1 with e1; subst e1
  refine ⟨(a0, a1), ⟨rfl, i0, i1⟩, fun _ _ => trivial, ?_⟩
  have b0 := bulk_pos y0.1
  have b1 := bulk_pos y1.1
  simp only [Meas.blk, Rows.uptoBulk, Rows.uptoBulkAll, List.map_cons, List.map_nil]
  omega
theorem opens_P_RPair_l : Opens (List (Int × Int)) Try.prog 50 := opens_list Try.underlying50 (by kernel_rfl) (by kernel_rfl) opens_P_RPair

end Go.Proofs.Ytpkccpegdpodoaa

/-
  From a law's walk to its row: the arguments read as they did; the law's post.
-/
namespace Go.Proofs.Ytpkccpegdpodoaa
open Go.RowKit Go.ChangeShapes Go.WideShapes Go.Deep

theorem prog_own : ownKnob Try.prog.godebug = none := by kernel_rfl
theorem prog_laidOut : laidOutB Try.prog = true := by kernel_rfl

theorem trodAll_below {H : Type} {enc : TypeId × Value → H} {P : Program} {W W' : World} (hl : laidOutB P = true) (hb : Below W.heap.size W W') :
    ∀ {ts : List TypeId} {vs : List Value} {ds : List (DataW H)} {ps : List MemPlace}, ts.all (fun t => P.readableRec t && decide (t < P.types.size)) = true →
      DataW.TrodAll enc P W 0 (fun _ => true) true ts vs ds ps → (∀ x ∈ ps, x.block < W.heap.size) → DataW.TrodAll enc P W' 0 (fun b => decide (b < W.heap.size)) true ts vs ds ps
  | [], [], [], ps, _, h, _ => h
  | t :: ts, v :: vs, d :: ds, ps, hr, h, hlt => by
    obtain ⟨p, q, h1, h2, rfl⟩ := h
    rw [List.all_cons, Bool.and_eq_true, Bool.and_eq_true, decide_eq_true_eq] at hr
    exact ⟨p, q, Below.trod hl hr.1.1 hr.1.2 h1 hb (fun x hx => hlt x (List.mem_append_left _ hx)), trodAll_below hl hb hr.2 h2 (fun x hx => hlt x (List.mem_append_right _ hx)), rfl⟩
  | [], _ :: _, _, _, _, h, _ => by simp [DataW.TrodAll] at h
  | [], [], _ :: _, _, _, h, _ => by simp [DataW.TrodAll] at h
  | _ :: _, [], _, _, _, h, _ => by simp [DataW.TrodAll] at h
  | _ :: _, _ :: _, [], _, _, h, _ => by simp [DataW.TrodAll] at h

/-- a law's post: it returned true, and nothing that was there has turned -/
theorem post_law {H : Type} {enc : TypeId × Value → H} {P : Program} {f : Func} {s : ChangeSpec} {W W' : World} {args : Array Value} {ds : List (DataW H)} {before : List MemPlace} {bt : TypeId}
    (hW : DataW.Whole enc P f.params.toList s.vars false W args.toList ds [] before) (hvars : s.vars = []) (hfn : s.fn H (ds ++ []) = { results := [.lit (.bool true)], args := ds }) (hres : f.resultTypes = #[bt])
    (hbt : P.underlying bt = some .bool) (hl : laidOutB P = true) (hr : f.params.toList.all (fun t => P.readableRec t && decide (t < P.types.size)) = true) (hb : Below W.heap.size W W') :
    s.post enc P f false true false false W args (.bool true) W' := by
  have hlt : ∀ x ∈ before, x.block < W.heap.size := fun x hx => hW.lt x hx
  have hW' := hW
  obtain ⟨p, q, hA, hV, rfl, -, -⟩ := hW
  rw [hvars] at hV
  obtain ⟨-, rfl⟩ := trodVars_none hV
  refine ⟨ds, [], _, [], p, [], hW', ?_, ?_, ?_, hb.frame _, fun h => by cases h⟩
  · rw [hfn, hres]
    exact trodAll_mk1 (shut_bool hbt true)
  · rw [hfn]
    exact trodAll_below hl hb hr hA (fun x hx => hlt x (by simpa using hx))
  · rw [hfn, hvars]
    rfl

/-- every weight of an argument's reading is within the reach -/
theorem weigh {H : Type} {P : Program} {ts : List TypeId} {ds : List (DataW H)} (h : (DataW.weightsEach P ts ds).all (· ≤ reachBytes) = true) {j : Nat} {t : TypeId} {d : DataW H} (ht : ts[j]? = some t) (hd : ds[j]? = some d) :
    ∀ n ∈ d.weights P t, n ≤ reachBytes := fun n hn => by
  have := List.all_eq_true.1 h n (DataW.weights_mem_each ht hd n hn)
  simpa using this

theorem agg_of {P : Program} {w : World} {r : Reach} {b : Nat} {t : TypeId} {fs : Array Field} {v : Value} (hs : P.underlying t = some (.struct fs)) (hv : Value.okWide P w r b t v) {l : List Value} (h : v.cells.toList = l) : v = .agg l.toArray := by
  obtain ⟨cs, rfl, -⟩ := okWide_struct hs hv
  subst h
  simp [Value.cells]
theorem slice_of {P : Program} {w : World} {r : Reach} {b : Nat} {t e : TypeId} {v u : Value} (hs : P.underlying t = some (.slice e)) (hv : Value.okWide P w r b t v) (h : v.cells.toList = [u]) : v = u := by
  obtain ⟨a, n, c, rfl⟩ := okWide_slice hs hv
  simpa [Value.cells] using h

end Go.Proofs.Ytpkccpegdpodoaa

namespace Go.Proofs.Ytpkccpegdpodoaa
open Go.RowKit Go.ChangeShapes Go.WideShapes Go.Deep

set_option maxRecDepth 100000 in
theorem endsTell_lifted (os : Os) (started : os.Started) (H : Type) (enc : TypeId × Value → H) :
    ReturnsInHanded {} Try.checked os 11 .any (Rows.endsTellSpec.pre6 enc Try.prog Try.f11 Rows.endsTellRow.domain false) (Rows.endsTellSpec.post enc Try.prog Try.f11 false true false false) := by
  refine returnsInHanded_of_change_sized (C := Try.checked) prog_own started (by kernel_rfl) Try.func11
    (ChangeSpec.witness6 (enc := enc) (C := Try.checked) false ⟨#[], #[.agg #[.slice none 0 0, .slice none 0 0], .slice none 0 0], []⟩ 8 (by kernel_rfl) (by kernel_rfl) (by kernel_rfl) (by kernel_rfl)) ?_
  intro W base args ds gs before hval0 hW _ hsz0 _
  have hsz : (DataW.weightsEach Try.prog (Try.f11.params.toList ++ Rows.endsTellSpec.plain.varTypes Try.prog) (ds ++ gs)).all (· ≤ reachBytes) = true := hsz0
  clear hsz0
  have hval : ∀ (j : Nat) t v, Try.f11.params[j]? = some t → args[j]? = some v → Value.okWide Try.prog W .any base t v := hval0
  have hW' := hW
  obtain ⟨p, q, hA0, hV, rfl, -, -⟩ := hW
  have hA : DataW.TrodAll enc Try.prog W 0 (fun _ => true) true Try.f11.params.toList args.toList ds p := hA0
  rw [Try.params11] at hA hval hsz
  obtain ⟨v0, vs0, d0, ds0, p0, q0, hargs, rfl, rfl, h0, r0⟩ := trodAll_cons hA
  obtain ⟨v1, vs1, d1, ds1, p1, q1, rfl, rfl, rfl, h1, r1⟩ := trodAll_cons r0
  obtain ⟨rfl, rfl, rfl⟩ := trodAll_nil r1
  obtain rfl : args = #[v0, v1] := by cases args; simp_all
  obtain ⟨rfl, rfl⟩ := trodVars_none hV
  obtain ⟨u0, k0⟩ := h0
  obtain ⟨u1, k1⟩ := h1
  obtain ⟨x0, ⟨c00, c01, l0, ⟨A00, n00, m00, hc00, hm00, -, t00⟩, ⟨A01, n01, m01, hc01, hm01, -, t01⟩⟩, f0, -⟩ := opens_Gr.2.2.2 _ _ _ _ _ _ _ _ k0
  injection m00 with m00; subst m00
  injection m01 with m01; subst m01
  unfold maxLen at hm00 hm01
  have q0 := agg_of Try.underlying49 (hval 0 _ v0 rfl rfl) l0
  obtain ⟨x1, ⟨A1, c1, l1, hc1, hm1, hn1, t1⟩, f1, -⟩ := opens_LInt.2.2.2 _ _ _ _ _ _ _ _ k1
  have g1 := f1 reachBytes (weigh hsz (j := 1) rfl rfl)
  have b1 : x1.length * Meas.bytes _ ≤ reachBytes := g1.1
  unfold reachBytes at b1; unfold maxLen at hm1
  have q1 := slice_of Try.underlying47 (hval 1 _ v1 rfl rfl) l1
  subst q0 q1
  refine (endsTell_any _ n00 n01 c1 A00 A01 A1 x0.has x0.roots x1 W t00 t01 t1 (Nat.le_refl _) (by omega) (by omega) (by omega) ⟨hc01, by simp only [maxLen]; omega⟩).mono fun e W2 ⟨he, hb⟩ => ?_
  subst he
  exact ⟨_, rfl, post_law hW' rfl rfl rfl Try.underlying4 prog_laidOut (by kernel_rfl) hb⟩

theorem endsTell_holds : Rows.EndsTellSaid :=
  OpenClaim.holds_of_wide 11 Try.f11 rfl rfl rfl rfl rfl rfl rfl ⟨rfl, rfl, rfl, rfl, rfl⟩ rfl rfl rfl rfl rfl (by kernel_rfl) Try.func11 (by kernel_rfl)
    (of_decide_eq_true (by kernel_rfl)) (by unfold Func.isWrapper; first | (rw [if_pos (by decide +kernel)]; kernel_rfl) | (rw [if_neg (by decide +kernel)]; exact ⟨rfl, rfl⟩))
    (fun os started H enc _ => endsTell_lifted os started H enc)
#print axioms endsTell_holds
end Go.Proofs.Ytpkccpegdpodoaa
