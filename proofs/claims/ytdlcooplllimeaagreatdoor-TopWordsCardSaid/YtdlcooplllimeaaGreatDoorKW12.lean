/- KW: CpC, CpD, CpE, CqA. -/
import Derived.Test.YtdlcooplllimeaaGreatDoorKW3
import Derived.Test.YtdlcooplllimeaaGreatDoorKW11
import Derived.Test.YtdlcooplllimeaaGreatDoorKT32
/- A state of the call's own: what cells.Copy gives; its rows, read. No walk. -/
namespace Go.Proofs.YtdlcooplllimeaaGreatDoor
open Go.RowKit

namespace Top
structure FrG (f : Fr) : Prop where
  i : I64 f.fn ∧ I64 f.at_ ∧ I64 f.fto ∧ I64 f.gen
  self : I64 f.self.1 ∧ I64 f.self.2
  regs : ∀ v ∈ f.regs, Flat.ok v
  tries : ∀ v ∈ f.tries, Flat.ok v
structure CeG (x : Ce) : Prop where
  i : I64 x.kind ∧ I64 x.num
  vals : ∀ v ∈ x.vals, Flat.ok v
  frames : ∀ f ∈ x.frames, FrG f
structure ThG (x : Th) : Prop where
  frames : ∀ f ∈ x.frames, FrG f
  i : I64 x.state ∧ I64 x.on ∧ I64 x.val.1 ∧ I64 x.val.2
def EnG (x : En) : Prop := I64 x.cell ∧ I64 x.fn.1 ∧ I64 x.fn.2
def TxG (x : ByteArray) : Prop := x.size ≤ maxLen
theorem frG_of {w : World} {B : Nat} {cs : List Value} {f : Fr} (h : Enc.rd w B cs f) : FrG f := by
  obtain ⟨v6, v7, e, i0, i1, i2, i3, i4, i5, ⟨RA, rc, e6, -, -, -, h6⟩, ⟨TA, tc, e7, -, -, -, h7⟩⟩ := h
  exact ⟨⟨i0, i1, i2, i3⟩, ⟨i4, i5⟩, h6.ok_, h7.ok_⟩
theorem at_all {α : Type} [Enc α] {w : World} {B : Nat} {A : Option Addr} {xs : List α} {Q : α → Prop} (h : At w B A xs) (hq : ∀ cs x, Enc.rd w B cs x → Q x) : ∀ x ∈ xs, Q x := by
  intro x hx
  obtain ⟨i, hi⟩ := List.mem_iff_getElem?.1 hx
  obtain ⟨b, o, cs, -, -, -, hr⟩ := h i x hi
  exact hq cs x hr
theorem ceG_of {w : World} {B : Nat} {cs : List Value} {x : Ce} (h : Enc.rd w B cs x) : CeG x := by
  obtain ⟨v6, v7, e, i0, i1, ⟨VA, vc, e6, -, -, -, h6⟩, ⟨FA, fc, e7, -, -, -, h7⟩⟩ := h
  exact ⟨⟨i0, i1⟩, h6.ok_, at_all h7 fun cs f hf => frG_of hf⟩
theorem thG_of {w : World} {B : Nat} {cs : List Value} {x : Th} (h : Enc.rd w B cs x) : ThG x := by
  obtain ⟨v7, e, ⟨FA, fc, e7, -, -, -, h7⟩, i0, i1, i2, i3⟩ := h
  exact ⟨at_all h7 fun cs f hf => frG_of hf, i0, i1, i2, i3⟩
structure StG (s : Stt) : Prop where
  cells : ∀ x ∈ s.cells, CeG x
  shapes : ∀ v ∈ s.shapes, Flat.ok v
  texts : ∀ x ∈ s.texts, TxG x
  threads : ∀ x ∈ s.threads, ThG x
  ends : ∀ x ∈ s.ends, EnG x
  said : ∀ v ∈ s.said, Flat.ok v
theorem StP.g {w : World} {B : Nat} {s : Stt} {CA SA TA HA EA DA : Option Addr} {cc sc tc hc ec dc : Nat} (h : StP w B s CA SA TA HA EA DA cc sc tc hc ec dc) : StG s :=
  ⟨at_all h.a1 fun _ _ hr => ceG_of hr, h.a2.ok_, at_all h.a3 fun _ _ hr => hr.2, at_all h.a4 fun _ _ hr => thG_of hr, at_all h.a5 fun _ _ hr => ⟨hr.2.1, hr.2.2.1, hr.2.2.2⟩, h.a6.ok_⟩
def rawH (x : Th) (FA : Option Addr) (fc : Nat) : Raw 5 := ⟨[.slice FA x.frames.length fc, .int .i64 x.state, .int .i64 x.on, .int .i64 x.val.1, .int .i64 x.val.2], rfl, by simp [Value.oneCell']⟩
def rawE (x : En) : Raw 3 := ⟨[.int .i64 x.cell, .int .i64 x.fn.1, .int .i64 x.fn.2], rfl, by simp [Value.oneCell']⟩
def rawS (x : ByteArray) : Raw 1 := ⟨[.string x], rfl, by simp [Value.oneCell']⟩
theorem th_one {w : World} {B : Nat} : ∀ cs (x : Th), Enc.rd w B cs x → ∀ u ∈ cs, u.oneCell' = true := by
  rintro cs x ⟨c7, rfl, ⟨A7, d7, e7, -⟩, -⟩ u hu
  injection e7 with e7; subst e7
  simp at hu
  rcases hu with rfl | rfl | rfl | rfl | rfl <;> rfl
theorem en_one {w : World} {B : Nat} : ∀ cs (x : En), Enc.rd w B cs x → ∀ u ∈ cs, u.oneCell' = true := by
  rintro cs x ⟨rfl, -⟩ u hu
  simp at hu
  rcases hu with rfl | rfl | rfl <;> rfl
theorem tx_one {w : World} {B : Nat} : ∀ cs (x : ByteArray), Enc.rd w B cs x → ∀ u ∈ cs, u.oneCell' = true := by
  rintro cs x ⟨rfl, -⟩ u hu
  simp at hu
  subst hu; rfl
theorem raws_map {α : Type} {n : Nat} {rs : List (Raw n)} {xs : List α} {f : α → Raw n} (hl : rs.length = xs.length) (h : ∀ (i : Nat) r x, rs[i]? = some r → xs[i]? = some x → r = f x) : rs = xs.map f := by
  apply List.ext_getElem?
  intro i
  rw [List.getElem?_map]
  by_cases hi : i < xs.length
  · obtain ⟨x, hx⟩ : ∃ x, xs[i]? = some x := ⟨_, List.getElem?_eq_getElem hi⟩
    obtain ⟨r, hr⟩ : ∃ r, rs[i]? = some r := ⟨_, List.getElem?_eq_getElem (by omega)⟩
    rw [hr, hx, h i r x hr hx]; rfl
  · rw [List.getElem?_eq_none (by omega), List.getElem?_eq_none (by omega)]; rfl
def ThR (m : World) (base : Nat) (r : Raw 5) (x : Th) : Prop :=
  ∃ FA fc rows, r = rawH x FA fc ∧ Own (α := Raw 8) m base 141 FA fc rows ∧ rows.length = x.frames.length ∧ ∀ (k : Nat) r f, rows[k]? = some r → x.frames[k]? = some f → FrR m base r f
theorem ThR.kept {m m' : World} {base : Nat} {r : Raw 5} {x : Th} (h : ThR m base r x) (hk : Kept MY m m') : ThR m' base r x := by
  obtain ⟨FA, fc, rows, e, h2, h3, h4⟩ := h
  exact ⟨FA, fc, rows, e, hk.own h2 (by decide), h3, fun k r f a b => (h4 k r f a b).kept (hk.more fun t ht => ⟨ht.1, ht.2.1⟩)⟩
theorem FrR.rdG {m : World} {base : Nat} {r : Raw 8} {f : Fr} (h : FrR m base r f) (hf : FrG f) : Enc.rd m m.heap.size r.cs f := by
  obtain ⟨RA, rc, TA, tc, rfl, h1, h2⟩ := h
  exact ⟨_, _, rfl, hf.i.1, hf.i.2.1, hf.i.2.2.1, hf.i.2.2.2, hf.self.1, hf.self.2, own_rd h1 hf.regs, own_rd h2 hf.tries⟩
theorem frs_rd {m : World} {base fc : Nat} {FA : Option Addr} {rows : List (Raw 8)} {l : List Fr} (h2 : Own (α := Raw 8) m base 141 FA fc rows) (h3 : rows.length = l.length) (h4 : ∀ (k : Nat) r f, rows[k]? = some r → l[k]? = some f → FrR m base r f) (hg : ∀ f ∈ l, FrG f) : Enc.rd m m.heap.size [.slice FA l.length fc] l :=
  ⟨FA, fc, rfl, by rw [← h3]; exact h2.le_cap.1, h2.le_cap.2, fun hA => by subst hA; exact nil_capT h2, Own.at_raw rfl h2 h3 fun k r f a b => (h4 k r f a b).rdG (hg f (List.mem_of_getElem? b))⟩
theorem CeR.rdG {m : World} {base : Nat} {r : Raw 4} {x : Ce} (h : CeR m base r x) (hx : CeG x) : Enc.rd m m.heap.size r.cs x := by
  obtain ⟨VA, vc, FA, fc, rows, rfl, h1, h2, h3, h4⟩ := h
  exact ⟨_, _, rfl, hx.i.1, hx.i.2, own_rd h1 hx.vals, frs_rd h2 h3 h4 hx.frames⟩
theorem ThR.rdG {m : World} {base : Nat} {r : Raw 5} {x : Th} (h : ThR m base r x) (hx : ThG x) : Enc.rd m m.heap.size r.cs x := by
  obtain ⟨FA, fc, rows, rfl, h2, h3, h4⟩ := h
  exact ⟨_, rfl, frs_rd h2 h3 h4 hx.frames, hx.i⟩
structure StR (m : World) (base : Nat) (s : Stt) (SA TA HA EA DA : Option Addr) (sc tc hc ec dc : Nat) : Prop where
  sh : Own m base 121 SA sc s.shapes
  tx : Own m base 9 TA tc (s.texts.map rawS)
  th : ∃ tr : List (Raw 5), Own m base 98 HA hc tr ∧ tr.length = s.threads.length ∧ ∀ (k : Nat) r x, tr[k]? = some r → s.threads[k]? = some x → ThR m base r x
  en : Own m base 127 EA ec (s.ends.map rawE)
  sd : Own m base 48 DA dc s.said
def MC (t : TypeId) : Prop := t = 46
instance (t : TypeId) : Decidable (MC t) := by unfold MC; infer_instance
theorem mc_my {t : TypeId} (h : MC t) : MY t := by unfold MC at h; subst h; decide
section
variable {m m' : World} {base : Nat} {s : Stt} {SA TA HA EA DA : Option Addr} {sc tc hc ec dc : Nat}
theorem StR.kept (h : StR m base s SA TA HA EA DA sc tc hc ec dc) (hk : Kept MC m m') : StR m' base s SA TA HA EA DA sc tc hc ec dc := by
  obtain ⟨tr, h1, h2, h3⟩ := h.th
  exact ⟨hk.own h.sh (by decide), hk.own h.tx (by decide), ⟨tr, hk.own h1 (by decide), h2, fun k r x a b => (h3 k r x a b).kept (hk.more fun _ => mc_my)⟩, hk.own h.en (by decide), hk.own h.sd (by decide)⟩
theorem own_capT {α β : Type} [Flat α] {e : TypeId} {A : Option Addr} {c : Nat} {l : List α} {xs : List β} (h : Own m base e A c l) (hl : l.length = xs.length) : xs.length ≤ c ∧ c ≤ maxLen := by
  rw [← hl]; exact h.le_cap
theorem StR.stP {CA : Option Addr} {cc : Nat} {rows : List (Raw 4)} (h : StR m base s SA TA HA EA DA sc tc hc ec dc) (hc4 : CeO m base CA cc rows s.cells) (hg : StG s) : StP m m.heap.size s CA SA TA HA EA DA cc sc tc hc ec dc := by
  obtain ⟨tr, h1, h2, h3⟩ := h.th
  refine ⟨Own.at_raw rfl hc4.o hc4.n fun k r x a b => (hc4.r k r x a b).rdG (hg.cells x (List.mem_of_getElem? b)), h.sh.at_ hg.shapes, ?_, Own.at_raw rfl h1 h2 fun k r x a b => (h3 k r x a b).rdG (hg.threads x (List.mem_of_getElem? b)), ?_, h.sd.at_ hg.said,
    own_capT hc4.o hc4.n, own_capT h.sh rfl, own_capT h.tx (by simp), own_capT h1 h2, own_capT h.en (by simp), own_capT h.sd rfl⟩
  · refine Own.at_raw rfl h.tx (by simp) fun k r x a b => ?_
    rw [List.getElem?_map, b] at a
    obtain rfl := Option.some.inj a
    exact ⟨rfl, hg.texts x (List.mem_of_getElem? b)⟩
  · refine Own.at_raw rfl h.en (by simp) fun k r x a b => ?_
    rw [List.getElem?_map, b] at a
    obtain rfl := Option.some.inj a
    exact ⟨rfl, hg.ends x (List.mem_of_getElem? b)⟩
end
end Top
end Go.Proofs.YtdlcooplllimeaaGreatDoor

/- cells.Copy: what stands while it copies. No walk. -/
namespace Go.Proofs.YtdlcooplllimeaaGreatDoor
open Go.RowKit

namespace Top
structure CpS (s : Stt) : Prop where
  c : s.cells.length ≤ 100000 ∧ s.shapes.length ≤ 100000 ∧ s.texts.length ≤ 100000 ∧ s.threads.length ≤ 100000 ∧ s.ends.length ≤ 100000 ∧ s.said.length ≤ 100000
  ce : ∀ x ∈ s.cells, x.vals.length ≤ 100000 ∧ x.frames.length ≤ 100000 ∧ ∀ f ∈ x.frames, f.regs.length ≤ 100000 ∧ f.tries.length ≤ 100000
  th : ∀ x ∈ s.threads, x.frames.length ≤ 100000 ∧ ∀ f ∈ x.frames, f.regs.length ≤ 100000 ∧ f.tries.length ≤ 100000
def CpP (s : Stt) (w : World) (e : Ending) (w' : World) : Prop :=
  ∃ CA SA TA HA EA DA cc sc tc hc ec dc rows, e = .returned (.agg #[.slice CA s.cells.length cc, .slice SA s.shapes.length sc, .slice TA s.texts.length tc, .slice HA s.threads.length hc, .slice EA s.ends.length ec, .slice DA s.said.length dc, .int .i64 s.asked, .int .i64 s.steps]) ∧ CeO w' w.heap.size CA cc rows s.cells ∧ StR w' w.heap.size s SA TA HA EA DA sc tc hc ec dc ∧ Below w.heap.size w w'
theorem own_touch {m m' : World} {G : Nat} (hT : Touch (fun x => x = G) m m') {t : TypeId} {cs : Array Value} (hg : Blk m G t cs) {α : Type} [Flat α] {base : Nat} {e : TypeId} {A : Option Addr} {c : Nat} {l : List α} (h : Own m base e A c l) (he : e ≠ t) : Own m' base e A c l :=
  h.block_ fun g hg' => hT.block g (h.lt g hg').2 (fun e' => own_ne_ty h hg he (by rw [hg', e']))
structure Cy (w0 : World) (s : Stt) (CA SA TA HA EA DA : Option Addr) (cc sc tc hc ec dc : Nat) (cr0 : List (Raw 4)) (tr0 : List (Raw 5)) (kc kt : Nat) (cr : List (Raw 4)) (tr : List (Raw 5)) (m : World) : Prop where
  g : Blk m w0.heap.size 32 #[.slice CA s.cells.length cc, .slice SA s.shapes.length sc, .slice TA s.texts.length tc, .slice HA s.threads.length hc, .slice EA s.ends.length ec, .slice DA s.said.length dc, .int .i64 s.asked, .int .i64 s.steps]
  z : Blk m (w0.heap.size + 1) 32 #[.slice none 0 0, .slice none 0 0, .slice none 0 0, .slice none 0 0, .slice none 0 0, .slice none 0 0, .int .i64 0, .int .i64 0]
  c : Own (α := Raw 4) m w0.heap.size 46 CA cc cr
  cn : cr.length = s.cells.length
  cf : ∀ (j : Nat) r x, j < kc → cr[j]? = some r → s.cells[j]? = some x → CeR m w0.heap.size r x
  cq : ∀ j, kc ≤ j → cr[j]? = cr0[j]?
  t : Own (α := Raw 5) m w0.heap.size 98 HA hc tr
  tn : tr.length = s.threads.length
  tf : ∀ (j : Nat) r x, j < kt → tr[j]? = some r → s.threads[j]? = some x → ThR m w0.heap.size r x
  tq : ∀ j, kt ≤ j → tr[j]? = tr0[j]?
  sh : Own m w0.heap.size 121 SA sc s.shapes
  tx : Own m w0.heap.size 9 TA tc (s.texts.map rawS)
  en : Own m w0.heap.size 127 EA ec (s.ends.map rawE)
  sd : Own m w0.heap.size 48 DA dc s.said
  b : Below w0.heap.size w0 m
section
variable {w0 m m' m2 : World} {s : Stt} {CA SA TA HA EA DA : Option Addr} {cc sc tc hc ec dc : Nat} {cr0 cr : List (Raw 4)} {tr0 tr : List (Raw 5)} {kc kt : Nat}
theorem Cy.fresh (h : Cy w0 s CA SA TA HA EA DA cc sc tc hc ec dc cr0 tr0 kc kt cr tr m) (hb : Below m.heap.size m m') : Cy w0 s CA SA TA HA EA DA cc sc tc hc ec dc cr0 tr0 kc kt cr tr m' :=
  ⟨h.g.fresh hb, h.z.fresh hb, h.c.fresh hb, h.cn, fun j r x a b c => (h.cf j r x a b c).kept (Kept.fresh hb), h.cq, h.t.fresh hb, h.tn, fun j r x a b c => (h.tf j r x a b c).kept (Kept.fresh hb), h.tq, h.sh.fresh hb, h.tx.fresh hb, h.en.fresh hb, h.sd.fresh hb, h.b.trans (hb.mono h.b.size)⟩
theorem Cy.stepC {g k : Nat} {x : Ce} {VA FA A2 A3 : Option Addr} {vc fc c2 c3 : Nat} {fr : List (Raw 8)} (h : Cy w0 s (some ⟨g, 0, none⟩) SA TA HA EA DA cc sc tc hc ec dc cr0 tr0 k kt cr tr m) (hb : Below m.heap.size m m') (hr : cr[k]? = some (raw4 x VA vc FA fc)) (hx : s.cells[k]? = some x)
    (o2 : Own m2 m.heap.size 48 A2 c2 x.vals) (hm2 : m.heap.size ≤ m2.heap.size) (hb3 : Below m2.heap.size m2 m') (o3 : Own (α := Raw 8) m' m2.heap.size 141 A3 c3 fr) (hl : fr.length = x.frames.length) (hfr : ∀ (k : Nat) r f, fr[k]? = some r → x.frames[k]? = some f → FrR m' m2.heap.size r f) :
    Cy w0 s (some ⟨g, 0, none⟩) SA TA HA EA DA cc sc tc hc ec dc cr0 tr0 (k + 1) kt (cr.set k (raw4 x A2 c2 A3 c3)) tr ((m'.setCell ⟨g, k * 4 + 2, none⟩ (.slice A2 x.vals.length c2)).setCell ⟨g, k * 4 + 3, none⟩ (.slice A3 x.frames.length c3)) := by
  have h1 := h.fresh hb
  have hg := h1.c.lt g rfl
  have hs := h.b.size
  have O2 := h1.c.set_raw2 (i := k) (j := 2) (k := 3) (u := .slice A2 x.vals.length c2) (v := .slice A3 x.frames.length c3) hr (by decide) (by decide) rfl rfl
  have er : ((raw4 x VA vc FA fc).set 2 (.slice A2 x.vals.length c2) rfl).set 3 (.slice A3 x.frames.length c3) rfl = raw4 x A2 c2 A3 c3 := raw_ext rfl
  rw [er] at O2
  have k2 : Kept MC m' ((m'.setCell ⟨g, k * 4 + 2, none⟩ (.slice A2 x.vals.length c2)).setCell ⟨g, k * 4 + 3, none⟩ (.slice A3 x.frames.length c3)) := by
    have a1 := (Kept.refl (M := MC) m').setOwn h1.c (by decide) (g := g) (i := k * 4 + 2) rfl (.slice A2 x.vals.length c2)
    exact a1.setOwn (h1.c.set_raw hr (j := 2) (u := .slice A2 x.vals.length c2) (by decide) rfl) (by decide) (g := g) (i := k * 4 + 3) rfl (.slice A3 x.frames.length c3)
  have kY := k2.more (M' := MY) fun _ => mc_my
  have kX := kY.more (M' := MX) fun _ ht => ⟨ht.1, ht.2.1⟩
  have hkl : k < cr.length := (List.getElem?_eq_some_iff.1 hr).1
  refine ⟨k2.blk_ h1.g (by decide), k2.blk_ h1.z (by decide), O2, by rw [List.length_set]; exact h.cn, fun j r y hj hjr hjf => ?_, fun j hj => ?_, k2.own h1.t (by decide), h.tn, fun j r y a b c => (h1.tf j r y a b c).kept kY, h.tq, k2.own h1.sh (by decide), k2.own h1.tx (by decide), k2.own h1.en (by decide), k2.own h1.sd (by decide),
    (h1.b.setCell (p := ⟨g, k * 4 + 2, none⟩) hg.1 _).setCell (p := ⟨g, k * 4 + 3, none⟩) hg.1 _⟩
  · by_cases hjk : j = k
    · subst hjk
      rw [List.getElem?_set_self hkl] at hjr
      rw [hx] at hjf
      obtain rfl := Option.some.inj hjr
      obtain rfl := Option.some.inj hjf
      exact ⟨A2, c2, A3, c3, fr, rfl, k2.own ((o2.fresh hb3).base_le hs) (by decide), k2.own (o3.base_le (by omega)) (by decide), hl, fun k r f a b => ((hfr k r f a b).base_le (by omega)).kept kX⟩
    · rw [List.getElem?_set_ne (by omega)] at hjr
      exact (h1.cf j r y (by omega) hjr hjf).kept kY
  · rw [List.getElem?_set_ne (by omega)]
    exact h.cq j (by omega)
def MT (t : TypeId) : Prop := t = 98
instance (t : TypeId) : Decidable (MT t) := by unfold MT; infer_instance
theorem mt_my {t : TypeId} (h : MT t) : MY t := by unfold MT at h; subst h; decide
theorem Cy.stepT {g k : Nat} {x : Th} {FA A3 : Option Addr} {fc c3 : Nat} {fr : List (Raw 8)} (h : Cy w0 s CA SA TA (some ⟨g, 0, none⟩) EA DA cc sc tc hc ec dc cr0 tr0 kc k cr tr m) (hb : Below m.heap.size m m') (hr : tr[k]? = some (rawH x FA fc)) (hx : s.threads[k]? = some x)
    (o3 : Own (α := Raw 8) m' m.heap.size 141 A3 c3 fr) (hl : fr.length = x.frames.length) (hfr : ∀ (k : Nat) r f, fr[k]? = some r → x.frames[k]? = some f → FrR m' m.heap.size r f) :
    Cy w0 s CA SA TA (some ⟨g, 0, none⟩) EA DA cc sc tc hc ec dc cr0 tr0 kc (k + 1) cr (tr.set k (rawH x A3 c3)) (m'.setCell ⟨g, k * 5, none⟩ (.slice A3 x.frames.length c3)) := by
  have h1 := h.fresh hb
  have hg := h1.t.lt g rfl
  have hs := h.b.size
  have O2 := h1.t.set_raw hr (j := 0) (u := .slice A3 x.frames.length c3) (by decide) rfl
  have er : (rawH x FA fc).set 0 (.slice A3 x.frames.length c3) rfl = rawH x A3 c3 := raw_ext rfl
  rw [er] at O2
  have k2 : Kept MT m' (m'.setCell ⟨g, k * 5, none⟩ (.slice A3 x.frames.length c3)) := (Kept.refl (M := MT) m').setOwn h1.t (by decide) (g := g) (i := k * 5) rfl _
  have kY := k2.more (M' := MY) fun _ => mt_my
  have kX := kY.more (M' := MX) fun _ ht => ⟨ht.1, ht.2.1⟩
  have hkl : k < tr.length := (List.getElem?_eq_some_iff.1 hr).1
  refine ⟨k2.blk_ h1.g (by decide), k2.blk_ h1.z (by decide), k2.own h1.c (by decide), h.cn, fun j r y a b c => (h1.cf j r y a b c).kept kY, h.cq, O2, by rw [List.length_set]; exact h.tn, fun j r y hj hjr hjf => ?_, fun j hj => ?_, k2.own h1.sh (by decide), k2.own h1.tx (by decide), k2.own h1.en (by decide), k2.own h1.sd (by decide),
    h1.b.setCell (p := ⟨g, k * 5, none⟩) hg.1 _⟩
  · by_cases hjk : j = k
    · subst hjk
      rw [List.getElem?_set_self hkl] at hjr
      rw [hx] at hjf
      obtain rfl := Option.some.inj hjr
      obtain rfl := Option.some.inj hjf
      exact ⟨A3, c3, fr, rfl, k2.own (o3.base_le hs) (by decide), hl, fun k r f a b => ((hfr k r f a b).base_le hs).kept kX⟩
    · rw [List.getElem?_set_ne (by omega)] at hjr
      exact (h1.tf j r y (by omega) hjr hjf).kept kY
  · rw [List.getElem?_set_ne (by omega)]
    exact h.tq j (by omega)
theorem Cy.done (h : Cy w0 s CA SA TA HA EA DA cc sc tc hc ec dc cr0 tr0 s.cells.length s.threads.length cr tr m) (cs : Array Value) :
    CeO (m.setRow (w0.heap.size + 1) cs) w0.heap.size CA cc cr s.cells ∧ StR (m.setRow (w0.heap.size + 1) cs) w0.heap.size s SA TA HA EA DA sc tc hc ec dc ∧ Below w0.heap.size w0 (m.setRow (w0.heap.size + 1) cs) := by
  have k2 : Kept (fun t => t = 32) m (m.setRow (w0.heap.size + 1) cs) := fun g cs' t st ht hx => setRow_other m (w0.heap.size + 1) g _ (fun e => by
    subst e
    have hz := h.z
    unfold Blk at hz
    rw [hz] at hx
    injection hx with hx
    injection hx with _ hx _
    exact ht hx.symm)
  have kY := k2.more (M' := MY) fun t ht => by subst ht; decide
  exact ⟨⟨k2.own h.c (by decide), h.cn, fun k r x a b => (h.cf k r x (List.getElem?_eq_some_iff.1 b).1 a b).kept kY⟩,
    ⟨k2.own h.sh (by decide), k2.own h.tx (by decide), ⟨tr, k2.own h.t (by decide), h.tn, fun k r x a b => (h.tf k r x (List.getElem?_eq_some_iff.1 b).1 a b).kept kY⟩, k2.own h.en (by decide), k2.own h.sd (by decide)⟩, bel_setRow h.b (by omega) cs⟩
end
end Top
end Go.Proofs.YtdlcooplllimeaaGreatDoor

/- cells.Copy: a state of its own. Printed by gencpe.py. -/
namespace Go.Proofs.YtdlcooplllimeaaGreatDoor
open Go.RowKit

attribute [local go_sem ↓] Go.wp_at_zero Go.wp_at_succ

namespace Top
def ClP {α : Type} [Flat α] (E : TypeId) (l : List α) (n : Nat) (w : World) (e : Ending) (w' : World) : Prop := ∃ A' c', e = .returned (.slice A' n c') ∧ Own w' w.heap.size E A' c' l ∧ Below w.heap.size w w'
set_option maxHeartbeats 3200000 in
set_option maxRecDepth 100000 in
theorem copy_any (B : Nat) (s : Stt) (CA0 SA0 TA0 HA0 EA0 DA0 : Option Addr) (cc0 sc0 tc0 hc0 ec0 dc0 : Nat) (w : World) (h : StP w B s CA0 SA0 TA0 HA0 EA0 DA0 cc0 sc0 tc0 hc0 ec0 dc0) (hB : B ≤ w.heap.size) (hz : CpS s) :
    Calls Tryz.prog 39 #[.agg #[.slice CA0 s.cells.length cc0, .slice SA0 s.shapes.length sc0, .slice TA0 s.texts.length tc0, .slice HA0 s.threads.length hc0, .slice EA0 s.ends.length ec0, .slice DA0 s.said.length dc0, .int .i64 s.asked, .int .i64 s.steps]] w (CpP s w) := by
  obtain ⟨P, hP⟩ : ∃ P, CpP s w = P := ⟨_, rfl⟩
  have HP := Lib.hid hP; rw [hP]; clear hP
  obtain ⟨cr0, hcl, hC, hcr⟩ := At.raws (n := 4) rfl h.a1 ce_one
  obtain ⟨tr0, hhl, hH, htr⟩ := At.raws (n := 5) rfl h.a4 th_one
  obtain ⟨er, hel, hE, her⟩ := At.raws (n := 3) rfl h.a5 en_one
  obtain ⟨xr, hxl, hT, hxr⟩ := At.raws (n := 1) rfl h.a3 tx_one
  obtain rfl := raws_map (f := rawE) hel fun i r x a b => raw_ext (her i r x a b).1
  obtain rfl := raws_map (f := rawS) hxl fun i r x a b => raw_ext (hxr i r x a b).1
  have hS := h.a2
  have hD := h.a6
  have hq1 : ∀ V, Below w.heap.size w V → Calls Tryz.prog 99 #[.slice CA0 s.cells.length cc0] V (ClP 46 cr0 s.cells.length V) := fun V hV => by
    have hs := hV.size
    have hc := cloneRCeT_any CA0 cc0 B cr0 V (hC.below (hV.mono hB)) (by omega) (by have := hz.c; rw [hcl]; omega)
    unfold Copied at hc; rw [hcl] at hc; exact hc
  have hq2 : ∀ V, Below w.heap.size w V → Calls Tryz.prog 100 #[.slice SA0 s.shapes.length sc0] V (ClP 121 s.shapes s.shapes.length V) := fun V hV => by
    have hs := hV.size
    have hc := cloneShape_any SA0 sc0 B s.shapes V (hS.below (hV.mono hB)) (by omega) (by have := hz.c; omega)
    unfold Copied at hc; exact hc
  have hq3 : ∀ V, Below w.heap.size w V → Calls Tryz.prog 101 #[.slice TA0 s.texts.length tc0] V (ClP 9 (s.texts.map rawS) s.texts.length V) := fun V hV => by
    have hs := hV.size
    have hc := cloneRStT_any TA0 tc0 B (s.texts.map rawS) V (hT.below (hV.mono hB)) (by omega) (by have := hz.c; rw [List.length_map]; omega)
    unfold Copied at hc; rw [List.length_map] at hc; exact hc
  have hq4 : ∀ V, Below w.heap.size w V → Calls Tryz.prog 102 #[.slice HA0 s.threads.length hc0] V (ClP 98 tr0 s.threads.length V) := fun V hV => by
    have hs := hV.size
    have hc := cloneRThT_any HA0 hc0 B tr0 V (hH.below (hV.mono hB)) (by omega) (by have := hz.c; rw [hhl]; omega)
    unfold Copied at hc; rw [hhl] at hc; exact hc
  have hq5 : ∀ V, Below w.heap.size w V → Calls Tryz.prog 103 #[.slice EA0 s.ends.length ec0] V (ClP 127 (s.ends.map rawE) s.ends.length V) := fun V hV => by
    have hs := hV.size
    have hc := cloneREnT_any EA0 ec0 B (s.ends.map rawE) V (hE.below (hV.mono hB)) (by omega) (by have := hz.c; rw [List.length_map]; omega)
    unfold Copied at hc; rw [List.length_map] at hc; exact hc
  have hq6 : ∀ V, Below w.heap.size w V → Calls Tryz.prog 104 #[.slice DA0 s.said.length dc0] V (ClP 48 s.said s.said.length V) := fun V hV => by
    have hs := hV.size
    have hc := cloneVal_any DA0 dc0 B s.said V (hD.below (hV.mono hB)) (by omega) (by have := hz.c; omega)
    unfold Copied at hc; exact hc
  have HQ := Lib.hid (And.intro (hq1) (And.intro (hq2) (And.intro (hq3) (And.intro (hq4) (And.intro (hq5) (hq6))))))
  have HR := Lib.hid (And.intro (hcl) (And.intro (hcr) (And.intro (hhl) (htr))))
  have hn1 := hz.c.1
  have hn4 := hz.c.2.2.2.1
  have HZ := Lib.hid hz
  clear hq1 hq2 hq3 hq4 hq5 hq6 hcl hcr hhl htr hC hH hel hE her hxl hT hxr hS hD h hz
  go_enter Tryz.func39, Tryz.ntmps39
  go_upto_region 1 with fail
  refine wp_world (fun W => Blk W w.heap.size 32 #[.slice CA0 s.cells.length cc0, .slice SA0 s.shapes.length sc0, .slice TA0 s.texts.length tc0, .slice HA0 s.threads.length hc0, .slice EA0 s.ends.length ec0, .slice DA0 s.said.length dc0, .int .i64 s.asked, .int .i64 s.steps] ∧ Below w.heap.size w W ∧ Blk W (w.heap.size + 1) 32 #[.slice none 0 0, .slice none 0 0, .slice none 0 0, .slice none 0 0, .slice none 0 0, .slice none 0 0, .int .i64 0, .int .i64 0] ∧ w.heap.size + 2 ≤ W.heap.size) ⟨(Blk.new _ _ _).alloc _, ((Below.refl _ _).alloc (Nat.le_refl _) _).alloc (by simp) _, Blk.at_ _ _ _ (by simp), by simp⟩ ?_
  rintro W ⟨hG, hbW, hY, hsW⟩
  have hSV : ∀ V, Blk V w.heap.size 32 #[.slice CA0 s.cells.length cc0, .slice SA0 s.shapes.length sc0, .slice TA0 s.texts.length tc0, .slice HA0 s.threads.length hc0, .slice EA0 s.ends.length ec0, .slice DA0 s.said.length dc0, .int .i64 s.asked, .int .i64 s.steps] → V.cell? ⟨w.heap.size, 0, none⟩ = some (.slice CA0 s.cells.length cc0) ∧ V.cell? ⟨w.heap.size, 1, none⟩ = some (.slice SA0 s.shapes.length sc0) ∧ V.cell? ⟨w.heap.size, 2, none⟩ = some (.slice TA0 s.texts.length tc0) ∧ V.cell? ⟨w.heap.size, 3, none⟩ = some (.slice HA0 s.threads.length hc0) ∧ V.cell? ⟨w.heap.size, 4, none⟩ = some (.slice EA0 s.ends.length ec0) ∧ V.cell? ⟨w.heap.size, 5, none⟩ = some (.slice DA0 s.said.length dc0) := fun V hV => ⟨hV.cell 0 rfl, hV.cell 1 rfl, hV.cell 2 rfl, hV.cell 3 rfl, hV.cell 4 rfl, hV.cell 5 rfl⟩
  have HSV := Lib.hid hSV; clear hSV
  have HW := Lib.hid (And.intro (hG) (And.intro (hbW) (And.intro (hY) (hsW))))
  clear hG hbW hY
  refine wp_region_T (S := (fun w' => w'.cell? ⟨w.heap.size, 0, none⟩ = some (.slice CA0 s.cells.length cc0) ∧ w'.cell? ⟨w.heap.size, 1, none⟩ = some (.slice SA0 s.shapes.length sc0) ∧ w'.cell? ⟨w.heap.size, 2, none⟩ = some (.slice TA0 s.texts.length tc0) ∧ w'.cell? ⟨w.heap.size, 3, none⟩ = some (.slice HA0 s.threads.length hc0) ∧ w'.cell? ⟨w.heap.size, 4, none⟩ = some (.slice EA0 s.ends.length ec0) ∧ w'.cell? ⟨w.heap.size, 5, none⟩ = some (.slice DA0 s.said.length dc0))) (Z := (fun _ => True)) 19 (by kernel_rfl) ?_ (fun hHeld0 => ?_)
  · first | trivial | ((try dsimp only); (first | exact HSV.out _ HW.out.1.drew | exact HSV.out _ g6 | exact HSV.out _ g5 | exact HSV.out _ g4 | exact HSV.out _ g3 | exact HSV.out _ g2 | exact HSV.out _ g1))
  refine ttk 0 rfl ?_
  try go_frame
  refine ttk 1 rfl ?_
  try go_frame
  refine ttk 3 rfl ?_
  try go_frame
  refine ttk 4 rfl ?_
  try go_frame
  refine ttk 6 rfl ?_
  try go_frame
  refine ttk 7 rfl ?_
  try go_frame
  refine ttk 9 rfl ?_
  try go_frame
  refine ttk 10 rfl ?_
  try go_frame
  refine ttk 12 rfl ?_
  try go_frame
  refine ttk 13 rfl ?_
  try go_frame
  refine ttk 15 rfl ?_
  try go_frame
  refine ttk 16 rfl ?_
  try go_frame
  refine callT 2 (by kernel_rfl) (by decide) rfl (fun K hK => ?_)
  go_simp
  go_at_call 99; refine (HQ.out.1 _ HW.out.2.1.drew).mono ?_; rintro e w1 ⟨CA, cc, rfl, o1, b1⟩; have b1 : Below W.heap.size W w1 := undrew b1; have o1 : Own w1 W.heap.size 46 CA cc cr0 := o1; have s1 := b1.size; have t1 := HW.out.2.1.trans (b1.mono HW.out.2.1.size); have g1 := HW.out.1.fresh b1; have y1 := HW.out.2.2.1.fresh b1
  try (go_wp2_with fail)
  refine hK.out _ _ ?_ (fun hHeld1 => ?_)
  · first | trivial | ((try dsimp only); (first | exact HSV.out _ HW.out.1.drew | exact HSV.out _ g6 | exact HSV.out _ g5 | exact HSV.out _ g4 | exact HSV.out _ g3 | exact HSV.out _ g2 | exact HSV.out _ g1))
  clear hK K hHeld0
  try go_frame
  refine ttk 18 rfl ?_
  try go_frame
  refine callT 5 (by kernel_rfl) (by decide) rfl (fun K hK => ?_)
  go_simp
  go_at_call 100; refine (HQ.out.2.1 _ t1).mono ?_; rintro e w2 ⟨SA, sc, rfl, o2, b2⟩; have s2 := b2.size; have t2 := t1.trans (b2.mono t1.size); have g2 := g1.fresh b2; have y2 := y1.fresh b2
  try (go_wp2_with fail)
  refine hK.out _ _ ?_ (fun hHeld2 => ?_)
  · first | trivial | ((try dsimp only); (first | exact HSV.out _ HW.out.1.drew | exact HSV.out _ g6 | exact HSV.out _ g5 | exact HSV.out _ g4 | exact HSV.out _ g3 | exact HSV.out _ g2 | exact HSV.out _ g1))
  clear hK K hHeld1
  try go_frame
  refine callT 8 (by kernel_rfl) (by decide) rfl (fun K hK => ?_)
  go_simp
  go_at_call 101; refine (HQ.out.2.2.1 _ t2).mono ?_; rintro e w3 ⟨TA, tc, rfl, o3, b3⟩; have s3 := b3.size; have t3 := t2.trans (b3.mono t2.size); have g3 := g2.fresh b3; have y3 := y2.fresh b3
  try (go_wp2_with fail)
  refine hK.out _ _ ?_ (fun hHeld3 => ?_)
  · first | trivial | ((try dsimp only); (first | exact HSV.out _ HW.out.1.drew | exact HSV.out _ g6 | exact HSV.out _ g5 | exact HSV.out _ g4 | exact HSV.out _ g3 | exact HSV.out _ g2 | exact HSV.out _ g1))
  clear hK K hHeld2
  try go_frame
  refine callT 11 (by kernel_rfl) (by decide) rfl (fun K hK => ?_)
  go_simp
  go_at_call 102; refine (HQ.out.2.2.2.1 _ t3).mono ?_; rintro e w4 ⟨HA, hc, rfl, o4, b4⟩; have s4 := b4.size; have t4 := t3.trans (b4.mono t3.size); have g4 := g3.fresh b4; have y4 := y3.fresh b4
  try (go_wp2_with fail)
  refine hK.out _ _ ?_ (fun hHeld4 => ?_)
  · first | trivial | ((try dsimp only); (first | exact HSV.out _ HW.out.1.drew | exact HSV.out _ g6 | exact HSV.out _ g5 | exact HSV.out _ g4 | exact HSV.out _ g3 | exact HSV.out _ g2 | exact HSV.out _ g1))
  clear hK K hHeld3
  try go_frame
  refine callT 14 (by kernel_rfl) (by decide) rfl (fun K hK => ?_)
  go_simp
  go_at_call 103; refine (HQ.out.2.2.2.2.1 _ t4).mono ?_; rintro e w5 ⟨EA, ec, rfl, o5, b5⟩; have s5 := b5.size; have t5 := t4.trans (b5.mono t4.size); have g5 := g4.fresh b5; have y5 := y4.fresh b5
  try (go_wp2_with fail)
  refine hK.out _ _ ?_ (fun hHeld5 => ?_)
  · first | trivial | ((try dsimp only); (first | exact HSV.out _ HW.out.1.drew | exact HSV.out _ g6 | exact HSV.out _ g5 | exact HSV.out _ g4 | exact HSV.out _ g3 | exact HSV.out _ g2 | exact HSV.out _ g1))
  clear hK K hHeld4
  try go_frame
  refine callT 17 (by kernel_rfl) (by decide) rfl (fun K hK => ?_)
  go_simp
  go_at_call 104; refine (HQ.out.2.2.2.2.2 _ t5).mono ?_; rintro e w6 ⟨DA, dc, rfl, o6, b6⟩; have s6 := b6.size; have t6 := t5.trans (b6.mono t5.size); have g6 := g5.fresh b6; have y6 := y5.fresh b6; have q0 := g6.cell 0 (v := .slice CA0 s.cells.length cc0) rfl; have z0 := g6.frozen 0; have q1 := g6.cell 1 (v := .slice SA0 s.shapes.length sc0) rfl; have z1 := g6.frozen 1; have q2 := g6.cell 2 (v := .slice TA0 s.texts.length tc0) rfl; have z2 := g6.frozen 2; have q3 := g6.cell 3 (v := .slice HA0 s.threads.length hc0) rfl; have z3 := g6.frozen 3; have q4 := g6.cell 4 (v := .slice EA0 s.ends.length ec0) rfl; have z4 := g6.frozen 4; have q5 := g6.cell 5 (v := .slice DA0 s.said.length dc0) rfl; have z5 := g6.frozen 5
  try (go_wp2_with fail)
  refine hK.out _ _ ?_ (fun hHeld6 => ?_)
  · first | trivial | ((try dsimp only); (first | exact HSV.out _ HW.out.1.drew | exact HSV.out _ g6 | exact HSV.out _ g5 | exact HSV.out _ g4 | exact HSV.out _ g3 | exact HSV.out _ g2 | exact HSV.out _ g1))
  clear hK K hHeld5
  try go_frame
  refine lastT (by kernel_rfl) rfl (fun K hK => ?_)
  go_simp
  refine hK.out _ _ ?_ (fun hHeld7 => ?_)
  · trivial
  clear hK K hHeld6
  try go_frame
  refine htk 20 rfl ?_
  try go_frame
  refine held_call 21 (by kernel_rfl) rfl (fun K hK => ?_)
  go_simp
  refine hK.out _ _ ?_ (fun hHeld8 => ?_)
  · trivial
  clear hK K hHeld7
  try go_frame
  refine htk 22 rfl ?_
  try go_frame
  refine held_call 23 (by kernel_rfl) rfl (fun K hK => ?_)
  go_simp
  refine hK.out _ _ ?_ (fun hHeld9 => ?_)
  · trivial
  clear hK K hHeld8
  try go_frame
  refine htk 24 rfl ?_
  try go_frame
  refine held_call 25 (by kernel_rfl) rfl (fun K hK => ?_)
  go_simp
  refine hK.out _ _ ?_ (fun hHeld10 => ?_)
  · trivial
  clear hK K hHeld9
  try go_frame
  refine htk 26 rfl ?_
  try go_frame
  refine held_call 27 (by kernel_rfl) rfl (fun K hK => ?_)
  go_simp
  refine hK.out _ _ ?_ (fun hHeld11 => ?_)
  · trivial
  clear hK K hHeld10
  try go_frame
  refine htk 28 rfl ?_
  try go_frame
  refine held_call 29 (by kernel_rfl) rfl (fun K hK => ?_)
  go_simp
  refine hK.out _ _ ?_ (fun hHeld12 => ?_)
  · trivial
  clear hK K hHeld11
  try go_frame
  refine wpAnyH_done (by kernel_rfl) ?_ _
  have hT : Touch (fun x => x = w.heap.size) w6 ((((((w6.setCell ⟨w.heap.size, 0, none⟩ (.slice CA s.cells.length cc)).setCell ⟨w.heap.size, 1, none⟩ (.slice SA s.shapes.length sc)).setCell ⟨w.heap.size, 2, none⟩ (.slice TA s.texts.length tc)).setCell ⟨w.heap.size, 3, none⟩ (.slice HA s.threads.length hc)).setCell ⟨w.heap.size, 4, none⟩ (.slice EA s.ends.length ec)).setCell ⟨w.heap.size, 5, none⟩ (.slice DA s.said.length dc)) := by
    have h0 := Touch.refl (fun x => x = w.heap.size) w6
    exact (((((h0.setCell (p := ⟨w.heap.size, 0, none⟩) rfl _).setCell (p := ⟨w.heap.size, 1, none⟩) rfl _).setCell (p := ⟨w.heap.size, 2, none⟩) rfl _).setCell (p := ⟨w.heap.size, 3, none⟩) rfl _).setCell (p := ⟨w.heap.size, 4, none⟩) rfl _).setCell (p := ⟨w.heap.size, 5, none⟩) rfl _
  have hwW := HW.out.2.2.2
  have hbf := hT.below (base := w.heap.size) (fun x e => by omega) (by omega)
  have hgf : Blk ((((((w6.setCell ⟨w.heap.size, 0, none⟩ (.slice CA s.cells.length cc)).setCell ⟨w.heap.size, 1, none⟩ (.slice SA s.shapes.length sc)).setCell ⟨w.heap.size, 2, none⟩ (.slice TA s.texts.length tc)).setCell ⟨w.heap.size, 3, none⟩ (.slice HA s.threads.length hc)).setCell ⟨w.heap.size, 4, none⟩ (.slice EA s.ends.length ec)).setCell ⟨w.heap.size, 5, none⟩ (.slice DA s.said.length dc)) w.heap.size 32 #[.slice CA s.cells.length cc, .slice SA s.shapes.length sc, .slice TA s.texts.length tc, .slice HA s.threads.length hc, .slice EA s.ends.length ec, .slice DA s.said.length dc, .int .i64 s.asked, .int .i64 s.steps] := by
    have := (((((g6.set_ 0 (.slice CA s.cells.length cc)).set_ 1 (.slice SA s.shapes.length sc)).set_ 2 (.slice TA s.texts.length tc)).set_ 3 (.slice HA s.threads.length hc)).set_ 4 (.slice EA s.ends.length ec)).set_ 5 (.slice DA s.said.length dc)
    simpa using this
  have hyf := (hT.block (w.heap.size + 1) y6.lt (by omega)).trans y6
  have hC0 : Cy w s CA SA TA HA EA DA cc sc tc hc ec dc cr0 tr0 0 0 cr0 tr0 ((((((w6.setCell ⟨w.heap.size, 0, none⟩ (.slice CA s.cells.length cc)).setCell ⟨w.heap.size, 1, none⟩ (.slice SA s.shapes.length sc)).setCell ⟨w.heap.size, 2, none⟩ (.slice TA s.texts.length tc)).setCell ⟨w.heap.size, 3, none⟩ (.slice HA s.threads.length hc)).setCell ⟨w.heap.size, 4, none⟩ (.slice EA s.ends.length ec)).setCell ⟨w.heap.size, 5, none⟩ (.slice DA s.said.length dc)) :=
    ⟨hgf, hyf, own_touch hT g6 (((((((o1.fresh b2).fresh b3).fresh b4).fresh b5).fresh b6)).base_le (by omega)) (by decide), HR.out.1, fun j r x hj => by omega, fun _ _ => rfl, own_touch hT g6 ((((o4.fresh b5).fresh b6)).base_le (by omega)) (by decide), HR.out.2.2.1, fun j r x hj => by omega, fun _ _ => rfl, own_touch hT g6 ((((((o2.fresh b3).fresh b4).fresh b5).fresh b6)).base_le (by omega)) (by decide), own_touch hT g6 (((((o3.fresh b4).fresh b5).fresh b6)).base_le (by omega)) (by decide), own_touch hT g6 (((o5.fresh b6)).base_le (by omega)) (by decide), own_touch hT g6 ((o6).base_le (by omega)) (by decide), t6.trans hbf⟩
  clear o1 o2 o3 o4 o5 o6 b1 b2 b3 b4 b5 b6 t1 t2 t3 t4 t5 t6 g1 g2 g3 g4 g5 y1 y2 y3 y4 y5 y6 s1 s2 s3 s4 s5 s6 q0 q1 q2 q3 q4 q5 z0 z1 z2 z3 z4 z5 hT hbf hgf hyf g6 HSV
  have HC0 := Lib.hid hC0; clear hC0
  go_upto_region 2 with fail
  refine wp_world (fun V => Cy w s CA SA TA HA EA DA cc sc tc hc ec dc cr0 tr0 0 0 cr0 tr0 V) HC0.out ?_
  rintro V hV
  clear HC0
  have g0 := hV.g.cell 0 (v := .slice CA s.cells.length cc) rfl
  have HC0 := Lib.hid hV; clear hV
  go_wp2_with fail
  go_loopg [32] (s.cells.length) (fun gk i wr => ∃ k : Nat, k ≤ s.cells.length ∧ gk = s.cells.length - k ∧ i = .int .i64 k ∧ Hid (∃ cr, Cy w s CA SA TA HA EA DA cc sc tc hc ec dc cr0 tr0 k 0 cr tr0 wr))
  case atStart => exact ⟨0, Nat.zero_le _, rfl, rfl, ⟨_, HC0.out⟩⟩
  case round =>
    obtain ⟨k, hk, rfl, rfl, hkeep⟩ := hrel
    by_cases hlt : k < s.cells.length
    · obtain ⟨cr, hF⟩ := hkeep.out
      have hsz := hF.b.size
      obtain ⟨g, rfl, hg1, hg2⟩ := hF.c.some_ (by have := hF.cn; omega)
      obtain ⟨x, hx⟩ : ∃ x, s.cells[k]? = some x := ⟨_, List.getElem?_eq_getElem hlt⟩
      obtain ⟨r, hr⟩ : ∃ r, cr0[k]? = some r := ⟨_, List.getElem?_eq_getElem (by have := HR.out.1; omega)⟩
      have hrows := (hF.cq k (Nat.le_refl _)).trans hr
      have hrd := HR.out.2.1 k r x hr hx
      obtain ⟨VA, vc, FA, fc, hreq, hva, hfa⟩ : ∃ VA vc FA fc, r = raw4 x VA vc FA fc ∧ At w B VA x.vals ∧ At w B FA x.frames := by
        obtain ⟨v6, v7, e, -, -, ⟨VA, vc, e6, -, -, -, h6⟩, ⟨FA, fc, e7, -, -, -, h7⟩⟩ := hrd
        injection e6 with e6; injection e7 with e7; subst e6 e7
        exact ⟨VA, vc, FA, fc, raw_ext e, h6, h7⟩
      subst hreq
      have x2 := hF.c.raw_cell (i := k) (j := 2) (u := .slice VA x.vals.length vc) hrows rfl
      have x3 := hF.c.raw_cell (i := k) (j := 3) (u := .slice FA x.frames.length fc) hrows rfl
      have gG := hF.g.cell 0 (v := .slice (some ⟨g, 0, none⟩) s.cells.length cc) rfl
      have hsx := HZ.out.ce x (List.mem_of_getElem? hx)
      have hc := cloneVal_any VA vc B x.vals wr.drew (hva.below (hF.b.mono hB)).drew (show B ≤ wr.heap.size by omega) (by omega)
      have hfa' := hfa.below (hF.b.mono hB)
      have hgl : g < wr.heap.size := hg2
      have hGl : w.heap.size < wr.heap.size := hF.g.lt
      have hGn : g ≠ w.heap.size := fun e => own_ne_ty hF.c hF.g (by decide) (by rw [← e]; rfl)
      have k0 : (0 : Int) ≤ (k : Int) := by omega
      have k1 : (k : Int) < (s.cells.length : Int) := by omega
      have HX := Lib.hid (And.intro (hc) (And.intro (hF) (And.intro (hx) (And.intro (hrows) (And.intro (hfa') (hsx))))))
      clear hc hF hx hrows hfa hva hrd hr hfa' hsx hkeep
      go_upto_region 5 with fail
      refine wp_region_T (S := (fun w' => w'.cell? ⟨w.heap.size, 0, none⟩ = some (.slice (some ⟨g, 0, none⟩) s.cells.length cc) ∧ w'.cell? ⟨g, k * 4 + 2, none⟩ = some (.slice VA x.vals.length vc) ∧ w'.cell? ⟨g, k * 4 + 3, none⟩ = some (.slice FA x.frames.length fc))) (Z := (fun w' => w'.cell? ⟨w.heap.size, 0, none⟩ = some (.slice (some ⟨g, 0, none⟩) s.cells.length cc))) 22 (by kernel_rfl) ?_ (fun hHeld0 => ?_)
      · first | trivial | ((try dsimp only); (first | exact ⟨gG, x2, x3⟩ | exact ⟨gGc, x2c, x3c⟩ | exact ⟨gGb, x2b, x3b⟩))
      refine ttk 0 rfl ?_
      try go_frame
      refine ttk 1 rfl ?_
      try go_frame
      refine ttk 2 rfl ?_
      try go_frame
      refine ztk 3 rfl ?_
      try go_frame
      refine ztk 4 rfl ?_
      try go_frame
      refine ztk 5 rfl ?_
      try go_frame
      refine ttk 6 rfl ?_
      try go_frame
      refine ttk 7 rfl ?_
      try go_frame
      refine ttk 8 rfl ?_
      try go_frame
      refine ttk 9 rfl ?_
      try go_frame
      refine ttk 10 rfl ?_
      try go_frame
      refine ttk 11 rfl ?_
      try go_frame
      refine ztk 13 rfl ?_
      try go_frame
      refine ztk 14 rfl ?_
      try go_frame
      refine ztk 15 rfl ?_
      try go_frame
      refine ztk 16 rfl ?_
      try go_frame
      refine ztk 17 rfl ?_
      try go_frame
      refine ttk 18 rfl ?_
      try go_frame
      refine callT 12 (by kernel_rfl) (by decide) rfl (fun K hK => ?_)
      go_simp
      go_at_call 104; refine HX.out.1.mono ?_; rintro e w2 ⟨A2, c2, rfl, o2, h2⟩; have h2 : Below wr.heap.size wr w2 := undrew h2; have hs2 := h2.size; have x2b := (h2.cell (p := ⟨g, k * 4 + 2, none⟩) hgl).trans x2; have x3b := (h2.cell (p := ⟨g, k * 4 + 3, none⟩) hgl).trans x3; have gGb := (h2.cell (p := ⟨w.heap.size, 0, none⟩) hGl).trans gG; have HT := Lib.hid (framesCopy_any FA fc B x.frames.length x.frames w2 rfl (HX.out.2.2.2.2.1.below (h2.mono (by omega))) (by omega) HX.out.2.2.2.2.2.2.1 HX.out.2.2.2.2.2.2.2)
      try (go_wp2_with fail)
      refine hK.out _ _ ?_ (fun hHeld1 => ?_)
      · first | trivial | ((try dsimp only); (first | exact ⟨gG, x2, x3⟩ | exact ⟨gGc, x2c, x3c⟩ | exact ⟨gGb, x2b, x3b⟩))
      clear hK K hHeld0
      try go_frame
      refine callT 19 (by kernel_rfl) (by decide) rfl (fun K hK => ?_)
      go_simp
      go_at_call 105; refine HT.out.mono ?_; rintro e w3 ⟨A3, c3, fr, rfl, o3, hl3, hfr3, h3⟩; have hs3 := h3.size; have h23 := h2.trans (h3.mono hs2); have x2c := (h23.cell (p := ⟨g, k * 4 + 2, none⟩) hgl).trans x2; have x3c := (h23.cell (p := ⟨g, k * 4 + 3, none⟩) hgl).trans x3; have gGc := (h23.cell (p := ⟨w.heap.size, 0, none⟩) hGl).trans gG; have z2 := ((HX.out.2.1.c.fresh h23).frozen (g := g) rfl (k * 4 + 2)); have z3 := ((HX.out.2.1.c.fresh h23).frozen (g := g) rfl (k * 4 + 3)); have hGne : ∀ (j : Nat), (⟨g, j, none⟩ : Addr) ≠ ⟨w.heap.size, 0, none⟩ := fun j e => hGn (by injection e); have gGd := (World.cell?_setCell_other w3 ⟨g, k * 4 + 2, none⟩ ⟨w.heap.size, 0, none⟩ (.slice A2 x.vals.length c2) (hGne _)).trans gGc; have gGe := (World.cell?_setCell_other (w3.setCell ⟨g, k * 4 + 2, none⟩ (.slice A2 x.vals.length c2)) ⟨g, k * 4 + 3, none⟩ ⟨w.heap.size, 0, none⟩ (.slice A3 x.frames.length c3) (hGne _)).trans gGd
      try (go_wp2_with fail)
      refine hK.out _ _ ?_ (fun hHeld2 => ?_)
      · first | trivial | ((try dsimp only); (first | exact ⟨gG, x2, x3⟩ | exact ⟨gGc, x2c, x3c⟩ | exact ⟨gGb, x2b, x3b⟩))
      clear hK K hHeld1
      try go_frame
      refine ztk 20 rfl ?_
      try go_frame
      refine ttk 21 rfl ?_
      try go_frame
      refine lastT (by kernel_rfl) rfl (fun K hK => ?_)
      go_simp
      refine hK.out _ _ ?_ (fun hHeld3 => ?_)
      · first | trivial | ((try dsimp only); (first | exact gGe | exact gGd))
      clear hK K hHeld2
      try go_frame
      refine htk 23 rfl ?_
      try go_frame
      refine htk 24 rfl ?_
      try go_frame
      refine held_call 25 (by kernel_rfl) rfl (fun K hK => ?_)
      go_simp
      refine hK.out _ _ ?_ (fun hHeld4 => ?_)
      · first | trivial | ((try dsimp only); (first | exact gGe | exact gGd))
      clear hK K hHeld3
      try go_frame
      refine wpAnyH_done (by kernel_rfl) ?_ _
      have HE := Lib.hid (HX.out.2.1.stepC (h2.trans (h3.mono hs2)) HX.out.2.2.2.1 HX.out.2.2.1 o2 hs2 h3 o3 hl3 hfr3); clear o2 hl3 hfr3 h2 h3 x2b x3b z2 z3 hs2 gGb gGc gGd gGe x2c x3c o3 hs3 HT h23 hGne
      go_wp2_with fail
      go_roundg (s.cells.length - (k + 1))
      case measure => omega
      case rel => exact ⟨k + 1, by omega, rfl, by go_num, ⟨_, HE.out⟩⟩
    · obtain rfl : k = s.cells.length := by omega
      obtain ⟨cr, hF⟩ := hkeep.out
      have g3 := hF.g.cell 3 (v := .slice HA s.threads.length hc) rfl
      have HC1 := Lib.hid hF; clear hF hkeep
      clear hlt hk
      go_wp2_with fail
      go_loopg [63] (s.threads.length) (fun gk i wr => ∃ k : Nat, k ≤ s.threads.length ∧ gk = s.threads.length - k ∧ i = .int .i64 k ∧ Hid (∃ cr tr, Cy w s CA SA TA HA EA DA cc sc tc hc ec dc cr0 tr0 s.cells.length k cr tr wr))
      case atStart => exact ⟨0, Nat.zero_le _, rfl, rfl, ⟨_, _, HC1.out⟩⟩
      case round =>
        obtain ⟨k, hk, rfl, rfl, hkeep⟩ := hrel
        by_cases hlt : k < s.threads.length
        · obtain ⟨cr, tr, hF⟩ := hkeep.out
          have hsz := hF.b.size
          obtain ⟨g, rfl, hg1, hg2⟩ := hF.t.some_ (by have := hF.tn; omega)
          obtain ⟨x, hx⟩ : ∃ x, s.threads[k]? = some x := ⟨_, List.getElem?_eq_getElem hlt⟩
          obtain ⟨r, hr⟩ : ∃ r, tr0[k]? = some r := ⟨_, List.getElem?_eq_getElem (by have := HR.out.2.2.1; omega)⟩
          have hrows := (hF.tq k (Nat.le_refl _)).trans hr
          have hrd := HR.out.2.2.2 k r x hr hx
          obtain ⟨FA, fc, hreq, hfa⟩ : ∃ FA fc, r = rawH x FA fc ∧ At w B FA x.frames := by
            obtain ⟨v7, e, ⟨FA, fc, e7, -, -, -, h7⟩, -⟩ := hrd
            injection e7 with e7; subst e7
            exact ⟨FA, fc, raw_ext e, h7⟩
          subst hreq
          have x0 := hF.t.raw_cell (i := k) (j := 0) (u := .slice FA x.frames.length fc) hrows rfl
          rw [Nat.add_zero] at x0
          have gG := hF.g.cell 3 (v := .slice (some ⟨g, 0, none⟩) s.threads.length hc) rfl
          have hc := framesCopy_any FA fc B x.frames.length x.frames wr.drew rfl (hfa.below (hF.b.mono hB)).drew (show B ≤ wr.heap.size by omega) (HZ.out.th x (List.mem_of_getElem? hx)).1 (HZ.out.th x (List.mem_of_getElem? hx)).2
          have hgl : g < wr.heap.size := hg2
          have hGl : w.heap.size < wr.heap.size := hF.g.lt
          have k0 : (0 : Int) ≤ (k : Int) := by omega
          have k1 : (k : Int) < (s.threads.length : Int) := by omega
          have HX := Lib.hid (And.intro (hc) (And.intro (hF) (And.intro (hx) (hrows))))
          clear hc hF hx hrows hfa hrd hr hkeep
          go_upto_region 10 with fail
          refine wp_region_T (S := (fun w' => w'.cell? ⟨w.heap.size, 3, none⟩ = some (.slice (some ⟨g, 0, none⟩) s.threads.length hc) ∧ w'.cell? ⟨g, k * 5, none⟩ = some (.slice FA x.frames.length fc))) (Z := (fun _ => True)) 12 (by kernel_rfl) ?_ (fun hHeld0 => ?_)
          · first | trivial | ((try dsimp only); (first | exact ⟨gG, x0⟩ | exact ⟨gGb, x0b⟩))
          refine ttk 0 rfl ?_
          try go_frame
          refine ttk 1 rfl ?_
          try go_frame
          refine ttk 2 rfl ?_
          try go_frame
          refine ttk 3 rfl ?_
          try go_frame
          refine ttk 4 rfl ?_
          try go_frame
          refine ttk 5 rfl ?_
          try go_frame
          refine ttk 6 rfl ?_
          try go_frame
          refine ttk 7 rfl ?_
          try go_frame
          refine ttk 8 rfl ?_
          try go_frame
          refine callT 9 (by kernel_rfl) (by decide) rfl (fun K hK => ?_)
          go_simp
          go_at_call 105; refine HX.out.1.mono ?_; rintro e w2 ⟨A3, c3, fr, rfl, o2, hl2, hfr2, h2⟩; have h2 : Below wr.heap.size wr w2 := undrew h2; have hs2 := h2.size; have x0b := (h2.cell (p := ⟨g, k * 5, none⟩) hgl).trans x0; have gGb := (h2.cell (p := ⟨w.heap.size, 3, none⟩) hGl).trans gG; have z0 := ((HX.out.2.1.t.fresh h2).frozen (g := g) rfl (k * 5))
          try (go_wp2_with fail)
          refine hK.out _ _ ?_ (fun hHeld1 => ?_)
          · first | trivial | ((try dsimp only); (first | exact ⟨gG, x0⟩ | exact ⟨gGb, x0b⟩))
          clear hK K hHeld0
          try go_frame
          refine ztk 10 rfl ?_
          try go_frame
          refine ttk 11 rfl ?_
          try go_frame
          refine lastT (by kernel_rfl) rfl (fun K hK => ?_)
          go_simp
          refine hK.out _ _ ?_ (fun hHeld2 => ?_)
          · trivial
          clear hK K hHeld1
          try go_frame
          refine wpAnyH_done (by kernel_rfl) ?_ _
          have HE := Lib.hid (HX.out.2.1.stepT h2 HX.out.2.2.2 HX.out.2.2.1 o2 hl2 hfr2); clear o2 hl2 hfr2 h2 x0b z0 hs2
          go_wp2_with fail
          go_roundg (s.threads.length - (k + 1))
          case measure => omega
          case rel => exact ⟨k + 1, by omega, rfl, by go_num, ⟨_, _, HE.out⟩⟩
        · obtain rfl : k = s.threads.length := by omega
          obtain ⟨cr, tr, hF⟩ := hkeep.out
          have hz1 := hF.z
          have hg1 := hF.g
          have HK := Lib.hid (And.intro (hF) (And.intro (hz1) (hg1)))
          clear hF hz1 hg1 hkeep
          go_wp2_with (first | (refine wpList_ld rfl 32 (.tmp 1) rfl w.heap.size rfl HK.out.2.2 Tryz.underlying32 rfl (by kernel_rfl) ?_) | (refine wpList_st rfl 32 (.tmp 2) (.tmp 79) rfl (w.heap.size + 1) rfl rfl HK.out.2.1 (by kernel_rfl) rfl rfl ?_))
          refine bodyPost_ret (results_cell1T rfl _ _ (w.heap.size + 1) _ _ _ rfl HK.out.2.1.setRow Tryz.underlying32 rfl (by kernel_rfl)) rfl ?_
          rw [← HP.out]
          obtain ⟨e1, e2, e3⟩ := HK.out.1.done #[.slice CA s.cells.length cc, .slice SA s.shapes.length sc, .slice TA s.texts.length tc, .slice HA s.threads.length hc, .slice EA s.ends.length ec, .slice DA s.said.length dc, .int .i64 s.asked, .int .i64 s.steps]
          exact ⟨CA, SA, TA, HA, EA, DA, cc, sc, tc, hc, ec, dc, cr, rfl, e1, e2, e3⟩
end Top
end Go.Proofs.YtdlcooplllimeaaGreatDoor

/- What is reached, kept: cells that are gone, pairs that are kept; what stands while reach.Do walks. No walk. -/
namespace Go.Proofs.YtdlcooplllimeaaGreatDoor
open Go.RowKit

namespace Top
def gl (seen : List Bool) (l : List Ce) : List Ce := l.mapIdx fun n c => goneC seen n c
theorem gl_get (seen : List Bool) (l : List Ce) (n : Nat) : (gl seen l)[n]? = (l[n]?).map (goneC seen n) := by unfold gl; rw [List.getElem?_mapIdx]
theorem gl_length (seen : List Bool) (l : List Ce) : (gl seen l).length = l.length := by unfold gl; rw [List.length_mapIdx]
theorem keepL_step (seen : List Bool) (k v : Int × Int) : ∀ (i : Nat) (l : List (Int × Int)), l[2 * i]? = some k → l[2 * i + 1]? = some v →
    keepL seen (l.take (2 * (i + 1))) = keepL seen (l.take (2 * i)) ++ (if seen.getD k.2.toNat false = true then [k, v] else [])
  | 0, l, h0, h1 => by
    match l, h0, h1 with
    | a :: b :: r, h0, h1 =>
      simp at h0 h1
      subst h0 h1
      simp [keepL]
    | [a], _, h1 => simp at h1
    | [], h0, _ => simp at h0
  | i + 1, l, h0, h1 => by
    match l, h0, h1 with
    | a :: b :: r, h0, h1 =>
      have e : ∀ n, 2 * (n + 1) = 2 * n + 1 + 1 := fun n => by omega
      rw [e] at h0 h1
      simp only [List.getElem?_cons_succ] at h0 h1
      have ih := keepL_step seen k v i r h0 h1
      rw [e (i + 1), e i, List.take_succ_cons, List.take_succ_cons, List.take_succ_cons, List.take_succ_cons]
      show (if seen.getD a.2.toNat false = true then [a, b] else []) ++ keepL seen (r.take (2 * (i + 1))) = ((if seen.getD a.2.toNat false = true then [a, b] else []) ++ keepL seen (r.take (2 * i))) ++ _
      rw [ih, List.append_assoc]
    | [a], h0, _ => rw [show 2 * (i + 1) = 2 * i + 1 + 1 by omega] at h0; simp at h0
    | [], h0, _ => simp at h0
theorem CeG.gone {seen : List Bool} {n : Nat} {x : Ce} (h : CeG x) : CeG (goneC seen n x) := by
  unfold goneC
  split
  · exact ⟨⟨by unfold I64; decide, by unfold I64; decide⟩, by simp, by simp⟩
  · split
    · exact ⟨h.i, fun v hv => h.vals v (mem_keepL hv), h.frames⟩
    · exact h
theorem gl_mem {seen : List Bool} {l : List Ce} {Q : Ce → Prop} (h : ∀ x ∈ l, ∀ n, Q (goneC seen n x)) : ∀ x ∈ gl seen l, Q x := by
  intro x hx
  obtain ⟨i, hi⟩ := List.mem_iff_getElem?.1 hx
  rw [gl_get] at hi
  cases hc : l[i]? with
  | none => rw [hc] at hi; cases hi
  | some c =>
    rw [hc] at hi
    obtain rfl := Option.some.inj hi
    exact h c (List.mem_of_getElem? hc) i
theorem StG.gone {s : Stt} (h : StG s) (seen : List Bool) : StG { s with cells := gl seen s.cells } :=
  ⟨gl_mem fun x hx _n => (h.cells x hx).gone, h.shapes, h.texts, h.threads, h.ends, h.said⟩
structure Dl (w0 : World) (base P : Nat) (s : Stt) (seen : List Bool) (CA SA TA HA EA DA : Option Addr) (cc sc tc hc ec dc : Nat) (SE : Option Addr) (se k : Nat) (rows : List (Raw 4)) (m : World) : Prop where
  p : Blk m P 32 #[.slice CA s.cells.length cc, .slice SA s.shapes.length sc, .slice TA s.texts.length tc, .slice HA s.threads.length hc, .slice EA s.ends.length ec, .slice DA s.said.length dc, .int .i64 s.asked, .int .i64 s.steps]
  c : Own (α := Raw 4) m base 46 CA cc rows
  n : rows.length = s.cells.length
  f : ∀ (j : Nat) r x, rows[j]? = some r → s.cells[j]? = some x → CeR m base r (if j < k then goneC seen j x else x)
  st : StR m base s SA TA HA EA DA sc tc hc ec dc
  sn : Own m w0.heap.size 4 SE se seen
  t : Below base w0 m
section
variable {w0 m m' m2 : World} {base P : Nat} {s : Stt} {seen : List Bool} {CA SA TA HA EA DA SE : Option Addr} {cc sc tc hc ec dc se k : Nat} {rows : List (Raw 4)}
theorem Dl.fresh (h : Dl w0 base P s seen CA SA TA HA EA DA cc sc tc hc ec dc SE se k rows m) (hb : Below m.heap.size m m') (hs : base ≤ m.heap.size) : Dl w0 base P s seen CA SA TA HA EA DA cc sc tc hc ec dc SE se k rows m' :=
  ⟨h.p.fresh hb, h.c.fresh hb, h.n, fun j r x a b => (h.f j r x a b).kept (Kept.fresh hb), h.st.kept (Kept.fresh hb), h.sn.fresh hb, h.t.trans (hb.mono hs)⟩
theorem Dl.skip (h : Dl w0 base P s seen CA SA TA HA EA DA cc sc tc hc ec dc SE se k rows m) {x : Ce} (hx : s.cells[k]? = some x) (hg : goneC seen k x = x) : Dl w0 base P s seen CA SA TA HA EA DA cc sc tc hc ec dc SE se (k + 1) rows m := by
  refine ⟨h.p, h.c, h.n, fun j r y a b => ?_, h.st, h.sn, h.t⟩
  have h1 := h.f j r y a b
  by_cases hj : j < k
  · rw [if_pos hj] at h1; rw [if_pos (by omega)]; exact h1
  · rw [if_neg hj] at h1
    by_cases hk : j = k
    · subst hk
      rw [hx] at b
      obtain rfl := Option.some.inj b
      rw [if_pos (by omega), hg]; exact h1
    · rw [if_neg (by omega)]; exact h1
theorem Dl.put (h : Dl w0 base P s seen CA SA TA HA EA DA cc sc tc hc ec dc SE se k rows m) {x : Ce} {r' : Raw 4} (hx : s.cells[k]? = some x) (hk : Kept MC m m') (ho : Own (α := Raw 4) m' base 46 CA cc (rows.set k r')) (hr : CeR m' base r' (goneC seen k x)) (hb : Below base m m') :
    Dl w0 base P s seen CA SA TA HA EA DA cc sc tc hc ec dc SE se (k + 1) (rows.set k r') m' := by
  refine ⟨hk.blk_ h.p (by decide), ho, by rw [List.length_set]; exact h.n, fun j r y a b => ?_, h.st.kept hk, hk.own h.sn (by decide), h.t.trans hb⟩
  have hkl : k < rows.length := by rw [h.n]; exact (List.getElem?_eq_some_iff.1 hx).1
  by_cases hj : j = k
  · subst hj
    rw [List.getElem?_set_self hkl] at a
    rw [hx] at b
    obtain rfl := Option.some.inj a
    obtain rfl := Option.some.inj b
    rw [if_pos (by omega)]; exact hr
  · rw [List.getElem?_set_ne (by omega)] at a
    have h1 := (h.f j r y a b).kept (hk.more fun _ => mc_my)
    by_cases hjk : j < k
    · rw [if_pos hjk] at h1; rw [if_pos (by omega)]; exact h1
    · rw [if_neg hjk] at h1; rw [if_neg (by omega)]; exact h1
theorem Dl.zero {g : Nat} (h : Dl w0 base P s seen (some ⟨g, 0, none⟩) SA TA HA EA DA cc sc tc hc ec dc SE se k rows m) {x : Ce} (hx : s.cells[k]? = some x) (hs : seen.getD k false = false) :
    Dl w0 base P s seen (some ⟨g, 0, none⟩) SA TA HA EA DA cc sc tc hc ec dc SE se (k + 1) (rows.set k (raw4 ⟨0, 0, [], []⟩ none 0 none 0))
      ((((m.setCell ⟨g, k * 4, none⟩ (.int .i64 0)).setCell ⟨g, k * 4 + 1, none⟩ (.int .i64 0)).setCell ⟨g, k * 4 + 2, none⟩ (.slice none 0 0)).setCell ⟨g, k * 4 + 3, none⟩ (.slice none 0 0)) := by
  obtain ⟨r, hr⟩ : ∃ r, rows[k]? = some r := ⟨_, List.getElem?_eq_getElem (by rw [h.n]; exact (List.getElem?_eq_some_iff.1 hx).1)⟩
  have ho := h.c.set_raw4 hr (raw4 ⟨0, 0, [], []⟩ none 0 none 0) rfl
  have hg := h.c.lt g rfl
  refine h.put hx ?_ ho ?_ ?_
  · obtain ⟨cs, hcs⟩ := own_blk h.c (g := g) rfl
    have a0 := (Kept.refl (M := MC) m).set hcs rfl (k * 4) (.int .i64 0)
    have b0 := (Blk.set_ (show Blk m g 46 cs from hcs) (k * 4) (.int .i64 0))
    have a1 := a0.setBlk b0 rfl (k * 4 + 1) (.int .i64 0)
    have b1 := b0.set_ (k * 4 + 1) (.int .i64 0)
    have a2 := a1.setBlk b1 rfl (k * 4 + 2) (.slice none 0 0)
    exact a2.setBlk (b1.set_ (k * 4 + 2) (.slice none 0 0)) rfl (k * 4 + 3) (.slice none 0 0)
  · unfold goneC
    rw [if_pos hs]
    exact ⟨none, 0, none, 0, [], rfl, Own.nil_, Own.nil_, rfl, fun k r f a => by simp at a⟩
  · exact ((((Below.refl _ _).setCell (p := ⟨g, k * 4, none⟩) hg.1 _).setCell (p := ⟨g, k * 4 + 1, none⟩) hg.1 _).setCell (p := ⟨g, k * 4 + 2, none⟩) hg.1 _).setCell (p := ⟨g, k * 4 + 3, none⟩) hg.1 _
theorem Dl.vals {g : Nat} (h : Dl w0 base P s seen (some ⟨g, 0, none⟩) SA TA HA EA DA cc sc tc hc ec dc SE se k rows m) {x : Ce} {VA FA KA : Option Addr} {vc fc kc n : Nat} (hx : s.cells[k]? = some x) (hs : seen.getD k false = true) (h7 : x.kind = 7) (hrow : rows[k]? = some (raw4 x VA vc FA fc))
    (hb : Below m.heap.size m m') (hm : base ≤ m.heap.size) (ho : Own m' m.heap.size 48 KA kc (keepL seen x.vals)) (hn : n = (keepL seen x.vals).length) :
    Dl w0 base P s seen (some ⟨g, 0, none⟩) SA TA HA EA DA cc sc tc hc ec dc SE se (k + 1) (rows.set k (raw4 { x with vals := keepL seen x.vals } KA kc FA fc)) (m'.setCell ⟨g, k * 4 + 2, none⟩ (.slice KA n kc)) := by
  subst hn
  have h1 := h.fresh hb hm
  have hc1 := h1.f k _ x hrow hx
  rw [if_neg (by omega)] at hc1
  obtain ⟨VA', vc', FA', fc', fr, e, o1, o2, hl, hf⟩ := hc1
  have he : FA' = FA ∧ fc' = fc := by
    have e2 : (raw4 x VA vc FA fc).cs[3]? = (raw4 x VA' vc' FA' fc').cs[3]? := by rw [e]
    have e3 : Value.slice FA x.frames.length fc = .slice FA' x.frames.length fc' := Option.some.inj e2
    injection e3 with a b c
    exact ⟨a.symm, c.symm⟩
  obtain ⟨rfl, rfl⟩ := he
  have O := h1.c.set_raw hrow (j := 2) (u := .slice KA (keepL seen x.vals).length kc) (by decide) rfl
  have er : (raw4 x VA vc FA' fc').set 2 (.slice KA (keepL seen x.vals).length kc) rfl = raw4 { x with vals := keepL seen x.vals } KA kc FA' fc' := raw_ext rfl
  rw [er] at O
  have hg := h1.c.lt g rfl
  have k2 : Kept MC m' (m'.setCell ⟨g, k * 4 + 2, none⟩ (.slice KA (keepL seen x.vals).length kc)) := (Kept.refl (M := MC) m').setOwn h1.c rfl (g := g) (i := k * 4 + 2) rfl _
  refine h1.put hx k2 O ?_ ((Below.refl _ _).setCell (p := ⟨g, k * 4 + 2, none⟩) hg.1 _)
  unfold goneC
  rw [if_neg (by rw [hs]; decide), if_pos h7]
  exact ⟨KA, kc, FA', fc', fr, rfl, k2.own (ho.base_le hm) (by decide), k2.own o2 (by decide), hl, fun k r f a b => (hf k r f a b).kept ((k2.more fun _ => mc_my).more (M' := MX) fun _ ht => ⟨ht.1, ht.2.1⟩)⟩
end
end Top
end Go.Proofs.YtdlcooplllimeaaGreatDoor
