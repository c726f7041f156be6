/- SM: StoW, StoX, StoY, StoZ, StpA, ShC, StpB, StpC, StpD, StpE, StpG, Held3, StoP, StoQ, StoR, StpF, StpH, StpI, StpJ, StpK, StpL, ShD, ShE. -/
import Derived.Test.YtpkccpegdpodoaaSM1
import Derived.Test.YtpkccpegdpodoaaSM2
import Derived.Test.YtpkccpegdpodoaaSM3
import Derived.BigQuiet
import Derived.Deep.RegionLaw
import Derived.Handy
import Derived.StillTailTactics
/- Store and shelf: one cell is changed, in place. No walk. -/
namespace Go.Proofs.Ytpkccpegdpodoaa
open Go.RowKit

namespace Sto
open Hau
theorem Nd.of {cs cs' : List Kp} (h1 : ∀ (n : Nat) (c' : Kp), cs'[n]? = some c' → c'.held = true → Nd cs n) (h2 : ∀ (n k : Nat) (c' : Kp), Nd cs n → cs'[n]? = some c' → ((5 : Int), (k : Int)) ∈ c'.vals → Nd cs k) {n : Nat} (h : Nd cs' n) : Nd cs n :=
  h.ind (P := fun n => Nd cs n) (fun n c hc hh => h1 n c hc hh) (fun n k c _ ih hc hv => h2 n k c ih hc hv)
/-- a cell n in object j is changed: the object, the cell -/
theorem Sr.put {obs : List (List U64)} {pl : List Int} {cs : List Kp} (h : Sr obs pl cs) {n j : Nat} {c c' : Kp} {o o' : List U64} (hn : cs[n]? = some c) (hj : obs[j]? = some o) (hp : pl[n]? = some (st obs j : Int))
    (hst : ∀ i, i < obs.length → st (obs.set j o') i = st obs i) (hg : Good o') (hb : ∀ x ∈ o'.tail, fits (starts 0 obs) x = true) (hf : ∀ x ∈ o', Flat.ok x) (hs : (obs.set j o').flatten.length ≤ 2000) (ho : Ob pl c' o')
    (hm : 0 ≤ c'.mark ∧ c'.mark < 2147483648) (hvl : c'.vals.length ≤ 100) (hv : ∀ v ∈ c'.vals, I64 v.1 ∧ I64 v.2 ∧ (v.1 = 5 → ∃ k : Nat, v.2 = (k : Int) ∧ k < cs.length))
    (hroot : c'.held = true → Nd cs n) (hedge : ∀ k : Nat, Nd cs n → ((5 : Int), (k : Int)) ∈ c'.vals → Nd cs k) : Sr (obs.set j o') pl (cs.set n c') := by
  have hnl := (List.getElem?_eq_some_iff.1 hn).1
  have hjl := (List.getElem?_eq_some_iff.1 hj).1
  have hstarts : starts 0 (obs.set j o') = starts 0 obs := by
    apply List.ext_getElem?
    intro i
    by_cases hi : i < obs.length
    · rw [starts_get 0 _ i (by rw [List.length_set]; exact hi), starts_get 0 _ i hi, hst i hi]
    · rw [List.getElem?_eq_none (by rw [starts_length, List.length_set]; omega), List.getElem?_eq_none (by rw [starts_length]; omega)]
  have hget : ∀ (i : Nat) (d : Kp), (cs.set n c')[i]? = some d → (i = n ∧ d = c') ∨ (i ≠ n ∧ cs[i]? = some d) := fun i d hd => by
    by_cases e : n = i
    · subst e
      rw [List.getElem?_set_self hnl] at hd
      injection hd with hd
      exact .inl ⟨rfl, hd.symm⟩
    · rw [List.getElem?_set_ne e] at hd
      exact .inr ⟨fun e2 => e e2.symm, hd⟩
  have hnd : ∀ i, Nd (cs.set n c') i → Nd cs i := fun i hi => hi.of (fun i2 d hd hh => by
      rcases hget i2 d hd with ⟨e1, e2⟩ | ⟨_, hd⟩
      · rw [e1]; rw [e2] at hh; exact hroot hh
      · exact Nd.root hd hh) (fun i2 k d hi2 hd hk => by
      rcases hget i2 d hd with ⟨e1, e2⟩ | ⟨_, hd⟩
      · rw [e1] at hi2; rw [e2] at hk; exact hedge k hi2 hk
      · exact hi2.edge hd hk)
  refine ⟨fun x hx => ?_, fun x hx y hy => ?_, fun x hx y hy => ?_, hs, by rw [List.length_set]; exact h.len, by rw [List.length_set]; exact h.many, fun i x hx => ?_, h.inj, fun d hd => ?_, fun d hd => ?_, fun d hd v hvd => ?_, fun i d hi hd => ?_⟩
  · rcases List.mem_or_eq_of_mem_set hx with hx | rfl
    · exact h.good x hx
    · exact hg
  · rw [hstarts]
    rcases List.mem_or_eq_of_mem_set hx with hx | rfl
    · exact h.body x hx y hy
    · exact hb y hy
  · rcases List.mem_or_eq_of_mem_set hx with hx | rfl
    · exact h.flat x hx y hy
    · exact hf y hy
  · rcases h.plc i x hx with e | ⟨k, hk, e⟩
    · exact .inl e
    · exact .inr ⟨k, by rw [List.length_set]; exact hk, by rw [hst k hk]; exact e⟩
  · rcases List.mem_or_eq_of_mem_set hd with hd | rfl
    · exact h.mark d hd
    · exact hm
  · rcases List.mem_or_eq_of_mem_set hd with hd | rfl
    · exact h.vlen d hd
    · exact hvl
  · rw [List.length_set]
    rcases List.mem_or_eq_of_mem_set hd with hd | rfl
    · exact h.vals d hd v hvd
    · exact hv v hvd
  · rcases hget i d hd with ⟨rfl, rfl⟩ | ⟨hne, hd⟩
    · exact ⟨j, o', by rw [List.getElem?_set_self hjl], by rw [hst j hjl]; exact hp, ho⟩
    · obtain ⟨k, x, g1, g2, g3⟩ := h.need i d (hnd i hi) hd
      have hkj : j ≠ k := fun e => by
        subst e
        exact hne (h.inj i n _ g2 hp (by omega))
      exact ⟨k, x, by rw [List.getElem?_set_ne hkj]; exact g1, by rw [hst k (List.getElem?_eq_some_iff.1 g1).1]; exact g2, g3⟩
end Sto

end Go.Proofs.Ytpkccpegdpodoaa

/- Store and shelf: a new cell. No walk. -/
namespace Go.Proofs.Ytpkccpegdpodoaa
open Go.RowKit

namespace Sto
open Hau
theorem fits_mono {l l' : List Nat} (h : ∀ q ∈ l, q ∈ l') {y : U64} (hf : fits l y = true) : fits l' y = true := by
  cases hr : refOf y with
  | none => exact fits_other hf hr
  | some q =>
    have hm := h q (fits_ref hf hr)
    unfold fits refOf at *
    split at hf
    · rename_i k n hu
      rw [hu] at hr
      simp only at hr
      split at hr
      · injection hr with hr
        subst hr
        simp only [Bool.or_eq_true]
        exact .inr (List.contains_iff_mem.2 hm)
      · cases hr
    · cases hf
theorem wd_app {pl r : List Int} {v : Int × Int} {x : U64} (h : wd pl v x) : wd (pl ++ r) v x := by
  rcases h with ⟨h1, p, h2, h3⟩ | h
  · exact .inl ⟨h1, p, by rw [List.getElem?_append_left (List.getElem?_eq_some_iff.1 h2).1]; exact h2, h3⟩
  · exact .inr h
theorem Ob.app {pl r : List Int} {c : Kp} {o : List U64} (h : Ob pl c o) : Ob (pl ++ r) c o := by
  obtain ⟨a, b, e, h1, h2, h3⟩ := h
  exact ⟨a, b, e, h1, h2, fun i v x hv hx => wd_app (h3 i v x hv hx)⟩
theorem get_snoc {α : Type} {l : List α} {x y : α} {n : Nat} (h : (l ++ [x])[n]? = some y) : (n < l.length ∧ l[n]? = some y) ∨ (n = l.length ∧ y = x) := by
  by_cases hn : n < l.length
  · rw [List.getElem?_append_left hn] at h; exact .inl ⟨hn, h⟩
  · rw [List.getElem?_append_right (by omega)] at h
    cases hk : n - l.length with
    | zero => rw [hk] at h; simp at h; exact .inr ⟨by omega, h.symm⟩
    | succ k => rw [hk] at h; simp at h

theorem Sr.make {obs : List (List U64)} {pl : List Int} {cs : List Kp} (h : Sr obs pl cs) {m : Int} {hw : U64} (hm : 0 ≤ m ∧ m < 2147483648) (hv : hw.val = m * 4294967296) (hs : obs.flatten.length + 1 ≤ 2000) (hc : cs.length + 1 ≤ 100) :
    Sr (obs ++ [[hw]]) (pl ++ [(obs.flatten.length : Int)]) (cs ++ [⟨m, [], true⟩]) := by
  have hok : Flat.ok hw := by show 0 ≤ hw.val ∧ hw.val ≤ 18446744073709551615; omega
  have hlg : lg hw = 0 := by unfold lg; rw [hv]; omega
  have hstl : ∀ j, j < obs.length → st obs j < obs.flatten.length := fun j hj => by
    have h3 := st_mono (l := obs) (show j + 1 ≤ obs.length from hj)
    have h4 := st_succ (List.getElem?_eq_getElem hj)
    obtain ⟨a, b, e5, -⟩ := h.good _ (List.getElem_mem hj)
    have : (obs[j]).length = b.length + 1 := by rw [e5]; rfl
    rw [st_all] at h3
    omega
  have hstn : st (obs ++ [[hw]]) obs.length = obs.flatten.length := by rw [st_app (Nat.le_refl _), st_all]
  have hll := h.len
  have hnd : ∀ n, Nd (cs ++ [⟨m, [], true⟩]) n → Nd cs n ∨ n = cs.length := fun n hn => hn.ind (P := fun n => Nd cs n ∨ n = cs.length) (fun n c hc hh => by
      rcases get_snoc hc with ⟨_, hc⟩ | ⟨e, _⟩
      · exact .inl (Nd.root hc hh)
      · exact .inr e) (fun n k c _ ih hc hk => by
      rcases get_snoc hc with ⟨hl, hc⟩ | ⟨_, e⟩
      · rcases ih with ih | ih
        · exact .inl (ih.edge hc hk)
        · omega
      · rw [e] at hk; simp at hk)
  refine ⟨fun o ho => ?_, fun o ho x hx => ?_, fun o ho x hx => ?_, by rw [List.flatten_append, List.length_append, List.flatten_singleton]; exact hs, by simp [hll], by rw [List.length_append]; exact hc, fun n x hx => ?_, fun n n2 x hx hy hne => ?_, fun c hc => ?_, fun c hc => ?_, fun c hc v hv2 => ?_, fun n c hn hc => ?_⟩
  · rcases List.mem_append.1 ho with ho | ho
    · exact h.good o ho
    · simp at ho; subst ho; exact ⟨hw, [], rfl, hlg⟩
  · rcases List.mem_append.1 ho with ho | ho
    · exact fits_mono (fun q hq => by rw [starts_append]; exact List.mem_append_left _ hq) (h.body o ho x hx)
    · simp at ho; subst ho; simp at hx
  · rcases List.mem_append.1 ho with ho | ho
    · exact h.flat o ho x hx
    · simp at ho; subst ho; simp at hx; subst hx; exact hok
  · rcases get_snoc hx with ⟨_, hx⟩ | ⟨_, rfl⟩
    · rcases h.plc n x hx with e | ⟨j, hj, e⟩
      · exact .inl e
      · exact .inr ⟨j, by rw [List.length_append]; omega, by rw [st_app (by omega)]; exact e⟩
    · exact .inr ⟨obs.length, by simp, by rw [hstn]⟩
  · rcases get_snoc hx with ⟨l1, hx⟩ | ⟨l1, e1⟩
    · rcases get_snoc hy with ⟨l2, hy⟩ | ⟨l2, e2⟩
      · exact h.inj n n2 x hx hy hne
      · rcases h.plc n x hx with e | ⟨j, hj, e⟩
        · exact absurd e hne
        · have := hstl j hj; omega
    · rcases get_snoc hy with ⟨l2, hy⟩ | ⟨l2, e2⟩
      · rcases h.plc n2 x hy with e | ⟨j, hj, e⟩
        · exact absurd e hne
        · have := hstl j hj; omega
      · omega
  · rcases List.mem_append.1 hc with hc | hc
    · exact h.mark c hc
    · simp at hc; subst hc; exact hm
  · rcases List.mem_append.1 hc with hc | hc
    · exact h.vlen c hc
    · simp at hc; subst hc; simp
  · rcases List.mem_append.1 hc with hc | hc
    · obtain ⟨a, b, e⟩ := h.vals c hc v hv2
      exact ⟨a, b, fun h5 => by obtain ⟨k, e1, e2⟩ := e h5; exact ⟨k, e1, by rw [List.length_append]; omega⟩⟩
    · simp at hc; subst hc; simp at hv2
  · rcases get_snoc hc with ⟨l1, hc⟩ | ⟨l1, e1⟩
    · rcases hnd n hn with hn | hn
      · obtain ⟨j, o, g1, g2, g3⟩ := h.need n c hn hc
        have hj := (List.getElem?_eq_some_iff.1 g1).1
        exact ⟨j, o, by rw [List.getElem?_append_left hj]; exact g1, by rw [List.getElem?_append_left (by omega), st_app (by omega)]; exact g2, g3.app⟩
      · omega
    · subst e1
      exact ⟨obs.length, [hw], by simp, by rw [l1, ← hll, hstn]; simp, hw, [], rfl, by rw [hv]; simp, rfl, by simp⟩
end Sto

end Go.Proofs.Ytpkccpegdpodoaa

/- Store and shelf: a cell is held, dropped; a value is set. No walk. -/
namespace Go.Proofs.Ytpkccpegdpodoaa
open Go.RowKit

namespace Sto
open Hau
theorem set_self {α : Type} {l : List α} {j : Nat} {o : α} (h : l[j]? = some o) : l.set j o = l := by
  apply List.ext_getElem?
  intro i
  by_cases e : j = i
  · subst e; rw [List.getElem?_set_self (List.getElem?_eq_some_iff.1 h).1, h]
  · rw [List.getElem?_set_ne e]
theorem Sr.hold {obs : List (List U64)} {pl : List Int} {cs : List Kp} (h : Sr obs pl cs) {n : Nat} {c : Kp} (hn : Nd cs n) (hc : cs[n]? = some c) (b : Bool) : Sr obs pl (cs.set n { c with held := b }) := by
  obtain ⟨j, o, h1, h2, h3⟩ := h.need n c hn hc
  have hm := List.mem_of_getElem? hc
  have key := h.put (c' := { c with held := b }) (o' := o) hc h1 h2 (fun i _ => by rw [set_self h1]) (h.good o (List.mem_of_getElem? h1)) (h.body o (List.mem_of_getElem? h1)) (h.flat o (List.mem_of_getElem? h1)) (by rw [set_self h1]; exact h.small) h3 (h.mark c hm) (h.vlen c hm) (h.vals c hm) (fun _ => hn) (fun k hk hv => hk.edge hc hv)
  rwa [set_self h1] at key
theorem flat_set_len : ∀ (l : List (List U64)) (j : Nat) (o o' : List U64), l[j]? = some o → o'.length = o.length → (l.set j o').flatten.length = l.flatten.length
  | [], j, o, o', h, _ => by simp at h
  | x :: l, 0, o, o', h, hl => by
    simp at h
    subst h
    rw [List.set_cons_zero, List.flatten_cons, List.flatten_cons, List.length_append, List.length_append, hl]
  | x :: l, j + 1, o, o', h, hl => by
    rw [List.set_cons_succ, List.flatten_cons, List.flatten_cons, List.length_append, List.length_append, flat_set_len l j o o' (by simpa using h) hl]
theorem st_set_len {l : List (List U64)} {j : Nat} {o o' : List U64} (h : l[j]? = some o) (hl : o'.length = o.length) (i : Nat) : st (l.set j o') i = st l i := by
  unfold st
  rw [List.take_set]
  by_cases hi : j < i
  · exact flat_set_len _ j o o' (by rw [List.getElem?_take, if_pos hi]; exact h) hl
  · rw [List.set_eq_of_length_le (by rw [List.length_take]; omega)]
theorem Sr.setv {obs : List (List U64)} {pl : List Int} {cs : List Kp} (h : Sr obs pl cs) {n i : Nat} {c : Kp} {v : Int × Int} {x : U64} (hn : Nd cs n) (hc : cs[n]? = some c) (hi : i < c.vals.length) (hx : Flat.ok x) (hw : wd pl v x) (hf : fits (starts 0 obs) x = true) (hv1 : I64 v.1 ∧ I64 v.2)
    (hr : v.1 = 5 → ∃ k : Nat, v.2 = (k : Int) ∧ Nd cs k) :
    ∃ j o, obs[j]? = some o ∧ pl[n]? = some (st obs j : Int) ∧ Sr (obs.set j (o.set (i + 1) x)) pl (cs.set n { c with vals := c.vals.set i v }) := by
  obtain ⟨j, o, h1, h2, a, b, rfl, h4, h5, h6⟩ := h.need n c hn hc
  have hm := List.mem_of_getElem? hc
  have hom := List.mem_of_getElem? h1
  refine ⟨j, _, h1, h2, ?_⟩
  rw [List.set_cons_succ]
  have hl : (a :: b.set i x).length = (a :: b).length := by simp
  have hga := h.good _ hom
  refine h.put hc h1 h2 (fun k _ => st_set_len h1 hl k) ?_ (fun y hy => ?_) (fun y hy => ?_) (by rw [flat_set_len _ _ _ _ h1 hl]; exact h.small) ⟨a, b.set i x, rfl, by rw [List.length_set]; exact h4, by rw [List.length_set, List.length_set]; exact h5, fun k u y hu hy => ?_⟩ (h.mark c hm) (by rw [List.length_set]; exact h.vlen c hm) (fun u hu => ?_) (fun _ => hn) (fun k hk hu => ?_)
  · obtain ⟨a2, b2, e, hlg⟩ := hga
    injection e with e1 e2
    subst e1 e2
    exact ⟨a, b.set i x, rfl, by rw [List.length_set]; exact hlg⟩
  · rw [List.tail_cons] at hy
    rcases List.mem_or_eq_of_mem_set hy with hy | rfl
    · exact h.body _ hom y hy
    · exact hf
  · rcases List.mem_cons.1 hy with rfl | hy
    · exact h.flat _ hom _ (by simp)
    · rcases List.mem_or_eq_of_mem_set hy with hy | rfl
      · exact h.flat _ hom y (by simp [hy])
      · exact hx
  · by_cases e : i = k
    · subst e
      rw [List.getElem?_set_self hi] at hu
      rw [List.getElem?_set_self (by omega)] at hy
      injection hu with hu
      injection hy with hy
      subst hu hy
      exact hw
    · rw [List.getElem?_set_ne e] at hu hy
      exact h6 k u y hu hy
  · rcases List.mem_or_eq_of_mem_set hu with hu | rfl
    · exact h.vals c hm u hu
    · exact ⟨hv1.1, hv1.2, fun h5 => by
        obtain ⟨k, e, hk⟩ := hr h5
        obtain ⟨d, hd⟩ := h.lt hk
        exact ⟨k, e, (List.getElem?_eq_some_iff.1 hd).1⟩⟩
  · rcases List.mem_or_eq_of_mem_set hu with hu | hu
    · exact hk.edge hc hu
    · obtain ⟨k2, e, hk2⟩ := hr (by rw [← hu])
      rw [← hu] at e
      have : k = k2 := Int.ofNat.inj e
      subst this
      exact hk2
end Sto

end Go.Proofs.Ytpkccpegdpodoaa

/- Store and shelf: a value is pushed at the last object. No walk. -/
namespace Go.Proofs.Ytpkccpegdpodoaa
open Go.RowKit

namespace Sto
open Hau
theorem Sr.push {A : List (List U64)} {o : List U64} {pl : List Int} {cs : List Kp} (h : Sr (A ++ [o]) pl cs) {n : Nat} {c : Kp} {v : Int × Int} {x : U64} (hn : Nd cs n) (hc : cs[n]? = some c) (hp : pl[n]? = some (A.flatten.length : Int)) (hl : c.vals.length < 100) (hs : (A ++ [o]).flatten.length + 1 ≤ 2000)
    (hx : Flat.ok x) (hw : wd pl v x) (hf : fits (starts 0 (A ++ [o])) x = true) (hv1 : I64 v.1 ∧ I64 v.2) (hr : v.1 = 5 → ∃ k : Nat, v.2 = (k : Int) ∧ Nd cs k) :
    ∃ (a : U64) (b : List U64), o = a :: b ∧ a.val + 1 ≤ 18446744073709551615 ∧ Sr (A ++ [(⟨a.val + 1⟩ : U64) :: (b ++ [x])]) pl (cs.set n { c with vals := c.vals ++ [v] }) := by
  obtain ⟨j, o2, h1, h2, a, b, e, h4, h5, h6⟩ := h.need n c hn hc
  have hm := List.mem_of_getElem? hc
  have hstA : st (A ++ [o]) A.length = A.flatten.length := by rw [st_app (Nat.le_refl _), st_all]
  have hgA : (A ++ [o])[A.length]? = some o := by simp
  have hj : j = A.length := by
    rw [h2] at hp
    injection hp with hp
    exact st_inj h.good (List.getElem?_eq_some_iff.1 h1).1 (List.getElem?_eq_some_iff.1 hgA).1 (by omega)
  subst hj
  rw [hgA] at h1
  injection h1 with h1
  subst h1
  subst e
  have hom : (a :: b) ∈ A ++ [a :: b] := by simp
  have hmk := h.mark c hm
  have hset : (A ++ [a :: b]).set A.length ((⟨a.val + 1⟩ : U64) :: (b ++ [x])) = A ++ [(⟨a.val + 1⟩ : U64) :: (b ++ [x])] := by
    rw [List.set_append_right _ _ (Nat.le_refl _), Nat.sub_self]; rfl
  refine ⟨a, b, rfl, by omega, ?_⟩
  have key := h.put (c' := { c with vals := c.vals ++ [v] }) (o' := (⟨a.val + 1⟩ : U64) :: (b ++ [x])) hc hgA h2 (fun i hi => by
      rw [hset, st_app (by simp at hi; omega), st_app (by simp at hi; omega)]) ⟨⟨a.val + 1⟩, b ++ [x], rfl, by unfold lg; simp only [List.length_append, List.length_singleton]; omega⟩ (fun y hy => by
      rw [List.tail_cons] at hy
      rcases List.mem_append.1 hy with hy | hy
      · exact h.body _ hom y hy
      · simp at hy; subst hy; exact hf) (fun y hy => by
      rcases List.mem_cons.1 hy with rfl | hy
      · show 0 ≤ a.val + 1 ∧ a.val + 1 ≤ 18446744073709551615
        omega
      · rcases List.mem_append.1 hy with hy | hy
        · exact h.flat _ hom y (by simp [hy])
        · simp at hy; subst hy; exact hx) (by
      rw [hset]
      simp only [List.flatten_append, List.length_append, List.flatten_singleton, List.length_cons, List.length_nil] at hs ⊢
      omega) ⟨⟨a.val + 1⟩, b ++ [x], rfl, by simp only [List.length_append, List.length_singleton]; omega, by simp only [List.length_append, List.length_singleton]; omega, fun k u y hu hy => by
      rcases get_snoc hu with ⟨l1, hu⟩ | ⟨l1, rfl⟩
      · rcases get_snoc hy with ⟨l2, hy⟩ | ⟨l2, _⟩
        · exact h6 k u y hu hy
        · omega
      · rcases get_snoc hy with ⟨l2, hy⟩ | ⟨l2, rfl⟩
        · omega
        · exact hw⟩ hmk (by simp only [List.length_append, List.length_singleton]; omega) (fun u hu => by
      rcases List.mem_append.1 hu with hu | hu
      · exact h.vals c hm u hu
      · simp at hu; subst hu
        exact ⟨hv1.1, hv1.2, fun h5 => by
          obtain ⟨k, e, hk⟩ := hr h5
          obtain ⟨d, hd⟩ := h.lt hk
          exact ⟨k, e, (List.getElem?_eq_some_iff.1 hd).1⟩⟩) (fun _ => hn) (fun k hk hu => by
      rcases List.mem_append.1 hu with hu | hu
      · exact hk.edge hc hu
      · simp only [List.mem_singleton] at hu
        obtain ⟨k2, e, hk2⟩ := hr (by rw [← hu])
        rw [← hu] at e
        have : k = k2 := Int.ofNat.inj e
        subst this
        exact hk2)
  rwa [hset] at key
end Sto

end Go.Proofs.Ytpkccpegdpodoaa

/- Store and shelf: what naming a cell tells is the same. No walk. -/
namespace Go.Proofs.Ytpkccpegdpodoaa
open Go.RowKit

namespace Sto
open Hau
/-- what the shelf tells of a name -/
noncomputable def sNm (cs : List Kp) (of_ : Int) : Int := if of_ < 0 ∨ (cs.length : Int) ≤ of_ then 5 else if ndB cs of_.toNat = true then 0 else 8
theorem Sr.named {obs : List (List U64)} {pl : List Int} {cs : List Kp} (h : Sr obs pl cs) (of_ : Int) : nmE pl (told obs.flatten (sroots pl cs)) of_ = sNm cs of_ := by
  unfold nmE sNm
  rw [h.len]
  by_cases hb : of_ < 0 ∨ (cs.length : Int) ≤ of_
  · rw [if_pos hb, if_pos hb]
  · rw [if_neg hb, if_neg hb]
    obtain ⟨k, rfl⟩ : ∃ k : Nat, of_ = (k : Int) := ⟨of_.toNat, by omega⟩
    rw [Int.toNat_natCast]
    obtain ⟨x, hx⟩ : ∃ x, pl[k]? = some x := ⟨_, List.getElem?_eq_getElem (by have := h.len; omega)⟩
    have hiff : ((ints (told obs.flatten (sroots pl cs))).contains (pl.getD k 0) = true) ↔ (ndB cs k = true) := by
      rw [List.getD_eq_getElem?_getD, hx, Option.getD_some, ndB_iff]
      constructor
      · intro hc
        have := List.contains_iff_mem.1 hc
        unfold ints at this
        obtain ⟨p, hp, rfl⟩ := List.mem_map.1 this
        obtain ⟨n, hn, hpn⟩ := (h.told_iff p).1 hp
        have : n = k := h.inj n k _ hpn hx (by omega)
        subst this
        exact ⟨by omega, hn⟩
      · rintro ⟨_, hn⟩
        obtain ⟨c, j, o, -, -, e, -⟩ := h.at_ hn
        rw [hx] at e
        injection e with e
        subst e
        rw [ints_contains]
        exact List.contains_iff_mem.2 ((h.told_iff _).2 ⟨k, hn, hx⟩)
    by_cases hd : ndB cs k = true
    · rw [if_pos (hiff.2 hd), if_pos hd]
    · rw [if_neg (fun hc => hd (hiff.1 hc)), if_neg hd]
end Sto

end Go.Proofs.Ytpkccpegdpodoaa

/- The law's shelf: words, naming. -/
namespace Go.Proofs.Ytpkccpegdpodoaa
open Go.RowKit

attribute [local go_sem ↓] Go.wp_at_zero Go.wp_at_succ

namespace Sto
theorem sW_le (cs : List Kp) (h : Kok cs) : ∀ k, sW cs k ≤ k * 101
  | 0 => by simp [sW]
  | k + 1 => by
    rw [sW_succ]
    have := sW_le cs h k
    have hv : vlenAt cs k ≤ 100 := by
      unfold vlenAt
      split
      · rename_i c hc; exact h.vlen c (List.mem_of_getElem? hc)
      · omega
    split <;> omega
theorem sNeed_length (cs : List Kp) : (sNeed cs).length = cs.length := by unfold sNeed; rw [fromL_length, sHas_length]

set_option maxHeartbeats 1600000 in
set_option maxRecDepth 100000 in
theorem sh_words (w : World) (base q : Nat) (G : Nat → Prop) (cs : List Kp) (h : Shf w base G q cs) (hk : Kok cs) :
    Calls Try.prog 75 #[.pointer (some ⟨q, 0, none⟩)] w fun e w' => e = .returned (.int .i64 (sW cs cs.length : Int)) ∧ Below w.heap.size w w' := by
  have hnd := hneeded_any w base q G cs h hk
  obtain ⟨N, hN⟩ : ∃ N, cs.length = N := ⟨_, rfl⟩
  rw [hN] at hnd ⊢
  have hN100 : N ≤ 100 := by rw [← hN]; exact hk.small
  have H := Lib.hid (And.intro h (And.intro hk (And.intro hN hnd))); clear h hk hN hnd
  go_enter Try.func75, Try.ntmps75
  go_wp2_with fail
  refine H.out.2.2.2.mono ?_
  rintro e w1 ⟨S, c, rfl, ho, hb1⟩
  have hs1 := hb1.size
  have hS1 := H.out.1.fresh hb1
  obtain ⟨A, cc, l, k1, k2, k3, k4, k5⟩ := hS1
  have hl : l.length = N := by rw [← kps_length, k5, H.out.2.2.1]
  have c0 := k1.cell 0 (v := .slice A l.length cc) rfl
  rw [hl] at c0
  have H1 := Lib.hid (And.intro ho (And.intro k2 (And.intro k5 (And.intro hl hb1)))); clear ho k1 k2 k3 k4 k5 hl hb1
  go_wp2_with fail
  go_loopg [3, 4, 5, 9] N (fun gk v3 v4 v5 iv wr => ∃ k : Nat, k ≤ N ∧ gk = N - k ∧ iv = .int .i64 k ∧ v3 = .int .i64 (sW cs k : Int) ∧ w1 = wr)
  case atStart => exact ⟨0, Nat.zero_le _, rfl, rfl, by simp [sW], rfl⟩
  case round =>
    obtain ⟨k, hk, rfl, rfl, rfl, rfl⟩ := hrel
    by_cases hlt : k < N
    · obtain ⟨b, hb⟩ : ∃ b, (sNeed cs)[k]? = some b := ⟨_, List.getElem?_eq_getElem (by rw [sNeed_length, H.out.2.2.1]; exact hlt)⟩
      obtain ⟨x, hx⟩ : ∃ x, l[k]? = some x := ⟨_, List.getElem?_eq_getElem (by have := H1.out.2.2.2.1; omega)⟩
      obtain ⟨g, rfl, hg1, hg2⟩ := H1.out.1.some_ (by rw [sNeed_length, H.out.2.2.1]; omega)
      have q0 := H1.out.1.cell_bool hb
      obtain ⟨ga, rfl, hga1, hga2, -, q1, -⟩ := H1.out.2.1.cells hx
      have hvl : vlenAt cs k = x.vals.length := by
        have := kps_get hx
        rw [H1.out.2.2.1] at this
        unfold vlenAt; rw [this]; rfl
      have hbd : ndB cs k = b := by unfold ndB; rw [List.getD_eq_getElem?_getD, hb]; rfl
      have hsw := sW_succ cs k
      rw [hbd, hvl] at hsw
      have hle := sW_le cs H.out.2.1 k
      have hv100 : x.vals.length ≤ 100 := by
        have := kps_get hx
        rw [H1.out.2.2.1] at this
        exact H.out.2.1.vlen _ (List.mem_of_getElem? this)
      obtain ⟨vl, hvlE⟩ : ∃ v, x.vals.length = v := ⟨_, rfl⟩
      rw [hvlE] at hsw q1 hv100
      obtain ⟨S0, hS0⟩ : ∃ v, sW cs k = v := ⟨_, rfl⟩
      obtain ⟨S1, hS1⟩ : ∃ v, sW cs (k + 1) = v := ⟨_, rfl⟩
      rw [hS0, hS1] at hsw
      rw [hS0] at hle ⊢
      have b0 : (0 : Int) ≤ (k : Int) := by omega
      have b1 : (k : Int) < (N : Int) := by omega
      have HX := Lib.hid (And.intro hS1 (And.intro hsw (And.intro hS0 hvl))); clear hb hx hvl hbd hS1 hsw hvlE hS0
      cases b with
      | false =>
        go_wp2_with fail
        go_roundg (N - (k + 1))
        case measure => omega
        case rel => exact ⟨k + 1, by omega, rfl, by go_num, by have h1 := HX.out.1; have h2 := HX.out.2.1; simp at h2; rw [h1, h2], rfl⟩
      | true =>
        have e1 : IntKind.i64.wrap (1 + (vl : Int)) = 1 + (vl : Int) := IntWalk.i64_in _ (by omega)
        have e2 : IntKind.i64.wrap ((S0 : Int) + (1 + (vl : Int))) = (S1 : Int) := by rw [IntWalk.i64_in _ (by omega)]; have h2 := HX.out.2.1; simp at h2; omega
        go_wp2_with fail
        go_roundg (N - (k + 1))
        case measure => omega
        case rel => exact ⟨k + 1, by omega, rfl, by go_num, by rw [HX.out.1], rfl⟩
    · obtain rfl : k = N := by omega
      go_wp2_with fail
      go_returns
      exact ⟨rfl, H1.out.2.2.2.2⟩

set_option maxHeartbeats 800000 in
set_option maxRecDepth 100000 in
theorem sh_named (w : World) (base q : Nat) (of_ : Int) (G : Nat → Prop) (cs : List Kp) (h : Shf w base G q cs) (hk : Kok cs) :
    Calls Try.prog 78 #[.pointer (some ⟨q, 0, none⟩), .int .i64 of_] w fun e w' => e = .returned (.int .i64 (sNm cs of_)) ∧ Below w.heap.size w w' := by
  have hnd := hneeded_any w base q G cs h hk
  obtain ⟨N, hN⟩ : ∃ N, cs.length = N := ⟨_, rfl⟩
  rw [hN] at hnd
  have hN100 : N ≤ 100 := by rw [← hN]; exact hk.small
  obtain ⟨E, hE⟩ : ∃ x, sNm cs of_ = x := ⟨_, rfl⟩
  rw [hE]
  obtain ⟨A, cc, l, k1, k2, k3, k4, k5⟩ := h
  have hl : l.length = N := by rw [← kps_length, k5, hN]
  have c0 := k1.cell 0 (v := .slice A l.length cc) rfl
  rw [hl] at c0
  unfold sNm at hE
  rw [hN] at hE
  have H := Lib.hid (And.intro hE (And.intro hN hnd)); clear hE hN hnd k1 k2 k3 k4 k5 hl hk
  by_cases h1 : of_ < 0
  · have d1 : decide (of_ < 0) = true := by simpa using h1
    have hEE : E = 5 := by rw [← H.out.1, if_pos (.inl h1)]
    subst hEE
    clear h1
    go_enter Try.func78, Try.ntmps78
    go_wp2_with fail
    go_returns
    exact ⟨rfl, Below.refl _ _⟩
  obtain ⟨k, rfl⟩ : ∃ k : Nat, of_ = (k : Int) := ⟨of_.toNat, by omega⟩
  have d1 : decide ((k : Int) < 0) = false := by simp
  by_cases h2 : N ≤ k
  · have d2 : (N : Int) ≤ (k : Int) := by omega
    have hEE : E = 5 := by rw [← H.out.1, if_pos (.inr d2)]
    subst hEE
    clear h1
    go_enter Try.func78, Try.ntmps78
    go_wp2_with fail
    go_returns
    exact ⟨rfl, Below.refl _ _⟩
  have d2 : ¬ (N : Int) ≤ (k : Int) := by omega
  have d3 : (k : Int) < (N : Int) := by omega
  have hres := H.out.1
  rw [if_neg (by omega), Int.toNat_natCast] at hres
  obtain ⟨b, hb⟩ : ∃ b, (sNeed cs)[k]? = some b := ⟨_, List.getElem?_eq_getElem (by rw [sNeed_length, H.out.2.1]; omega)⟩
  have hbd : ndB cs k = b := by unfold ndB; rw [List.getD_eq_getElem?_getD, hb]; rfl
  rw [hbd] at hres
  have HR := Lib.hid (And.intro hres hb); clear hres hb hbd h1
  go_enter Try.func78, Try.ntmps78
  go_wp2_with fail
  refine H.out.2.2.mono ?_
  rintro e w1 ⟨S, c, rfl, ho, hb1⟩
  obtain ⟨g, rfl, hg1, hg2⟩ := ho.some_ (by rw [sNeed_length, H.out.2.1]; omega)
  have q0 := ho.cell_bool HR.out.2
  have H1 := Lib.hid (And.intro ho hb1); clear ho hb1 c0
  cases b with
  | true =>
    have hEE : E = 0 := by rw [← HR.out.1, if_pos rfl]
    subst hEE
    go_wp2_with fail
    go_returns
    exact ⟨rfl, H1.out.2⟩
  | false =>
    have hEE : E = 8 := by rw [← HR.out.1, if_neg (by decide)]
    subst hEE
    go_wp2_with fail
    go_returns
    exact ⟨rfl, H1.out.2⟩
end Sto
end Go.Proofs.Ytpkccpegdpodoaa

/- store.Hold. -/
namespace Go.Proofs.Ytpkccpegdpodoaa
open Go.RowKit Go.Maps

attribute [local go_sem ↓] Go.wp_at_zero Go.wp_at_succ

theorem SoL.setHeld {w : World} {base p g i : Nat} {F : Nat → Prop} {ws : List U64} {pl : List Int} {hd : List Bool} {WA AA : Option Addr} {cw ac hc : Nat} (h : SoL w base F p ws pl hd WA AA (some ⟨g, 0, none⟩) cw ac hc) (hi : i < hd.length) (y : Bool) :
    SoL (w.setCell ⟨g, i, none⟩ (.bool y)) base F p ws pl (hd.set i y) WA AA (some ⟨g, 0, none⟩) cw ac hc := by
  have e : (hd.set i y).length = hd.length := List.length_set
  refine ⟨?_, h.words.setCell _ _ (fun e => own_own_ty h.helds h.words (by decide) g rfl e), h.places.setCell _ _ (fun e => own_own_ty h.helds h.places (by decide) g rfl e), h.helds.set_bool y hi, h.foot, h.footW, h.footA, h.footH, h.okW, h.okA⟩
  rw [e]
  exact h.blk.far (fun e => own_ne_ty h.helds h.blk (by decide) (by rw [e]; rfl)) _

/-- what holding a cell leaves -/
def HoldPost (w : World) (base p : Nat) (of_ : Int) (F : Nat → Prop) (ws : List U64) (pl : List Int) (hd : List Bool) (E : Int) (e : Ending) (w' : World) : Prop :=
  e = .returned (.int .i64 E) ∧ So w' base F p ws pl (if E = 0 then hd.set of_.toNat true else hd) ∧ Touch F w w'

set_option maxHeartbeats 800000 in
set_option maxRecDepth 100000 in
theorem shold_any (w : World) (base p : Nat) (of_ : Int) (F : Nat → Prop) (ws : List U64) (pl : List Int) (hd : List Bool) (h : Sx w base F p ws pl hd) :
    Calls Try.prog 70 #[.pointer (some ⟨p, 0, none⟩), .int .i64 of_] w (HoldPost w base p of_ F ws pl hd (nmE pl (tl ws pl hd) of_)) := by
  have hnm := snamed_any w base p of_ F ws pl hd h
  obtain ⟨E, hE⟩ : ∃ E, nmE pl (tl ws pl hd) of_ = E := ⟨_, rfl⟩
  rw [hE] at hnm
  rw [hE]
  obtain ⟨P, hP⟩ : ∃ P, HoldPost w base p of_ F ws pl hd E = P := ⟨_, rfl⟩
  rw [hP]
  have H := Lib.hid (And.intro h (And.intro hnm (And.intro hE hP))); clear h hnm hE hP
  go_enter Try.func70, Try.ntmps70
  go_wp2_with fail
  refine H.out.2.1.mono ?_
  rintro e w1 ⟨rfl, hb1⟩
  by_cases h0 : E = 0
  · subst h0
    obtain ⟨k, rfl, q, hq, -⟩ := nmE_zero H.out.2.2.1
    obtain ⟨WA, AA, HA, cw, ac, hc, hS⟩ := (H.out.1.fresh hb1).so
    have hkl : k < hd.length := by have := (List.getElem?_eq_some_iff.1 hq).1; have := H.out.1.len; omega
    obtain ⟨y, hy⟩ : ∃ y, hd[k]? = some y := ⟨_, List.getElem?_eq_getElem hkl⟩
    obtain ⟨g, rfl, hg1, hg2, q0⟩ := hS.held hy
    have c2 := hS.blk.cell 2 (v := .slice (some ⟨g, 0, none⟩) hd.length hc) rfl
    have z0 := hS.helds.frozen (g := g) rfl k
    have k1 : (k : Int) < (hd.length : Int) := by omega
    have hnew := hS.setHeld hkl true
    have ht := (Touch.ofBelow (F := F) hb1).setCell (p := ⟨g, k, none⟩) (hS.footH g rfl) (.bool true)
    have HN := Lib.hid (And.intro hnew ht); clear hnew ht hS hq hy
    go_wp2_with fail
    rw [← H.out.2.2.2]
    exact ⟨rfl, by rw [if_pos rfl, Int.toNat_natCast]; exact HN.out.1.so, HN.out.2⟩
  · have d0 : (E == 0) = false := by simpa using h0
    have HN := Lib.hid h0; clear h0
    go_wp2_with fail
    rw [← H.out.2.2.2]
    exact ⟨rfl, by rw [if_neg HN.out]; exact (H.out.1.fresh hb1).so, Touch.ofBelow hb1⟩
end Go.Proofs.Ytpkccpegdpodoaa

/- store.Drop, store.Count. -/
namespace Go.Proofs.Ytpkccpegdpodoaa
open Go.RowKit Go.Maps

attribute [local go_sem ↓] Go.wp_at_zero Go.wp_at_succ

/-- what dropping a cell leaves -/
def DropPost (w : World) (base p : Nat) (of_ : Int) (F : Nat → Prop) (ws : List U64) (pl : List Int) (hd : List Bool) (E : Int) (e : Ending) (w' : World) : Prop :=
  e = .returned (.int .i64 (if E ≠ 0 then E else if hd.getD of_.toNat false = true then 0 else 8)) ∧ So w' base F p ws pl (if E = 0 then hd.set of_.toNat false else hd) ∧ Touch F w w'

set_option maxHeartbeats 800000 in
set_option maxRecDepth 100000 in
theorem sdrop_any (w : World) (base p : Nat) (of_ : Int) (F : Nat → Prop) (ws : List U64) (pl : List Int) (hd : List Bool) (h : Sx w base F p ws pl hd) :
    Calls Try.prog 72 #[.pointer (some ⟨p, 0, none⟩), .int .i64 of_] w (DropPost w base p of_ F ws pl hd (nmE pl (tl ws pl hd) of_)) := by
  have hnm := snamed_any w base p of_ F ws pl hd h
  obtain ⟨E, hE⟩ : ∃ E, nmE pl (tl ws pl hd) of_ = E := ⟨_, rfl⟩
  rw [hE] at hnm
  rw [hE]
  obtain ⟨P, hP⟩ : ∃ P, DropPost w base p of_ F ws pl hd E = P := ⟨_, rfl⟩
  rw [hP]
  have H := Lib.hid (And.intro h (And.intro hnm (And.intro hE hP))); clear h hnm hE hP
  go_enter Try.func72, Try.ntmps72
  go_wp2_with fail
  refine H.out.2.1.mono ?_
  rintro e w1 ⟨rfl, hb1⟩
  by_cases h0 : E = 0
  · subst h0
    obtain ⟨k, rfl, q, hq, -⟩ := nmE_zero H.out.2.2.1
    obtain ⟨WA, AA, HA, cw, ac, hc, hS⟩ := (H.out.1.fresh hb1).so
    have hkl : k < hd.length := by have := (List.getElem?_eq_some_iff.1 hq).1; have := H.out.1.len; omega
    obtain ⟨y, hy⟩ : ∃ y, hd[k]? = some y := ⟨_, List.getElem?_eq_getElem hkl⟩
    obtain ⟨g, rfl, hg1, hg2, q0⟩ := hS.held hy
    have c2 := hS.blk.cell 2 (v := .slice (some ⟨g, 0, none⟩) hd.length hc) rfl
    have z0 := hS.helds.frozen (g := g) rfl k
    have k1 : (k : Int) < (hd.length : Int) := by omega
    have hnew := hS.setHeld hkl false
    have ht := (Touch.ofBelow (F := F) hb1).setCell (p := ⟨g, k, none⟩) (hS.footH g rfl) (.bool false)
    have HN := Lib.hid (And.intro hnew (And.intro ht (And.intro hS hy))); clear hnew ht hS hq hy
    have hgd : hd.getD k false = y := by rw [List.getD_eq_getElem?_getD, HN.out.2.2.2]; rfl
    have HG := Lib.hid hgd; clear hgd
    cases y with
    | true =>
      go_wp2_with fail
      rw [← H.out.2.2.2]
      exact ⟨by rw [if_neg (by simp), Int.toNat_natCast, if_pos HG.out]; rfl, by rw [if_pos rfl, Int.toNat_natCast]; exact HN.out.1.so, HN.out.2.1⟩
    | false =>
      go_wp2_with fail
      rw [← H.out.2.2.2]
      have hs : hd.set k false = hd := by
        apply List.ext_getElem?
        intro i
        by_cases e : k = i
        · subst e; rw [List.getElem?_set_self hkl, HN.out.2.2.2]
        · rw [List.getElem?_set_ne e]
      exact ⟨by rw [if_neg (by simp), Int.toNat_natCast, if_neg (by rw [HG.out]; decide)]; rfl, by rw [if_pos rfl, Int.toNat_natCast, hs]; exact HN.out.2.2.1.so, Touch.ofBelow hb1⟩
  · have d0 : (E != 0) = true := by simpa using h0
    have HN := Lib.hid h0; clear h0
    go_wp2_with fail
    rw [← H.out.2.2.2]
    exact ⟨by rw [if_pos HN.out]; rfl, by rw [if_neg HN.out]; exact (H.out.1.fresh hb1).so, Touch.ofBelow hb1⟩
end Go.Proofs.Ytpkccpegdpodoaa

/- store.Count. -/
namespace Go.Proofs.Ytpkccpegdpodoaa
open Go.RowKit Go.Maps

attribute [local go_sem ↓] Go.wp_at_zero Go.wp_at_succ

/-- what counting a cell's values tells -/
def CountPost (w : World) (ws : List U64) (pl : List Int) (of_ E : Int) (e : Ending) (w' : World) : Prop :=
  e = .returned (.tuple #[.int .i64 (if E = 0 then (Hau.lg (Hau.wat ws (pl.getD of_.toNat 0).toNat) : Int) else 0), .int .i64 E]) ∧ Below w.heap.size w w'

set_option maxHeartbeats 800000 in
set_option maxRecDepth 100000 in
theorem scount_any (w : World) (base p : Nat) (of_ : Int) (F : Nat → Prop) (ws : List U64) (pl : List Int) (hd : List Bool) (h : Sx w base F p ws pl hd) :
    Calls Try.prog 76 #[.pointer (some ⟨p, 0, none⟩), .int .i64 of_] w (CountPost w ws pl of_ (nmE pl (tl ws pl hd) of_)) := by
  have hnm := snamed_any w base p of_ F ws pl hd h
  have hplt : ∀ q ∈ tl ws pl hd, q < ws.length := fun q hq => h.tb.plt hq
  have hws := h.tb.small
  obtain ⟨E, hE⟩ : ∃ E, nmE pl (tl ws pl hd) of_ = E := ⟨_, rfl⟩
  rw [hE] at hnm
  rw [hE]
  obtain ⟨P, hP⟩ : ∃ P, CountPost w ws pl of_ E = P := ⟨_, rfl⟩
  rw [hP]
  have H := Lib.hid (And.intro h (And.intro hnm (And.intro hE (And.intro hP hplt)))); clear h hnm hE hP hplt
  go_enter Try.func76, Try.ntmps76
  go_wp2_with fail
  refine H.out.2.1.mono ?_
  rintro e w1 ⟨rfl, hb1⟩
  by_cases h0 : E = 0
  · subst h0
    obtain ⟨k, rfl, q, hq, hqL⟩ := nmE_zero H.out.2.2.1
    have hql := H.out.2.2.2.2 q hqL
    obtain ⟨WA, AA, HA, cw, ac, hc, hS⟩ := (H.out.1.fresh hb1).so
    obtain ⟨g, rfl, hg1, hg2, q0⟩ := hS.place hq
    have c1 := hS.blk.cell 1 (v := .slice (some ⟨g, 0, none⟩) pl.length ac) rfl
    have k1 : (k : Int) < (pl.length : Int) := by have := (List.getElem?_eq_some_iff.1 hq).1; omega
    have hlong := slong_any w1 base p q F ws pl hd hS.so hql (by omega)
    have hgd : (pl.getD k 0).toNat = q := by rw [List.getD_eq_getElem?_getD, hq]; simp
    have HN := Lib.hid (And.intro hlong hgd); clear hlong hgd hS hq hqL
    go_wp2_with fail
    refine HN.out.1.mono ?_
    rintro e w2 ⟨rfl, rfl⟩
    go_wp2_with fail
    rw [← H.out.2.2.2.1]
    exact ⟨by rw [if_pos rfl, Int.toNat_natCast, HN.out.2]; rfl, hb1⟩
  · have d0 : (E != 0) = true := by simpa using h0
    have HN := Lib.hid h0; clear h0
    go_wp2_with fail
    rw [← H.out.2.2.2.1]
    exact ⟨by rw [if_neg HN.out]; rfl, hb1⟩
end Go.Proofs.Ytpkccpegdpodoaa

/- Store and shelf: a value that is handed in, boxed by the one, looked at by the other. No walk. -/
namespace Go.Proofs.Ytpkccpegdpodoaa
open Go.RowKit

namespace Sto
open Hau
theorem unb_I64 {x k n : Int} (_hx : 0 ≤ x ∧ x ≤ 18446744073709551615) (h : unbL x = some (k, n)) : I64 k ∧ I64 n := by
  unfold unbL at h
  split at h
  · split at h
    · cases h
    · injection h with h; injection h with h1 h2
      subst h1 h2
      unfold I64 sgn64; omega
  · split at h
    · injection h with h; injection h with h1 h2
      subst h1 h2
      unfold numL kindL sgn32 I64
      constructor
      · split <;> omega
      · split <;> omega
    · cases h
theorem boxL_rangeS (k n : Int) : 0 ≤ (boxL k n).1 ∧ (boxL k n).1 ≤ 18446744073709551615 := by
  unfold boxL tagL
  split
  · simp
  split
  · split
    · simp
    · simp only; omega
  · split
    · simp
    · simp only
      split <;> omega
/-- the value that a shelf keeps of one handed in -/
def vV (k n : Int) : Int × Int := (unbL (boxL k n).1).getD (0, 0)
/-- what is wrong with a value handed in -/
noncomputable def vE (cs : List Kp) (k n : Int) : Int := if (boxL k n).2 ≠ 0 then (boxL k n).2 else if k = 5 then sNm cs n else 0
theorem vV_box {k n : Int} (h : (boxL k n).2 = 0) : unbL (boxL k n).1 = some (vV k n) ∧ (vV k n).1 = k ∧ (k ≠ 3 → (vV k n).2 = n) ∧ I64 (vV k n).1 ∧ I64 (vV k n).2 := by
  obtain ⟨m, h1, h2⟩ := unbL_box (k := k) (n := n) (x := (boxL k n).1) (Prod.ext rfl h)
  have hv : vV k n = (k, m) := by unfold vV; rw [h1]; rfl
  have hI := unb_I64 (boxL_rangeS k n) h1
  rw [hv]
  exact ⟨h1, rfl, h2, hI⟩
theorem sNm_nd {cs : List Kp} {n : Int} (h : sNm cs n = 0) : ∃ k : Nat, n = (k : Int) ∧ k < cs.length ∧ Nd cs k := by
  unfold sNm at h
  split at h
  · cases h
  · rename_i h1
    split at h
    · rename_i h2
      obtain ⟨h3, h4⟩ := ndB_iff.1 h2
      exact ⟨n.toNat, by omega, h3, h4⟩
    · cases h
theorem Sr.bxE {obs : List (List U64)} {pl : List Int} {cs : List Kp} (h : Sr obs pl cs) (k n : Int) : (bxL pl (told obs.flatten (sroots pl cs)) k n).2 = vE cs k n := by
  unfold vE
  by_cases h0 : (boxL k n).2 = 0
  · rw [if_neg (by simp [h0])]
    by_cases h5 : k = 5
    · subst h5
      rw [if_pos rfl, ← h.named n]
      by_cases h1 : nmE pl (told obs.flatten (sroots pl cs)) n = 0
      · rw [bxL_ref h0 h1, h1]
        obtain ⟨m, rfl, q, hq, -⟩ := nmE_zero h1
        rw [Int.toNat_natCast, List.getD_eq_getElem?_getD, hq, Option.getD_some, box_ref (h.psm m q hq)]
      · rw [bxL_named h0 h1]
    · rw [if_neg h5, bxL_box (.inr h5), h0]
  · rw [if_pos h0, bxL_box (.inl h0)]
/-- the word of a value that may be handed in -/
theorem Sr.bxW {obs : List (List U64)} {pl : List Int} {cs : List Kp} (h : Sr obs pl cs) {k n : Int} (he : vE cs k n = 0) :
    Flat.ok (⟨(bxL pl (told obs.flatten (sroots pl cs)) k n).1⟩ : U64) ∧ wd pl (vV k n) ⟨(bxL pl (told obs.flatten (sroots pl cs)) k n).1⟩ ∧ fits (starts 0 obs) ⟨(bxL pl (told obs.flatten (sroots pl cs)) k n).1⟩ = true ∧ (I64 (vV k n).1 ∧ I64 (vV k n).2) ∧ ((vV k n).1 = 5 → ∃ j : Nat, (vV k n).2 = (j : Int) ∧ Nd cs j) := by
  unfold vE at he
  split at he
  · rename_i h0; exact absurd he h0
  rename_i h0
  have h0 : (boxL k n).2 = 0 := by simpa using h0
  obtain ⟨v1, v2, v3, v4⟩ := vV_box h0
  by_cases h5 : k = 5
  · subst h5
    rw [if_pos rfl] at he
    obtain ⟨m, rfl, hm, hnd⟩ := sNm_nd he
    have hnm := h.named (m : Int)
    rw [he] at hnm
    obtain ⟨c, j, o, hc, hj, hp, hob⟩ := h.at_ hnd
    have hsm := h.psm m _ hp
    have hb : bxL pl (told obs.flatten (sroots pl cs)) 5 (m : Int) = ((refW (st obs j)).val, 0) := by
      rw [bxL_ref h0 hnm, Int.toNat_natCast, List.getD_eq_getElem?_getD, hp, Option.getD_some, box_ref hsm]
    rw [hb]
    have hv : vV 5 (m : Int) = (5, (m : Int)) := Prod.ext v2 (v3 (by decide))
    refine ⟨refW_flat _, ?_, fits_refW hsm (mem_starts.2 ⟨j, (List.getElem?_eq_some_iff.1 hj).1, rfl⟩), v4, fun _ => ⟨m, by rw [hv], hnd⟩⟩
    rw [hv]
    exact .inl ⟨rfl, st obs j, by simpa using hp, rfl⟩
  · rw [bxL_box (.inr h5)]
    refine ⟨boxL_rangeS k n, .inr ⟨by rw [v2]; exact h5, v1⟩, ?_, v4, fun e => absurd (v2.symm.trans e) h5⟩
    unfold fits
    have : decide ((vV k n).1 ≠ 5) = true := by rw [v2]; simpa using h5
    obtain ⟨a, b⟩ := vV k n
    simp only [v1] at this ⊢
    rw [Bool.or_eq_true]
    exact .inl this
/-- a word that is read again -/
theorem wd_read {pl : List Int} {v : Int × Int} {x : U64} (h : wd pl v x) (hsm : ∀ (n p : Nat), pl[n]? = some (p : Int) → p < 4294967296) : (v.1 = 5 ∧ ∃ p : Nat, pl[v.2.toNat]? = some (p : Int) ∧ unbL x.val = some (5, (p : Int))) ∨ (v.1 ≠ 5 ∧ unbL x.val = some v) := by
  rcases h with ⟨h1, p, h2, rfl⟩ | h
  · exact .inl ⟨h1, p, h2, unb_refW (hsm _ _ h2)⟩
  · exact .inr h
end Sto

end Go.Proofs.Ytpkccpegdpodoaa

/- A store that stands for a shelf; Mark, Count, Hold, Drop, Collect and Used, told by the shelf. -/
namespace Go.Proofs.Ytpkccpegdpodoaa
open Go.RowKit Go.Maps

attribute [local go_sem ↓] Go.wp_at_zero Go.wp_at_succ

namespace Sto
open Hau
/-- THE STORE at block p stands for the cells cs -/
def St (w : World) (base : Nat) (F : Nat → Prop) (p : Nat) (cs : List Kp) : Prop := ∃ (obs : List (List U64)) (pl : List Int), So w base F p obs.flatten pl (cs.map Kp.held) ∧ Sr obs pl cs
section
variable {w w' : World} {base p : Nat} {F G : Nat → Prop} {cs : List Kp} {obs : List (List U64)} {pl : List Int}
theorem Sr.sx (h : Sr obs pl cs) (hs : So w base F p obs.flatten pl (cs.map Kp.held)) : Sx w base F p obs.flatten pl (cs.map Kp.held) := by
  refine ⟨hs, by rw [List.length_map, h.len], by have := h.many; have := h.len; omega, fun n x hn hx => ?_, TB.of h.heapOk.2.2.2⟩
  rw [List.getElem?_map] at hn
  cases hc : cs[n]? with
  | none => rw [hc] at hn; cases hn
  | some c =>
    rw [hc] at hn
    injection hn with hn
    obtain ⟨j, o, -, hp, -⟩ := h.need n c (Nd.root hc hn) hc
    rw [hx] at hp
    injection hp with hp
    subst hp
    have := h.psm n _ hx
    omega
theorem St.fresh (h : St w base F p cs) (hb : Below w.heap.size w w') : St w' base F p cs := by obtain ⟨obs, pl, h1, h2⟩ := h; exact ⟨obs, pl, h1.fresh hb, h2⟩
theorem St.touch (h : St w base F p cs) (ht : Touch G w w') (hn : ∀ g, F g → ¬ G g) : St w' base F p cs := by obtain ⟨obs, pl, h1, h2⟩ := h; exact ⟨obs, pl, h1.touch ht hn, h2⟩
theorem St.mono (h : St w base F p cs) (hF : ∀ g, F g → G g) : St w base G p cs := by obtain ⟨obs, pl, h1, h2⟩ := h; exact ⟨obs, pl, h1.mono hF, h2⟩
theorem St.drewN (h : St w base F p cs) (n : Nat) : St (w.drewN n) base F p cs := by obtain ⟨obs, pl, h1, h2⟩ := h; exact ⟨obs, pl, h1.drewN n, h2⟩
theorem St.kok (h : St w base F p cs) : Kok cs := by obtain ⟨obs, pl, -, h⟩ := h; exact ⟨h.many, h.vlen, h.vals, h.mark⟩
end

def markAt (cs : List Kp) (n : Nat) : Int := match cs[n]? with | some c => c.mark | none => 0
def heldAt (cs : List Kp) (n : Nat) : Bool := match cs[n]? with | some c => c.held | none => false
def hldK (cs : List Kp) (n : Nat) (b : Bool) : List Kp := cs.modify n fun c => { c with held := b }
theorem modify_set {α : Type} {l : List α} {n : Nat} {x : α} (f : α → α) (h : l[n]? = some x) : l.modify n f = l.set n (f x) := by
  apply List.ext_getElem?
  intro i
  rw [List.getElem?_modify, List.getElem?_set]
  have hn := (List.getElem?_eq_some_iff.1 h).1
  by_cases e : n = i
  · subst e; rw [if_pos rfl, if_pos hn, h]; simp
  · rw [if_neg e]; simp [e]
theorem sNm_get {cs : List Kp} {n : Int} (h : sNm cs n = 0) : ∃ (k : Nat) (c : Kp), n = (k : Int) ∧ cs[k]? = some c ∧ Nd cs k := by
  obtain ⟨k, h1, h2, h3⟩ := sNm_nd h
  exact ⟨k, _, h1, List.getElem?_eq_getElem h2, h3⟩
/-- what lies at a needed cell's place -/
theorem Sr.head {obs : List (List U64)} {pl : List Int} {cs : List Kp} (h : Sr obs pl cs) {k : Nat} {c : Kp} (hc : cs[k]? = some c) (hn : Nd cs k) :
    ∃ (j : Nat) (a : U64) (b : List U64), obs[j]? = some (a :: b) ∧ pl[k]? = some (st obs j : Int) ∧ wat obs.flatten (st obs j) = a ∧ a.val = c.mark * 4294967296 + (c.vals.length : Int) ∧ lg a = c.vals.length ∧ st obs j < obs.flatten.length ∧ b.length = c.vals.length := by
  obtain ⟨j, o, e1, e2, a, b, rfl, e3, e4, e5⟩ := h.need k c hn hc
  have hcm := List.mem_of_getElem? hc
  have h1 := h.mark c hcm
  have h2 := h.vlen c hcm
  have hw := wat_st e1
  have hs := st_succ e1
  have hle := st_le (l := obs) (j + 1)
  rw [List.length_cons] at hs
  refine ⟨j, a, b, e1, e2, hw, by rw [e3, e4], ?_, by omega, e4⟩
  unfold lg
  rw [e3, e4]
  omega

theorem st_count (w : World) (base p : Nat) (of_ : Int) (F : Nat → Prop) (cs : List Kp) (h : St w base F p cs) :
    Calls Try.prog 76 #[.pointer (some ⟨p, 0, none⟩), .int .i64 of_] w fun e w' => e = .returned (.tuple #[.int .i64 (if sNm cs of_ = 0 then (vlenAt cs of_.toNat : Int) else 0), .int .i64 (sNm cs of_)]) ∧ Below w.heap.size w w' := by
  obtain ⟨obs, pl, hs, hr⟩ := h
  refine (scount_any w base p of_ F obs.flatten pl _ (hr.sx hs)).mono ?_
  rintro e w' ⟨h1, h2⟩
  refine ⟨?_, h2⟩
  rw [h1, show nmE pl (tl obs.flatten pl (cs.map Kp.held)) of_ = sNm cs of_ from hr.named of_]
  by_cases h0 : sNm cs of_ = 0
  · rw [if_pos h0, if_pos h0]
    obtain ⟨k, c, rfl, hc, hn⟩ := sNm_get h0
    obtain ⟨j, a, b, -, e2, e3, -, e4, -⟩ := hr.head hc hn
    rw [Int.toNat_natCast, List.getD_eq_getElem?_getD, e2, Option.getD_some, Int.toNat_natCast, e3, e4]
    unfold vlenAt; rw [hc]
  · rw [if_neg h0, if_neg h0]

/-- what a cell's mark is told as -/
def MarkPost (w : World) (cs : List Kp) (of_ E : Int) (e : Ending) (w' : World) : Prop := e = .returned (.tuple #[.int .i64 (if E = 0 then markAt cs of_.toNat else 0), .int .i64 E]) ∧ Below w.heap.size w w'

set_option maxHeartbeats 800000 in
set_option maxRecDepth 100000 in
theorem st_mark (w : World) (base p : Nat) (of_ : Int) (F : Nat → Prop) (cs : List Kp) (h : St w base F p cs) :
    Calls Try.prog 77 #[.pointer (some ⟨p, 0, none⟩), .int .i64 of_] w (MarkPost w cs of_ (sNm cs of_)) := by
  obtain ⟨obs, pl, hs, hr⟩ := h
  have hx := hr.sx hs
  have hnm := snamed_any w base p of_ F _ _ _ hx
  rw [show nmE pl (tl obs.flatten pl (cs.map Kp.held)) of_ = sNm cs of_ from hr.named of_] at hnm
  obtain ⟨E, hE⟩ : ∃ E, sNm cs of_ = E := ⟨_, rfl⟩
  rw [hE] at hnm
  rw [hE]
  obtain ⟨P, hP⟩ : ∃ P, MarkPost w cs of_ E = P := ⟨_, rfl⟩
  rw [hP]
  have H := Lib.hid (And.intro hs (And.intro hr (And.intro hnm (And.intro hE hP)))); clear hs hr hx hnm hE hP
  go_enter Try.func77, Try.ntmps77
  go_wp2_with fail
  refine H.out.2.2.1.mono ?_
  rintro e w1 ⟨rfl, hb1⟩
  by_cases h0 : E = 0
  · subst h0
    obtain ⟨k, c, rfl, hc, hn⟩ := sNm_get H.out.2.2.2.1
    obtain ⟨j, a, b, -, e2, e3, e4, -, e5, -⟩ := H.out.2.1.head hc hn
    obtain ⟨WA, AA, HA, cw, ac, hcc, hS⟩ := H.out.1.fresh hb1
    obtain ⟨g, rfl, hg1, hg2, q0⟩ := hS.place e2
    obtain ⟨gw, rfl, hgw1, hgw2, hok, q1⟩ := hS.word e5
    rw [e3] at hok q1
    have c0 := hS.blk.cell 0 (v := .slice (some ⟨gw, 0, none⟩) obs.flatten.length cw) rfl
    have c1 := hS.blk.cell 1 (v := .slice (some ⟨g, 0, none⟩) pl.length ac) rfl
    have k1 : (k : Int) < (pl.length : Int) := by have := (List.getElem?_eq_some_iff.1 e2).1; omega
    have k2 : (st obs j : Int) < (obs.flatten.length : Int) := by omega
    have hm := H.out.2.1.mark c (List.mem_of_getElem? hc)
    have hv := H.out.2.1.vlen c (List.mem_of_getElem? hc)
    have hR : a.val / 4294967296 = markAt cs k := by unfold markAt; rw [hc, e4]; simp only; omega
    obtain ⟨R, hRR⟩ : ∃ R, a.val / 4294967296 = R := ⟨_, rfl⟩
    have hR2 : 0 ≤ R ∧ R < 2147483648 := by rw [← hRR, e4]; omega
    have hw : IntKind.i64.wrap R = R := IntWalk.i64_in _ (by omega)
    obtain ⟨sj, hsj⟩ : ∃ x, st obs j = x := ⟨_, rfl⟩
    obtain ⟨nW, hnW⟩ : ∃ x, obs.flatten.length = x := ⟨_, rfl⟩
    rw [hsj] at q0 q1 k2
    rw [hnW] at k2 c0
    rw [hRR] at hR
    have k3 : (k : Int) < (pl.length : Int) := k1
    have HN := Lib.hid (And.intro hR2 hR); clear hS e2 hc hn e3 e4 e5 hsj hR2 hm hv hnW hR
    go_upto_region 4 with fail
    go_quiet (fail)
    go_wp2_with fail
    rw [← H.out.2.2.2.2]
    exact ⟨by rw [if_pos rfl, Int.toNat_natCast, ← HN.out.2]; rfl, below_drewN hb1 _⟩
  · have d0 : (E != 0) = true := by simpa using h0
    have HN := Lib.hid h0; clear h0
    go_wp2_with fail
    rw [← H.out.2.2.2.2]
    exact ⟨by rw [if_neg HN.out]; rfl, hb1⟩
theorem map_held_set {cs : List Kp} {k : Nat} {c : Kp} {b : Bool} (hc : cs[k]? = some c) : (cs.map Kp.held).set k b = (hldK cs k b).map Kp.held := by
  unfold hldK
  rw [modify_set _ hc, List.map_set]
/-- what holding leaves -/
theorem st_hold (w : World) (base p : Nat) (of_ : Int) (F : Nat → Prop) (cs : List Kp) (h : St w base F p cs) :
    Calls Try.prog 70 #[.pointer (some ⟨p, 0, none⟩), .int .i64 of_] w fun e w' => e = .returned (.int .i64 (sNm cs of_)) ∧ St w' base F p (if sNm cs of_ = 0 then hldK cs of_.toNat true else cs) ∧ Touch F w w' := by
  obtain ⟨obs, pl, hs, hr⟩ := h
  refine (shold_any w base p of_ F obs.flatten pl _ (hr.sx hs)).mono ?_
  rintro e w' ⟨h1, h2, h3⟩
  rw [show nmE pl (tl obs.flatten pl (cs.map Kp.held)) of_ = sNm cs of_ from hr.named of_] at h1 h2
  refine ⟨h1, ?_, h3⟩
  by_cases h0 : sNm cs of_ = 0
  · rw [if_pos h0] at h2 ⊢
    obtain ⟨k, c, rfl, hc, hn⟩ := sNm_get h0
    rw [Int.toNat_natCast] at h2 ⊢
    rw [map_held_set hc] at h2
    refine ⟨obs, pl, h2, ?_⟩
    unfold hldK
    rw [modify_set _ hc]
    exact hr.hold hn hc true
  · rw [if_neg h0] at h2 ⊢
    exact ⟨obs, pl, h2, hr⟩
/-- what is wrong with a drop -/
noncomputable def drE (cs : List Kp) (of_ : Int) : Int := if sNm cs of_ ≠ 0 then sNm cs of_ else if heldAt cs of_.toNat = true then 0 else 8
theorem st_drop (w : World) (base p : Nat) (of_ : Int) (F : Nat → Prop) (cs : List Kp) (h : St w base F p cs) :
    Calls Try.prog 72 #[.pointer (some ⟨p, 0, none⟩), .int .i64 of_] w fun e w' => e = .returned (.int .i64 (drE cs of_)) ∧ St w' base F p (if drE cs of_ = 0 then hldK cs of_.toNat false else cs) ∧ Touch F w w' := by
  obtain ⟨obs, pl, hs, hr⟩ := h
  refine (sdrop_any w base p of_ F obs.flatten pl _ (hr.sx hs)).mono ?_
  rintro e w' ⟨h1, h2, h3⟩
  rw [show nmE pl (tl obs.flatten pl (cs.map Kp.held)) of_ = sNm cs of_ from hr.named of_] at h1 h2
  by_cases h0 : sNm cs of_ = 0
  · obtain ⟨k, c, rfl, hc, hn⟩ := sNm_get h0
    have hh : heldAt cs k = c.held := by unfold heldAt; rw [hc]
    have hg : (cs.map Kp.held).getD k false = c.held := by rw [List.getD_eq_getElem?_getD, List.getElem?_map, hc]; rfl
    rw [if_pos h0, Int.toNat_natCast] at h2
    rw [if_neg (by simp [h0]), Int.toNat_natCast, hg] at h1
    have hd : drE cs (k : Int) = if c.held = true then 0 else 8 := by unfold drE; rw [if_neg (by simp [h0]), Int.toNat_natCast, hh]
    rw [hd]
    refine ⟨h1, ?_, h3⟩
    rw [map_held_set hc] at h2
    by_cases hb : c.held = true
    · rw [if_pos (by rw [if_pos hb]), Int.toNat_natCast]
      refine ⟨obs, pl, h2, ?_⟩
      unfold hldK
      rw [modify_set _ hc]
      exact hr.hold hn hc false
    · rw [if_neg (by rw [if_neg hb]; decide)]
      refine ⟨obs, pl, ?_, hr⟩
      have e : hldK cs k false = cs := by
        unfold hldK
        rw [modify_set _ hc]
        have : ({ c with held := false } : Kp) = c := by obtain ⟨a, b, d⟩ := c; simp at hb; subst hb; rfl
        rw [this]; exact set_self hc
      rw [e] at h2; exact h2
  · have hd : drE cs of_ = sNm cs of_ := by unfold drE; rw [if_pos h0]
    rw [if_pos h0] at h1
    rw [if_neg h0] at h2
    rw [hd, if_neg h0]
    exact ⟨h1, ⟨obs, pl, h2, hr⟩, h3⟩
/-- the store, with the words that it uses -/
def StU (w : World) (base : Nat) (F : Nat → Prop) (p : Nat) (cs : List Kp) (u : Nat) : Prop := ∃ (obs : List (List U64)) (pl : List Int), So w base F p obs.flatten pl (cs.map Kp.held) ∧ Sr obs pl cs ∧ obs.flatten.length = u
theorem St.stu {w : World} {base p : Nat} {F : Nat → Prop} {cs : List Kp} (h : St w base F p cs) : ∃ u, StU w base F p cs u := by obtain ⟨obs, pl, h1, h2⟩ := h; exact ⟨_, obs, pl, h1, h2, rfl⟩
theorem StU.st {w : World} {base p u : Nat} {F : Nat → Prop} {cs : List Kp} (h : StU w base F p cs u) : St w base F p cs := by obtain ⟨obs, pl, h1, h2, -⟩ := h; exact ⟨obs, pl, h1, h2⟩
theorem StU.touch {w w' : World} {base p u : Nat} {F G : Nat → Prop} {cs : List Kp} (h : StU w base F p cs u) (ht : Touch G w w') (hn : ∀ g, F g → ¬ G g) : StU w' base F p cs u := by obtain ⟨obs, pl, h1, h2⟩ := h; exact ⟨obs, pl, h1.touch ht hn, h2⟩
theorem StU.mono {w : World} {base p u : Nat} {F G : Nat → Prop} {cs : List Kp} (h : StU w base F p cs u) (hF : ∀ g, F g → G g) : StU w base G p cs u := by obtain ⟨obs, pl, h1, h2⟩ := h; exact ⟨obs, pl, h1.mono hF, h2⟩
theorem StU.fresh {w w' : World} {base p u : Nat} {F : Nat → Prop} {cs : List Kp} (h : StU w base F p cs u) (hb : Below w.heap.size w w') : StU w' base F p cs u := by obtain ⟨obs, pl, h1, h2⟩ := h; exact ⟨obs, pl, h1.fresh hb, h2⟩
theorem Sr.sW_le {obs : List (List U64)} {pl : List Int} {cs : List Kp} (h : Sr obs pl cs) : sW cs cs.length ≤ obs.flatten.length := by
  rw [← h.words]; exact (TB.of h.heapOk.2.2.2).sum
theorem StU.le {w : World} {base p u : Nat} {F : Nat → Prop} {cs : List Kp} (h : StU w base F p cs u) : sW cs cs.length ≤ u ∧ u ≤ 2000 := by
  obtain ⟨obs, pl, -, h2, rfl⟩ := h; exact ⟨h2.sW_le, h2.small⟩
theorem st_used (w : World) (base p u : Nat) (F : Nat → Prop) (cs : List Kp) (h : StU w base F p cs u) :
    Calls Try.prog 73 #[.pointer (some ⟨p, 0, none⟩)] w fun e w' => e = .returned (.int .i64 (u : Int)) ∧ w = w' := by
  obtain ⟨obs, pl, hs, -, rfl⟩ := h
  exact sused_any w base p F _ _ _ hs
theorem tobs_new (ws roots : List U64) : (tobs ws (told ws roots)).flatten = newWords ws roots := tobs_flat _ _
theorem st_collect (w : World) (base p u : Nat) (F : Nat → Prop) (cs : List Kp) (h : StU w base F p cs u) (hF : ∀ g, F g → g < w.heap.size) :
    Calls Try.prog 74 #[.pointer (some ⟨p, 0, none⟩)] w fun e w' => e = .returned (.int .i64 ((u : Int) - (sW cs cs.length : Int))) ∧ StU w' base (Up F w w') p cs (sW cs cs.length) ∧ Touch F w w' := by
  obtain ⟨obs, pl, hs, hr, rfl⟩ := h
  have hx := hr.sx hs
  refine (scollect_any w base p F obs.flatten pl _ hx hF).mono ?_
  rintro e w' ⟨h1, h2, h3⟩
  have hlen : (newWords obs.flatten (rootsFrom pl (cs.map Kp.held))).length = sW cs cs.length := by rw [hx.tb.newLen]; exact hr.words
  rw [hlen] at h1
  rw [← tobs_new] at h2 hlen
  exact ⟨h1, ⟨_, _, h2, hr.collect, hlen⟩, h3⟩
end Sto
end Go.Proofs.Ytpkccpegdpodoaa

/- A region that draws, where three operations are ready at once: all orders. No program is named here. -/
namespace Go.Proofs.Ytpkccpegdpodoaa
open Go.RowKit

section
variable {P : Program} {ops : Array Oper} {Q : Exit → Act → World → Prop} {md : Region.Mode} {S : World → Prop} {fuel : Nat} {listed : Array Bool} {a : Act} {w : World}
theorem held_call3 (i j k : Nat) {oi oj ok : Oper} (hr : Region.ready md ops listed = [i, j, k]) (hi : ops.toList[i]? = some oi) (hj : ops.toList[j]? = some oj) (hk : ops.toList[k]? = some ok)
    (h1 : ∀ K' : Act → World → Prop, Shut (∀ a w, S w → (S w → wpAnyH P md ops Q S fuel (listed.setIfInBounds i true) a w) → K' a w) → if Region.wanted oi (yielded ops a.tmps) = true then Oper.wp P oi a w K' Q else K' (a.put oi.dst undef) w)
    (h2 : ∀ K' : Act → World → Prop, Shut (∀ a w, S w → (S w → wpAnyH P md ops Q S fuel (listed.setIfInBounds j true) a w) → K' a w) → if Region.wanted oj (yielded ops a.tmps) = true then Oper.wp P oj a w K' Q else K' (a.put oj.dst undef) w)
    (h3 : ∀ K' : Act → World → Prop, Shut (∀ a w, S w → (S w → wpAnyH P md ops Q S fuel (listed.setIfInBounds k true) a w) → K' a w) → if Region.wanted ok (yielded ops a.tmps) = true then Oper.wp P ok a w K' Q else K' (a.put ok.dst undef) w) :
    wpAnyH P md ops Q S (fuel + 1) listed a w := wpAnyH_ready hr (by simp) (AllReadyH.cons (oi_of hi) h1 (AllReadyH.cons (oi_of hj) h2 (AllReadyH.cons (oi_of hk) h3 AllReadyH.nil)))
end

end Go.Proofs.Ytpkccpegdpodoaa

/- store.move: a cell goes behind all. -/
namespace Go.Proofs.Ytpkccpegdpodoaa
open Go.RowKit Go.Maps

attribute [local go_sem ↓] Go.wp_at_zero Go.wp_at_succ

/-- words were put behind all, and the store tells of them -/
theorem SoL.app {w w6 : World} {base p c6 : Nat} {F G : Nat → Prop} {ws r : List U64} {pl : List Int} {hd : List Bool} {WA AA HA A6 : Option Addr} {cw ac hc nm : Nat} (h : SoL w base F p ws pl hd WA AA HA cw ac hc) (ho : Own w6 base 24 A6 c6 (ws ++ r)) (hgr : w.grownBy w6 (rowOf WA)) (hnm : (ws ++ r).length = nm)
    (hF : ∀ g, F g → G g) (hG : ∀ g, rowOf A6 = some g → G g) (hr : ∀ x ∈ r, Flat.ok x) : SoL (w6.setCell ⟨p, 0, none⟩ (.slice A6 nm c6)) base G p (ws ++ r) pl hd A6 AA HA c6 ac hc := by
  subst hnm
  have nWp : rowOf WA ≠ some p := own_ne_ty h.words h.blk (by decide)
  have hblk := h.blk.grown hgr nWp
  have hpl : Own w6 base 3 AA ac pl := h.places.block_ (fun g hg => hgr.block g (h.places.lt g hg).2 (fun e => own_own_ty h.places h.words (by decide) g hg e.symm))
  have hhd : Own w6 base 4 HA hc hd := h.helds.block_ (fun g hg => hgr.block g (h.helds.lt g hg).2 (fun e => own_own_ty h.helds h.words (by decide) g hg e.symm))
  refine ⟨hblk.set_ 0 _, ho.setCell _ _ (own_ne_ty ho hblk (by decide)), hpl.setCell _ _ (own_ne_ty hpl hblk (by decide)), hhd.setCell _ _ (own_ne_ty hhd hblk (by decide)), ⟨hF p h.foot.1, h.foot.2⟩, hG, fun g hg => hF g (h.footA g hg), fun g hg => hF g (h.footH g hg), fun x hx => ?_, h.okA⟩
  rcases List.mem_append.1 hx with hx | hx
  · exact h.okW x hx
  · exact hr x hx

set_option maxHeartbeats 6400000 in
set_option maxRecDepth 100000 in
theorem smove_any (w : World) (base p k fr m : Nat) (F : Nat → Prop) (obs : List (List U64)) (o : List U64) (j : Nat) (pl : List Int) (hd : List Bool) (WA AA HA : Option Addr) (cw ac hc : Nat) (h : SoL w base F p obs.flatten pl hd WA AA HA cw ac hc)
    (hg : ∀ o ∈ obs, Sto.Good o) (ho : obs[j]? = some o) (hm : o.length = m) (hfr : Sto.st obs j = fr) (hk : pl[k]? = some (fr : Int)) (hsm : obs.flatten.length + m ≤ 2000) (hpm : pl.length ≤ 1000) (hpx : ∀ x ∈ pl, x ≤ 2000) (hrx : ∀ o ∈ obs, ∀ x ∈ o.tail, ∀ q, Hau.refOf x = some q → q ≤ 2000) (hF : ∀ g, F g → g < w.heap.size) :
    Calls Try.prog 184 #[.pointer (some ⟨p, 0, none⟩), .int .i64 k] w fun e w' => e = .returned (.tuple #[]) ∧ So w' base (Up F w w') p ((obs ++ [o]).map (Sto.turnO (mvF fr obs.flatten.length))).flatten (pl.map (Sto.turnP (mvF fr obs.flatten.length))) hd ∧ Touch F w w' := by
  obtain ⟨ga, rfl, hga1, hga2, q0⟩ := h.place hk
  have c0 := h.blk.cell 0 (v := .slice WA obs.flatten.length cw) rfl
  have c1 := h.blk.cell 1 (v := .slice (some ⟨ga, 0, none⟩) pl.length ac) rfl
  obtain ⟨n, hn⟩ : ∃ n, obs.flatten.length = n := ⟨_, rfl⟩
  rw [hn] at c0 hsm ⊢
  have k1 : (k : Int) < (pl.length : Int) := by have := (List.getElem?_eq_some_iff.1 hk).1; omega
  have hlt := h.blk.lt
  have H := Lib.hid (And.intro h (And.intro hg (And.intro ho (And.intro hm (And.intro hfr (And.intro hk (And.intro hpx (And.intro hrx (And.intro hF hn)))))))));  clear h hg ho hm hfr hk hpx hrx hF hn
  go_enter Try.func184, Try.ntmps184
  go_upto_region 0 with fail
  go_cut [4, 5] from 6 to 18 (fun v4 v5 W2 => ∃ a b : Nat, v4 = .pointer (some ⟨a, 0, none⟩) ∧ v5 = .pointer (some ⟨b, 0, none⟩) ∧ Hid (Blk W2 a 3 #[.int .i64 (fr : Int)] ∧ Blk W2 b 3 #[.int .i64 (n : Int)] ∧ w.heap.size ≤ a ∧ w.heap.size ≤ b) ∧ Below w.heap.size w W2)
  case first =>
    have BX : Below w.heap.size w w.drew := (Below.refl _ _).drew
    refine wp_region_held_drew (S := (fun w' => w'.cell? ⟨p, 0, none⟩ = some (.slice WA n cw) ∧ w'.cell? ⟨p, 1, none⟩ = some (.slice (some ⟨ga, 0, none⟩) pl.length ac) ∧ w'.cell? ⟨ga, k, none⟩ = some (.int .i64 (fr : Int)))) (by kernel_rfl) ?_ (fun hHeld0 => ?_)
    · first | trivial | ((try dsimp only); (first | exact ⟨c0, c1, q0⟩ | exact ⟨((BX.alloc BX.size _).cell (p := ⟨p, 0, none⟩) hlt).trans c0, ((BX.alloc BX.size _).cell (p := ⟨p, 1, none⟩) hlt).trans c1, ((BX.alloc BX.size _).cell (p := ⟨ga, k, none⟩) hga2).trans q0⟩ | exact ⟨(((BX.alloc BX.size _).alloc (BX.alloc BX.size _).size _).cell (p := ⟨p, 0, none⟩) hlt).trans c0, (((BX.alloc BX.size _).alloc (BX.alloc BX.size _).size _).cell (p := ⟨p, 1, none⟩) hlt).trans c1, (((BX.alloc BX.size _).alloc (BX.alloc BX.size _).size _).cell (p := ⟨ga, k, none⟩) hga2).trans q0⟩))
    refine held_take (v := ?_) 0 rfl (by kernel_rfl) (by kernel_rfl) (by kernel_rfl) (fun _ _ _ h => h) (by rfl) ?_ (by assumption) ?_
    rotate_left
    · (intro w hSw; (try dsimp only at hSw); go_simp; try with_reducible rfl)
    try simp only [Act.put, List.setIfInBounds_toArray, List.set_cons_zero, List.set_cons_succ]
    refine held_take (v := ?_) 1 rfl (by kernel_rfl) (by kernel_rfl) (by kernel_rfl) (fun _ _ _ h => h) (by rfl) ?_ (by assumption) ?_
    rotate_left
    · (intro w hSw; (try dsimp only at hSw); go_simp; try with_reducible rfl)
    try simp only [Act.put, List.setIfInBounds_toArray, List.set_cons_zero, List.set_cons_succ]
    refine held_take (v := ?_) 2 rfl (by kernel_rfl) (by kernel_rfl) (by kernel_rfl) (fun _ _ _ h => h) (by rfl) ?_ (by assumption) ?_
    rotate_left
    · (intro w hSw; (try dsimp only at hSw); go_simp; try with_reducible rfl)
    try simp only [Act.put, List.setIfInBounds_toArray, List.set_cons_zero, List.set_cons_succ]
    refine held_take (v := ?_) 3 rfl (by kernel_rfl) (by kernel_rfl) (by kernel_rfl) (fun _ _ _ h => h) (by rfl) ?_ (by assumption) ?_
    rotate_left
    · (intro w hSw; (try dsimp only at hSw); go_simp; try with_reducible rfl)
    try simp only [Act.put, List.setIfInBounds_toArray, List.set_cons_zero, List.set_cons_succ]
    refine held_take (v := ?_) 4 rfl (by kernel_rfl) (by kernel_rfl) (by kernel_rfl) (fun _ _ _ h => h) (by rfl) ?_ (by assumption) ?_
    rotate_left
    · (intro w hSw; (try dsimp only at hSw); go_simp; try with_reducible rfl)
    try simp only [Act.put, List.setIfInBounds_toArray, List.set_cons_zero, List.set_cons_succ]
    refine held_take (v := ?_) 5 rfl (by kernel_rfl) (by kernel_rfl) (by kernel_rfl) (fun _ _ _ h => h) (by rfl) ?_ (by assumption) ?_
    rotate_left
    · (intro w hSw; (try dsimp only at hSw); go_simp; try with_reducible rfl)
    try simp only [Act.put, List.setIfInBounds_toArray, List.set_cons_zero, List.set_cons_succ]
    refine held_take (v := ?_) 6 rfl (by kernel_rfl) (by kernel_rfl) (by kernel_rfl) (fun _ _ _ h => h) (by rfl) ?_ (by assumption) ?_
    rotate_left
    · (intro w hSw; (try dsimp only at hSw); go_simp; try with_reducible rfl)
    try simp only [Act.put, List.setIfInBounds_toArray, List.set_cons_zero, List.set_cons_succ]
    refine held_take (v := ?_) 7 rfl (by kernel_rfl) (by kernel_rfl) (by kernel_rfl) (fun _ _ _ h => h) (by rfl) ?_ (by assumption) ?_
    rotate_left
    · (intro w hSw; (try dsimp only at hSw); go_simp; try with_reducible rfl)
    try simp only [Act.put, List.setIfInBounds_toArray, List.set_cons_zero, List.set_cons_succ]
    refine held_take (v := ?_) 8 rfl (by kernel_rfl) (by kernel_rfl) (by kernel_rfl) (fun _ _ _ h => h) (by rfl) ?_ (by assumption) ?_
    rotate_left
    · (intro w hSw; (try dsimp only at hSw); go_simp; try with_reducible rfl)
    try simp only [Act.put, List.setIfInBounds_toArray, List.set_cons_zero, List.set_cons_succ]
    refine held_take (v := ?_) 9 rfl (by kernel_rfl) (by kernel_rfl) (by kernel_rfl) (fun _ _ _ h => h) (by rfl) ?_ (by assumption) ?_
    rotate_left
    · (intro w hSw; (try dsimp only at hSw); go_simp; try with_reducible rfl)
    try simp only [Act.put, List.setIfInBounds_toArray, List.set_cons_zero, List.set_cons_succ]
    refine held_take (v := ?_) 10 rfl (by kernel_rfl) (by kernel_rfl) (by kernel_rfl) (fun _ _ _ h => h) (by rfl) ?_ (by assumption) ?_
    rotate_left
    · (intro w hSw; (try dsimp only at hSw); go_simp; try with_reducible rfl)
    try simp only [Act.put, List.setIfInBounds_toArray, List.set_cons_zero, List.set_cons_succ]
    refine held_take (v := ?_) 11 rfl (by kernel_rfl) (by kernel_rfl) (by kernel_rfl) (fun _ _ _ h => h) (by rfl) ?_ (by assumption) ?_
    rotate_left
    · (intro w hSw; (try dsimp only at hSw); go_simp; try with_reducible rfl)
    try simp only [Act.put, List.setIfInBounds_toArray, List.set_cons_zero, List.set_cons_succ]
    refine held_call2 12 13 (by kernel_rfl) rfl rfl (fun K hK => ?_) (fun K hK => ?_)
    · go_simp
      refine hK.out _ _ ?_ (fun hHeld1 => ?_)
      · first | trivial | ((try dsimp only); (first | exact ⟨c0, c1, q0⟩ | exact ⟨((BX.alloc BX.size _).cell (p := ⟨p, 0, none⟩) hlt).trans c0, ((BX.alloc BX.size _).cell (p := ⟨p, 1, none⟩) hlt).trans c1, ((BX.alloc BX.size _).cell (p := ⟨ga, k, none⟩) hga2).trans q0⟩ | exact ⟨(((BX.alloc BX.size _).alloc (BX.alloc BX.size _).size _).cell (p := ⟨p, 0, none⟩) hlt).trans c0, (((BX.alloc BX.size _).alloc (BX.alloc BX.size _).size _).cell (p := ⟨p, 1, none⟩) hlt).trans c1, (((BX.alloc BX.size _).alloc (BX.alloc BX.size _).size _).cell (p := ⟨ga, k, none⟩) hga2).trans q0⟩))
      clear hK K hHeld0
      try simp only [Act.put, List.setIfInBounds_toArray, List.set_cons_zero, List.set_cons_succ]
      refine held_call 13 (by kernel_rfl) rfl (fun K hK => ?_)
      go_simp
      refine hK.out _ _ ?_ (fun hHeld2 => ?_)
      · first | trivial | ((try dsimp only); (first | exact ⟨c0, c1, q0⟩ | exact ⟨((BX.alloc BX.size _).cell (p := ⟨p, 0, none⟩) hlt).trans c0, ((BX.alloc BX.size _).cell (p := ⟨p, 1, none⟩) hlt).trans c1, ((BX.alloc BX.size _).cell (p := ⟨ga, k, none⟩) hga2).trans q0⟩ | exact ⟨(((BX.alloc BX.size _).alloc (BX.alloc BX.size _).size _).cell (p := ⟨p, 0, none⟩) hlt).trans c0, (((BX.alloc BX.size _).alloc (BX.alloc BX.size _).size _).cell (p := ⟨p, 1, none⟩) hlt).trans c1, (((BX.alloc BX.size _).alloc (BX.alloc BX.size _).size _).cell (p := ⟨ga, k, none⟩) hga2).trans q0⟩))
      clear hK K hHeld1
      try simp only [Act.put, List.setIfInBounds_toArray, List.set_cons_zero, List.set_cons_succ]
      refine held_call 14 (by kernel_rfl) rfl (fun K hK => ?_)
      go_simp
      refine hK.out _ _ ?_ (fun hHeld3 => ?_)
      · first | trivial | ((try dsimp only); (first | exact ⟨c0, c1, q0⟩ | exact ⟨((BX.alloc BX.size _).cell (p := ⟨p, 0, none⟩) hlt).trans c0, ((BX.alloc BX.size _).cell (p := ⟨p, 1, none⟩) hlt).trans c1, ((BX.alloc BX.size _).cell (p := ⟨ga, k, none⟩) hga2).trans q0⟩ | exact ⟨(((BX.alloc BX.size _).alloc (BX.alloc BX.size _).size _).cell (p := ⟨p, 0, none⟩) hlt).trans c0, (((BX.alloc BX.size _).alloc (BX.alloc BX.size _).size _).cell (p := ⟨p, 1, none⟩) hlt).trans c1, (((BX.alloc BX.size _).alloc (BX.alloc BX.size _).size _).cell (p := ⟨ga, k, none⟩) hga2).trans q0⟩))
      clear hK K hHeld2
      try simp only [Act.put, List.setIfInBounds_toArray, List.set_cons_zero, List.set_cons_succ]
      refine held_call 15 (by kernel_rfl) rfl (fun K hK => ?_)
      go_simp
      refine hK.out _ _ ?_ (fun hHeld4 => ?_)
      · first | trivial | ((try dsimp only); (first | exact ⟨c0, c1, q0⟩ | exact ⟨((BX.alloc BX.size _).cell (p := ⟨p, 0, none⟩) hlt).trans c0, ((BX.alloc BX.size _).cell (p := ⟨p, 1, none⟩) hlt).trans c1, ((BX.alloc BX.size _).cell (p := ⟨ga, k, none⟩) hga2).trans q0⟩ | exact ⟨(((BX.alloc BX.size _).alloc (BX.alloc BX.size _).size _).cell (p := ⟨p, 0, none⟩) hlt).trans c0, (((BX.alloc BX.size _).alloc (BX.alloc BX.size _).size _).cell (p := ⟨p, 1, none⟩) hlt).trans c1, (((BX.alloc BX.size _).alloc (BX.alloc BX.size _).size _).cell (p := ⟨ga, k, none⟩) hga2).trans q0⟩))
      clear hK K hHeld3
      try simp only [Act.put, List.setIfInBounds_toArray, List.set_cons_zero, List.set_cons_succ]
      refine wpAnyH_done (by kernel_rfl) ?_ _
      go_wp2_with fail
      go_meet
      first | exact ⟨_, _, rfl, rfl, by unfold Hid; exact ⟨(Blk.at_ _ _ _ (by simp)).alloc _, Blk.at_ _ _ _ (by simp), by simp, by simp⟩, (BX.alloc BX.size _).alloc (BX.alloc BX.size _).size _⟩ | exact ⟨_, _, rfl, rfl, by unfold Hid; exact ⟨Blk.at_ _ _ _ (by simp), (Blk.at_ _ _ _ (by simp)).alloc _, by simp, by simp⟩, (BX.alloc BX.size _).alloc (BX.alloc BX.size _).size _⟩
    · go_simp
      refine hK.out _ _ ?_ (fun hHeld1 => ?_)
      · first | trivial | ((try dsimp only); (first | exact ⟨c0, c1, q0⟩ | exact ⟨((BX.alloc BX.size _).cell (p := ⟨p, 0, none⟩) hlt).trans c0, ((BX.alloc BX.size _).cell (p := ⟨p, 1, none⟩) hlt).trans c1, ((BX.alloc BX.size _).cell (p := ⟨ga, k, none⟩) hga2).trans q0⟩ | exact ⟨(((BX.alloc BX.size _).alloc (BX.alloc BX.size _).size _).cell (p := ⟨p, 0, none⟩) hlt).trans c0, (((BX.alloc BX.size _).alloc (BX.alloc BX.size _).size _).cell (p := ⟨p, 1, none⟩) hlt).trans c1, (((BX.alloc BX.size _).alloc (BX.alloc BX.size _).size _).cell (p := ⟨ga, k, none⟩) hga2).trans q0⟩))
      clear hK K hHeld0
      try simp only [Act.put, List.setIfInBounds_toArray, List.set_cons_zero, List.set_cons_succ]
      refine held_call 12 (by kernel_rfl) rfl (fun K hK => ?_)
      go_simp
      refine hK.out _ _ ?_ (fun hHeld2 => ?_)
      · first | trivial | ((try dsimp only); (first | exact ⟨c0, c1, q0⟩ | exact ⟨((BX.alloc BX.size _).cell (p := ⟨p, 0, none⟩) hlt).trans c0, ((BX.alloc BX.size _).cell (p := ⟨p, 1, none⟩) hlt).trans c1, ((BX.alloc BX.size _).cell (p := ⟨ga, k, none⟩) hga2).trans q0⟩ | exact ⟨(((BX.alloc BX.size _).alloc (BX.alloc BX.size _).size _).cell (p := ⟨p, 0, none⟩) hlt).trans c0, (((BX.alloc BX.size _).alloc (BX.alloc BX.size _).size _).cell (p := ⟨p, 1, none⟩) hlt).trans c1, (((BX.alloc BX.size _).alloc (BX.alloc BX.size _).size _).cell (p := ⟨ga, k, none⟩) hga2).trans q0⟩))
      clear hK K hHeld1
      try simp only [Act.put, List.setIfInBounds_toArray, List.set_cons_zero, List.set_cons_succ]
      refine held_call 14 (by kernel_rfl) rfl (fun K hK => ?_)
      go_simp
      refine hK.out _ _ ?_ (fun hHeld3 => ?_)
      · first | trivial | ((try dsimp only); (first | exact ⟨c0, c1, q0⟩ | exact ⟨((BX.alloc BX.size _).cell (p := ⟨p, 0, none⟩) hlt).trans c0, ((BX.alloc BX.size _).cell (p := ⟨p, 1, none⟩) hlt).trans c1, ((BX.alloc BX.size _).cell (p := ⟨ga, k, none⟩) hga2).trans q0⟩ | exact ⟨(((BX.alloc BX.size _).alloc (BX.alloc BX.size _).size _).cell (p := ⟨p, 0, none⟩) hlt).trans c0, (((BX.alloc BX.size _).alloc (BX.alloc BX.size _).size _).cell (p := ⟨p, 1, none⟩) hlt).trans c1, (((BX.alloc BX.size _).alloc (BX.alloc BX.size _).size _).cell (p := ⟨ga, k, none⟩) hga2).trans q0⟩))
      clear hK K hHeld2
      try simp only [Act.put, List.setIfInBounds_toArray, List.set_cons_zero, List.set_cons_succ]
      refine held_call 15 (by kernel_rfl) rfl (fun K hK => ?_)
      go_simp
      refine hK.out _ _ ?_ (fun hHeld4 => ?_)
      · first | trivial | ((try dsimp only); (first | exact ⟨c0, c1, q0⟩ | exact ⟨((BX.alloc BX.size _).cell (p := ⟨p, 0, none⟩) hlt).trans c0, ((BX.alloc BX.size _).cell (p := ⟨p, 1, none⟩) hlt).trans c1, ((BX.alloc BX.size _).cell (p := ⟨ga, k, none⟩) hga2).trans q0⟩ | exact ⟨(((BX.alloc BX.size _).alloc (BX.alloc BX.size _).size _).cell (p := ⟨p, 0, none⟩) hlt).trans c0, (((BX.alloc BX.size _).alloc (BX.alloc BX.size _).size _).cell (p := ⟨p, 1, none⟩) hlt).trans c1, (((BX.alloc BX.size _).alloc (BX.alloc BX.size _).size _).cell (p := ⟨ga, k, none⟩) hga2).trans q0⟩))
      clear hK K hHeld3
      try simp only [Act.put, List.setIfInBounds_toArray, List.set_cons_zero, List.set_cons_succ]
      refine wpAnyH_done (by kernel_rfl) ?_ _
      go_wp2_with fail
      go_meet
      first | exact ⟨_, _, rfl, rfl, by unfold Hid; exact ⟨(Blk.at_ _ _ _ (by simp)).alloc _, Blk.at_ _ _ _ (by simp), by simp, by simp⟩, (BX.alloc BX.size _).alloc (BX.alloc BX.size _).size _⟩ | exact ⟨_, _, rfl, rfl, by unfold Hid; exact ⟨Blk.at_ _ _ _ (by simp), (Blk.at_ _ _ _ (by simp)).alloc _, by simp, by simp⟩, (BX.alloc BX.size _).alloc (BX.alloc BX.size _).size _⟩
  case rest =>
    obtain ⟨a, b, rfl, rfl, hab, hbc⟩ := hcut
    obtain ⟨wq, rfl⟩ : ∃ x : World, x = wc := ⟨_, rfl⟩
    have hsc := hbc.size
    clear c0 c1 q0
    obtain ⟨hA, hB, hga', hgb⟩ := hab.out
    have hS := H.out.1.fresh hbc
    have hok := H.out.2.1 o (List.mem_of_getElem? H.out.2.2.1)
    obtain ⟨hw, bd, he, hlg⟩ := hok
    have hwt : Hau.wat obs.flatten fr = hw := by rw [← H.out.2.2.2.2.1]; exact Sto.wat_st (by rw [H.out.2.2.1, he])
    have hml : Hau.lg (Hau.wat obs.flatten fr) + 1 = m := by rw [hwt, hlg, ← H.out.2.2.2.1, he, List.length_cons]
    have hsu := Sto.st_succ H.out.2.2.1
    have hle := Sto.st_le (l := obs) (j + 1)
    rw [H.out.2.2.2.1, H.out.2.2.2.2.1] at hsu
    have hnn := H.out.2.2.2.2.2.2.2.2.2
    obtain ⟨lg, hlgE⟩ : ∃ x, Hau.lg (Hau.wat obs.flatten fr) = x := ⟨_, rfl⟩
    have hlong := fun V (hV : So V base F p obs.flatten pl hd) => slong_any V base p fr F obs.flatten pl hd hV (by omega) (by omega)
    rw [hlgE] at hlong hml
    have hdrop := Sto.drop_st H.out.2.2.1
    rw [H.out.2.2.2.2.1] at hdrop
    obtain ⟨gw, rfl, hgw1, hgw2⟩ := hS.words.some_ (by omega)
    have hcw := hS.words.le_cap.1
    have hgw0 : gw < w.heap.size := (H.out.1.words.lt gw rfl).2
    have hsrc : At wq wq.heap.size (some ⟨gw, fr, none⟩) o := by
      have := at_takeH (hS.atW.drop_ fr) m
      rw [show fr * Enc.sz U64 = fr from Nat.mul_one fr, hdrop, List.take_left' H.out.2.2.2.1, Nat.zero_add] at this
      exact this
    have hoF : ∀ x ∈ o, Flat.ok x := fun x hx => hS.okW x (List.mem_flatten.2 ⟨o, List.mem_of_getElem? H.out.2.2.1, hx⟩)
    have c0 := hS.blk.cell 0 (v := .slice (some ⟨gw, 0, none⟩) obs.flatten.length cw) rfl
    have z0 := hS.blk.frozen 0
    rw [hnn] at c0
    have A0 := hA.cell 0 (v := .int .i64 (fr : Int)) rfl
    have hw1 : IntKind.i64.wrap ((fr : Int) + 1) = (fr : Int) + 1 := IntWalk.i64_in _ (by omega)
    obtain ⟨r, hr⟩ : ∃ r, fr + 1 + lg = r := ⟨_, rfl⟩
    have hw2 : IntKind.i64.wrap ((fr : Int) + 1 + (lg : Int)) = (r : Int) := by rw [IntWalk.i64_in _ (by omega)]; omega
    have hr1 : (r : Int) ≤ (cw : Int) := by omega
    have hr2 : fr ≤ r := by omega
    have hr3 : r - fr = m := by omega
    have hr4 : ¬ cw = fr := by omega
    obtain ⟨j0, hj, hy0, hy1, hy2⟩ := info_partsH infoU64H
    have hga0 : ga < w.heap.size := (H.out.1.places.lt ga rfl).2
    have HS := Lib.hid (And.intro hS (And.intro hA (And.intro hB (And.intro hsrc (And.intro hoF (And.intro (hlong wq.drew (hS.fresh (Below.refl _ _).drew).so) hnn)))))); clear hS hA hB hsrc hoF hlong hab hdrop he hlg hwt hlgE hsu hnn hle
    go_upto_region 1 with fail
    go_cut [] from 18 to 38 (fun W2 => ∃ (A6 : Option Addr) (c6 : Nat), Hid (SoL W2 base (Up F w W2) p (obs.flatten ++ o) pl hd A6 (some ⟨ga, 0, none⟩) HA c6 ac hc ∧ Blk W2 a 3 #[.int .i64 (fr : Int)] ∧ Blk W2 b 3 #[.int .i64 (n : Int)]) ∧ Touch F w W2)
    case first =>
      refine wp_region_held_drew (S := (fun w' => w'.cell? ⟨a, 0, none⟩ = some (.int .i64 (fr : Int)))) (by kernel_rfl) ?_ (fun hHeld0 => ?_)
      · first | trivial | ((try dsimp only); (first | exact A0 | exact A6c | exact A7c))
      refine held_take (v := ?_) 0 rfl (by kernel_rfl) (by kernel_rfl) (by kernel_rfl) (fun _ _ _ h => h) (by rfl) ?_ (by assumption) ?_
      rotate_left
      · (intro w hSw; (try dsimp only at hSw); go_simp; try with_reducible rfl)
      try simp only [Act.put, List.setIfInBounds_toArray, List.set_cons_zero, List.set_cons_succ]
      refine held_take (v := ?_) 1 rfl (by kernel_rfl) (by kernel_rfl) (by kernel_rfl) (fun _ _ _ h => h) (by rfl) ?_ (by assumption) ?_
      rotate_left
      · (intro w hSw; (try dsimp only at hSw); go_simp; try with_reducible rfl)
      try simp only [Act.put, List.setIfInBounds_toArray, List.set_cons_zero, List.set_cons_succ]
      refine held_take (v := ?_) 2 rfl (by kernel_rfl) (by kernel_rfl) (by kernel_rfl) (fun _ _ _ h => h) (by rfl) ?_ (by assumption) ?_
      rotate_left
      · (intro w hSw; (try dsimp only at hSw); go_simp; try with_reducible rfl)
      try simp only [Act.put, List.setIfInBounds_toArray, List.set_cons_zero, List.set_cons_succ]
      refine held_take (v := ?_) 3 rfl (by kernel_rfl) (by kernel_rfl) (by kernel_rfl) (fun _ _ _ h => h) (by rfl) ?_ (by assumption) ?_
      rotate_left
      · (intro w hSw; (try dsimp only at hSw); go_simp; try with_reducible rfl)
      try simp only [Act.put, List.setIfInBounds_toArray, List.set_cons_zero, List.set_cons_succ]
      refine held_take (v := ?_) 5 rfl (by kernel_rfl) (by kernel_rfl) (by kernel_rfl) (fun _ _ _ h => h) (by rfl) ?_ (by assumption) ?_
      rotate_left
      · (intro w hSw; (try dsimp only at hSw); go_simp; try with_reducible rfl)
      try simp only [Act.put, List.setIfInBounds_toArray, List.set_cons_zero, List.set_cons_succ]
      refine held_take (v := ?_) 6 rfl (by kernel_rfl) (by kernel_rfl) (by kernel_rfl) (fun _ _ _ h => h) (by rfl) ?_ (by assumption) ?_
      rotate_left
      · (intro w hSw; (try dsimp only at hSw); go_simp; try with_reducible rfl)
      try simp only [Act.put, List.setIfInBounds_toArray, List.set_cons_zero, List.set_cons_succ]
      refine held_take (v := ?_) 7 rfl (by kernel_rfl) (by kernel_rfl) (by kernel_rfl) (fun _ _ _ h => h) (by rfl) ?_ (by assumption) ?_
      rotate_left
      · (intro w hSw; (try dsimp only at hSw); go_simp; try with_reducible rfl)
      try simp only [Act.put, List.setIfInBounds_toArray, List.set_cons_zero, List.set_cons_succ]
      refine held_take (v := ?_) 9 rfl (by kernel_rfl) (by kernel_rfl) (by kernel_rfl) (fun _ _ _ h => h) (by rfl) ?_ (by assumption) ?_
      rotate_left
      · (intro w hSw; (try dsimp only at hSw); go_simp; try with_reducible rfl)
      try simp only [Act.put, List.setIfInBounds_toArray, List.set_cons_zero, List.set_cons_succ]
      refine held_take (v := ?_) 10 rfl (by kernel_rfl) (by kernel_rfl) (by kernel_rfl) (fun _ _ _ h => h) (by rfl) ?_ (by assumption) ?_
      rotate_left
      · (intro w hSw; (try dsimp only at hSw); go_simp; try with_reducible rfl)
      try simp only [Act.put, List.setIfInBounds_toArray, List.set_cons_zero, List.set_cons_succ]
      refine held_take (v := ?_) 11 rfl (by kernel_rfl) (by kernel_rfl) (by kernel_rfl) (fun _ _ _ h => h) (by rfl) ?_ (by assumption) ?_
      rotate_left
      · (intro w hSw; (try dsimp only at hSw); go_simp; try with_reducible rfl)
      try simp only [Act.put, List.setIfInBounds_toArray, List.set_cons_zero, List.set_cons_succ]
      refine held_take (v := ?_) 12 rfl (by kernel_rfl) (by kernel_rfl) (by kernel_rfl) (fun _ _ _ h => h) (by rfl) ?_ (by assumption) ?_
      rotate_left
      · (intro w hSw; (try dsimp only at hSw); go_simp; try with_reducible rfl)
      try simp only [Act.put, List.setIfInBounds_toArray, List.set_cons_zero, List.set_cons_succ]
      refine held_take (v := ?_) 13 rfl (by kernel_rfl) (by kernel_rfl) (by kernel_rfl) (fun _ _ _ h => h) (by rfl) ?_ (by assumption) ?_
      rotate_left
      · (intro w hSw; (try dsimp only at hSw); go_simp; try with_reducible rfl)
      try simp only [Act.put, List.setIfInBounds_toArray, List.set_cons_zero, List.set_cons_succ]
      refine held_call3 4 8 14 (by kernel_rfl) rfl rfl rfl (fun K hK => ?_) (fun K hK => ?_) (fun K hK => ?_)
      · go_simp
        refine hK.out _ _ ?_ (fun hHeld1 => ?_)
        · first | trivial | ((try dsimp only); (first | exact A0 | exact A6c | exact A7c))
        clear hK K hHeld0
        try simp only [Act.put, List.setIfInBounds_toArray, List.set_cons_zero, List.set_cons_succ]
        refine held_call2 8 14 (by kernel_rfl) rfl rfl (fun K hK => ?_) (fun K hK => ?_)
        · go_simp
          refine hK.out _ _ ?_ (fun hHeld2 => ?_)
          · first | trivial | ((try dsimp only); (first | exact A0 | exact A6c | exact A7c))
          clear hK K hHeld1
          try simp only [Act.put, List.setIfInBounds_toArray, List.set_cons_zero, List.set_cons_succ]
          refine held_call 14 (by kernel_rfl) rfl (fun K hK => ?_)
          go_simp
          go_at_call 142; refine HS.out.2.2.2.2.2.1.mono ?_; rintro e w5 ⟨rfl, rfl⟩
          try (go_wp2_with fail)
          refine hK.out _ _ ?_ (fun hHeld3 => ?_)
          · first | trivial | ((try dsimp only); (first | exact A0 | exact A6c | exact A7c))
          clear hK K hHeld2
          try simp only [Act.put, List.setIfInBounds_toArray, List.set_cons_zero, List.set_cons_succ]
          refine held_take (v := ?_) 15 rfl (by kernel_rfl) (by kernel_rfl) (by kernel_rfl) (fun _ _ _ h => h) (by rfl) ?_ (by assumption) ?_
          rotate_left
          · (intro w hSw; (try dsimp only at hSw); go_simp; try with_reducible rfl)
          try simp only [Act.put, List.setIfInBounds_toArray, List.set_cons_zero, List.set_cons_succ]
          refine held_take (v := ?_) 16 rfl (by kernel_rfl) (by kernel_rfl) (by kernel_rfl) (fun _ _ _ h => h) (by rfl) ?_ (by assumption) ?_
          rotate_left
          · (intro w hSw; (try dsimp only at hSw); go_simp; try with_reducible rfl)
          try simp only [Act.put, List.setIfInBounds_toArray, List.set_cons_zero, List.set_cons_succ]
          refine held_call 17 (by kernel_rfl) rfl (fun K hK => ?_)
          refine step_app (α := U64) (n := n) (m := m) (nm := n + m) (r := o) (by rfl) (.tmp 22) (.tmp 34) _ (by rfl) base 24 j0 _ 8 Try.underlying39 hj hy0 hy1 hy2 rfl (by decide) u64_oneH (by rfl) HS.out.2.2.2.2.2.2 HS.out.1.words.drew (B := wq.heap.size) (X := some ⟨gw, fr, none⟩) (d := cw - fr) (by rfl) HS.out.2.2.2.1.drew H.out.2.2.2.1 rfl (by omega) (by simp only [maxLen]; omega) (by show base ≤ wq.heap.size; omega) ?_; intro A6 c6 w6 ho6 hgr6 hat6; have hA6 := HS.out.2.1.drew.grown hgr6 (fun e => by have e2 : gw = a := Option.some.inj e; omega); have hp6 := HS.out.1.blk.drew.grown hgr6 (own_ne_ty HS.out.1.words HS.out.1.blk (by decide)); have A6c := hA6.cell 0 (v := .int .i64 (fr : Int)) rfl; have p60 := hp6.cell 0 (v := .slice (some ⟨gw, 0, none⟩) obs.flatten.length cw) rfl; have z60 := hp6.frozen 0; have A7c := (hA6.far (p := ⟨p, 0, none⟩) (show a ≠ p by omega) (.slice A6 (n + m) c6)).cell 0 (v := .int .i64 (fr : Int)) rfl
          refine hK.out _ _ ?_ (fun hHeld4 => ?_)
          · first | trivial | ((try dsimp only); (first | exact A0 | exact A6c | exact A7c))
          clear hK K hHeld3
          try simp only [Act.put, List.setIfInBounds_toArray, List.set_cons_zero, List.set_cons_succ]
          refine held_take (v := ?_) 18 rfl (by kernel_rfl) (by kernel_rfl) (by kernel_rfl) (fun _ _ _ h => h) (by rfl) ?_ (by assumption) ?_
          rotate_left
          · (intro w hSw; (try dsimp only at hSw); go_simp; try with_reducible rfl)
          try simp only [Act.put, List.setIfInBounds_toArray, List.set_cons_zero, List.set_cons_succ]
          refine held_take (v := ?_) 19 rfl (by kernel_rfl) (by kernel_rfl) (by kernel_rfl) (fun _ _ _ h => h) (by rfl) ?_ (by assumption) ?_
          rotate_left
          · (intro w hSw; (try dsimp only at hSw); go_simp; try with_reducible rfl)
          try simp only [Act.put, List.setIfInBounds_toArray, List.set_cons_zero, List.set_cons_succ]
          refine held_call 20 (by kernel_rfl) rfl (fun K hK => ?_)
          go_simp
          refine hK.out _ _ ?_ (fun hHeld5 => ?_)
          · first | trivial | ((try dsimp only); (first | exact A0 | exact A6c | exact A7c))
          clear hK K hHeld4
          try simp only [Act.put, List.setIfInBounds_toArray, List.set_cons_zero, List.set_cons_succ]
          refine wpAnyH_done (by kernel_rfl) ?_ _
          go_wp2_with fail
          go_meet
          have hB6 := (HS.out.2.2.1.drew.grown hgr6 (fun e => by have e2 : gw = b := Option.some.inj e; omega)).far (p := ⟨p, 0, none⟩) (show b ≠ p by omega) (.slice A6 (n + m) c6)
          have hA7 := hA6.far (p := ⟨p, 0, none⟩) (show a ≠ p by omega) (.slice A6 (n + m) c6)
          have hs6 := hgr6.size
          have hsd : wq.drew.heap.size = wq.heap.size := rfl
          have hx6 : (w6.setCell ⟨p, 0, none⟩ (.slice A6 (n + m) c6)).heap.size = w6.heap.size := by simp [World.setCell]
          have hSf := (HS.out.1.keep (w' := wq.drew) (fun _ _ _ => rfl)).app (G := Up F w (w6.setCell ⟨p, 0, none⟩ (.slice A6 (n + m) c6))) ho6 hgr6 (by rw [List.length_append, HS.out.2.2.2.2.2.2, H.out.2.2.2.1]) (fun g hg => .inl hg) (fun g hg => by rcases hat6 with e | e; exact .inl (HS.out.1.footW g (by rw [← e]; exact hg)); exact .inr ⟨by rw [hg] at e; have e2 : g = wq.drew.heap.size := Option.some.inj e; omega, by rw [hx6]; exact (ho6.lt g hg).2⟩) HS.out.2.2.2.2.1
          exact ⟨A6, c6, by unfold Hid; exact ⟨hSf, hA7, hB6⟩, (((Touch.ofBelow hbc).drew).grown hgr6 (fun g hg => HS.out.1.footW g hg)).setCell (p := ⟨p, 0, none⟩) HS.out.1.foot.1 _⟩
        · go_simp
          go_at_call 142; refine HS.out.2.2.2.2.2.1.mono ?_; rintro e w5 ⟨rfl, rfl⟩
          try (go_wp2_with fail)
          refine hK.out _ _ ?_ (fun hHeld2 => ?_)
          · first | trivial | ((try dsimp only); (first | exact A0 | exact A6c | exact A7c))
          clear hK K hHeld1
          try simp only [Act.put, List.setIfInBounds_toArray, List.set_cons_zero, List.set_cons_succ]
          refine held_take (v := ?_) 15 rfl (by kernel_rfl) (by kernel_rfl) (by kernel_rfl) (fun _ _ _ h => h) (by rfl) ?_ (by assumption) ?_
          rotate_left
          · (intro w hSw; (try dsimp only at hSw); go_simp; try with_reducible rfl)
          try simp only [Act.put, List.setIfInBounds_toArray, List.set_cons_zero, List.set_cons_succ]
          refine held_call 8 (by kernel_rfl) rfl (fun K hK => ?_)
          go_simp
          refine hK.out _ _ ?_ (fun hHeld3 => ?_)
          · first | trivial | ((try dsimp only); (first | exact A0 | exact A6c | exact A7c))
          clear hK K hHeld2
          try simp only [Act.put, List.setIfInBounds_toArray, List.set_cons_zero, List.set_cons_succ]
          refine held_take (v := ?_) 16 rfl (by kernel_rfl) (by kernel_rfl) (by kernel_rfl) (fun _ _ _ h => h) (by rfl) ?_ (by assumption) ?_
          rotate_left
          · (intro w hSw; (try dsimp only at hSw); go_simp; try with_reducible rfl)
          try simp only [Act.put, List.setIfInBounds_toArray, List.set_cons_zero, List.set_cons_succ]
          refine held_call 17 (by kernel_rfl) rfl (fun K hK => ?_)
          refine step_app (α := U64) (n := n) (m := m) (nm := n + m) (r := o) (by rfl) (.tmp 22) (.tmp 34) _ (by rfl) base 24 j0 _ 8 Try.underlying39 hj hy0 hy1 hy2 rfl (by decide) u64_oneH (by rfl) HS.out.2.2.2.2.2.2 HS.out.1.words.drew (B := wq.heap.size) (X := some ⟨gw, fr, none⟩) (d := cw - fr) (by rfl) HS.out.2.2.2.1.drew H.out.2.2.2.1 rfl (by omega) (by simp only [maxLen]; omega) (by show base ≤ wq.heap.size; omega) ?_; intro A6 c6 w6 ho6 hgr6 hat6; have hA6 := HS.out.2.1.drew.grown hgr6 (fun e => by have e2 : gw = a := Option.some.inj e; omega); have hp6 := HS.out.1.blk.drew.grown hgr6 (own_ne_ty HS.out.1.words HS.out.1.blk (by decide)); have A6c := hA6.cell 0 (v := .int .i64 (fr : Int)) rfl; have p60 := hp6.cell 0 (v := .slice (some ⟨gw, 0, none⟩) obs.flatten.length cw) rfl; have z60 := hp6.frozen 0; have A7c := (hA6.far (p := ⟨p, 0, none⟩) (show a ≠ p by omega) (.slice A6 (n + m) c6)).cell 0 (v := .int .i64 (fr : Int)) rfl
          refine hK.out _ _ ?_ (fun hHeld4 => ?_)
          · first | trivial | ((try dsimp only); (first | exact A0 | exact A6c | exact A7c))
          clear hK K hHeld3
          try simp only [Act.put, List.setIfInBounds_toArray, List.set_cons_zero, List.set_cons_succ]
          refine held_take (v := ?_) 18 rfl (by kernel_rfl) (by kernel_rfl) (by kernel_rfl) (fun _ _ _ h => h) (by rfl) ?_ (by assumption) ?_
          rotate_left
          · (intro w hSw; (try dsimp only at hSw); go_simp; try with_reducible rfl)
          try simp only [Act.put, List.setIfInBounds_toArray, List.set_cons_zero, List.set_cons_succ]
          refine held_take (v := ?_) 19 rfl (by kernel_rfl) (by kernel_rfl) (by kernel_rfl) (fun _ _ _ h => h) (by rfl) ?_ (by assumption) ?_
          rotate_left
          · (intro w hSw; (try dsimp only at hSw); go_simp; try with_reducible rfl)
          try simp only [Act.put, List.setIfInBounds_toArray, List.set_cons_zero, List.set_cons_succ]
          refine held_call 20 (by kernel_rfl) rfl (fun K hK => ?_)
          go_simp
          refine hK.out _ _ ?_ (fun hHeld5 => ?_)
          · first | trivial | ((try dsimp only); (first | exact A0 | exact A6c | exact A7c))
          clear hK K hHeld4
          try simp only [Act.put, List.setIfInBounds_toArray, List.set_cons_zero, List.set_cons_succ]
          refine wpAnyH_done (by kernel_rfl) ?_ _
          go_wp2_with fail
          go_meet
          have hB6 := (HS.out.2.2.1.drew.grown hgr6 (fun e => by have e2 : gw = b := Option.some.inj e; omega)).far (p := ⟨p, 0, none⟩) (show b ≠ p by omega) (.slice A6 (n + m) c6)
          have hA7 := hA6.far (p := ⟨p, 0, none⟩) (show a ≠ p by omega) (.slice A6 (n + m) c6)
          have hs6 := hgr6.size
          have hsd : wq.drew.heap.size = wq.heap.size := rfl
          have hx6 : (w6.setCell ⟨p, 0, none⟩ (.slice A6 (n + m) c6)).heap.size = w6.heap.size := by simp [World.setCell]
          have hSf := (HS.out.1.keep (w' := wq.drew) (fun _ _ _ => rfl)).app (G := Up F w (w6.setCell ⟨p, 0, none⟩ (.slice A6 (n + m) c6))) ho6 hgr6 (by rw [List.length_append, HS.out.2.2.2.2.2.2, H.out.2.2.2.1]) (fun g hg => .inl hg) (fun g hg => by rcases hat6 with e | e; exact .inl (HS.out.1.footW g (by rw [← e]; exact hg)); exact .inr ⟨by rw [hg] at e; have e2 : g = wq.drew.heap.size := Option.some.inj e; omega, by rw [hx6]; exact (ho6.lt g hg).2⟩) HS.out.2.2.2.2.1
          exact ⟨A6, c6, by unfold Hid; exact ⟨hSf, hA7, hB6⟩, (((Touch.ofBelow hbc).drew).grown hgr6 (fun g hg => HS.out.1.footW g hg)).setCell (p := ⟨p, 0, none⟩) HS.out.1.foot.1 _⟩
      · go_simp
        refine hK.out _ _ ?_ (fun hHeld1 => ?_)
        · first | trivial | ((try dsimp only); (first | exact A0 | exact A6c | exact A7c))
        clear hK K hHeld0
        try simp only [Act.put, List.setIfInBounds_toArray, List.set_cons_zero, List.set_cons_succ]
        refine held_call2 4 14 (by kernel_rfl) rfl rfl (fun K hK => ?_) (fun K hK => ?_)
        · go_simp
          refine hK.out _ _ ?_ (fun hHeld2 => ?_)
          · first | trivial | ((try dsimp only); (first | exact A0 | exact A6c | exact A7c))
          clear hK K hHeld1
          try simp only [Act.put, List.setIfInBounds_toArray, List.set_cons_zero, List.set_cons_succ]
          refine held_call 14 (by kernel_rfl) rfl (fun K hK => ?_)
          go_simp
          go_at_call 142; refine HS.out.2.2.2.2.2.1.mono ?_; rintro e w5 ⟨rfl, rfl⟩
          try (go_wp2_with fail)
          refine hK.out _ _ ?_ (fun hHeld3 => ?_)
          · first | trivial | ((try dsimp only); (first | exact A0 | exact A6c | exact A7c))
          clear hK K hHeld2
          try simp only [Act.put, List.setIfInBounds_toArray, List.set_cons_zero, List.set_cons_succ]
          refine held_take (v := ?_) 15 rfl (by kernel_rfl) (by kernel_rfl) (by kernel_rfl) (fun _ _ _ h => h) (by rfl) ?_ (by assumption) ?_
          rotate_left
          · (intro w hSw; (try dsimp only at hSw); go_simp; try with_reducible rfl)
          try simp only [Act.put, List.setIfInBounds_toArray, List.set_cons_zero, List.set_cons_succ]
          refine held_take (v := ?_) 16 rfl (by kernel_rfl) (by kernel_rfl) (by kernel_rfl) (fun _ _ _ h => h) (by rfl) ?_ (by assumption) ?_
          rotate_left
          · (intro w hSw; (try dsimp only at hSw); go_simp; try with_reducible rfl)
          try simp only [Act.put, List.setIfInBounds_toArray, List.set_cons_zero, List.set_cons_succ]
          refine held_call 17 (by kernel_rfl) rfl (fun K hK => ?_)
          refine step_app (α := U64) (n := n) (m := m) (nm := n + m) (r := o) (by rfl) (.tmp 22) (.tmp 34) _ (by rfl) base 24 j0 _ 8 Try.underlying39 hj hy0 hy1 hy2 rfl (by decide) u64_oneH (by rfl) HS.out.2.2.2.2.2.2 HS.out.1.words.drew (B := wq.heap.size) (X := some ⟨gw, fr, none⟩) (d := cw - fr) (by rfl) HS.out.2.2.2.1.drew H.out.2.2.2.1 rfl (by omega) (by simp only [maxLen]; omega) (by show base ≤ wq.heap.size; omega) ?_; intro A6 c6 w6 ho6 hgr6 hat6; have hA6 := HS.out.2.1.drew.grown hgr6 (fun e => by have e2 : gw = a := Option.some.inj e; omega); have hp6 := HS.out.1.blk.drew.grown hgr6 (own_ne_ty HS.out.1.words HS.out.1.blk (by decide)); have A6c := hA6.cell 0 (v := .int .i64 (fr : Int)) rfl; have p60 := hp6.cell 0 (v := .slice (some ⟨gw, 0, none⟩) obs.flatten.length cw) rfl; have z60 := hp6.frozen 0; have A7c := (hA6.far (p := ⟨p, 0, none⟩) (show a ≠ p by omega) (.slice A6 (n + m) c6)).cell 0 (v := .int .i64 (fr : Int)) rfl
          refine hK.out _ _ ?_ (fun hHeld4 => ?_)
          · first | trivial | ((try dsimp only); (first | exact A0 | exact A6c | exact A7c))
          clear hK K hHeld3
          try simp only [Act.put, List.setIfInBounds_toArray, List.set_cons_zero, List.set_cons_succ]
          refine held_take (v := ?_) 18 rfl (by kernel_rfl) (by kernel_rfl) (by kernel_rfl) (fun _ _ _ h => h) (by rfl) ?_ (by assumption) ?_
          rotate_left
          · (intro w hSw; (try dsimp only at hSw); go_simp; try with_reducible rfl)
          try simp only [Act.put, List.setIfInBounds_toArray, List.set_cons_zero, List.set_cons_succ]
          refine held_take (v := ?_) 19 rfl (by kernel_rfl) (by kernel_rfl) (by kernel_rfl) (fun _ _ _ h => h) (by rfl) ?_ (by assumption) ?_
          rotate_left
          · (intro w hSw; (try dsimp only at hSw); go_simp; try with_reducible rfl)
          try simp only [Act.put, List.setIfInBounds_toArray, List.set_cons_zero, List.set_cons_succ]
          refine held_call 20 (by kernel_rfl) rfl (fun K hK => ?_)
          go_simp
          refine hK.out _ _ ?_ (fun hHeld5 => ?_)
          · first | trivial | ((try dsimp only); (first | exact A0 | exact A6c | exact A7c))
          clear hK K hHeld4
          try simp only [Act.put, List.setIfInBounds_toArray, List.set_cons_zero, List.set_cons_succ]
          refine wpAnyH_done (by kernel_rfl) ?_ _
          go_wp2_with fail
          go_meet
          have hB6 := (HS.out.2.2.1.drew.grown hgr6 (fun e => by have e2 : gw = b := Option.some.inj e; omega)).far (p := ⟨p, 0, none⟩) (show b ≠ p by omega) (.slice A6 (n + m) c6)
          have hA7 := hA6.far (p := ⟨p, 0, none⟩) (show a ≠ p by omega) (.slice A6 (n + m) c6)
          have hs6 := hgr6.size
          have hsd : wq.drew.heap.size = wq.heap.size := rfl
          have hx6 : (w6.setCell ⟨p, 0, none⟩ (.slice A6 (n + m) c6)).heap.size = w6.heap.size := by simp [World.setCell]
          have hSf := (HS.out.1.keep (w' := wq.drew) (fun _ _ _ => rfl)).app (G := Up F w (w6.setCell ⟨p, 0, none⟩ (.slice A6 (n + m) c6))) ho6 hgr6 (by rw [List.length_append, HS.out.2.2.2.2.2.2, H.out.2.2.2.1]) (fun g hg => .inl hg) (fun g hg => by rcases hat6 with e | e; exact .inl (HS.out.1.footW g (by rw [← e]; exact hg)); exact .inr ⟨by rw [hg] at e; have e2 : g = wq.drew.heap.size := Option.some.inj e; omega, by rw [hx6]; exact (ho6.lt g hg).2⟩) HS.out.2.2.2.2.1
          exact ⟨A6, c6, by unfold Hid; exact ⟨hSf, hA7, hB6⟩, (((Touch.ofBelow hbc).drew).grown hgr6 (fun g hg => HS.out.1.footW g hg)).setCell (p := ⟨p, 0, none⟩) HS.out.1.foot.1 _⟩
        · go_simp
          go_at_call 142; refine HS.out.2.2.2.2.2.1.mono ?_; rintro e w5 ⟨rfl, rfl⟩
          try (go_wp2_with fail)
          refine hK.out _ _ ?_ (fun hHeld2 => ?_)
          · first | trivial | ((try dsimp only); (first | exact A0 | exact A6c | exact A7c))
          clear hK K hHeld1
          try simp only [Act.put, List.setIfInBounds_toArray, List.set_cons_zero, List.set_cons_succ]
          refine held_take (v := ?_) 15 rfl (by kernel_rfl) (by kernel_rfl) (by kernel_rfl) (fun _ _ _ h => h) (by rfl) ?_ (by assumption) ?_
          rotate_left
          · (intro w hSw; (try dsimp only at hSw); go_simp; try with_reducible rfl)
          try simp only [Act.put, List.setIfInBounds_toArray, List.set_cons_zero, List.set_cons_succ]
          refine held_take (v := ?_) 16 rfl (by kernel_rfl) (by kernel_rfl) (by kernel_rfl) (fun _ _ _ h => h) (by rfl) ?_ (by assumption) ?_
          rotate_left
          · (intro w hSw; (try dsimp only at hSw); go_simp; try with_reducible rfl)
          try simp only [Act.put, List.setIfInBounds_toArray, List.set_cons_zero, List.set_cons_succ]
          refine held_call 4 (by kernel_rfl) rfl (fun K hK => ?_)
          go_simp
          refine hK.out _ _ ?_ (fun hHeld3 => ?_)
          · first | trivial | ((try dsimp only); (first | exact A0 | exact A6c | exact A7c))
          clear hK K hHeld2
          try simp only [Act.put, List.setIfInBounds_toArray, List.set_cons_zero, List.set_cons_succ]
          refine held_call 17 (by kernel_rfl) rfl (fun K hK => ?_)
          refine step_app (α := U64) (n := n) (m := m) (nm := n + m) (r := o) (by rfl) (.tmp 22) (.tmp 34) _ (by rfl) base 24 j0 _ 8 Try.underlying39 hj hy0 hy1 hy2 rfl (by decide) u64_oneH (by rfl) HS.out.2.2.2.2.2.2 HS.out.1.words.drew (B := wq.heap.size) (X := some ⟨gw, fr, none⟩) (d := cw - fr) (by rfl) HS.out.2.2.2.1.drew H.out.2.2.2.1 rfl (by omega) (by simp only [maxLen]; omega) (by show base ≤ wq.heap.size; omega) ?_; intro A6 c6 w6 ho6 hgr6 hat6; have hA6 := HS.out.2.1.drew.grown hgr6 (fun e => by have e2 : gw = a := Option.some.inj e; omega); have hp6 := HS.out.1.blk.drew.grown hgr6 (own_ne_ty HS.out.1.words HS.out.1.blk (by decide)); have A6c := hA6.cell 0 (v := .int .i64 (fr : Int)) rfl; have p60 := hp6.cell 0 (v := .slice (some ⟨gw, 0, none⟩) obs.flatten.length cw) rfl; have z60 := hp6.frozen 0; have A7c := (hA6.far (p := ⟨p, 0, none⟩) (show a ≠ p by omega) (.slice A6 (n + m) c6)).cell 0 (v := .int .i64 (fr : Int)) rfl
          refine hK.out _ _ ?_ (fun hHeld4 => ?_)
          · first | trivial | ((try dsimp only); (first | exact A0 | exact A6c | exact A7c))
          clear hK K hHeld3
          try simp only [Act.put, List.setIfInBounds_toArray, List.set_cons_zero, List.set_cons_succ]
          refine held_take (v := ?_) 18 rfl (by kernel_rfl) (by kernel_rfl) (by kernel_rfl) (fun _ _ _ h => h) (by rfl) ?_ (by assumption) ?_
          rotate_left
          · (intro w hSw; (try dsimp only at hSw); go_simp; try with_reducible rfl)
          try simp only [Act.put, List.setIfInBounds_toArray, List.set_cons_zero, List.set_cons_succ]
          refine held_take (v := ?_) 19 rfl (by kernel_rfl) (by kernel_rfl) (by kernel_rfl) (fun _ _ _ h => h) (by rfl) ?_ (by assumption) ?_
          rotate_left
          · (intro w hSw; (try dsimp only at hSw); go_simp; try with_reducible rfl)
          try simp only [Act.put, List.setIfInBounds_toArray, List.set_cons_zero, List.set_cons_succ]
          refine held_call 20 (by kernel_rfl) rfl (fun K hK => ?_)
          go_simp
          refine hK.out _ _ ?_ (fun hHeld5 => ?_)
          · first | trivial | ((try dsimp only); (first | exact A0 | exact A6c | exact A7c))
          clear hK K hHeld4
          try simp only [Act.put, List.setIfInBounds_toArray, List.set_cons_zero, List.set_cons_succ]
          refine wpAnyH_done (by kernel_rfl) ?_ _
          go_wp2_with fail
          go_meet
          have hB6 := (HS.out.2.2.1.drew.grown hgr6 (fun e => by have e2 : gw = b := Option.some.inj e; omega)).far (p := ⟨p, 0, none⟩) (show b ≠ p by omega) (.slice A6 (n + m) c6)
          have hA7 := hA6.far (p := ⟨p, 0, none⟩) (show a ≠ p by omega) (.slice A6 (n + m) c6)
          have hs6 := hgr6.size
          have hsd : wq.drew.heap.size = wq.heap.size := rfl
          have hx6 : (w6.setCell ⟨p, 0, none⟩ (.slice A6 (n + m) c6)).heap.size = w6.heap.size := by simp [World.setCell]
          have hSf := (HS.out.1.keep (w' := wq.drew) (fun _ _ _ => rfl)).app (G := Up F w (w6.setCell ⟨p, 0, none⟩ (.slice A6 (n + m) c6))) ho6 hgr6 (by rw [List.length_append, HS.out.2.2.2.2.2.2, H.out.2.2.2.1]) (fun g hg => .inl hg) (fun g hg => by rcases hat6 with e | e; exact .inl (HS.out.1.footW g (by rw [← e]; exact hg)); exact .inr ⟨by rw [hg] at e; have e2 : g = wq.drew.heap.size := Option.some.inj e; omega, by rw [hx6]; exact (ho6.lt g hg).2⟩) HS.out.2.2.2.2.1
          exact ⟨A6, c6, by unfold Hid; exact ⟨hSf, hA7, hB6⟩, (((Touch.ofBelow hbc).drew).grown hgr6 (fun g hg => HS.out.1.footW g hg)).setCell (p := ⟨p, 0, none⟩) HS.out.1.foot.1 _⟩
      · go_simp
        go_at_call 142; refine HS.out.2.2.2.2.2.1.mono ?_; rintro e w5 ⟨rfl, rfl⟩
        try (go_wp2_with fail)
        refine hK.out _ _ ?_ (fun hHeld1 => ?_)
        · first | trivial | ((try dsimp only); (first | exact A0 | exact A6c | exact A7c))
        clear hK K hHeld0
        try simp only [Act.put, List.setIfInBounds_toArray, List.set_cons_zero, List.set_cons_succ]
        refine held_take (v := ?_) 15 rfl (by kernel_rfl) (by kernel_rfl) (by kernel_rfl) (fun _ _ _ h => h) (by rfl) ?_ (by assumption) ?_
        rotate_left
        · (intro w hSw; (try dsimp only at hSw); go_simp; try with_reducible rfl)
        try simp only [Act.put, List.setIfInBounds_toArray, List.set_cons_zero, List.set_cons_succ]
        refine held_call2 4 8 (by kernel_rfl) rfl rfl (fun K hK => ?_) (fun K hK => ?_)
        · go_simp
          refine hK.out _ _ ?_ (fun hHeld2 => ?_)
          · first | trivial | ((try dsimp only); (first | exact A0 | exact A6c | exact A7c))
          clear hK K hHeld1
          try simp only [Act.put, List.setIfInBounds_toArray, List.set_cons_zero, List.set_cons_succ]
          refine held_call 8 (by kernel_rfl) rfl (fun K hK => ?_)
          go_simp
          refine hK.out _ _ ?_ (fun hHeld3 => ?_)
          · first | trivial | ((try dsimp only); (first | exact A0 | exact A6c | exact A7c))
          clear hK K hHeld2
          try simp only [Act.put, List.setIfInBounds_toArray, List.set_cons_zero, List.set_cons_succ]
          refine held_take (v := ?_) 16 rfl (by kernel_rfl) (by kernel_rfl) (by kernel_rfl) (fun _ _ _ h => h) (by rfl) ?_ (by assumption) ?_
          rotate_left
          · (intro w hSw; (try dsimp only at hSw); go_simp; try with_reducible rfl)
          try simp only [Act.put, List.setIfInBounds_toArray, List.set_cons_zero, List.set_cons_succ]
          refine held_call 17 (by kernel_rfl) rfl (fun K hK => ?_)
          refine step_app (α := U64) (n := n) (m := m) (nm := n + m) (r := o) (by rfl) (.tmp 22) (.tmp 34) _ (by rfl) base 24 j0 _ 8 Try.underlying39 hj hy0 hy1 hy2 rfl (by decide) u64_oneH (by rfl) HS.out.2.2.2.2.2.2 HS.out.1.words.drew (B := wq.heap.size) (X := some ⟨gw, fr, none⟩) (d := cw - fr) (by rfl) HS.out.2.2.2.1.drew H.out.2.2.2.1 rfl (by omega) (by simp only [maxLen]; omega) (by show base ≤ wq.heap.size; omega) ?_; intro A6 c6 w6 ho6 hgr6 hat6; have hA6 := HS.out.2.1.drew.grown hgr6 (fun e => by have e2 : gw = a := Option.some.inj e; omega); have hp6 := HS.out.1.blk.drew.grown hgr6 (own_ne_ty HS.out.1.words HS.out.1.blk (by decide)); have A6c := hA6.cell 0 (v := .int .i64 (fr : Int)) rfl; have p60 := hp6.cell 0 (v := .slice (some ⟨gw, 0, none⟩) obs.flatten.length cw) rfl; have z60 := hp6.frozen 0; have A7c := (hA6.far (p := ⟨p, 0, none⟩) (show a ≠ p by omega) (.slice A6 (n + m) c6)).cell 0 (v := .int .i64 (fr : Int)) rfl
          refine hK.out _ _ ?_ (fun hHeld4 => ?_)
          · first | trivial | ((try dsimp only); (first | exact A0 | exact A6c | exact A7c))
          clear hK K hHeld3
          try simp only [Act.put, List.setIfInBounds_toArray, List.set_cons_zero, List.set_cons_succ]
          refine held_take (v := ?_) 18 rfl (by kernel_rfl) (by kernel_rfl) (by kernel_rfl) (fun _ _ _ h => h) (by rfl) ?_ (by assumption) ?_
          rotate_left
          · (intro w hSw; (try dsimp only at hSw); go_simp; try with_reducible rfl)
          try simp only [Act.put, List.setIfInBounds_toArray, List.set_cons_zero, List.set_cons_succ]
          refine held_take (v := ?_) 19 rfl (by kernel_rfl) (by kernel_rfl) (by kernel_rfl) (fun _ _ _ h => h) (by rfl) ?_ (by assumption) ?_
          rotate_left
          · (intro w hSw; (try dsimp only at hSw); go_simp; try with_reducible rfl)
          try simp only [Act.put, List.setIfInBounds_toArray, List.set_cons_zero, List.set_cons_succ]
          refine held_call 20 (by kernel_rfl) rfl (fun K hK => ?_)
          go_simp
          refine hK.out _ _ ?_ (fun hHeld5 => ?_)
          · first | trivial | ((try dsimp only); (first | exact A0 | exact A6c | exact A7c))
          clear hK K hHeld4
          try simp only [Act.put, List.setIfInBounds_toArray, List.set_cons_zero, List.set_cons_succ]
          refine wpAnyH_done (by kernel_rfl) ?_ _
          go_wp2_with fail
          go_meet
          have hB6 := (HS.out.2.2.1.drew.grown hgr6 (fun e => by have e2 : gw = b := Option.some.inj e; omega)).far (p := ⟨p, 0, none⟩) (show b ≠ p by omega) (.slice A6 (n + m) c6)
          have hA7 := hA6.far (p := ⟨p, 0, none⟩) (show a ≠ p by omega) (.slice A6 (n + m) c6)
          have hs6 := hgr6.size
          have hsd : wq.drew.heap.size = wq.heap.size := rfl
          have hx6 : (w6.setCell ⟨p, 0, none⟩ (.slice A6 (n + m) c6)).heap.size = w6.heap.size := by simp [World.setCell]
          have hSf := (HS.out.1.keep (w' := wq.drew) (fun _ _ _ => rfl)).app (G := Up F w (w6.setCell ⟨p, 0, none⟩ (.slice A6 (n + m) c6))) ho6 hgr6 (by rw [List.length_append, HS.out.2.2.2.2.2.2, H.out.2.2.2.1]) (fun g hg => .inl hg) (fun g hg => by rcases hat6 with e | e; exact .inl (HS.out.1.footW g (by rw [← e]; exact hg)); exact .inr ⟨by rw [hg] at e; have e2 : g = wq.drew.heap.size := Option.some.inj e; omega, by rw [hx6]; exact (ho6.lt g hg).2⟩) HS.out.2.2.2.2.1
          exact ⟨A6, c6, by unfold Hid; exact ⟨hSf, hA7, hB6⟩, (((Touch.ofBelow hbc).drew).grown hgr6 (fun g hg => HS.out.1.footW g hg)).setCell (p := ⟨p, 0, none⟩) HS.out.1.foot.1 _⟩
        · go_simp
          refine hK.out _ _ ?_ (fun hHeld2 => ?_)
          · first | trivial | ((try dsimp only); (first | exact A0 | exact A6c | exact A7c))
          clear hK K hHeld1
          try simp only [Act.put, List.setIfInBounds_toArray, List.set_cons_zero, List.set_cons_succ]
          refine held_take (v := ?_) 16 rfl (by kernel_rfl) (by kernel_rfl) (by kernel_rfl) (fun _ _ _ h => h) (by rfl) ?_ (by assumption) ?_
          rotate_left
          · (intro w hSw; (try dsimp only at hSw); go_simp; try with_reducible rfl)
          try simp only [Act.put, List.setIfInBounds_toArray, List.set_cons_zero, List.set_cons_succ]
          refine held_call 4 (by kernel_rfl) rfl (fun K hK => ?_)
          go_simp
          refine hK.out _ _ ?_ (fun hHeld3 => ?_)
          · first | trivial | ((try dsimp only); (first | exact A0 | exact A6c | exact A7c))
          clear hK K hHeld2
          try simp only [Act.put, List.setIfInBounds_toArray, List.set_cons_zero, List.set_cons_succ]
          refine held_call 17 (by kernel_rfl) rfl (fun K hK => ?_)
          refine step_app (α := U64) (n := n) (m := m) (nm := n + m) (r := o) (by rfl) (.tmp 22) (.tmp 34) _ (by rfl) base 24 j0 _ 8 Try.underlying39 hj hy0 hy1 hy2 rfl (by decide) u64_oneH (by rfl) HS.out.2.2.2.2.2.2 HS.out.1.words.drew (B := wq.heap.size) (X := some ⟨gw, fr, none⟩) (d := cw - fr) (by rfl) HS.out.2.2.2.1.drew H.out.2.2.2.1 rfl (by omega) (by simp only [maxLen]; omega) (by show base ≤ wq.heap.size; omega) ?_; intro A6 c6 w6 ho6 hgr6 hat6; have hA6 := HS.out.2.1.drew.grown hgr6 (fun e => by have e2 : gw = a := Option.some.inj e; omega); have hp6 := HS.out.1.blk.drew.grown hgr6 (own_ne_ty HS.out.1.words HS.out.1.blk (by decide)); have A6c := hA6.cell 0 (v := .int .i64 (fr : Int)) rfl; have p60 := hp6.cell 0 (v := .slice (some ⟨gw, 0, none⟩) obs.flatten.length cw) rfl; have z60 := hp6.frozen 0; have A7c := (hA6.far (p := ⟨p, 0, none⟩) (show a ≠ p by omega) (.slice A6 (n + m) c6)).cell 0 (v := .int .i64 (fr : Int)) rfl
          refine hK.out _ _ ?_ (fun hHeld4 => ?_)
          · first | trivial | ((try dsimp only); (first | exact A0 | exact A6c | exact A7c))
          clear hK K hHeld3
          try simp only [Act.put, List.setIfInBounds_toArray, List.set_cons_zero, List.set_cons_succ]
          refine held_take (v := ?_) 18 rfl (by kernel_rfl) (by kernel_rfl) (by kernel_rfl) (fun _ _ _ h => h) (by rfl) ?_ (by assumption) ?_
          rotate_left
          · (intro w hSw; (try dsimp only at hSw); go_simp; try with_reducible rfl)
          try simp only [Act.put, List.setIfInBounds_toArray, List.set_cons_zero, List.set_cons_succ]
          refine held_take (v := ?_) 19 rfl (by kernel_rfl) (by kernel_rfl) (by kernel_rfl) (fun _ _ _ h => h) (by rfl) ?_ (by assumption) ?_
          rotate_left
          · (intro w hSw; (try dsimp only at hSw); go_simp; try with_reducible rfl)
          try simp only [Act.put, List.setIfInBounds_toArray, List.set_cons_zero, List.set_cons_succ]
          refine held_call 20 (by kernel_rfl) rfl (fun K hK => ?_)
          go_simp
          refine hK.out _ _ ?_ (fun hHeld5 => ?_)
          · first | trivial | ((try dsimp only); (first | exact A0 | exact A6c | exact A7c))
          clear hK K hHeld4
          try simp only [Act.put, List.setIfInBounds_toArray, List.set_cons_zero, List.set_cons_succ]
          refine wpAnyH_done (by kernel_rfl) ?_ _
          go_wp2_with fail
          go_meet
          have hB6 := (HS.out.2.2.1.drew.grown hgr6 (fun e => by have e2 : gw = b := Option.some.inj e; omega)).far (p := ⟨p, 0, none⟩) (show b ≠ p by omega) (.slice A6 (n + m) c6)
          have hA7 := hA6.far (p := ⟨p, 0, none⟩) (show a ≠ p by omega) (.slice A6 (n + m) c6)
          have hs6 := hgr6.size
          have hsd : wq.drew.heap.size = wq.heap.size := rfl
          have hx6 : (w6.setCell ⟨p, 0, none⟩ (.slice A6 (n + m) c6)).heap.size = w6.heap.size := by simp [World.setCell]
          have hSf := (HS.out.1.keep (w' := wq.drew) (fun _ _ _ => rfl)).app (G := Up F w (w6.setCell ⟨p, 0, none⟩ (.slice A6 (n + m) c6))) ho6 hgr6 (by rw [List.length_append, HS.out.2.2.2.2.2.2, H.out.2.2.2.1]) (fun g hg => .inl hg) (fun g hg => by rcases hat6 with e | e; exact .inl (HS.out.1.footW g (by rw [← e]; exact hg)); exact .inr ⟨by rw [hg] at e; have e2 : g = wq.drew.heap.size := Option.some.inj e; omega, by rw [hx6]; exact (ho6.lt g hg).2⟩) HS.out.2.2.2.2.1
          exact ⟨A6, c6, by unfold Hid; exact ⟨hSf, hA7, hB6⟩, (((Touch.ofBelow hbc).drew).grown hgr6 (fun g hg => HS.out.1.footW g hg)).setCell (p := ⟨p, 0, none⟩) HS.out.1.foot.1 _⟩
    case rest =>
      obtain ⟨A6, c6, hX, ht⟩ := hcut
      obtain ⟨hS2, hA2, hB2⟩ := hX.out
      have hfl : (obs ++ [o]).flatten = obs.flatten ++ o := by simp
      have hgo : ∀ o' ∈ obs ++ [o], Sto.Good o' := fun o' ho' => by
        rcases List.mem_append.1 ho' with ho' | ho'
        · exact H.out.2.1 o' ho'
        · simp at ho'; subst ho'; exact H.out.2.1 o' (List.mem_of_getElem? H.out.2.2.1)
      have hpn : p < w.heap.size := hlt
      have hfln : (obs ++ [o]).flatten.length = n + m := by rw [hfl, List.length_append, HS.out.2.2.2.2.2.2, H.out.2.2.2.1]
      have hga3 : ga < w.heap.size := (H.out.1.places.lt ga rfl).2
      have hfnQ : FnQ wc A6 (some ⟨ga, 0, none⟩) 202 #[.pointer (some ⟨a, 0, none⟩), .pointer (some ⟨b, 0, none⟩)] (mvF fr n) (fun x => x ≤ 2000) := fun V hV hbut x hx =>
        move1_any V x fr n a b ((hbut a hA2.lt (own_ne_ty hS2.words hA2 (by decide)) (fun e => by have e2 : ga = a := Option.some.inj e; omega)).trans hA2) ((hbut b hB2.lt (own_ne_ty hS2.words hB2 (by decide)) (fun e => by have e2 : ga = b := Option.some.inj e; omega)).trans hB2)
      have hrx : ∀ o' ∈ obs ++ [o], ∀ x ∈ o'.tail, ∀ q, Hau.refOf x = some q → q ≤ 2000 := fun o' ho' => by
        rcases List.mem_append.1 ho' with ho' | ho'
        · exact H.out.2.2.2.2.2.2.2.1 o' ho'
        · simp at ho'; subst ho'; exact H.out.2.2.2.2.2.2.2.1 o' (List.mem_of_getElem? H.out.2.2.1)
      have hAA : ∀ g, rowOf (some (⟨ga, 0, none⟩ : Addr)) = some g → F g := H.out.1.footA
      have hA6r : ∀ g, rowOf A6 = some g → Up F w wc g := hS2.footW
      rw [← hfl] at hS2
      have hturn := sturn_any wc base p _ _ (mvF fr n) (fun x => x ≤ 2000) _ (obs ++ [o]) pl hd A6 (some ⟨ga, 0, none⟩) HA c6 ac hc hS2 hgo (by omega) hpm (fun x hx => by have := H.out.2.2.2.2.2.2.1 x hx; omega) hrx (fun x hx => ⟨hx, by unfold mvF; split <;> omega⟩) egMove1 hfnQ
      have HT := Lib.hid (And.intro hturn (And.intro ht (And.intro hAA hA6r))); clear hturn ht hAA hA6r hrx hfnQ hS2 hA2 hB2 hX hgo hfl hfln
      go_wp2_with fail
      refine HT.out.1.mono ?_
      rintro e w9 ⟨rfl, hS9, ht9⟩
      have hsz := HT.out.2.1.size
      have ht19 : Touch F w w9 := ⟨ht9.os.trans HT.out.2.1.os, ht9.tape.trans HT.out.2.1.tape, ht9.output.trans HT.out.2.1.output, Nat.le_trans hsz ht9.size, fun g hg hF => (ht9.block g (by omega) (fun h => h.elim (fun e => (HT.out.2.2.2 g e).elim hF (fun h => by omega)) (fun e => hF (HT.out.2.2.1 g e)))).trans (HT.out.2.1.block g hg hF)⟩
      have hS9' : So w9 base (Up F w w9) p ((obs ++ [o]).map (Sto.turnO (mvF fr n))).flatten (pl.map (Sto.turnP (mvF fr n))) hd := hS9.so.mono (fun g hg => hg.more ht9.size)
      have HZ := Lib.hid (And.intro hS9' ht19); clear hS9' ht19 hS9 ht9
      go_wp2_with fail
      go_returns
      exact ⟨rfl, HZ.out.1, HZ.out.2⟩
end Go.Proofs.Ytpkccpegdpodoaa

/- slices.Clone of words. -/
namespace Go.Proofs.Ytpkccpegdpodoaa
open Go.RowKit Go.Maps

attribute [local go_sem ↓] Go.wp_at_zero Go.wp_at_succ

theorem cloneU_any (A : Option Addr) (c B n : Nat) (l : List U64) (w : World) (hn : l.length = n) (h : At w B A l) (hB : B ≤ w.heap.size) (hl : n * 8 ≤ 140737488355328) :
    Calls Try.prog 198 #[.slice A n c] w fun e w' => ∃ A' c', e = .returned (.slice A' n c') ∧ Own w' w.heap.size 24 A' c' l ∧ Below w.heap.size w w' := by
  obtain ⟨i0, hi, hz0, hz1, hz2⟩ := info_partsH infoU64H
  subst hn
  cases A with
  | none =>
    have hnil : l = [] := by
      cases l with
      | nil => rfl
      | cons x l => obtain ⟨b, o, cs, e, _⟩ := h 0 x rfl; cases e
    subst hnil
    have heq := fun w => run_eql_nil_slice w 39 24 none 0 c 0 0 Try.underlying39
    have heq2 := fun w => Lib.run_eql_slice_nil w 39 24 none 0 c 0 0 Try.underlying39
    go_enter Try.func198, Try.ntmps198
    go_wp2
    go_ret
    exact ⟨none, 0, rfl, Own.nil_, Below.refl _ _⟩
  | some a =>
    have heq2 := fun w => Lib.run_eql_slice_nil w 39 24 (some a) l.length c 0 0 Try.underlying39
    have H := Lib.hid h; clear h
    go_enter Try.func198, Try.ntmps198
    go_wp2_with (at_builtin; go_must (refine wpList_app (α := U64) (n := 0) rfl (.tmp 5) (.tmp 6) _ rfl w.heap.size 24 i0 _ 8 Try.underlying39 hi hz0 hz1 hz2 rfl (by decide) u64_oneH (by rfl) rfl (own_new0 w _ _ _ rfl (Nat.le_refl _)) (by rfl) ((H.out).keep (fun p hp => World.cell?_alloc_lt w _ p (by omega))) rfl (by omega) (by simp only [maxLen]; omega) (by simp) ?_); intro A1 c1 w1 hown hgr hat)
    go_ret
    exact ⟨A1, c1, by simp, by simpa using hown, ((Below.refl _ _).alloc (Nat.le_refl _) _).grown hgr (by simp) (by simp [rowOf])⟩
end Go.Proofs.Ytpkccpegdpodoaa

/- slices.Delete of words. -/
namespace Go.Proofs.Ytpkccpegdpodoaa
open Go.RowKit Go.Maps

attribute [local go_sem ↓] Go.wp_at_zero Go.wp_at_succ

theorem zeroU (w : World) : (zeroValue 24).run Try.prog w = .ok (.int .u64 0) w := by kernel_rfl

set_option maxHeartbeats 1600000 in
set_option maxRecDepth 100000 in
theorem deleteU_any (c base b i e : Nat) (l : List U64) (w : World) (h : Own w base 24 (some ⟨b, 0, none⟩) c l) (hi : i < e) (he : e ≤ l.length) :
    Calls Try.prog 199 #[.slice (some ⟨b, 0, none⟩) l.length c, .int .i64 i, .int .i64 e] w fun r w' => r = .returned (.slice (some ⟨b, 0, none⟩) (l.length - (e - i)) c) ∧ Own w' base 24 (some ⟨b, 0, none⟩) c (l.take i ++ l.drop e) ∧ w.grownBy w' (some b) := by
  obtain ⟨i0, hi0, hz0, hz1, hz2⟩ := info_partsH infoU64H
  have hcap := h.le_cap
  have hmax : c ≤ 9223372036854775807 := by have := hcap.2; unfold maxLen at this; omega
  obtain ⟨n, hn⟩ : ∃ n, l.length = n := ⟨_, rfl⟩
  rw [hn] at he hcap ⊢
  have hnc := hcap.1
  clear hcap
  obtain ⟨ad, hA, hsrc⟩ : ∃ ad : Addr, (if c = e then some (⟨b, 0, none⟩ : Addr) else some ⟨b, e, none⟩) = some ad ∧ Hid (∀ j u, (flat (l.drop e))[j]? = some u → w.drew.cell? (ad.add j) = some u) := by
    have hfl : ∀ j u, (flat (l.drop e))[j]? = some u → w.cell? ⟨b, e + j, none⟩ = some u := by
      intro j u hu
      have hj := (List.getElem?_eq_some_iff.1 hu).1
      have := h.cells_ (g := b) (o := 0) rfl (e + j) u (by
        have ee := flat_append (l.take e) (l.drop e)
        rw [List.take_append_drop] at ee
        have hl : (flat (l.take e)).length = e := by rw [flat_length, List.length_take, Nat.min_eq_left (by omega)]; exact Nat.mul_one e
        rw [ee, List.getElem?_append_right (by omega), hl, show e + j - e = j by omega]
        exact hu)
      rw [Nat.zero_add] at this
      exact this
    by_cases hc : c = e
    · refine ⟨_, if_pos hc, fun j u hu => ?_⟩
      have : l.drop e = [] := List.drop_eq_nil_of_le (by omega)
      rw [this] at hu
      simp [flat] at hu
    · refine ⟨_, if_neg hc, fun j u hu => ?_⟩
      rw [add_mk]
      exact hfl j u hu
  have HI := Lib.hid (And.intro hi0 (And.intro hz1 hz2))
  have HT := Lib.hid ((h.take_ i (by omega)).drew)
  have HN := Lib.hid hn
  have hdl : (l.drop e).length = n - e := by rw [List.length_drop, hn]
  have HD := Lib.hid hdl
  have hne : ((i : Int) == (e : Int)) = false := by rw [beq_eq_false_iff_ne]; omega
  have hie : (i : Int) ≤ (e : Int) := by omega
  have hie2 : i ≤ e := by omega
  have hic : i ≤ c := by omega
  have hic2 : e ≤ c := by omega
  have q2 : (e : Int) ≤ (n : Int) := by omega
  clear h hdl hn hi0 hz0 hz1 hz2
  go_enter Try.func199, Try.ntmps199
  go_wp2_with fail
  go_region_law ((refine step_app_fits (α := U64) (by rfl) (.tmp 22) (.tmp 25) _ (by rfl) i0 Try.underlying39 HI.out.1 HI.out.2.1 u64_oneH (n := i) (c := c) (by rfl) (by rw [List.length_take]; have := HN.out; omega) HT.out (ad := ad) (m := n - e) (d := c - e) (r := l.drop e) (by simp [Act.eval, Act.put]) HD.out hsrc.out (nm := n - (e - i)) (by omega) (by omega) ?_; intro w1 hown1 hgr1))
  have hell : (l.take i ++ l.drop e).length = n - (e - i) := by rw [List.length_append, List.length_take, List.length_drop, HN.out]; omega
  obtain ⟨nm, hnm⟩ : ∃ x, n - (e - i) = x := ⟨_, rfl⟩
  rw [hnm] at hell
  obtain ⟨w3, hrun, hown3, hgr3⟩ := run_clear_own (P := Try.prog) hown1 nm (by omega) 39 0 Try.underlying39 _ zeroU rfl rfl (some ⟨b, nm, none⟩) (n - nm) (c - nm) (by omega) (fun _ => by rw [show nm * Flat.sz U64 = nm from Nat.mul_one nm])
  have hcn : ¬ c = nm := by omega
  have hcn2 : nm ≤ c := by omega
  have hcn3 : nm ≤ n := by omega
  have hgr := (grownBy_undrew hgr1).trans hgr3
  have HO3 := Lib.hid (And.intro hown3 hell); clear hown3 hown1 hgr1 hgr3 hell
  rw [hnm]
  have HM := Lib.hid hnm
  go_wp2
  go_ret
  exact ⟨by rw [HM.out]; rfl, by have := HO3.out.1; rw [List.take_of_length_le (by rw [HO3.out.2]; exact Nat.le_refl _)] at this; exact this, hgr⟩
end Go.Proofs.Ytpkccpegdpodoaa

/- store.last: a cell is taken out, and put behind all others. -/
namespace Go.Proofs.Ytpkccpegdpodoaa
open Go.RowKit Go.Maps

attribute [local go_sem ↓] Go.wp_at_zero Go.wp_at_succ

/-- the words are others, and the store tells of them -/
theorem SoL.rew {w w6 : World} {base p c6 : Nat} {F G : Nat → Prop} {ws ws' : List U64} {pl : List Int} {hd : List Bool} {WA AA HA A6 : Option Addr} {cw ac hc nm : Nat} (h : SoL w base F p ws pl hd WA AA HA cw ac hc) (ho : Own w6 base 24 A6 c6 ws') (hk : ∀ g, g < w.heap.size → rowOf WA ≠ some g → w6.heap[g]? = w.heap[g]?) (hnm : ws'.length = nm)
    (hF : ∀ g, F g → G g) (hG : ∀ g, rowOf A6 = some g → G g) (hr : ∀ x ∈ ws', Flat.ok x) : SoL (w6.setCell ⟨p, 0, none⟩ (.slice A6 nm c6)) base G p ws' pl hd A6 AA HA c6 ac hc := by
  subst hnm
  have nWp : rowOf WA ≠ some p := own_ne_ty h.words h.blk (by decide)
  have hblk : Blk w6 p _ _ := (hk p h.blk.lt nWp).trans h.blk
  have hpl : Own w6 base 3 AA ac pl := h.places.block_ (fun g hg => hk g (h.places.lt g hg).2 (fun e => own_own_ty h.places h.words (by decide) g hg e))
  have hhd : Own w6 base 4 HA hc hd := h.helds.block_ (fun g hg => hk g (h.helds.lt g hg).2 (fun e => own_own_ty h.helds h.words (by decide) g hg e))
  exact ⟨hblk.set_ 0 _, ho.setCell _ _ (own_ne_ty ho hblk (by decide)), hpl.setCell _ _ (own_ne_ty hpl hblk (by decide)), hhd.setCell _ _ (own_ne_ty hhd hblk (by decide)), ⟨hF p h.foot.1, h.foot.2⟩, hG, fun g hg => hF g (h.footA g hg), fun g hg => hF g (h.footH g hg), hr, h.okA⟩

namespace Sto
theorem starts_le {l : List (List U64)} {x : Nat} (h : x ∈ starts 0 l) : x ≤ l.flatten.length := by
  obtain ⟨j, -, rfl⟩ := mem_starts.1 h; exact st_le j
theorem starts_cut {A B : List (List U64)} {o : List U64} {x : Nat} (h : x ∈ starts 0 (A ++ o :: B)) (hx : A.flatten.length < x) : A.flatten.length + o.length ≤ x := by
  obtain ⟨j, hj, rfl⟩ := mem_starts.1 h
  by_cases e : j ≤ A.length
  · have h1 := st_mono (l := A ++ o :: B) e
    have h2 : st (A ++ o :: B) A.length = A.flatten.length := by rw [st_app (Nat.le_refl _), st_all]
    omega
  · have h1 := st_mono (l := A ++ o :: B) (show A.length + 1 ≤ j by omega)
    have h2 : st (A ++ o :: B) A.length = A.flatten.length := by rw [st_app (Nat.le_refl _), st_all]
    have h3 : (A ++ o :: B)[A.length]? = some o := by rw [List.getElem?_append_right (Nat.le_refl _), Nat.sub_self]; rfl
    have h4 := st_succ h3
    omega
end Sto

set_option maxHeartbeats 6400000 in
set_option maxRecDepth 100000 in
theorem slast_any (w : World) (base p k fr m n : Nat) (F : Nat → Prop) (A B : List (List U64)) (o : List U64) (pl : List Int) (hd : List Bool) (WA AA HA : Option Addr) (cw ac hc : Nat) (h : SoL w base F p (A ++ o :: B).flatten pl hd WA AA HA cw ac hc)
    (hg : ∀ o' ∈ A ++ o :: B, Sto.Good o') (hm : o.length = m) (hfr : A.flatten.length = fr) (hn : (A ++ o :: B).flatten.length = n) (hk : pl[k]? = some (fr : Int)) (hsm : n ≤ 2000) (hpm : pl.length ≤ 1000) (hpx : ∀ x ∈ pl, x < 0 ∨ x.toNat ∈ Sto.starts 0 (A ++ o :: B))
    (hrx : ∀ o' ∈ A ++ o :: B, ∀ x ∈ o'.tail, ∀ q, Hau.refOf x = some q → q ∈ Sto.starts 0 (A ++ o :: B)) (hF : ∀ g, F g → g < w.heap.size) :
    Calls Try.prog 183 #[.pointer (some ⟨p, 0, none⟩), .int .i64 k] w fun e w' => e = .returned (.tuple #[]) ∧ So w' base (Up F w w') p ((A ++ B ++ [o]).map (Sto.turnO (lsF fr m n))).flatten (pl.map (Sto.turnP (lsF fr m n))) hd ∧ Touch F w w' := by
  obtain ⟨ga, rfl, hga1, hga2, q0⟩ := h.place hk
  have c1 := h.blk.cell 1 (v := .slice (some ⟨ga, 0, none⟩) pl.length ac) rfl
  have k1 : (k : Int) < (pl.length : Int) := by have := (List.getElem?_eq_some_iff.1 hk).1; omega
  have hlt := h.blk.lt
  have hhead : Hau.lg (Hau.wat (A ++ o :: B).flatten fr) + 1 = m := by
    obtain ⟨hw, bd, he, hlg⟩ := hg o (by simp)
    have h2 : Sto.st (A ++ o :: B) A.length = fr := by rw [Sto.st_app (Nat.le_refl _), Sto.st_all, hfr]
    have h3 : (A ++ o :: B)[A.length]? = some (hw :: bd) := by rw [List.getElem?_append_right (Nat.le_refl _), Nat.sub_self, he]; rfl
    have := Sto.wat_st h3
    rw [h2] at this
    rw [this, hlg, ← hm, he, List.length_cons]
  have hfl : (A ++ o :: B).flatten = A.flatten ++ (o ++ B.flatten) := by simp
  have hlen : fr + m + B.flatten.length = n := by rw [← hn, hfl, List.length_append, List.length_append, hfr, hm]; omega
  have H := Lib.hid (And.intro h (And.intro hg (And.intro hm (And.intro hfr (And.intro hn (And.intro hk (And.intro hpx (And.intro hrx (And.intro hF hfl)))))))));  clear h hg hm hfr hn hk hpx hrx hF hfl
  obtain ⟨lg, hlgE⟩ : ∃ x, Hau.lg (Hau.wat (A ++ o :: B).flatten fr) = x := ⟨_, rfl⟩
  rw [hlgE] at hhead
  go_enter Try.func183, Try.ntmps183
  go_upto_region 2 with fail
  refine wp_world (fun W => Blk W w.heap.size 106 #[.pointer (some ⟨p, 0, none⟩)] ∧ Blk W (w.heap.size + 1) 3 #[.int .i64 (fr : Int)] ∧ Below w.heap.size w W ∧ W.heap.size = w.heap.size + 2) ⟨(Blk.new _ _ _).alloc _, Blk.at_ _ _ _ (by simp), ((Below.refl _ _).alloc (Nat.le_refl _) _).alloc (by simp) _, by simp⟩ ?_
  rintro W ⟨hB, hA, hbW, hsW⟩
  have hS := H.out.1.fresh hbW
  have hlong := slong_any W base p fr F (A ++ o :: B).flatten pl hd hS.so (by have := H.out.2.2.2.2.1; omega) (by have := H.out.2.2.2.2.1; omega)
  rw [hlgE] at hlong
  have b0 := hB.cell 0 (v := .pointer (some ⟨p, 0, none⟩)) rfl
  have a0 := hA.cell 0 (v := .int .i64 (fr : Int)) rfl
  have e1 : IntKind.i64.wrap (1 + (lg : Int)) = (m : Int) := by rw [IntWalk.i64_in _ (by omega)]; omega
  have HW := Lib.hid (And.intro hS (And.intro hB (And.intro hA (And.intro hbW hlong)))); clear hS hB hA hbW hlong c1 q0
  go_wp2_with fail
  refine HW.out.2.2.2.2.mono ?_
  rintro e w1 ⟨rfl, rfl⟩
  clear b0 a0
  go_upto_region 3 with fail
  refine wp_world (fun V => Blk V w.heap.size 106 #[.pointer (some ⟨p, 0, none⟩)] ∧ Blk V (w.heap.size + 1) 3 #[.int .i64 (fr : Int)] ∧ Blk V (w.heap.size + 2) 3 #[.int .i64 (m : Int)] ∧ Below w.heap.size w V) ⟨HW.out.2.1.alloc _, HW.out.2.2.1.alloc _, Blk.at_ _ _ _ (by omega), HW.out.2.2.2.1.alloc HW.out.2.2.2.1.size _⟩ ?_
  rintro V ⟨hB, hA, hC, hbV⟩
  have hsV := hbV.size
  have hS := H.out.1.fresh hbV
  obtain ⟨gw, rfl, hgw1, hgw2⟩ := hS.words.some_ (by have := H.out.2.2.2.2.1; omega)
  have hcw := hS.words.le_cap.1
  rw [H.out.2.2.2.2.1] at hcw
  have hgw0 : gw < w.heap.size := (H.out.1.words.lt gw rfl).2
  have hga0 : ga < w.heap.size := hga2
  have hCV : w.heap.size + 2 < V.heap.size := hC.lt
  have hsrc : At V V.heap.size (some ⟨gw, fr, none⟩) o := by
    have := at_takeH (hS.atW.drop_ fr) m
    rw [show fr * Enc.sz U64 = fr from Nat.mul_one fr, H.out.2.2.2.2.2.2.2.2.2, List.drop_left' H.out.2.2.2.1, List.take_left' H.out.2.2.1, Nat.zero_add] at this
    exact this
  have hoF : ∀ x ∈ o, Flat.ok x := fun x hx => hS.okW x (by rw [H.out.2.2.2.2.2.2.2.2.2]; simp [hx])
  have c0 := hS.blk.cell 0 (v := .slice (some ⟨gw, 0, none⟩) (A ++ o :: B).flatten.length cw) rfl
  rw [H.out.2.2.2.2.1] at c0
  have b0 := hB.cell 0 (v := .pointer (some ⟨p, 0, none⟩)) rfl
  have a0 := hA.cell 0 (v := .int .i64 (fr : Int)) rfl
  have t0 := hC.cell 0 (v := .int .i64 (m : Int)) rfl
  obtain ⟨r, hr⟩ : ∃ r, fr + m = r := ⟨_, rfl⟩
  have hw2 : IntKind.i64.wrap ((fr : Int) + (m : Int)) = (r : Int) := by rw [IntWalk.i64_in _ (by omega)]; omega
  have hr1 : (r : Int) ≤ (cw : Int) := by omega
  have hr2 : fr ≤ r := by omega
  have hr3 : r - fr = m := by omega
  have hr4 : ¬ cw = fr := by omega
  have hclone := cloneU_any (some ⟨gw, fr, none⟩) (cw - fr) V.heap.size m o V.drew H.out.2.2.1 hsrc.drew (Nat.le_refl _) (by omega)
  have HV := Lib.hid (And.intro hS (And.intro hB (And.intro hA (And.intro hC (And.intro hbV (And.intro hoF hclone)))))); clear hS hB hA hC hbV hoF hclone hsrc HW
  refine wp_region_held_drew (S := (fun w' => w'.cell? ⟨w.heap.size, 0, none⟩ = some (.pointer (some ⟨p, 0, none⟩)) ∧ w'.cell? ⟨p, 0, none⟩ = some (.slice (some ⟨gw, 0, none⟩) n cw) ∧ w'.cell? ⟨w.heap.size + 1, 0, none⟩ = some (.int .i64 (fr : Int)) ∧ w'.cell? ⟨w.heap.size + 2, 0, none⟩ = some (.int .i64 (m : Int)))) (by kernel_rfl) ?_ (fun hHeld0 => ?_)
  · first | trivial | ((try dsimp only); (exact ⟨b0, c0, a0, t0⟩))
  refine held_take (v := ?_) 0 rfl (by kernel_rfl) (by kernel_rfl) (by kernel_rfl) (fun _ _ _ h => h) (by rfl) ?_ (by assumption) ?_
  rotate_left
  · (intro w hSw; (try dsimp only at hSw); go_simp; try with_reducible rfl)
  try simp only [Act.put, List.setIfInBounds_toArray, List.set_cons_zero, List.set_cons_succ]
  refine held_take (v := ?_) 1 rfl (by kernel_rfl) (by kernel_rfl) (by kernel_rfl) (fun _ _ _ h => h) (by rfl) ?_ (by assumption) ?_
  rotate_left
  · (intro w hSw; (try dsimp only at hSw); go_simp; try with_reducible rfl)
  try simp only [Act.put, List.setIfInBounds_toArray, List.set_cons_zero, List.set_cons_succ]
  refine held_take (v := ?_) 2 rfl (by kernel_rfl) (by kernel_rfl) (by kernel_rfl) (fun _ _ _ h => h) (by rfl) ?_ (by assumption) ?_
  rotate_left
  · (intro w hSw; (try dsimp only at hSw); go_simp; try with_reducible rfl)
  try simp only [Act.put, List.setIfInBounds_toArray, List.set_cons_zero, List.set_cons_succ]
  refine held_take (v := ?_) 3 rfl (by kernel_rfl) (by kernel_rfl) (by kernel_rfl) (fun _ _ _ h => h) (by rfl) ?_ (by assumption) ?_
  rotate_left
  · (intro w hSw; (try dsimp only at hSw); go_simp; try with_reducible rfl)
  try simp only [Act.put, List.setIfInBounds_toArray, List.set_cons_zero, List.set_cons_succ]
  refine held_take (v := ?_) 4 rfl (by kernel_rfl) (by kernel_rfl) (by kernel_rfl) (fun _ _ _ h => h) (by rfl) ?_ (by assumption) ?_
  rotate_left
  · (intro w hSw; (try dsimp only at hSw); go_simp; try with_reducible rfl)
  try simp only [Act.put, List.setIfInBounds_toArray, List.set_cons_zero, List.set_cons_succ]
  refine held_take (v := ?_) 5 rfl (by kernel_rfl) (by kernel_rfl) (by kernel_rfl) (fun _ _ _ h => h) (by rfl) ?_ (by assumption) ?_
  rotate_left
  · (intro w hSw; (try dsimp only at hSw); go_simp; try with_reducible rfl)
  try simp only [Act.put, List.setIfInBounds_toArray, List.set_cons_zero, List.set_cons_succ]
  refine held_take (v := ?_) 6 rfl (by kernel_rfl) (by kernel_rfl) (by kernel_rfl) (fun _ _ _ h => h) (by rfl) ?_ (by assumption) ?_
  rotate_left
  · (intro w hSw; (try dsimp only at hSw); go_simp; try with_reducible rfl)
  try simp only [Act.put, List.setIfInBounds_toArray, List.set_cons_zero, List.set_cons_succ]
  refine held_take (v := ?_) 7 rfl (by kernel_rfl) (by kernel_rfl) (by kernel_rfl) (fun _ _ _ h => h) (by rfl) ?_ (by assumption) ?_
  rotate_left
  · (intro w hSw; (try dsimp only at hSw); go_simp; try with_reducible rfl)
  try simp only [Act.put, List.setIfInBounds_toArray, List.set_cons_zero, List.set_cons_succ]
  refine held_take (v := ?_) 8 rfl (by kernel_rfl) (by kernel_rfl) (by kernel_rfl) (fun _ _ _ h => h) (by rfl) ?_ (by assumption) ?_
  rotate_left
  · (intro w hSw; (try dsimp only at hSw); go_simp; try with_reducible rfl)
  try simp only [Act.put, List.setIfInBounds_toArray, List.set_cons_zero, List.set_cons_succ]
  refine held_call 9 (by kernel_rfl) rfl (fun K hK => ?_)
  go_simp
  go_at_call 198; refine HV.out.2.2.2.2.2.2.mono ?_; rintro e w5 ⟨A5, c5, rfl, ho5, hb5⟩; have hb5' : Below V.heap.size V w5 := undrew hb5; have d0 := (HV.out.1.fresh hb5').blk.cell 0 (v := .slice (some ⟨gw, 0, none⟩) (A ++ o :: B).flatten.length cw) rfl; rw [H.out.2.2.2.2.1] at d0; have f0 := (HV.out.2.1.fresh hb5').cell 0 (v := .pointer (some ⟨p, 0, none⟩)) rfl; have f1 := (HV.out.2.2.1.fresh hb5').cell 0 (v := .int .i64 (fr : Int)) rfl; have f2 := (HV.out.2.2.2.1.fresh hb5').cell 0 (v := .int .i64 (m : Int)) rfl; clear b0 c0 a0 t0
  try (go_wp2_with fail)
  refine hK.out _ _ ?_ (fun hHeld1 => ?_)
  · first | trivial | ((try dsimp only); (exact ⟨f0, d0, f1, f2⟩))
  clear hK K hHeld0
  try simp only [Act.put, List.setIfInBounds_toArray, List.set_cons_zero, List.set_cons_succ]
  refine held_take (v := ?_) 10 rfl (by kernel_rfl) (by kernel_rfl) (by kernel_rfl) (fun _ _ _ h => h) (by rfl) ?_ (by assumption) ?_
  rotate_left
  · (intro w hSw; (try dsimp only at hSw); go_simp; try with_reducible rfl)
  try simp only [Act.put, List.setIfInBounds_toArray, List.set_cons_zero, List.set_cons_succ]
  refine wpAnyH_done (by kernel_rfl) ?_ _
  go_upto_region 4 with fail
  have hS5 := HV.out.1.fresh hb5'
  have hB5 := HV.out.2.1.fresh hb5'
  have hA5 := HV.out.2.2.1.fresh hb5'
  have hC5 := HV.out.2.2.2.1.fresh hb5'
  have hs5 := hb5'.size
  have hbw5 : Below w.heap.size w w5 := HV.out.2.2.2.2.1.trans (hb5'.mono hsV)
  obtain ⟨AB, hAB⟩ : ∃ x, A.flatten ++ B.flatten = x := ⟨_, rfl⟩
  obtain ⟨q, hq⟩ : ∃ q, AB.length = q := ⟨_, rfl⟩
  have hqn : q + m = n := by rw [← hq, ← hAB, List.length_append, H.out.2.2.2.1]; omega
  have hdel : Calls Try.prog 199 #[.slice (some ⟨gw, 0, none⟩) n cw, .int .i64 fr, .int .i64 r] w5.drew fun e w' => e = .returned (.slice (some ⟨gw, 0, none⟩) q cw) ∧ Own w' base 24 (some ⟨gw, 0, none⟩) cw AB ∧ w5.drew.grownBy w' (some gw) := by
    have := deleteU_any cw base gw fr r (A ++ o :: B).flatten w5.drew hS5.words.drew (by have := H.out.2.2.2.1; obtain ⟨a, b, e, -⟩ := H.out.2.1 o (by simp); have := H.out.2.2.1; rw [e, List.length_cons] at this; omega) (by rw [H.out.2.2.2.2.1]; omega)
    rw [H.out.2.2.2.2.1, show n - (r - fr) = q by omega] at this
    refine this.mono ?_
    rintro e w' ⟨h1, h2, h3⟩
    refine ⟨h1, ?_, h3⟩
    have e : (A ++ o :: B).flatten.take fr ++ (A ++ o :: B).flatten.drop r = AB := by
      rw [H.out.2.2.2.2.2.2.2.2.2, List.take_left' H.out.2.2.2.1, ← hr, ← List.drop_drop, List.drop_left' H.out.2.2.2.1, List.drop_left' H.out.2.2.1, hAB]
    rw [← e]; exact h2
  obtain ⟨j0, hj, hy0, hy1, hy2⟩ := info_partsH infoU64H
  have ho5b : ∀ g, rowOf A5 = some g → V.heap.size ≤ g := fun g hg => (ho5.lt g hg).1
  have H5 := Lib.hid (And.intro hS5 (And.intro hB5 (And.intro hA5 (And.intro hC5 (And.intro hbw5 (And.intro ho5 (And.intro ho5b (And.intro hdel (And.intro hq hAB))))))))); clear hS5 hB5 hA5 hC5 hbw5 ho5 ho5b hdel hq hb5 hb5' HV
  go_cut [] from 28 to 45 (fun W2 => ∃ (A6 : Option Addr) (c6 : Nat), Hid (SoL W2 base (Up F w W2) p (A ++ B ++ [o]).flatten pl hd A6 (some ⟨ga, 0, none⟩) HA c6 ac hc ∧ Blk W2 w.heap.size 106 #[.pointer (some ⟨p, 0, none⟩)] ∧ Blk W2 (w.heap.size + 1) 3 #[.int .i64 (fr : Int)] ∧ Blk W2 (w.heap.size + 2) 3 #[.int .i64 (m : Int)]) ∧ Touch F w W2)
  case first =>
    refine wp_region_held_drew (S := (fun w' => w'.cell? ⟨w.heap.size, 0, none⟩ = some (.pointer (some ⟨p, 0, none⟩)) ∧ w'.cell? ⟨w.heap.size + 1, 0, none⟩ = some (.int .i64 (fr : Int)) ∧ w'.cell? ⟨w.heap.size + 2, 0, none⟩ = some (.int .i64 (m : Int)))) (by kernel_rfl) ?_ (fun hHeld0 => ?_)
    · first | trivial | ((try dsimp only); (exact ⟨f0, f1, f2⟩))
    refine held_take (v := ?_) 0 rfl (by kernel_rfl) (by kernel_rfl) (by kernel_rfl) (fun _ _ _ h => h) (by rfl) ?_ (by assumption) ?_
    rotate_left
    · (intro w hSw; (try dsimp only at hSw); go_simp; try with_reducible rfl)
    try simp only [Act.put, List.setIfInBounds_toArray, List.set_cons_zero, List.set_cons_succ]
    refine held_take (v := ?_) 1 rfl (by kernel_rfl) (by kernel_rfl) (by kernel_rfl) (fun _ _ _ h => h) (by rfl) ?_ (by assumption) ?_
    rotate_left
    · (intro w hSw; (try dsimp only at hSw); go_simp; try with_reducible rfl)
    try simp only [Act.put, List.setIfInBounds_toArray, List.set_cons_zero, List.set_cons_succ]
    refine held_take (v := ?_) 2 rfl (by kernel_rfl) (by kernel_rfl) (by kernel_rfl) (fun _ _ _ h => h) (by rfl) ?_ (by assumption) ?_
    rotate_left
    · (intro w hSw; (try dsimp only at hSw); go_simp; try with_reducible rfl)
    try simp only [Act.put, List.setIfInBounds_toArray, List.set_cons_zero, List.set_cons_succ]
    refine held_take (v := ?_) 3 rfl (by kernel_rfl) (by kernel_rfl) (by kernel_rfl) (fun _ _ _ h => h) (by rfl) ?_ (by assumption) ?_
    rotate_left
    · (intro w hSw; (try dsimp only at hSw); go_simp; try with_reducible rfl)
    try simp only [Act.put, List.setIfInBounds_toArray, List.set_cons_zero, List.set_cons_succ]
    refine held_take (v := ?_) 5 rfl (by kernel_rfl) (by kernel_rfl) (by kernel_rfl) (fun _ _ _ h => h) (by rfl) ?_ (by assumption) ?_
    rotate_left
    · (intro w hSw; (try dsimp only at hSw); go_simp; try with_reducible rfl)
    try simp only [Act.put, List.setIfInBounds_toArray, List.set_cons_zero, List.set_cons_succ]
    refine held_take (v := ?_) 6 rfl (by kernel_rfl) (by kernel_rfl) (by kernel_rfl) (fun _ _ _ h => h) (by rfl) ?_ (by assumption) ?_
    rotate_left
    · (intro w hSw; (try dsimp only at hSw); go_simp; try with_reducible rfl)
    try simp only [Act.put, List.setIfInBounds_toArray, List.set_cons_zero, List.set_cons_succ]
    refine held_take (v := ?_) 7 rfl (by kernel_rfl) (by kernel_rfl) (by kernel_rfl) (fun _ _ _ h => h) (by rfl) ?_ (by assumption) ?_
    rotate_left
    · (intro w hSw; (try dsimp only at hSw); go_simp; try with_reducible rfl)
    try simp only [Act.put, List.setIfInBounds_toArray, List.set_cons_zero, List.set_cons_succ]
    refine held_take (v := ?_) 8 rfl (by kernel_rfl) (by kernel_rfl) (by kernel_rfl) (fun _ _ _ h => h) (by rfl) ?_ (by assumption) ?_
    rotate_left
    · (intro w hSw; (try dsimp only at hSw); go_simp; try with_reducible rfl)
    try simp only [Act.put, List.setIfInBounds_toArray, List.set_cons_zero, List.set_cons_succ]
    refine held_take (v := ?_) 10 rfl (by kernel_rfl) (by kernel_rfl) (by kernel_rfl) (fun _ _ _ h => h) (by rfl) ?_ (by assumption) ?_
    rotate_left
    · (intro w hSw; (try dsimp only at hSw); go_simp; try with_reducible rfl)
    try simp only [Act.put, List.setIfInBounds_toArray, List.set_cons_zero, List.set_cons_succ]
    refine held_call 4 (by kernel_rfl) rfl (fun K hK => ?_)
    go_simp
    refine hK.out _ _ ?_ (fun hHeld1 => ?_)
    · first | trivial | ((try dsimp only); (exact ⟨f0, f1, f2⟩))
    clear hK K hHeld0
    try simp only [Act.put, List.setIfInBounds_toArray, List.set_cons_zero, List.set_cons_succ]
    refine held_call 9 (by kernel_rfl) rfl (fun K hK => ?_)
    go_simp
    go_at_call 199; refine H5.out.2.2.2.2.2.2.2.1.mono ?_; rintro e w6 ⟨rfl, ho6, hgr6⟩; have g0 := (H5.out.2.1.drew.grown hgr6 (fun e => by have e2 : gw = w.heap.size := Option.some.inj e; omega)); have g1 := (H5.out.2.2.1.drew.grown hgr6 (fun e => by have e2 : gw = w.heap.size + 1 := Option.some.inj e; omega)); have g2 := (H5.out.2.2.2.1.drew.grown hgr6 (fun e => by have e2 : gw = w.heap.size + 2 := Option.some.inj e; omega)); have g5 := (H5.out.2.2.2.2.2.1.drew.grown hgr6 (fun g hg e => by have e2 : gw = g := Option.some.inj e; have := H5.out.2.2.2.2.2.2.1 g hg; omega)); have x0 := g0.cell 0 (v := .pointer (some ⟨p, 0, none⟩)) rfl; have x1 := g1.cell 0 (v := .int .i64 (fr : Int)) rfl; have x2 := g2.cell 0 (v := .int .i64 (m : Int)) rfl; have hs6 := hgr6.size; simp only [World.size_drew] at hs6
    try (go_wp2_with fail)
    refine hK.out _ _ ?_ (fun hHeld2 => ?_)
    · first | trivial | ((try dsimp only); (exact ⟨x0, x1, x2⟩))
    clear hK K hHeld1
    try simp only [Act.put, List.setIfInBounds_toArray, List.set_cons_zero, List.set_cons_succ]
    refine held_call 11 (by kernel_rfl) rfl (fun K hK => ?_)
    refine step_app (α := U64) (n := q) (m := m) (nm := n) (r := o) (by rfl) (.tmp 37) (.tmp 38) _ (by rfl) base 24 j0 _ 8 Try.underlying39 hj hy0 hy1 hy2 rfl (by decide) u64_oneH (by rfl) H5.out.2.2.2.2.2.2.2.2.1 ho6 (B := w6.heap.size) (X := A5) (d := c5) (by rfl) (g5.at_ (fun x hx => H5.out.1.okW x (by rw [H.out.2.2.2.2.2.2.2.2.2]; simp [hx]))) H.out.2.2.1 hqn (by omega) (by simp only [maxLen]; omega) (by have := H.out.1.foot.2; omega) ?_; intro A7 c7 w7 ho7 hgr7 hat7; have n7 : w7.heap.size ≥ w6.heap.size := hgr7.size; have y0 := g0.grown hgr7 (fun e => by have e2 : gw = w.heap.size := Option.some.inj e; omega); have y1 := g1.grown hgr7 (fun e => by have e2 : gw = w.heap.size + 1 := Option.some.inj e; omega); have y2 := g2.grown hgr7 (fun e => by have e2 : gw = w.heap.size + 2 := Option.some.inj e; omega); have u0 := y0.cell 0 (v := .pointer (some ⟨p, 0, none⟩)) rfl; have u1 := y1.cell 0 (v := .int .i64 (fr : Int)) rfl; have u2 := y2.cell 0 (v := .int .i64 (m : Int)) rfl; have hp7 := (H5.out.1.blk.drew.grown hgr6 (own_ne_ty H5.out.1.words H5.out.1.blk (by decide))).grown hgr7 (own_ne_ty H5.out.1.words H5.out.1.blk (by decide)); have p70 := hp7.cell 0 (v := .slice (some ⟨gw, 0, none⟩) (A ++ o :: B).flatten.length cw) rfl; have z70 := hp7.frozen 0
    refine hK.out _ _ ?_ (fun hHeld3 => ?_)
    · first | trivial | ((try dsimp only); (exact ⟨u0, u1, u2⟩))
    clear hK K hHeld2
    try simp only [Act.put, List.setIfInBounds_toArray, List.set_cons_zero, List.set_cons_succ]
    refine held_take (v := ?_) 12 rfl (by kernel_rfl) (by kernel_rfl) (by kernel_rfl) (fun _ _ _ h => h) (by rfl) ?_ (by assumption) ?_
    rotate_left
    · (intro w hSw; (try dsimp only at hSw); go_simp; try with_reducible rfl)
    try simp only [Act.put, List.setIfInBounds_toArray, List.set_cons_zero, List.set_cons_succ]
    refine held_take (v := ?_) 13 rfl (by kernel_rfl) (by kernel_rfl) (by kernel_rfl) (fun _ _ _ h => h) (by rfl) ?_ (by assumption) ?_
    rotate_left
    · (intro w hSw; (try dsimp only at hSw); go_simp; try with_reducible rfl)
    try simp only [Act.put, List.setIfInBounds_toArray, List.set_cons_zero, List.set_cons_succ]
    refine held_call 14 (by kernel_rfl) rfl (fun K hK => ?_)
    go_simp
    refine hK.out _ _ ?_ (fun hHeld4 => ?_)
    · first | trivial | ((try dsimp only); (exact ⟨(y0.far (p := ⟨p, 0, none⟩) (show w.heap.size ≠ p by omega) _).cell 0 rfl, (y1.far (p := ⟨p, 0, none⟩) (show w.heap.size + 1 ≠ p by omega) _).cell 0 rfl, (y2.far (p := ⟨p, 0, none⟩) (show w.heap.size + 2 ≠ p by omega) _).cell 0 rfl⟩))
    clear hK K hHeld3
    try simp only [Act.put, List.setIfInBounds_toArray, List.set_cons_zero, List.set_cons_succ]
    refine wpAnyH_done (by kernel_rfl) ?_ _
    go_wp2_with fail
    go_meet
    have hd5 : w5.drew.heap.size = w5.heap.size := rfl
    have hx7 : (w7.setCell ⟨p, 0, none⟩ (.slice A7 n c7)).heap.size = w7.heap.size := by simp [World.setCell]
    have hABo : (A ++ B ++ [o]).flatten = AB ++ o := by rw [← H5.out.2.2.2.2.2.2.2.2.2]; simp
    have hsw5 := H5.out.2.2.2.2.1.size
    have hSf := H5.out.1.rew (G := Up F w (w7.setCell ⟨p, 0, none⟩ (.slice A7 n c7))) (nm := n) ho7 (fun g hg hne => (hgr7.block g (by omega) (fun e => hne e.symm)).trans (hgr6.block g hg (fun e => hne e.symm))) (by rw [List.length_append, H5.out.2.2.2.2.2.2.2.2.1, H.out.2.2.1]; exact hqn) (fun g hg => .inl hg) (fun g hg => by
      rcases hat7 with e | e
      · exact .inl (H5.out.1.footW g (by rw [← e]; exact hg))
      · exact .inr ⟨by rw [hg] at e; have e2 : g = w6.heap.size := Option.some.inj e; omega, by rw [hx7]; exact (ho7.lt g hg).2⟩) (fun x hx => by
      rw [← hABo] at hx
      refine H5.out.1.okW x ?_
      rw [H.out.2.2.2.2.2.2.2.2.2]
      simp at hx ⊢
      rcases hx with h | h | h
      · exact .inl h
      · exact .inr (.inr h)
      · exact .inr (.inl h))
    rw [← hABo] at hSf
    have htt := ((((Touch.ofBelow (F := F) H5.out.2.2.2.2.1).drew).grown hgr6 (fun g hg => H5.out.1.footW g hg)).grown hgr7 (fun g hg => H5.out.1.footW g hg)).setCell (p := ⟨p, 0, none⟩) H5.out.1.foot.1 (.slice A7 n c7)
    exact ⟨A7, c7, by unfold Hid; exact ⟨hSf, y0.far (p := ⟨p, 0, none⟩) (show w.heap.size ≠ p by omega) _, y1.far (p := ⟨p, 0, none⟩) (show w.heap.size + 1 ≠ p by omega) _, y2.far (p := ⟨p, 0, none⟩) (show w.heap.size + 2 ≠ p by omega) _⟩, htt⟩
  case rest =>
    obtain ⟨A6, c6, hX, ht⟩ := hcut
    obtain ⟨hS2, hB2, hA2, hC2⟩ := hX.out
    have hmem : ∀ o' ∈ A ++ B ++ [o], o' ∈ A ++ o :: B := fun o' ho' => by
      simp at ho' ⊢
      rcases ho' with h | h | h
      · exact .inl h
      · exact .inr (.inr h)
      · exact .inr (.inl h)
    have hgo : ∀ o' ∈ A ++ B ++ [o], Sto.Good o' := fun o' ho' => H.out.2.1 o' (hmem o' ho')
    have hfln : (A ++ B ++ [o]).flatten.length = n := by rw [← hlen, ← H.out.2.2.1, ← H.out.2.2.2.1]; simp; omega
    have hcp := hS2.blk
    rw [hfln] at hcp
    have hsc := ht.size
    have hpw : p < w.heap.size := hlt
    have hfnQ : FnQ wc A6 (some ⟨ga, 0, none⟩) 201 #[.pointer (some ⟨w.heap.size + 1, 0, none⟩), .pointer (some ⟨w.heap.size, 0, none⟩), .pointer (some ⟨w.heap.size + 2, 0, none⟩)] (lsF fr m n) (fun x => x ∈ Sto.starts 0 (A ++ o :: B)) := fun V hV hbut x hx =>
      last1_any V x fr m n (w.heap.size + 1) w.heap.size (w.heap.size + 2) p A6 c6 _ _ ((hbut _ hA2.lt (own_ne_ty hS2.words hA2 (by decide)) (fun e => by have e2 : ga = w.heap.size + 1 := Option.some.inj e; omega)).trans hA2)
        ((hbut _ hB2.lt (own_ne_ty hS2.words hB2 (by decide)) (fun e => by have e2 : ga = w.heap.size := Option.some.inj e; omega)).trans hB2)
        ((hbut _ hC2.lt (own_ne_ty hS2.words hC2 (by decide)) (fun e => by have e2 : ga = w.heap.size + 2 := Option.some.inj e; omega)).trans hC2)
        ((hbut _ hS2.blk.lt (own_ne_ty hS2.words hS2.blk (by decide)) (own_ne_ty hS2.places hS2.blk (by decide))).trans hcp) (by omega) hsm (by have := Sto.starts_le hx; rw [H.out.2.2.2.2.1] at this; omega)
        (fun h => by have := Sto.starts_cut hx (by rw [H.out.2.2.2.1]; exact h); have := H.out.2.2.1; omega)
    have hrx : ∀ o' ∈ A ++ B ++ [o], ∀ x ∈ o'.tail, ∀ q, Hau.refOf x = some q → q ∈ Sto.starts 0 (A ++ o :: B) := fun o' ho' => H.out.2.2.2.2.2.2.2.1 o' (hmem o' ho')
    have hAA : ∀ g, rowOf (some (⟨ga, 0, none⟩ : Addr)) = some g → F g := H.out.1.footA
    have hA6r : ∀ g, rowOf A6 = some g → Up F w wc g := hS2.footW
    have b0 := hB2.cell 0 (v := .pointer (some ⟨p, 0, none⟩)) rfl
    have hturn := sturn_any wc base p _ _ (lsF fr m n) (fun x => x ∈ Sto.starts 0 (A ++ o :: B)) _ (A ++ B ++ [o]) pl hd A6 (some ⟨ga, 0, none⟩) HA c6 ac hc hS2 hgo (by omega) hpm H.out.2.2.2.2.2.2.1 hrx (fun x hx => by
      have := Sto.starts_le hx
      rw [H.out.2.2.2.2.1] at this
      refine ⟨by omega, ?_⟩
      unfold lsF; split
      · omega
      · split <;> omega) egLast1 hfnQ
    have HT := Lib.hid (And.intro hturn (And.intro ht (And.intro hAA hA6r))); clear hturn ht hAA hA6r hrx hfnQ hS2 hA2 hB2 hC2 hX hgo hfln hcp hmem
    clear f0 f1 f2 d0
    go_wp2_with fail
    refine HT.out.1.mono ?_
    rintro e w9 ⟨rfl, hS9, ht9⟩
    have hsz := HT.out.2.1.size
    have ht19 : Touch F w w9 := ⟨ht9.os.trans HT.out.2.1.os, ht9.tape.trans HT.out.2.1.tape, ht9.output.trans HT.out.2.1.output, Nat.le_trans hsz ht9.size, fun g hg hF => (ht9.block g (by omega) (fun h => h.elim (fun e => (HT.out.2.2.2 g e).elim hF (fun h => by omega)) (fun e => hF (HT.out.2.2.1 g e)))).trans (HT.out.2.1.block g hg hF)⟩
    have hS9' : So w9 base (Up F w w9) p ((A ++ B ++ [o]).map (Sto.turnO (lsF fr m n))).flatten (pl.map (Sto.turnP (lsF fr m n))) hd := hS9.so.mono (fun g hg => hg.more ht9.size)
    have HZ := Lib.hid (And.intro hS9' ht19); clear hS9' ht19 hS9 ht9
    go_wp2_with fail
    go_returns
    exact ⟨rfl, HZ.out.1, HZ.out.2⟩
end Go.Proofs.Ytpkccpegdpodoaa

/- A store that stands for a shelf: room; a cell put behind all. -/
namespace Go.Proofs.Ytpkccpegdpodoaa
open Go.RowKit Go.Maps

namespace Sto
open Hau
/-- what room leaves: the store, and whether there is room for n words more -/
def RoomS (w : World) (base p n u0 : Nat) (F : Nat → Prop) (cs : List Kp) (r : Bool) : Prop :=
  ∃ (obs : List (List U64)) (pl : List Int), So w base F p obs.flatten pl (cs.map Kp.held) ∧ Sr obs pl cs ∧ (r = true → obs.flatten.length + n ≤ 2000) ∧ (r = false → 2000 < sW cs cs.length + n ∧ obs.flatten.length = sW cs cs.length) ∧ obs.flatten.length ≤ u0
theorem st_room (w : World) (base p n u0 : Nat) (F : Nat → Prop) (cs : List Kp) (h : StU w base F p cs u0) (hF : ∀ g, F g → g < w.heap.size) (hn : n ≤ 1000) :
    Calls Try.prog 139 #[.pointer (some ⟨p, 0, none⟩), .int .i64 n] w fun e w' => ∃ r : Bool, e = .returned (.bool r) ∧ RoomS w' base p n u0 (Up F w w') cs r ∧ Touch F w w' := by
  obtain ⟨obs, pl, hs, hr, hu⟩ := h
  have hx := hr.sx hs
  refine (sroom_any w base p n F obs.flatten pl _ hx hF hn).mono ?_
  rintro e w' (⟨h1, h2, rfl⟩ | ⟨h1, h2, h3, h4⟩)
  · exact ⟨true, h2, ⟨obs, pl, hs.mono (fun g hg => .inl hg), hr, fun _ => h1, fun h => (by cases h), by omega⟩, Touch.refl _ _⟩
  · have hlen : (newWords obs.flatten (rootsFrom pl (cs.map Kp.held))).length = sW cs cs.length := by rw [hx.tb.newLen]; exact hr.words
    have hw : wdsL obs.flatten (tl obs.flatten pl (cs.map Kp.held)) = sW cs cs.length := hr.words
    rw [hw] at h2
    rw [← tobs_new] at h3 hlen
    refine ⟨_, h2, ⟨_, _, h3, hr.collect, fun h => ?_, fun h => ?_, ?_⟩, h4⟩
    · have h5 : sW cs cs.length + n ≤ 2000 := of_decide_eq_true h
      show (tobs _ (told _ _)).flatten.length + n ≤ 2000
      have : (tobs obs.flatten (told obs.flatten (sroots pl cs))).flatten.length = sW cs cs.length := hlen
      omega
    · have h5 : ¬ sW cs cs.length + n ≤ 2000 := of_decide_eq_false h
      exact ⟨by omega, hlen⟩
    · have h5 : (tobs obs.flatten (told obs.flatten (sroots pl cs))).flatten.length = sW cs cs.length := hlen
      have := hr.sW_le
      show (tobs _ (told _ _)).flatten.length ≤ u0
      omega
/-- the store, the cell k behind all others -/
def StE (w : World) (base p k : Nat) (F : Nat → Prop) (cs : List Kp) : Prop :=
  ∃ (A : List (List U64)) (o : List U64) (pl : List Int), So w base F p (A ++ [o]).flatten pl (cs.map Kp.held) ∧ Sr (A ++ [o]) pl cs ∧ pl[k]? = some (A.flatten.length : Int) ∧ (A ++ [o]).flatten.length + 1 ≤ 2000
theorem fits_ref {l : List Nat} {x : U64} {q : Nat} (h : fits l x = true) (hr : refOf x = some q) : q ∈ l := by
  unfold fits at h
  unfold refOf at hr
  split at h
  · rename_i k n hu
    rw [hu] at hr
    simp only at hr
    split at hr
    · rename_i h5
      subst h5
      injection hr with hr
      simp only [ne_eq, not_true_eq_false, decide_false, Bool.false_or] at h
      rw [hr] at h
      exact List.contains_iff_mem.1 h
    · cases hr
  · cases h
theorem Sr.refs {obs : List (List U64)} {pl : List Int} {cs : List Kp} (h : Sr obs pl cs) : ∀ o ∈ obs, ∀ x ∈ o.tail, ∀ q, refOf x = some q → q ∈ starts 0 obs := fun o ho x hx _q hq => fits_ref (h.body o ho x hx) hq
theorem Sr.plcs {obs : List (List U64)} {pl : List Int} {cs : List Kp} (h : Sr obs pl cs) : ∀ x ∈ pl, x < 0 ∨ x.toNat ∈ starts 0 obs := by
  intro x hx
  obtain ⟨n, hn⟩ := List.mem_iff_getElem?.1 hx
  rcases h.plc n x hn with e | ⟨j, hj, e⟩
  · exact .inl (by omega)
  · exact .inr (mem_starts.2 ⟨j, hj, by omega⟩)
theorem st_move (w : World) (base p k : Nat) (F : Nat → Prop) (obs : List (List U64)) (pl : List Int) (cs : List Kp) (c : Kp) (hs : So w base F p obs.flatten pl (cs.map Kp.held)) (hr : Sr obs pl cs) (hn : Nd cs k) (hc : cs[k]? = some c) (hroom : obs.flatten.length + (c.vals.length + 2) ≤ 2000) (hF : ∀ g, F g → g < w.heap.size) :
    Calls Try.prog 184 #[.pointer (some ⟨p, 0, none⟩), .int .i64 k] w fun e w' => e = .returned (.tuple #[]) ∧ StE w' base p k (Up F w w') cs ∧ Touch F w w' := by
  obtain ⟨j, a, b, hj, hp, -, -, -, -, hb⟩ := hr.head hc hn
  obtain ⟨WA, AA, HA, cw, ac, hcc, hS⟩ := hs
  have hsm := hr.small
  have hlen : (a :: b).length = c.vals.length + 1 := by rw [List.length_cons, hb]
  refine (smove_any w base p k (st obs j) (a :: b).length F obs (a :: b) j pl _ WA AA HA cw ac hcc hS hr.good hj rfl rfl hp (by omega) (by have := hr.len; have := hr.many; omega) (fun x hx => ?_) (fun o ho x hx q hq => ?_) hF).mono ?_
  · rcases hr.plcs x hx with h | h
    · omega
    · have := starts_le h; omega
  · have := starts_le (hr.refs o ho x hx q hq); omega
  · rintro e w' ⟨h1, h2, h3⟩
    have hmv := hr.move hj (by omega)
    rw [List.map_append, List.map_singleton] at h2 hmv
    refine ⟨h1, ⟨_, _, _, h2, hmv, ?_, ?_⟩, h3⟩
    · rw [List.getElem?_map, hp, flat_turn_length]
      show some (turnP (mvF (st obs j) obs.flatten.length) (st obs j : Int)) = _
      rw [turnP_nat]
      unfold mvF; rw [if_pos rfl]
    · rw [List.flatten_append, List.length_append, flat_turn_length]
      simp only [List.flatten_cons, List.flatten_nil, List.append_nil, turnO_length]
      omega
theorem cut_at {α : Type} {l : List α} {j : Nat} {o : α} (h : l[j]? = some o) : ∃ A B, l = A ++ o :: B ∧ A.length = j := by
  have hj := (List.getElem?_eq_some_iff.1 h).1
  have ho := (List.getElem?_eq_some_iff.1 h).2
  exact ⟨l.take j, l.drop (j + 1), by rw [← ho, ← List.drop_eq_getElem_cons hj, List.take_append_drop], by rw [List.length_take]; omega⟩
theorem st_last (w : World) (base p k : Nat) (F : Nat → Prop) (obs : List (List U64)) (pl : List Int) (cs : List Kp) (c : Kp) (hs : So w base F p obs.flatten pl (cs.map Kp.held)) (hr : Sr obs pl cs) (hn : Nd cs k) (hc : cs[k]? = some c) (hroom : obs.flatten.length + 1 ≤ 2000) (hF : ∀ g, F g → g < w.heap.size) :
    Calls Try.prog 183 #[.pointer (some ⟨p, 0, none⟩), .int .i64 k] w fun e w' => e = .returned (.tuple #[]) ∧ StE w' base p k (Up F w w') cs ∧ Touch F w w' := by
  obtain ⟨j, a, b, hj, hp, -, -, -, -, hb⟩ := hr.head hc hn
  obtain ⟨WA, AA, HA, cw, ac, hcc, hS⟩ := hs
  obtain ⟨A, B, rfl, hA⟩ := cut_at hj
  have hst : st (A ++ (a :: b) :: B) j = A.flatten.length := by rw [← hA, st_app (Nat.le_refl _), st_all]
  rw [hst] at hp
  have hfl : (A ++ (a :: b) :: B).flatten.length = A.flatten.length + (a :: b).length + B.flatten.length := by simp; omega
  refine (slast_any w base p k A.flatten.length (a :: b).length (A ++ (a :: b) :: B).flatten.length F A B (a :: b) pl _ WA AA HA cw ac hcc hS hr.good rfl rfl rfl hp (by omega) (by have := hr.len; have := hr.many; omega) hr.plcs hr.refs hF).mono ?_
  rintro e w' ⟨h1, h2, h3⟩
  have hmv := hr.last
  rw [List.map_append, List.map_singleton] at h2 hmv
  refine ⟨h1, ⟨_, _, _, h2, hmv, ?_, ?_⟩, h3⟩
  · rw [List.getElem?_map, hp, flat_turn_length]
    show some (turnP _ (A.flatten.length : Int)) = _
    rw [turnP_nat]
    unfold lsF
    rw [if_pos rfl, hfl]
    congr 2
    rw [List.flatten_append, List.length_append]
    omega
  · rw [List.flatten_append, List.length_append, flat_turn_length]
    simp only [List.flatten_cons, List.flatten_nil, List.append_nil, turnO_length, List.flatten_append, List.length_append] at *
    omega
end Sto
end Go.Proofs.Ytpkccpegdpodoaa

/- store.push: a value behind a cell's values. -/
namespace Go.Proofs.Ytpkccpegdpodoaa
open Go.RowKit Go.Maps

attribute [local go_sem ↓] Go.wp_at_zero Go.wp_at_succ

theorem Touch.join {F : Nat → Prop} {w w1 w2 : World} (h : Touch F w w1) (h2 : Touch (Up F w w1) w1 w2) : Touch F w w2 :=
  ⟨h2.os.trans h.os, h2.tape.trans h.tape, h2.output.trans h.output, Nat.le_trans h.size h2.size, fun g hg hF => (h2.block g (by have := h.size; omega) (fun hu => hu.elim hF (fun hu => by omega))).trans (h.block g hg hF)⟩
theorem Up.join {F : Nat → Prop} {w w1 w2 : World} (h : w.heap.size ≤ w1.heap.size) (h2 : w1.heap.size ≤ w2.heap.size) {g : Nat} (hg : Up (Up F w w1) w1 w2 g) : Up F w w2 g := by
  rcases hg with (hg | hg) | hg
  · exact .inl hg
  · exact .inr ⟨hg.1, by omega⟩
  · exact .inr ⟨by omega, hg.2⟩
theorem blk_touchS {w w' : World} {g : Nat} {t : TypeId} {cs : Array Value} {F : Nat → Prop} (h : Blk w g t cs) (ht : Touch F w w') (hn : ¬ F g) : Blk w' g t cs := (ht.block g h.lt hn).trans h
namespace Sto
open Hau
/-- one more value of a cell -/
def pshK (cs : List Kp) (n : Nat) (v : Int × Int) : List Kp := cs.modify n fun c => { c with vals := c.vals ++ [v] }
theorem pshK_held {cs : List Kp} {n : Nat} {v : Int × Int} : (pshK cs n v).map Kp.held = cs.map Kp.held := by
  unfold pshK
  apply List.ext_getElem?
  intro i
  rw [List.getElem?_map, List.getElem?_map, List.getElem?_modify]
  cases cs[i]? with
  | none => rfl
  | some c => simp only [Option.map_some, Option.map_eq_map]; split <;> rfl

set_option maxHeartbeats 3200000 in
set_option maxRecDepth 100000 in
theorem st_push0 (w : World) (base p k : Nat) (kk nn : Int) (F : Nat → Prop) (cs : List Kp) (c : Kp) (h : St w base F p cs) (hF : ∀ g, F g → g < w.heap.size) (hn : Nd cs k) (hc : cs[k]? = some c) (hl : c.vals.length < 100) (hroom : sW cs cs.length + 1 ≤ 2000) (he : vE cs kk nn = 0) (hkk : I64 kk) (hnn : I64 nn) :
    Calls Try.prog 143 #[.pointer (some ⟨p, 0, none⟩), .int .i64 k, .agg #[.int .i64 kk, .int .i64 nn]] w fun e w' => e = .returned (.tuple #[]) ∧ St w' base (Up F w w') p (pshK cs k (vV kk nn)) ∧ Touch F w w' := by
  obtain ⟨i0, hi, hz0, hz1, hz2⟩ := info_partsH infoU64H
  obtain ⟨N2, hN2⟩ : ∃ x, c.vals.length + 2 = x := ⟨_, rfl⟩
  have H := Lib.hid (And.intro h (And.intro hF (And.intro hn (And.intro hc (And.intro hroom (And.intro he (And.intro hkk hnn))))))); clear h hF hn hc hroom he hkk hnn
  go_enter Try.func143, Try.ntmps143
  go_upto_region 1 with fail
  refine wp_world (fun W => Blk W w.heap.size 23 #[.int .i64 kk, .int .i64 nn] ∧ Below w.heap.size w W ∧ W.heap.size = w.heap.size + 1) ⟨Blk.new _ _ _, (Below.refl _ _).alloc (Nat.le_refl _) _, by simp⟩ ?_
  rintro W ⟨hB, hbW, hsW⟩
  have hS := H.out.1.fresh hbW
  obtain ⟨obs, pl, hso, hr⟩ := hS
  obtain ⟨j, a, b, -, hp, hwt, -, hlg, hlt, -⟩ := hr.head H.out.2.2.2.1 H.out.2.2.1
  have hsm := hr.small
  have hlong := slong_any W base p (st obs j) F obs.flatten pl _ hso hlt (by omega)
  rw [hwt, hlg] at hlong
  obtain ⟨WA, AA, HA, cw, ac, hcc, hSL⟩ := hso
  obtain ⟨ga, rfl, hga1, hga2, q0⟩ := hSL.place hp
  have c1 := hSL.blk.cell 1 (v := .slice (some ⟨ga, 0, none⟩) pl.length ac) rfl
  have k1 : (k : Int) < (pl.length : Int) := by have := (List.getElem?_eq_some_iff.1 hp).1; omega
  have e1 : IntKind.i64.wrap ((c.vals.length : Int) + 2) = (N2 : Int) := by rw [IntWalk.i64_in _ (by omega)]; omega
  have hFW : ∀ g, F g → g < W.heap.size := fun g hg => by have := H.out.2.1 g hg; omega
  obtain ⟨u0, hu0⟩ := (H.out.1.fresh hbW).stu
  have hrm := st_room W base p N2 u0 F cs hu0 hFW (by omega)
  have HW := Lib.hid (And.intro hlong (And.intro hrm (And.intro hB (And.intro hbW hFW)))); clear hlong hrm hB hbW hFW hu0 hSL hp hwt hlg hlt hr hsm
  go_wp2_with fail
  refine HW.out.1.mono ?_
  rintro e w1 ⟨rfl, rfl⟩
  clear c1 q0
  go_wp2_with fail
  refine HW.out.2.1.mono ?_
  rintro e w2 ⟨r, rfl, hR, hT⟩
  have HR := Lib.hid (And.intro hR hT); clear hR hT
  go_upto_if 22 with fail
  go_cut [] from 23 to 28 (fun W2 => Hid (StE W2 base p k (Up F W W2) cs) ∧ Touch F W W2)
  case first =>
    obtain ⟨obs', pl', hs', hr', hr1, hr2, -⟩ := HR.out.1
    have hs2 := HR.out.2.size
    have hF2 : ∀ g, Up F W w2 g → g < w2.heap.size := fun g hg => by
      rcases hg with hg | hg
      · have := HW.out.2.2.2.2 g hg; omega
      · exact hg.2
    cases r with
    | true =>
      have hcall := st_move w2 base p k (Up F W w2) obs' pl' cs c hs' hr' H.out.2.2.1 H.out.2.2.2.1 (by have := hr1 rfl; omega) hF2
      have HC := Lib.hid hcall; clear hcall hs' hr' hr1 hr2 hF2
      go_wp2_with fail
      refine HC.out.mono ?_
      rintro e w3 ⟨rfl, hE, hT3⟩
      have HE := Lib.hid (And.intro hE hT3); clear hE hT3
      have hs3 := HE.out.2.size
      go_wp2_with fail
      go_meet
      exact ⟨by unfold Hid; obtain ⟨A, o, p', e1, e2⟩ := HE.out.1; exact ⟨A, o, p', e1.mono (fun g hg => Up.join hs2 hs3 hg), e2⟩, HR.out.2.join HE.out.2⟩
    | false =>
      have hcall := st_last w2 base p k (Up F W w2) obs' pl' cs c hs' hr' H.out.2.2.1 H.out.2.2.2.1 (by have := hr2 rfl; have := H.out.2.2.2.2.1; omega) hF2
      have HC := Lib.hid hcall; clear hcall hs' hr' hr1 hr2 hF2
      go_wp2_with fail
      refine HC.out.mono ?_
      rintro e w3 ⟨rfl, hE, hT3⟩
      have HE := Lib.hid (And.intro hE hT3); clear hE hT3
      have hs3 := HE.out.2.size
      go_wp2_with fail
      go_meet
      exact ⟨by unfold Hid; obtain ⟨A, o, p', e1, e2⟩ := HE.out.1; exact ⟨A, o, p', e1.mono (fun g hg => Up.join hs2 hs3 hg), e2⟩, HR.out.2.join HE.out.2⟩
  case rest =>
    obtain ⟨hE, hT⟩ := hcut
    obtain ⟨A, o, pl3, hs3, hr3, hp3, hl3⟩ := hE.out
    have hsz3 := hT.size
    have hbx := sboxed_any wc base p kk nn (Up F W wc) (A ++ [o]).flatten pl3 _ (hr3.sx hs3) H.out.2.2.2.2.2.2.1 H.out.2.2.2.2.2.2.2
    have hbE := hr3.bxE kk nn
    rw [H.out.2.2.2.2.2.1] at hbE
    obtain ⟨w1', w2', w3', w4', w5'⟩ := hr3.bxW H.out.2.2.2.2.2.1
    rw [show (bxL pl3 (tl (A ++ [o]).flatten pl3 (cs.map Kp.held)) kk nn).2 = 0 from hbE] at hbx
    obtain ⟨X, hX⟩ : ∃ x, (bxL pl3 (tl (A ++ [o]).flatten pl3 (cs.map Kp.held)) kk nn).1 = x := ⟨_, rfl⟩
    rw [hX] at hbx
    rw [show (bxL pl3 (told (A ++ [o]).flatten (sroots pl3 cs)) kk nn).1 = X from hX] at w1' w2' w3'
    obtain ⟨a3, b3, rfl, ha3, hpush⟩ := hr3.push (v := vV kk nn) H.out.2.2.1 H.out.2.2.2.1 hp3 hl hl3 w1' w2' w3' w4' w5'
    have hV := blk_touchS HW.out.2.2.1 hT (fun h => by have := H.out.2.1 _ h; omega)
    have b0 := hV.cell 0 (v := .int .i64 kk) rfl
    have b1 := hV.cell 1 (v := .int .i64 nn) rfl
    obtain ⟨nW, hnW⟩ : ∃ x, (A ++ [a3 :: b3]).flatten.length = x := ⟨_, rfl⟩
    rw [hnW] at hl3
    have hbp : base ≤ p := by obtain ⟨_, _, _, _, _, _, h⟩ := hs3; exact h.foot.2
    have HC := Lib.hid (And.intro hbx (And.intro hs3 (And.intro hp3 (And.intro w1' (And.intro ha3 (And.intro hpush (And.intro hnW hT))))))); clear hbx hs3 hr3 hp3 w1' w2' w3' w4' w5' ha3 hpush hnW hT hbE hX hE hV HR
    go_wp2_with fail
    refine HC.out.1.mono ?_
    rintro e w4 ⟨rfl, hb4⟩
    have hs4 := hb4.size
    obtain ⟨WA4, AA4, HA4, cw4, ac4, hc4, hS4⟩ := HC.out.2.1.fresh hb4
    have c0 := hS4.blk.cell 0 (v := .slice WA4 (A ++ [a3 :: b3]).flatten.length cw4) rfl
    rw [HC.out.2.2.2.2.2.2.1] at c0
    have hplt := hS4.blk.lt
    have H4 := Lib.hid (And.intro hS4 (Touch.ofBelow (F := Up F W wc) hb4)); clear hS4 hb4 b0 b1
    go_upto_region 7 with (at_builtin; go_must (refine wpList_app (α := U64) (n := nW) (m := 1) (B := w4.heap.size + 1) (r := [⟨X⟩]) rfl (.tmp 39) (.tmp 41) _ rfl base 24 i0 _ 8 Try.underlying39 hi hz0 hz1 hz2 rfl (by decide) u64_oneH (by rfl) HC.out.2.2.2.2.2.2.1 (H4.out.1.words.alloc _) (by rfl) (At.built w4 _ _ [(⟨X⟩ : U64)] rfl (by intro u hu; simp at hu; subst hu; exact HC.out.2.2.2.1)) rfl (by omega) (by simp only [maxLen]; omega) (by simp; omega) ?_); intro A2 c2 w5 ho5 hgr5 hat5; have s5 := hgr5.size; simp only [World.size_alloc] at s5; have hS5 := H4.out.1.fresh ((Below.refl w4.heap.size w4).alloc (Nat.le_refl _) (.cells #[.int .u64 X] 24)); have hp5 := hS5.blk.grown hgr5 (own_ne_ty hS5.words hS5.blk (by decide)); have z5 := hp5.frozen 0; have p5 := hp5.cell 0 (v := .slice WA4 (A ++ [a3 :: b3]).flatten.length cw4) rfl; have HF := Lib.hid (And.intro ho5 (And.intro hgr5 (And.intro hat5 (And.intro hS5 hp5)))); clear ho5 hgr5 hat5 hS5 hp5)
    obtain ⟨nA, hnA⟩ : ∃ x, A.flatten.length = x := ⟨_, rfl⟩
    have hww : ((A ++ [a3 :: b3]).flatten ++ [(⟨X⟩ : U64)])[nA]? = some a3 := by
      rw [List.getElem?_append_left (by rw [← hnA]; simp), List.flatten_append, List.getElem?_append_right (by omega), hnA, Nat.sub_self]; rfl
    refine wp_world (fun V => Hid (SoL V base (Up F W V) p ((A ++ [a3 :: b3]).flatten ++ [⟨X⟩]) pl3 (cs.map Kp.held) A2 AA4 HA4 c2 ac4 hc4) ∧ Touch F W V) ⟨by
      unfold Hid
      refine HF.out.2.2.2.1.app (G := Up F W (w5.setCell ⟨p, 0, none⟩ (.slice A2 (nW + 1) c2))) HF.out.1 HF.out.2.1 (by rw [List.length_append, HC.out.2.2.2.2.2.2.1]; rfl) (fun g hg => Up.more (by simp [World.setCell]; omega) hg) (fun g hg => ?_) (by intro x hx; simp at hx; subst hx; exact HC.out.2.2.2.1)
      rcases HF.out.2.2.1 with e | e
      · exact Up.more (w1 := wc) (by simp [World.setCell]; omega) (H4.out.1.footW g (by rw [← e]; exact hg))
      · rw [hg] at e; injection e with e; simp only [World.size_alloc] at e; exact .inr ⟨by omega, by have := (HF.out.1.lt g hg).2; simp [World.setCell]; omega⟩, ?_⟩ ?_
    · refine HC.out.2.2.2.2.2.2.2.join ?_
      exact ((H4.out.2.alloc _).grown HF.out.2.1 (fun g hg => H4.out.1.footW g hg)).setCell (p := ⟨p, 0, none⟩) H4.out.1.foot.1 _
    rintro V ⟨hSV, hTV⟩
    clear c0 z5 p5
    have hS := hSV.out
    obtain ⟨g, rfl, hg1, hg2, q0⟩ := hS.place HC.out.2.2.1
    rw [hnA] at q0
    obtain ⟨gw, rfl, hgw1, hgw2⟩ := hS.words.some_ (by simp; omega)
    have q1 := hS.words.cell_u64 hww
    have z1 := hS.words.frozen (g := gw) rfl nA
    have c0 := hS.blk.cell 0 (v := .slice (some ⟨gw, 0, none⟩) ((A ++ [a3 :: b3]).flatten ++ [(⟨X⟩ : U64)]).length c2) rfl
    rw [List.length_append, HC.out.2.2.2.2.2.2.1, show [(⟨X⟩ : U64)].length = 1 from rfl] at c0
    have c1 := hS.blk.cell 1 (v := .slice (some ⟨g, 0, none⟩) pl3.length ac4) rfl
    have hnAW : nA < nW := by rw [← HC.out.2.2.2.2.2.2.1, ← hnA]; simp
    have hkl : (k : Int) < (pl3.length : Int) := by have := (List.getElem?_eq_some_iff.1 HC.out.2.2.1).1; omega
    have hnl : (nA : Int) < (nW : Int) + 1 := by omega
    have ha3 := HC.out.2.2.2.2.1
    have ha30 := (hS.okW a3 (List.mem_of_getElem? hww)).1
    have hwr : IntKind.u64.wrap (a3.val + 1) = a3.val + 1 := by rw [IntKind.wrap_u64]; omega
    have hnew := hS.setWord (i := nA) (by rw [List.length_append, HC.out.2.2.2.2.2.2.1]; omega) ⟨a3.val + 1⟩ ⟨by show 0 ≤ a3.val + 1; omega, by show a3.val + 1 ≤ _; omega⟩
    have hset : ((A ++ [a3 :: b3]).flatten ++ [(⟨X⟩ : U64)]).set nA ⟨a3.val + 1⟩ = (A ++ [(⟨a3.val + 1⟩ : U64) :: (b3 ++ [⟨X⟩])]).flatten := by
      rw [← hnA]
      simp
    rw [hset, ← pshK_held (n := k) (v := vV kk nn)] at hnew
    have hsr : Sr (A ++ [(⟨a3.val + 1⟩ : U64) :: (b3 ++ [⟨X⟩])]) pl3 (pshK cs k (vV kk nn)) := by unfold pshK; rw [modify_set _ H.out.2.2.2.1]; exact HC.out.2.2.2.2.2.1
    have hfin : St ((V.setCell ⟨gw, nA, none⟩ (.int .u64 (a3.val + 1)))) base (Up F W V) p (pshK cs k (vV kk nn)) := ⟨_, _, hnew.so, hsr⟩
    have hTn : Touch F W (V.setCell ⟨gw, nA, none⟩ (.int .u64 (a3.val + 1))) := hTV.join ((Touch.refl _ _).setCell (p := ⟨gw, nA, none⟩) (hS.footW gw rfl) _)
    have HN := Lib.hid (And.intro hfin hTn); clear hfin hTn hsr hnew hset hS hSV hww hTV H4 HF HC
    go_still_tail 15, (by kernel_rfl)
    change wpList _ _ _ _ _ (World.drew _)
    go_wp2_with fail
    go_returns
    exact ⟨rfl, (HN.out.1.drewN 1).mono (fun g hg => hg.elim .inl (fun h => .inr ⟨by omega, by simpa [World.setCell] using h.2⟩)), ((Touch.ofBelow HW.out.2.2.2.1).trans HN.out.2).drewN 1⟩
end Sto
end Go.Proofs.Ytpkccpegdpodoaa

/- store.Push, told by the shelf. -/
namespace Go.Proofs.Ytpkccpegdpodoaa
open Go.RowKit Go.Maps

attribute [local go_sem ↓] Go.wp_at_zero Go.wp_at_succ

namespace Sto
open Hau
theorem st_named (w : World) (base p : Nat) (of_ : Int) (F : Nat → Prop) (cs : List Kp) (h : St w base F p cs) :
    Calls Try.prog 140 #[.pointer (some ⟨p, 0, none⟩), .int .i64 of_] w fun e w' => e = .returned (.int .i64 (sNm cs of_)) ∧ Below w.heap.size w w' := by
  obtain ⟨obs, pl, hs, hr⟩ := h
  have hnm := snamed_any w base p of_ F _ _ _ (hr.sx hs)
  rw [show nmE pl (tl obs.flatten pl (cs.map Kp.held)) of_ = sNm cs of_ from hr.named of_] at hnm
  exact hnm
theorem st_needs (w : World) (base p : Nat) (F : Nat → Prop) (cs : List Kp) (h : St w base F p cs) :
    Calls Try.prog 138 #[.pointer (some ⟨p, 0, none⟩)] w fun e w' => e = .returned (.int .i64 (sW cs cs.length : Int)) ∧ Below w.heap.size w w' := by
  obtain ⟨obs, pl, hs, hr⟩ := h
  have hnm := sneeds_any w base p F _ _ _ (hr.sx hs)
  rw [show wdsL obs.flatten (tl obs.flatten pl (cs.map Kp.held)) = sW cs cs.length from hr.words] at hnm
  exact hnm
theorem st_boxed (w : World) (base p : Nat) (kk nn : Int) (F : Nat → Prop) (cs : List Kp) (h : St w base F p cs) (hk : I64 kk) (hn : I64 nn) :
    Calls Try.prog 141 #[.pointer (some ⟨p, 0, none⟩), .agg #[.int .i64 kk, .int .i64 nn]] w fun e w' => ∃ x : Int, e = .returned (.tuple #[.int .u64 x, .int .i64 (vE cs kk nn)]) ∧ Below w.heap.size w w' := by
  obtain ⟨obs, pl, hs, hr⟩ := h
  refine (sboxed_any w base p kk nn F _ _ _ (hr.sx hs) hk hn).mono ?_
  rintro e w' ⟨h1, h2⟩
  rw [show (bxL pl (tl obs.flatten pl (cs.map Kp.held)) kk nn).2 = vE cs kk nn from hr.bxE kk nn] at h1
  exact ⟨_, h1, h2⟩
/-- what is wrong with a push -/
noncomputable def puE (cs : List Kp) (of_ kk nn : Int) : Int := if sNm cs of_ ≠ 0 then sNm cs of_ else if vE cs kk nn ≠ 0 then vE cs kk nn else if 100 ≤ vlenAt cs of_.toNat ∨ 2000 < sW cs cs.length + 1 then 2 else 0
def PuPost (w : World) (base p : Nat) (of_ kk nn : Int) (F : Nat → Prop) (cs : List Kp) (E : Int) (e : Ending) (w' : World) : Prop :=
  e = .returned (.int .i64 E) ∧ St w' base (Up F w w') p (if E = 0 then pshK cs of_.toNat (vV kk nn) else cs) ∧ Touch F w w'

set_option maxHeartbeats 1600000 in
set_option maxRecDepth 100000 in
theorem st_push (w : World) (base p : Nat) (of_ kk nn : Int) (F : Nat → Prop) (cs : List Kp) (h : St w base F p cs) (hF : ∀ g, F g → g < w.heap.size) (hkk : I64 kk) (hnn : I64 nn) :
    Calls Try.prog 64 #[.pointer (some ⟨p, 0, none⟩), .int .i64 of_, .agg #[.int .i64 kk, .int .i64 nn]] w (PuPost w base p of_ kk nn F cs (puE cs of_ kk nn)) := by
  obtain ⟨E, hE⟩ : ∃ E, puE cs of_ kk nn = E := ⟨_, rfl⟩
  rw [hE]
  obtain ⟨P, hP⟩ : ∃ P, PuPost w base p of_ kk nn F cs E = P := ⟨_, rfl⟩
  rw [hP]
  obtain ⟨E1, hE1⟩ : ∃ x, sNm cs of_ = x := ⟨_, rfl⟩
  obtain ⟨E2, hE2⟩ : ∃ x, vE cs kk nn = x := ⟨_, rfl⟩
  have H := Lib.hid (And.intro h (And.intro hF (And.intro hE (And.intro hP (And.intro hE1 (And.intro hE2 (And.intro hkk hnn))))))); clear h hF hE hP hE1 hE2 hkk hnn
  go_enter Try.func64, Try.ntmps64
  go_upto_region 1 with fail
  refine wp_world (fun W => Blk W w.heap.size 23 #[.int .i64 kk, .int .i64 nn] ∧ Below w.heap.size w W ∧ W.heap.size = w.heap.size + 1) ⟨Blk.new _ _ _, (Below.refl _ _).alloc (Nat.le_refl _) _, by simp⟩ ?_
  rintro W ⟨hB, hbW, hsW⟩
  have hnm := st_named W base p of_ F cs (H.out.1.fresh hbW)
  rw [H.out.2.2.2.2.1] at hnm
  have HW := Lib.hid (And.intro hB (And.intro hbW hnm)); clear hB hbW hnm
  go_wp2_with fail
  refine HW.out.2.2.mono ?_
  rintro e w1 ⟨rfl, hb1⟩
  have hs1 := hb1.size
  have hb01 := HW.out.2.1.trans (hb1.mono (by omega))
  have hB1 := HW.out.1.fresh hb1
  by_cases h1 : E1 = 0
  · subst h1
    obtain ⟨k, c, rfl, hc, hn⟩ := sNm_get H.out.2.2.2.2.1
    have hbx := st_boxed w1 base p kk nn F cs (H.out.1.fresh hb01) H.out.2.2.2.2.2.2.1 H.out.2.2.2.2.2.2.2
    rw [H.out.2.2.2.2.2.1] at hbx
    have b0 := hB1.cell 0 (v := .int .i64 kk) rfl
    have b1 := hB1.cell 1 (v := .int .i64 nn) rfl
    have H1 := Lib.hid (And.intro hb01 (And.intro hB1 (And.intro hbx (And.intro hc hn)))); clear hb1 hb01 hB1 hbx hc hn
    go_wp2_with fail
    refine H1.out.2.2.1.mono ?_
    rintro e w2 ⟨x, rfl, hb2⟩
    have hs2 := hb2.size
    have hb02 := H1.out.1.trans (hb2.mono (by omega))
    have hB2 := H1.out.2.1.fresh hb2
    clear b0 b1
    by_cases h2 : E2 = 0
    · subst h2
      have hS2 := H.out.1.fresh hb02
      obtain ⟨obs, pl, hso, hr⟩ := hS2
      obtain ⟨j, a, b, -, hp, hwt, -, hlg, hlt, -⟩ := hr.head H1.out.2.2.2.1 H1.out.2.2.2.2
      have hsm := hr.small
      have hlong := slong_any w2 base p (st obs j) F obs.flatten pl _ hso hlt (by omega)
      rw [hwt, hlg] at hlong
      obtain ⟨WA, AA, HA, cw, ac, hcc, hSL⟩ := hso
      obtain ⟨ga, rfl, hga1, hga2, q0⟩ := hSL.place hp
      have c1 := hSL.blk.cell 1 (v := .slice (some ⟨ga, 0, none⟩) pl.length ac) rfl
      have k1 : (k : Int) < (pl.length : Int) := by have := (List.getElem?_eq_some_iff.1 hp).1; omega
      have hvl : vlenAt cs k = c.vals.length := by unfold vlenAt; rw [H1.out.2.2.2.1]
      obtain ⟨vl, hvlE⟩ : ∃ x, c.vals.length = x := ⟨_, rfl⟩
      rw [hvlE] at hlong hvl
      have hres := H.out.2.2.1
      unfold puE at hres
      rw [H.out.2.2.2.2.1, H.out.2.2.2.2.2.1, if_neg (by simp), if_neg (by simp), Int.toNat_natCast, hvl] at hres
      have hnd := st_needs w2 base p F cs (H.out.1.fresh hb02)
      obtain ⟨S, hSE⟩ : ∃ x, sW cs cs.length = x := ⟨_, rfl⟩
      rw [hSE] at hres hnd
      have hS2000 : S ≤ 2000 := by rw [← hSE]; have := hr.sW_le; omega
      have b0 := hB2.cell 0 (v := .int .i64 kk) rfl
      have b1 := hB2.cell 1 (v := .int .i64 nn) rfl
      have H2 := Lib.hid (And.intro hb02 (And.intro hB2 (And.intro hlong (And.intro hnd (And.intro hres (And.intro hSE hvlE)))))); clear hb02 hB2 hlong hnd hres hSE hSL hp hwt hlg hlt hr hvl hvlE hsm hb2
      by_cases h3 : 100 ≤ vl
      · have d3 : (100 : Int) ≤ (vl : Int) := by omega
        have hEE : E = 2 := by rw [← H2.out.2.2.2.2.1, if_pos (.inl h3)]
        subst hEE
        go_wp2_with fail
        refine H2.out.2.2.1.mono ?_
        rintro e w3 ⟨rfl, rfl⟩
        clear c1 q0
        go_wp2_with fail
        rw [← H.out.2.2.2.1]
        exact ⟨rfl, by rw [if_neg (by decide)]; exact (H.out.1.fresh H2.out.1).mono (fun g hg => .inl hg), Touch.ofBelow H2.out.1⟩
      · have d3 : ¬ (100 : Int) ≤ (vl : Int) := by omega
        have e1 : IntKind.i64.wrap ((S : Int) + 1) = (S : Int) + 1 := IntWalk.i64_in _ (by omega)
        by_cases h4 : 2000 < S + 1
        · have d4 : (2000 : Int) < (S : Int) + 1 := by omega
          have hEE : E = 2 := by rw [← H2.out.2.2.2.2.1, if_pos (.inr h4)]
          subst hEE
          go_wp2_with fail
          refine H2.out.2.2.1.mono ?_
          rintro e w3 ⟨rfl, rfl⟩
          clear c1 q0
          go_wp2_with fail
          refine H2.out.2.2.2.1.mono ?_
          rintro e w3 ⟨rfl, hb3⟩
          have hb03 := H2.out.1.trans (hb3.mono (by omega))
          go_wp2_with fail
          rw [← H.out.2.2.2.1]
          exact ⟨rfl, by rw [if_neg (by decide)]; exact (H.out.1.fresh hb03).mono (fun g hg => .inl hg), Touch.ofBelow hb03⟩
        · have d4 : ¬ (2000 : Int) < (S : Int) + 1 := by omega
          have hEE : E = 0 := by rw [← H2.out.2.2.2.2.1, if_neg (by omega)]
          subst hEE
          go_wp2_with fail
          refine H2.out.2.2.1.mono ?_
          rintro e w3 ⟨rfl, rfl⟩
          clear c1 q0 b0 b1
          go_wp2_with fail
          refine H2.out.2.2.2.1.mono ?_
          rintro e w3 ⟨rfl, hb3⟩
          have hs3 := hb3.size
          have hb03 := H2.out.1.trans (hb3.mono (by omega))
          have hB3 := H2.out.2.1.fresh hb3
          have b0 := hB3.cell 0 (v := .int .i64 kk) rfl
          have b1 := hB3.cell 1 (v := .int .i64 nn) rfl
          have hpu := st_push0 w3 base p k kk nn F cs c (H.out.1.fresh hb03) (fun g hg => by have := H.out.2.1 g hg; omega) H1.out.2.2.2.2 H1.out.2.2.2.1 (by have := H2.out.2.2.2.2.2.2; omega) (by have := H2.out.2.2.2.2.2.1; omega) H.out.2.2.2.2.2.1 H.out.2.2.2.2.2.2.1 H.out.2.2.2.2.2.2.2
          have H3 := Lib.hid (And.intro hpu hb03); clear hpu hb03 hB3 hb3
          go_wp2_with fail
          refine H3.out.1.mono ?_
          rintro e w4 ⟨rfl, hS4, hT4⟩
          have HZ := Lib.hid (And.intro hS4 hT4); clear hS4 hT4
          go_wp2_with fail
          rw [← H.out.2.2.2.1]
          exact ⟨rfl, by rw [if_pos rfl, Int.toNat_natCast]; exact HZ.out.1.mono (fun g hg => hg.elim .inl (fun h => .inr ⟨by have := H3.out.2.size; omega, h.2⟩)), (Touch.ofBelow H3.out.2).trans HZ.out.2⟩
    · have d2 : (E2 != 0) = true := by simpa using h2
      have hres := H.out.2.2.1
      unfold puE at hres
      rw [H.out.2.2.2.2.1, H.out.2.2.2.2.2.1, if_neg (by simp), if_pos h2] at hres
      subst hres
      have H2 := Lib.hid (And.intro hb02 h2); clear hb02 hB2 h2 hb2
      go_wp2_with fail
      rw [← H.out.2.2.2.1]
      exact ⟨rfl, by rw [if_neg H2.out.2]; exact (H.out.1.fresh H2.out.1).mono (fun g hg => .inl hg), Touch.ofBelow H2.out.1⟩
  · have d1 : (E1 != 0) = true := by simpa using h1
    have hres := H.out.2.2.1
    unfold puE at hres
    rw [H.out.2.2.2.2.1, if_pos h1] at hres
    subst hres
    have H2 := Lib.hid (And.intro hb01 h1); clear hb01 hB1 h1 hb1
    go_wp2_with fail
    rw [← H.out.2.2.2.1]
    exact ⟨rfl, by rw [if_neg H2.out.2]; exact (H.out.1.fresh H2.out.1).mono (fun g hg => .inl hg), Touch.ofBelow H2.out.1⟩
end Sto
end Go.Proofs.Ytpkccpegdpodoaa

/- store.Set, told by the shelf. -/
namespace Go.Proofs.Ytpkccpegdpodoaa
open Go.RowKit Go.Maps

attribute [local go_sem ↓] Go.wp_at_zero Go.wp_at_succ

namespace Sto
open Hau
def setK (cs : List Kp) (n i : Nat) (v : Int × Int) : List Kp := cs.modify n fun c => { c with vals := c.vals.set i v }
theorem setK_held {cs : List Kp} {n i : Nat} {v : Int × Int} : (setK cs n i v).map Kp.held = cs.map Kp.held := by
  unfold setK
  apply List.ext_getElem?
  intro i
  rw [List.getElem?_map, List.getElem?_map, List.getElem?_modify]
  cases cs[i]? with
  | none => rfl
  | some c => simp only [Option.map_some, Option.map_eq_map]; split <;> rfl
theorem flatten_set : ∀ (l : List (List U64)) (j i : Nat) (o : List U64) (x : U64), l[j]? = some o → i < o.length → (l.set j (o.set i x)).flatten = l.flatten.set (st l j + i) x
  | [], j, i, o, x, h, _ => by simp at h
  | y :: l, 0, i, o, x, h, hi => by
    simp at h
    subst h
    rw [List.set_cons_zero, List.flatten_cons, List.flatten_cons, show st (y :: l) 0 + i = i by simp [st], List.set_append_left _ _ hi]
  | y :: l, j + 1, i, o, x, h, hi => by
    have ih := flatten_set l j i o x (by simpa using h) hi
    rw [List.set_cons_succ, List.flatten_cons, List.flatten_cons, ih, show st (y :: l) (j + 1) + i = y.length + (st l j + i) by simp [st, Nat.add_assoc], List.set_append_right _ _ (by omega)]
    congr 2
    omega
/-- what is wrong with a set -/
noncomputable def seE (cs : List Kp) (of_ at_ kk nn : Int) : Int := if sNm cs of_ ≠ 0 then sNm cs of_ else if vE cs kk nn ≠ 0 then vE cs kk nn else if at_ < 0 ∨ (vlenAt cs of_.toNat : Int) ≤ at_ then 1 else 0
def SePost (w : World) (base p : Nat) (of_ at_ kk nn : Int) (F : Nat → Prop) (cs : List Kp) (E : Int) (e : Ending) (w' : World) : Prop :=
  e = .returned (.int .i64 E) ∧ St w' base F p (if E = 0 then setK cs of_.toNat at_.toNat (vV kk nn) else cs) ∧ Touch F w w'

set_option maxHeartbeats 1600000 in
set_option maxRecDepth 100000 in
theorem st_set (w : World) (base p : Nat) (of_ at_ kk nn : Int) (F : Nat → Prop) (cs : List Kp) (h : St w base F p cs) (hkk : I64 kk) (hnn : I64 nn) :
    Calls Try.prog 66 #[.pointer (some ⟨p, 0, none⟩), .int .i64 of_, .int .i64 at_, .agg #[.int .i64 kk, .int .i64 nn]] w (SePost w base p of_ at_ kk nn F cs (seE cs of_ at_ kk nn)) := by
  obtain ⟨E, hE⟩ : ∃ E, seE cs of_ at_ kk nn = E := ⟨_, rfl⟩
  rw [hE]
  obtain ⟨P, hP⟩ : ∃ P, SePost w base p of_ at_ kk nn F cs E = P := ⟨_, rfl⟩
  rw [hP]
  obtain ⟨E1, hE1⟩ : ∃ x, sNm cs of_ = x := ⟨_, rfl⟩
  obtain ⟨E2, hE2⟩ : ∃ x, vE cs kk nn = x := ⟨_, rfl⟩
  obtain ⟨obs, pl, hso, hr⟩ := h
  have H := Lib.hid (And.intro hso (And.intro hr (And.intro hE (And.intro hP (And.intro hE1 (And.intro hE2 (And.intro hkk hnn))))))); clear hso hr hE hP hE1 hE2 hkk hnn
  go_enter Try.func66, Try.ntmps66
  go_upto_region 1 with fail
  refine wp_world (fun W => Blk W w.heap.size 23 #[.int .i64 kk, .int .i64 nn] ∧ Below w.heap.size w W ∧ W.heap.size = w.heap.size + 1) ⟨Blk.new _ _ _, (Below.refl _ _).alloc (Nat.le_refl _) _, by simp⟩ ?_
  rintro W ⟨hB, hbW, hsW⟩
  have hnm := st_named W base p of_ F cs ⟨obs, pl, H.out.1.fresh hbW, H.out.2.1⟩
  rw [H.out.2.2.2.2.1] at hnm
  have HW := Lib.hid (And.intro hB (And.intro hbW hnm)); clear hB hbW hnm
  go_wp2_with fail
  refine HW.out.2.2.mono ?_
  rintro e w1 ⟨rfl, hb1⟩
  have hs1 := hb1.size
  have hb01 := HW.out.2.1.trans (hb1.mono (by omega))
  have hB1 := HW.out.1.fresh hb1
  by_cases h1 : E1 = 0
  · subst h1
    obtain ⟨k, c, rfl, hc, hn⟩ := sNm_get H.out.2.2.2.2.1
    have hbx := sboxed_any w1 base p kk nn F _ _ _ (H.out.2.1.sx (H.out.1.fresh hb01)) H.out.2.2.2.2.2.2.1 H.out.2.2.2.2.2.2.2
    rw [show (bxL pl (tl obs.flatten pl (cs.map Kp.held)) kk nn).2 = E2 from (H.out.2.1.bxE kk nn).trans H.out.2.2.2.2.2.1] at hbx
    obtain ⟨X, hX⟩ : ∃ x, (bxL pl (tl obs.flatten pl (cs.map Kp.held)) kk nn).1 = x := ⟨_, rfl⟩
    rw [hX] at hbx
    have b0 := hB1.cell 0 (v := .int .i64 kk) rfl
    have b1 := hB1.cell 1 (v := .int .i64 nn) rfl
    have H1 := Lib.hid (And.intro hb01 (And.intro hX (And.intro hbx (And.intro hc hn)))); clear hb1 hb01 hB1 hbx hc hn hX
    go_wp2_with fail
    refine H1.out.2.2.1.mono ?_
    rintro e w2 ⟨rfl, hb2⟩
    have hs2 := hb2.size
    have hb02 := H1.out.1.trans (hb2.mono (by omega))
    clear b0 b1
    by_cases h2 : E2 = 0
    · subst h2
      obtain ⟨j, a, b, hj, hp, hwt, -, hlg, hlt, hbl⟩ := H.out.2.1.head H1.out.2.2.2.1 H1.out.2.2.2.2
      have hsm := H.out.2.1.small
      have hlong := slong_any w2 base p (st obs j) F obs.flatten pl _ (H.out.1.fresh hb02) hlt (by omega)
      rw [hwt, hlg] at hlong
      obtain ⟨WA, AA, HA, cw, ac, hcc, hSL⟩ := H.out.1.fresh hb02
      obtain ⟨ga, rfl, hga1, hga2, q0⟩ := hSL.place hp
      have c1 := hSL.blk.cell 1 (v := .slice (some ⟨ga, 0, none⟩) pl.length ac) rfl
      have k1 : (k : Int) < (pl.length : Int) := by have := (List.getElem?_eq_some_iff.1 hp).1; omega
      have hvl : vlenAt cs k = c.vals.length := by unfold vlenAt; rw [H1.out.2.2.2.1]
      obtain ⟨vl, hvlE⟩ : ∃ x, c.vals.length = x := ⟨_, rfl⟩
      rw [hvlE] at hlong hvl
      have hres := H.out.2.2.1
      unfold seE at hres
      rw [H.out.2.2.2.2.1, H.out.2.2.2.2.2.1, if_neg (by simp), if_neg (by simp), Int.toNat_natCast, hvl] at hres
      obtain ⟨sj, hsj⟩ : ∃ x, st obs j = x := ⟨_, rfl⟩
      rw [hsj] at hlong q0
      have H2 := Lib.hid (And.intro hb02 (And.intro hlong (And.intro hres (And.intro hvlE (And.intro hSL (And.intro hj (And.intro hp (And.intro hsj hbl)))))))); clear hb02 hlong hres hvlE hSL hp hwt hlg hvl hb2 hj hsj hbl
      by_cases h3 : at_ < 0
      · have d3 : decide (at_ < 0) = true := by simpa using h3
        have hEE : E = 1 := by rw [← H2.out.2.2.1, if_pos (.inl h3)]
        subst hEE
        clear h3
        go_wp2_with fail
        rw [← H.out.2.2.2.1]
        exact ⟨rfl, by rw [if_neg (by decide)]; exact ⟨obs, pl, H.out.1.fresh H2.out.1, H.out.2.1⟩, Touch.ofBelow H2.out.1⟩
      · obtain ⟨i, rfl⟩ : ∃ i : Nat, at_ = (i : Int) := ⟨at_.toNat, by omega⟩
        have d3 : decide ((i : Int) < 0) = false := by simp
        by_cases h4 : vl ≤ i
        · have d4 : (vl : Int) ≤ (i : Int) := by omega
          have hEE : E = 1 := by rw [← H2.out.2.2.1, if_pos (.inr (by omega))]
          subst hEE
          clear h3
          go_wp2_with fail
          refine H2.out.2.1.mono ?_
          rintro e w3 ⟨rfl, rfl⟩
          go_wp2_with fail
          rw [← H.out.2.2.2.1]
          exact ⟨rfl, by rw [if_neg (by decide)]; exact ⟨obs, pl, H.out.1.fresh H2.out.1, H.out.2.1⟩, Touch.ofBelow H2.out.1⟩
        · have d4 : ¬ (vl : Int) ≤ (i : Int) := by omega
          have hEE : E = 0 := by rw [← H2.out.2.2.1, if_neg (by omega)]
          subst hEE
          clear h3
          go_wp2_with fail
          refine H2.out.2.1.mono ?_
          rintro e w3 ⟨rfl, rfl⟩
          obtain ⟨y1, y2, y3, y4, y5⟩ := H.out.2.1.bxW H.out.2.2.2.2.2.1
          rw [show (bxL pl (told obs.flatten (sroots pl cs)) kk nn).1 = X from H1.out.2.1] at y1 y2 y3
          obtain ⟨j2, o2, e1, e2, e3⟩ := H.out.2.1.setv (v := vV kk nn) (i := i) H1.out.2.2.2.2 H1.out.2.2.2.1 (by have := H2.out.2.2.2.1; omega) y1 y2 y3 y4 y5
          have hjj : st obs j2 = sj := by
            have := H2.out.2.2.2.2.2.2.1
            rw [e2] at this
            injection this with this
            have := H2.out.2.2.2.2.2.2.2.1
            omega
          have ho2 : i + 1 < o2.length := by
            have hj2 : j2 < obs.length := (List.getElem?_eq_some_iff.1 e1).1
            have hj1 : j < obs.length := (List.getElem?_eq_some_iff.1 H2.out.2.2.2.2.2.1).1
            have : j2 = j := st_inj H.out.2.1.good hj2 hj1 (by rw [hjj, H2.out.2.2.2.2.2.2.2.1])
            subst this
            rw [H2.out.2.2.2.2.2.1] at e1
            injection e1 with e1
            rw [← e1, List.length_cons, H2.out.2.2.2.2.2.2.2.2, H2.out.2.2.2.1]; omega
          have hfl := flatten_set obs j2 (i + 1) o2 ⟨X⟩ e1 ho2
          rw [hjj] at hfl
          have hin : sj + (i + 1) < obs.flatten.length := by
            have := st_succ e1
            have := st_le (l := obs) (j2 + 1)
            omega
          have hSL := H2.out.2.2.2.2.1
          obtain ⟨gw, rfl, hgw1, hgw2⟩ := hSL.words.some_ (by omega)
          obtain ⟨nW, hnW⟩ : ∃ x, obs.flatten.length = x := ⟨_, rfl⟩
          have c0 := hSL.blk.cell 0 (v := .slice (some ⟨gw, 0, none⟩) obs.flatten.length cw) rfl
          rw [hnW] at c0
          have z0 := hSL.words.frozen (g := gw) rfl (sj + (i + 1))
          obtain ⟨yw, hyw⟩ : ∃ y, obs.flatten[sj + (i + 1)]? = some y := ⟨_, List.getElem?_eq_getElem hin⟩
          have q1 := hSL.words.cell_u64 hyw
          have hnew := hSL.setWord hin ⟨X⟩ y1
          rw [← hfl, ← setK_held (n := k) (i := i) (v := vV kk nn)] at hnew
          have hsr : Sr (obs.set j2 (o2.set (i + 1) ⟨X⟩)) pl (setK cs k i (vV kk nn)) := by unfold setK; rw [modify_set _ H1.out.2.2.2.1]; exact e3
          have hfin : St (w2.setCell ⟨gw, sj + (i + 1), none⟩ (.int .u64 X)) base F p (setK cs k i (vV kk nn)) := ⟨_, _, hnew.so, hsr⟩
          have hTn : Touch F w (w2.setCell ⟨gw, sj + (i + 1), none⟩ (.int .u64 X)) := (Touch.ofBelow H2.out.1).setCell (p := ⟨gw, sj + (i + 1), none⟩) (hSL.footW gw rfl) _
          have w1x : IntKind.i64.wrap ((sj : Int) + 1) = (sj : Int) + 1 := IntWalk.i64_in _ (by omega)
          have w2x : IntKind.i64.wrap ((sj : Int) + 1 + (i : Int)) = ((sj + (i + 1) : Nat) : Int) := by rw [IntWalk.i64_in _ (by omega)]; omega
          obtain ⟨ix, hix⟩ : ∃ x, sj + (i + 1) = x := ⟨_, rfl⟩
          rw [hix] at w2x z0 hfin hTn hin q1
          have hix2 : (ix : Int) < (nW : Int) := by omega
          have HN := Lib.hid (And.intro hfin hTn); clear hfin hTn hsr hnew hfl hSL hyw e1 e2 e3 y1 y2 y3 y4 y5 hjj ho2
          go_upto_region 9 with fail
          go_still_tail 16, (by kernel_rfl)
          change wpList _ _ _ _ _ (World.drew _)
          go_wp2_with fail
          rw [← H.out.2.2.2.1]
          exact ⟨rfl, by rw [if_pos rfl, Int.toNat_natCast, Int.toNat_natCast]; exact HN.out.1.drewN 1, HN.out.2.drewN 1⟩
    · have d2 : (E2 != 0) = true := by simpa using h2
      have hres := H.out.2.2.1
      unfold seE at hres
      rw [H.out.2.2.2.2.1, H.out.2.2.2.2.2.1, if_neg (by simp), if_pos h2] at hres
      subst hres
      have H2 := Lib.hid (And.intro hb02 h2); clear hb02 h2 hb2
      go_wp2_with fail
      rw [← H.out.2.2.2.1]
      exact ⟨rfl, by rw [if_neg H2.out.2]; exact ⟨obs, pl, H.out.1.fresh H2.out.1, H.out.2.1⟩, Touch.ofBelow H2.out.1⟩
  · have d1 : (E1 != 0) = true := by simpa using h1
    have hres := H.out.2.2.1
    unfold seE at hres
    rw [H.out.2.2.2.2.1, if_pos h1] at hres
    subst hres
    have H2 := Lib.hid (And.intro hb01 h1); clear hb01 hB1 h1 hb1
    go_wp2_with fail
    rw [← H.out.2.2.2.1]
    exact ⟨rfl, by rw [if_neg H2.out.2]; exact ⟨obs, pl, H.out.1.fresh H2.out.1, H.out.2.1⟩, Touch.ofBelow H2.out.1⟩
end Sto
end Go.Proofs.Ytpkccpegdpodoaa

/- store.Get, told by the shelf. -/
namespace Go.Proofs.Ytpkccpegdpodoaa
open Go.RowKit Go.Maps

attribute [local go_sem ↓] Go.wp_at_zero Go.wp_at_succ

namespace Sto
open Hau
/-- a value of a cell -/
def valAt (cs : List Kp) (n i : Nat) : Int × Int := match cs[n]? with | some c => c.vals.getD i (0, 0) | none => (0, 0)
/-- what is wrong with a get -/
noncomputable def geE (cs : List Kp) (of_ at_ : Int) : Int := if sNm cs of_ ≠ 0 then sNm cs of_ else if at_ < 0 ∨ (vlenAt cs of_.toNat : Int) ≤ at_ then 1 else 0
noncomputable def geV (cs : List Kp) (of_ at_ : Int) : Int × Int := if geE cs of_ at_ = 0 then valAt cs of_.toNat at_.toNat else (0, 0)
def GePost (w : World) (v : Int × Int) (E : Int) (e : Ending) (w' : World) : Prop := e = .returned (.tuple #[.agg #[.int .i64 v.1, .int .i64 v.2], .int .i64 E]) ∧ Below w.heap.size w w'
/-- the word of a value, read again; its cell, if it is a reference -/
theorem Sr.val {obs : List (List U64)} {pl : List Int} {cs : List Kp} (h : Sr obs pl cs) {k i j : Nat} {c : Kp} {v : Int × Int} (hc : cs[k]? = some c) (hn : Nd cs k) (hv : c.vals[i]? = some v) (hp : pl[k]? = some (st obs j : Int)) (hj : j < obs.length) :
    ∃ (x : U64) (m : Int), obs.flatten[st obs j + (i + 1)]? = some x ∧ unbL x.val = some (v.1, m) ∧ I64 m ∧ (v.1 = 5 → idxS pl m = v.2) ∧ (v.1 ≠ 5 → m = v.2) := by
  obtain ⟨j2, o, e1, e2, a, b, rfl, e3, e4, e5⟩ := h.need k c hn hc
  have hj2 := (List.getElem?_eq_some_iff.1 e1).1
  have : j2 = j := st_inj h.good hj2 hj (by rw [hp] at e2; injection e2 with e2; omega)
  subst this
  have hib : i < b.length := by have := (List.getElem?_eq_some_iff.1 hv).1; omega
  obtain ⟨x, hx⟩ : ∃ x, b[i]? = some x := ⟨_, List.getElem?_eq_getElem hib⟩
  have hfx : obs.flatten[st obs j2 + (i + 1)]? = some x := by
    have := drop_st e1
    rw [← List.getElem?_drop, this, List.getElem?_append_left (by simp; omega), List.getElem?_cons_succ, hx]
  have hI := h.vals c (List.mem_of_getElem? hc) v (List.mem_of_getElem? hv)
  rcases wd_read (e5 i v x hv hx) h.psm with ⟨h5, q, hq, hu⟩ | ⟨h5, hu⟩
  · obtain ⟨n2, hn2, hlt⟩ := hI.2.2 h5
    have hqs := h.psm _ q hq
    refine ⟨x, (q : Int), hfx, by rw [h5]; exact hu, by unfold I64; omega, fun _ => ?_, fun e => absurd h5 e⟩
    rw [hn2, Int.toNat_natCast] at hq
    rw [hn2]
    refine idxS_hit pl n2 q hq ?_
    rw [Bool.eq_false_iff]
    intro hct
    have hmem := List.contains_iff_mem.1 hct
    obtain ⟨m2, hm2⟩ := List.mem_iff_getElem?.1 hmem
    rw [List.getElem?_take] at hm2
    split at hm2
    · rename_i hlt2
      have := h.inj m2 n2 _ hm2 hq (by omega)
      omega
    · cases hm2
  · exact ⟨x, v.2, hfx, by obtain ⟨v1, v2⟩ := v; exact hu, hI.2.1, fun e => absurd e h5, fun _ => rfl⟩

set_option maxHeartbeats 1600000 in
set_option maxRecDepth 100000 in
theorem st_get (w : World) (base p : Nat) (of_ at_ : Int) (F : Nat → Prop) (cs : List Kp) (h : St w base F p cs) :
    Calls Try.prog 68 #[.pointer (some ⟨p, 0, none⟩), .int .i64 of_, .int .i64 at_] w (GePost w (geV cs of_ at_) (geE cs of_ at_)) := by
  obtain ⟨V, hV⟩ : ∃ x, geV cs of_ at_ = x := ⟨_, rfl⟩
  obtain ⟨E, hE⟩ : ∃ E, geE cs of_ at_ = E := ⟨_, rfl⟩
  rw [hE, hV]
  obtain ⟨E1, hE1⟩ : ∃ x, sNm cs of_ = x := ⟨_, rfl⟩
  obtain ⟨obs, pl, hso, hr⟩ := h
  have hvz : E ≠ 0 → V = (0, 0) := fun h => by rw [← hV]; unfold geV; rw [hE, if_neg h]
  have H := Lib.hid (And.intro hso (And.intro hr (And.intro hE (And.intro hV (And.intro hE1 hvz))))); clear hso hr hE hE1 hV hvz
  obtain ⟨v1, v2⟩ := V
  go_enter Try.func68, Try.ntmps68
  go_upto_region 1 with fail
  refine wp_world (fun W => Blk W w.heap.size 23 #[.int .i64 0, .int .i64 0] ∧ Below w.heap.size w W ∧ W.heap.size = w.heap.size + 1) ⟨Blk.new _ _ _, (Below.refl _ _).alloc (Nat.le_refl _) _, by simp⟩ ?_
  rintro W ⟨hB, hbW, hsW⟩
  have hnm := st_named W base p of_ F cs ⟨obs, pl, H.out.1.fresh hbW, H.out.2.1⟩
  rw [H.out.2.2.2.2.1] at hnm
  have HW := Lib.hid (And.intro hB (And.intro hbW hnm)); clear hB hbW hnm
  go_wp2_with fail
  refine HW.out.2.2.mono ?_
  rintro e w1 ⟨rfl, hb1⟩
  have hs1 := hb1.size
  have hb01 := HW.out.2.1.trans (hb1.mono (by omega))
  have hB1 := HW.out.1.fresh hb1
  have hblt := hB1.lt
  have z0 := hB1.frozen 0
  have z1 := hB1.frozen 1
  have y0 := hB1.cell 0 (v := .int .i64 0) rfl
  have y1 := hB1.cell 1 (v := .int .i64 0) rfl
  by_cases h1 : E1 = 0
  · subst h1
    obtain ⟨k, c, rfl, hc, hn⟩ := sNm_get H.out.2.2.2.2.1
    obtain ⟨j, a, b, hj, hp, hwt, -, hlg, hlt, hbl⟩ := H.out.2.1.head hc hn
    have hsm := H.out.2.1.small
    have hlong := slong_any w1 base p (st obs j) F obs.flatten pl _ (H.out.1.fresh hb01) hlt (by omega)
    rw [hwt, hlg] at hlong
    obtain ⟨WA, AA, HA, cw, ac, hcc, hSL⟩ := H.out.1.fresh hb01
    obtain ⟨ga, rfl, hga1, hga2, q0⟩ := hSL.place hp
    have c1 := hSL.blk.cell 1 (v := .slice (some ⟨ga, 0, none⟩) pl.length ac) rfl
    have k1 : (k : Int) < (pl.length : Int) := by have := (List.getElem?_eq_some_iff.1 hp).1; omega
    have hvl : vlenAt cs k = c.vals.length := by unfold vlenAt; rw [hc]
    obtain ⟨vl, hvlE⟩ : ∃ x, c.vals.length = x := ⟨_, rfl⟩
    rw [hvlE] at hlong hvl
    have hres := H.out.2.2.1
    unfold geE at hres
    rw [H.out.2.2.2.2.1, if_neg (by simp), Int.toNat_natCast, hvl] at hres
    obtain ⟨sj, hsj⟩ : ∃ x, st obs j = x := ⟨_, rfl⟩
    rw [hsj] at hlong q0
    have H2 := Lib.hid (And.intro hb01 (And.intro hlong (And.intro hres (And.intro hvlE (And.intro hSL (And.intro hj (And.intro hp (And.intro hsj (And.intro hc (And.intro hn hB1)))))))))); clear hb01 hlong hres hvlE hSL hp hwt hlg hvl hb1 hj hsj hbl hc hn hB1
    by_cases h3 : at_ < 0
    · have d3 : decide (at_ < 0) = true := by simpa using h3
      have hEE : E = 1 := by rw [← H2.out.2.2.1, if_pos (.inl h3)]
      subst hEE
      have := H.out.2.2.2.2.2 (by decide)
      injection this with hv1 hv2
      subst hv1 hv2
      clear h3
      go_wp2_with fail
      refine bodyPost_ret (results_cell_tmp rfl _ _ w.heap.size _ _ _ rfl ((H2.out.2.2.2.2.2.2.2.2.2.2.set_ 0 _).set_ 1 _) Try.underlying23 rfl (by kernel_rfl)) rfl ?_
      exact ⟨rfl, (H2.out.1.setCell (by simp) _).setCell (by simp) _⟩
    · obtain ⟨i, rfl⟩ : ∃ i : Nat, at_ = (i : Int) := ⟨at_.toNat, by omega⟩
      have d3 : decide ((i : Int) < 0) = false := by simp
      by_cases h4 : vl ≤ i
      · have d4 : (vl : Int) ≤ (i : Int) := by omega
        have hEE : E = 1 := by rw [← H2.out.2.2.1, if_pos (.inr (by omega))]
        subst hEE
        have := H.out.2.2.2.2.2 (by decide)
        injection this with hv1 hv2
        subst hv1 hv2
        clear h3
        go_wp2_with fail
        refine H2.out.2.1.mono ?_
        rintro e w3 ⟨rfl, rfl⟩
        go_wp2_with fail
        refine bodyPost_ret (results_cell_tmp rfl _ _ w.heap.size _ _ _ rfl ((H2.out.2.2.2.2.2.2.2.2.2.2.set_ 0 _).set_ 1 _) Try.underlying23 rfl (by kernel_rfl)) rfl ?_
        exact ⟨rfl, (H2.out.1.setCell (by simp) _).setCell (by simp) _⟩
      · have d4 : ¬ (vl : Int) ≤ (i : Int) := by omega
        have hEE : E = 0 := by rw [← H2.out.2.2.1, if_neg (by omega)]
        subst hEE
        clear h3
        obtain ⟨v, hv⟩ : ∃ v, c.vals[i]? = some v := ⟨_, List.getElem?_eq_getElem (by have := H2.out.2.2.2.1; omega)⟩
        have hvv : v = (v1, v2) := by
          have hh := H.out.2.2.2.1
          unfold geV at hh
          rw [H.out.2.2.1, if_pos rfl, Int.toNat_natCast, Int.toNat_natCast] at hh
          unfold valAt at hh
          rw [H2.out.2.2.2.2.2.2.2.2.1] at hh
          simp only [List.getD_eq_getElem?_getD, hv, Option.getD_some] at hh
          exact hh
        subst hvv
        obtain ⟨x, m, hx, hu, hmI, hm5, hmn⟩ := H.out.2.1.val H2.out.2.2.2.2.2.2.2.2.1 H2.out.2.2.2.2.2.2.2.2.2.1 hv H2.out.2.2.2.2.2.2.1 (List.getElem?_eq_some_iff.1 H2.out.2.2.2.2.2.1).1
        rw [H2.out.2.2.2.2.2.2.2.1] at hx
        simp only at hu hm5 hmn
        have hSL := H2.out.2.2.2.2.1
        have hin : sj + (i + 1) < obs.flatten.length := (List.getElem?_eq_some_iff.1 hx).1
        obtain ⟨gw, rfl, hgw1, hgw2⟩ := hSL.words.some_ (by omega)
        obtain ⟨nW, hnW⟩ : ∃ x, obs.flatten.length = x := ⟨_, rfl⟩
        have c0 := hSL.blk.cell 0 (v := .slice (some ⟨gw, 0, none⟩) obs.flatten.length cw) rfl
        rw [hnW] at c0 hin
        have q1 := hSL.words.cell_u64 hx
        have hxr := hSL.okW x (List.mem_of_getElem? hx)
        have w1x : IntKind.i64.wrap ((sj : Int) + 1) = (sj : Int) + 1 := IntWalk.i64_in _ (by omega)
        have w2x : IntKind.i64.wrap ((sj : Int) + 1 + (i : Int)) = ((sj + (i + 1) : Nat) : Int) := by rw [IntWalk.i64_in _ (by omega)]; omega
        obtain ⟨ix, hix⟩ : ∃ x, sj + (i + 1) = x := ⟨_, rfl⟩
        rw [hix] at w2x hin q1
        have hix2 : (ix : Int) < (nW : Int) := by omega
        have hub : ∀ U : World, Calls Try.prog 16 #[.int .u64 x.val] U fun e w' => e = .returned (.tuple #[.agg #[.int .i64 v1, .int .i64 m], .int .i64 0]) ∧ Below U.heap.size U w' := fun U => by
          refine (unbox_any x.val U hxr).mono ?_
          rintro e w' ⟨hb, (⟨k2, n2, e1, e2⟩ | ⟨e1, -⟩)⟩
          · rw [hu] at e1; injection e1 with e1; injection e1 with e3 e4; subst e3 e4; exact ⟨e2, hb⟩
          · rw [hu] at e1; cases e1
        have HN := Lib.hid (And.intro hub (And.intro hm5 (And.intro hmn hSL))); clear hub hm5 hmn hSL hx hu hnW hv hxr
        go_wp2_with fail
        refine H2.out.2.1.mono ?_
        rintro e w3 ⟨rfl, rfl⟩
        go_upto_region 6 with fail
        go_cut [9, 10] from 34 to 53 (fun v9 v10 W2 => ∃ g : Nat, v9 = .pointer (some ⟨g, 0, none⟩) ∧ v10 = .int .i64 0 ∧ Hid (Blk W2 g 23 #[.int .i64 v1, .int .i64 m] ∧ w1.heap.size ≤ g) ∧ Below w1.heap.size w1 W2)
        case first =>
          clear z0 z1 y0 y1
          have BX : Below w1.heap.size w1 w1.drew := (Below.refl _ _).drew
          refine wp_region_held_drew (S := (fun w' => w'.cell? ⟨p, 0, none⟩ = some (.slice (some ⟨gw, 0, none⟩) nW cw) ∧ w'.cell? ⟨p, 1, none⟩ = some (.slice (some ⟨ga, 0, none⟩) pl.length ac) ∧ w'.cell? ⟨ga, k, none⟩ = some (.int .i64 (sj : Int)) ∧ w'.cell? ⟨gw, ix, none⟩ = some (.int .u64 x.val))) (by kernel_rfl) ?_ (fun hHeld0 => ?_)
          · first | trivial | ((try dsimp only); (exact ⟨c0, c1, q0, q1⟩))
          refine held_take (v := ?_) 0 rfl (by kernel_rfl) (by kernel_rfl) (by kernel_rfl) (fun _ _ _ h => h) (by rfl) ?_ (by assumption) ?_
          rotate_left
          · (intro w hSw; (try dsimp only at hSw); go_simp; try with_reducible rfl)
          try simp only [Act.put, List.setIfInBounds_toArray, List.set_cons_zero, List.set_cons_succ]
          refine held_take (v := ?_) 1 rfl (by kernel_rfl) (by kernel_rfl) (by kernel_rfl) (fun _ _ _ h => h) (by rfl) ?_ (by assumption) ?_
          rotate_left
          · (intro w hSw; (try dsimp only at hSw); go_simp; try with_reducible rfl)
          try simp only [Act.put, List.setIfInBounds_toArray, List.set_cons_zero, List.set_cons_succ]
          refine held_take (v := ?_) 2 rfl (by kernel_rfl) (by kernel_rfl) (by kernel_rfl) (fun _ _ _ h => h) (by rfl) ?_ (by assumption) ?_
          rotate_left
          · (intro w hSw; (try dsimp only at hSw); go_simp; try with_reducible rfl)
          try simp only [Act.put, List.setIfInBounds_toArray, List.set_cons_zero, List.set_cons_succ]
          refine held_take (v := ?_) 3 rfl (by kernel_rfl) (by kernel_rfl) (by kernel_rfl) (fun _ _ _ h => h) (by rfl) ?_ (by assumption) ?_
          rotate_left
          · (intro w hSw; (try dsimp only at hSw); go_simp; try with_reducible rfl)
          try simp only [Act.put, List.setIfInBounds_toArray, List.set_cons_zero, List.set_cons_succ]
          refine held_take (v := ?_) 4 rfl (by kernel_rfl) (by kernel_rfl) (by kernel_rfl) (fun _ _ _ h => h) (by rfl) ?_ (by assumption) ?_
          rotate_left
          · (intro w hSw; (try dsimp only at hSw); go_simp; try with_reducible rfl)
          try simp only [Act.put, List.setIfInBounds_toArray, List.set_cons_zero, List.set_cons_succ]
          refine held_take (v := ?_) 5 rfl (by kernel_rfl) (by kernel_rfl) (by kernel_rfl) (fun _ _ _ h => h) (by rfl) ?_ (by assumption) ?_
          rotate_left
          · (intro w hSw; (try dsimp only at hSw); go_simp; try with_reducible rfl)
          try simp only [Act.put, List.setIfInBounds_toArray, List.set_cons_zero, List.set_cons_succ]
          refine held_take (v := ?_) 6 rfl (by kernel_rfl) (by kernel_rfl) (by kernel_rfl) (fun _ _ _ h => h) (by rfl) ?_ (by assumption) ?_
          rotate_left
          · (intro w hSw; (try dsimp only at hSw); go_simp; try with_reducible rfl)
          try simp only [Act.put, List.setIfInBounds_toArray, List.set_cons_zero, List.set_cons_succ]
          refine held_take (v := ?_) 7 rfl (by kernel_rfl) (by kernel_rfl) (by kernel_rfl) (fun _ _ _ h => h) (by rfl) ?_ (by assumption) ?_
          rotate_left
          · (intro w hSw; (try dsimp only at hSw); go_simp; try with_reducible rfl)
          try simp only [Act.put, List.setIfInBounds_toArray, List.set_cons_zero, List.set_cons_succ]
          refine held_take (v := ?_) 8 rfl (by kernel_rfl) (by kernel_rfl) (by kernel_rfl) (fun _ _ _ h => h) (by rfl) ?_ (by assumption) ?_
          rotate_left
          · (intro w hSw; (try dsimp only at hSw); go_simp; try with_reducible rfl)
          try simp only [Act.put, List.setIfInBounds_toArray, List.set_cons_zero, List.set_cons_succ]
          refine held_take (v := ?_) 9 rfl (by kernel_rfl) (by kernel_rfl) (by kernel_rfl) (fun _ _ _ h => h) (by rfl) ?_ (by assumption) ?_
          rotate_left
          · (intro w hSw; (try dsimp only at hSw); go_simp; try with_reducible rfl)
          try simp only [Act.put, List.setIfInBounds_toArray, List.set_cons_zero, List.set_cons_succ]
          refine held_take (v := ?_) 10 rfl (by kernel_rfl) (by kernel_rfl) (by kernel_rfl) (fun _ _ _ h => h) (by rfl) ?_ (by assumption) ?_
          rotate_left
          · (intro w hSw; (try dsimp only at hSw); go_simp; try with_reducible rfl)
          try simp only [Act.put, List.setIfInBounds_toArray, List.set_cons_zero, List.set_cons_succ]
          refine held_take (v := ?_) 11 rfl (by kernel_rfl) (by kernel_rfl) (by kernel_rfl) (fun _ _ _ h => h) (by rfl) ?_ (by assumption) ?_
          rotate_left
          · (intro w hSw; (try dsimp only at hSw); go_simp; try with_reducible rfl)
          try simp only [Act.put, List.setIfInBounds_toArray, List.set_cons_zero, List.set_cons_succ]
          refine held_take (v := ?_) 12 rfl (by kernel_rfl) (by kernel_rfl) (by kernel_rfl) (fun _ _ _ h => h) (by rfl) ?_ (by assumption) ?_
          rotate_left
          · (intro w hSw; (try dsimp only at hSw); go_simp; try with_reducible rfl)
          try simp only [Act.put, List.setIfInBounds_toArray, List.set_cons_zero, List.set_cons_succ]
          refine held_take (v := ?_) 13 rfl (by kernel_rfl) (by kernel_rfl) (by kernel_rfl) (fun _ _ _ h => h) (by rfl) ?_ (by assumption) ?_
          rotate_left
          · (intro w hSw; (try dsimp only at hSw); go_simp; try with_reducible rfl)
          try simp only [Act.put, List.setIfInBounds_toArray, List.set_cons_zero, List.set_cons_succ]
          refine held_take (v := ?_) 14 rfl (by kernel_rfl) (by kernel_rfl) (by kernel_rfl) (fun _ _ _ h => h) (by rfl) ?_ (by assumption) ?_
          rotate_left
          · (intro w hSw; (try dsimp only at hSw); go_simp; try with_reducible rfl)
          try simp only [Act.put, List.setIfInBounds_toArray, List.set_cons_zero, List.set_cons_succ]
          refine held_take (v := ?_) 15 rfl (by kernel_rfl) (by kernel_rfl) (by kernel_rfl) (fun _ _ _ h => h) (by rfl) ?_ (by assumption) ?_
          rotate_left
          · (intro w hSw; (try dsimp only at hSw); go_simp; try with_reducible rfl)
          try simp only [Act.put, List.setIfInBounds_toArray, List.set_cons_zero, List.set_cons_succ]
          refine held_call2 16 20 (by kernel_rfl) rfl rfl (fun K hK => ?_) (fun K hK => ?_)
          · go_simp
            refine (HN.out.1 _).mono ?_; rintro e wA ⟨rfl, hbA⟩; have BY := BX.trans (hbA.mono BX.size)
            try (go_wp2_with fail)
            refine hK.out _ _ ?_ (fun hHeld1 => ?_)
            · first | trivial | ((try dsimp only); (exact ⟨(BY.cell (p := ⟨p, 0, none⟩) HN.out.2.2.2.blk.lt).trans c0, (BY.cell (p := ⟨p, 1, none⟩) HN.out.2.2.2.blk.lt).trans c1, (BY.cell (p := ⟨ga, k, none⟩) hga2).trans q0, (BY.cell (p := ⟨gw, ix, none⟩) hgw2).trans q1⟩))
            clear hK K hHeld0
            try simp only [Act.put, List.setIfInBounds_toArray, List.set_cons_zero, List.set_cons_succ]
            refine held_take (v := ?_) 17 rfl (by kernel_rfl) (by kernel_rfl) (by kernel_rfl) (fun _ _ _ h => h) (by rfl) ?_ (by assumption) ?_
            rotate_left
            · (intro w hSw; (try dsimp only at hSw); go_simp; try with_reducible rfl)
            try simp only [Act.put, List.setIfInBounds_toArray, List.set_cons_zero, List.set_cons_succ]
            refine held_take (v := ?_) 18 rfl (by kernel_rfl) (by kernel_rfl) (by kernel_rfl) (fun _ _ _ h => h) (by rfl) ?_ (by assumption) ?_
            rotate_left
            · (intro w hSw; (try dsimp only at hSw); go_simp; try with_reducible rfl)
            try simp only [Act.put, List.setIfInBounds_toArray, List.set_cons_zero, List.set_cons_succ]
            refine held_take (v := ?_) 19 rfl (by kernel_rfl) (by kernel_rfl) (by kernel_rfl) (fun _ _ _ h => h) (by rfl) ?_ (by assumption) ?_
            rotate_left
            · (intro w hSw; (try dsimp only at hSw); go_simp; try with_reducible rfl)
            try simp only [Act.put, List.setIfInBounds_toArray, List.set_cons_zero, List.set_cons_succ]
            refine held_call 20 (by kernel_rfl) rfl (fun K hK => ?_)
            go_simp
            refine hK.out _ _ ?_ (fun hHeld2 => ?_)
            · first | trivial | ((try dsimp only); (exact ⟨((BY.alloc BY.size _).cell (p := ⟨p, 0, none⟩) HN.out.2.2.2.blk.lt).trans c0, ((BY.alloc BY.size _).cell (p := ⟨p, 1, none⟩) HN.out.2.2.2.blk.lt).trans c1, ((BY.alloc BY.size _).cell (p := ⟨ga, k, none⟩) hga2).trans q0, ((BY.alloc BY.size _).cell (p := ⟨gw, ix, none⟩) hgw2).trans q1⟩))
            clear hK K hHeld1
            try simp only [Act.put, List.setIfInBounds_toArray, List.set_cons_zero, List.set_cons_succ]
            refine held_call 21 (by kernel_rfl) rfl (fun K hK => ?_)
            go_simp
            refine hK.out _ _ ?_ (fun hHeld3 => ?_)
            · first | trivial | ((try dsimp only); (exact ⟨((BY.alloc BY.size _).cell (p := ⟨p, 0, none⟩) HN.out.2.2.2.blk.lt).trans c0, ((BY.alloc BY.size _).cell (p := ⟨p, 1, none⟩) HN.out.2.2.2.blk.lt).trans c1, ((BY.alloc BY.size _).cell (p := ⟨ga, k, none⟩) hga2).trans q0, ((BY.alloc BY.size _).cell (p := ⟨gw, ix, none⟩) hgw2).trans q1⟩))
            clear hK K hHeld2
            try simp only [Act.put, List.setIfInBounds_toArray, List.set_cons_zero, List.set_cons_succ]
            refine held_take (v := ?_) 22 rfl (by kernel_rfl) (by kernel_rfl) (by kernel_rfl) (fun _ _ _ h => h) (by rfl) ?_ (by assumption) ?_
            rotate_left
            · (intro w hSw; (try dsimp only at hSw); go_simp; try with_reducible rfl)
            try simp only [Act.put, List.setIfInBounds_toArray, List.set_cons_zero, List.set_cons_succ]
            refine wpAnyH_done (by kernel_rfl) ?_ _
            go_wp2_with fail
            go_meet
            exact ⟨_, rfl, rfl, ⟨Blk.new _ _ _, BY.size⟩, BY.alloc BY.size _⟩
          · go_simp
            refine hK.out _ _ ?_ (fun hHeld1 => ?_)
            · first | trivial | ((try dsimp only); (exact ⟨((BX.alloc BX.size _).cell (p := ⟨p, 0, none⟩) HN.out.2.2.2.blk.lt).trans c0, ((BX.alloc BX.size _).cell (p := ⟨p, 1, none⟩) HN.out.2.2.2.blk.lt).trans c1, ((BX.alloc BX.size _).cell (p := ⟨ga, k, none⟩) hga2).trans q0, ((BX.alloc BX.size _).cell (p := ⟨gw, ix, none⟩) hgw2).trans q1⟩))
            clear hK K hHeld0
            try simp only [Act.put, List.setIfInBounds_toArray, List.set_cons_zero, List.set_cons_succ]
            refine held_call 16 (by kernel_rfl) rfl (fun K hK => ?_)
            go_simp
            refine (HN.out.1 _).mono ?_; rintro e wA ⟨rfl, hbA⟩; have BY := (BX.alloc BX.size _).trans (hbA.mono (BX.alloc BX.size _).size); have nB := (Blk.new w1.drew 23 #[.int .i64 0, .int .i64 0]).fresh hbA; have n0 := nB.cell 0 (v := .int .i64 0) rfl; have n1 := nB.cell 1 (v := .int .i64 0) rfl; have zn0 := nB.frozen 0; have zn1 := nB.frozen 1; simp only [World.size_drew] at n0 n1 zn0 zn1
            try (go_wp2_with fail)
            refine hK.out _ _ ?_ (fun hHeld2 => ?_)
            · first | trivial | ((try dsimp only); (exact ⟨(BY.cell (p := ⟨p, 0, none⟩) HN.out.2.2.2.blk.lt).trans c0, (BY.cell (p := ⟨p, 1, none⟩) HN.out.2.2.2.blk.lt).trans c1, (BY.cell (p := ⟨ga, k, none⟩) hga2).trans q0, (BY.cell (p := ⟨gw, ix, none⟩) hgw2).trans q1⟩))
            clear hK K hHeld1
            try simp only [Act.put, List.setIfInBounds_toArray, List.set_cons_zero, List.set_cons_succ]
            refine held_take (v := ?_) 17 rfl (by kernel_rfl) (by kernel_rfl) (by kernel_rfl) (fun _ _ _ h => h) (by rfl) ?_ (by assumption) ?_
            rotate_left
            · (intro w hSw; (try dsimp only at hSw); go_simp; try with_reducible rfl)
            try simp only [Act.put, List.setIfInBounds_toArray, List.set_cons_zero, List.set_cons_succ]
            refine held_take (v := ?_) 18 rfl (by kernel_rfl) (by kernel_rfl) (by kernel_rfl) (fun _ _ _ h => h) (by rfl) ?_ (by assumption) ?_
            rotate_left
            · (intro w hSw; (try dsimp only at hSw); go_simp; try with_reducible rfl)
            try simp only [Act.put, List.setIfInBounds_toArray, List.set_cons_zero, List.set_cons_succ]
            refine held_take (v := ?_) 19 rfl (by kernel_rfl) (by kernel_rfl) (by kernel_rfl) (fun _ _ _ h => h) (by rfl) ?_ (by assumption) ?_
            rotate_left
            · (intro w hSw; (try dsimp only at hSw); go_simp; try with_reducible rfl)
            try simp only [Act.put, List.setIfInBounds_toArray, List.set_cons_zero, List.set_cons_succ]
            refine held_call 21 (by kernel_rfl) rfl (fun K hK => ?_)
            go_simp
            refine hK.out _ _ ?_ (fun hHeld3 => ?_)
            · first | trivial | ((try dsimp only); (exact ⟨(((BY.setCell (show w1.heap.size ≤ _ from Nat.le_refl _) _).setCell (show w1.heap.size ≤ _ from Nat.le_refl _) _).cell (p := ⟨p, 0, none⟩) HN.out.2.2.2.blk.lt).trans c0, (((BY.setCell (show w1.heap.size ≤ _ from Nat.le_refl _) _).setCell (show w1.heap.size ≤ _ from Nat.le_refl _) _).cell (p := ⟨p, 1, none⟩) HN.out.2.2.2.blk.lt).trans c1, (((BY.setCell (show w1.heap.size ≤ _ from Nat.le_refl _) _).setCell (show w1.heap.size ≤ _ from Nat.le_refl _) _).cell (p := ⟨ga, k, none⟩) hga2).trans q0, (((BY.setCell (show w1.heap.size ≤ _ from Nat.le_refl _) _).setCell (show w1.heap.size ≤ _ from Nat.le_refl _) _).cell (p := ⟨gw, ix, none⟩) hgw2).trans q1⟩))
            clear hK K hHeld2
            try simp only [Act.put, List.setIfInBounds_toArray, List.set_cons_zero, List.set_cons_succ]
            refine held_take (v := ?_) 22 rfl (by kernel_rfl) (by kernel_rfl) (by kernel_rfl) (fun _ _ _ h => h) (by rfl) ?_ (by assumption) ?_
            rotate_left
            · (intro w hSw; (try dsimp only at hSw); go_simp; try with_reducible rfl)
            try simp only [Act.put, List.setIfInBounds_toArray, List.set_cons_zero, List.set_cons_succ]
            refine wpAnyH_done (by kernel_rfl) ?_ _
            go_wp2_with fail
            go_meet
            exact ⟨_, rfl, rfl, ⟨(nB.set_ 0 (.int .i64 v1)).set_ 1 (.int .i64 m), Nat.le_refl _⟩, (BY.setCell (show w1.heap.size ≤ _ from Nat.le_refl _) _).setCell (show w1.heap.size ≤ _ from Nat.le_refl _) _⟩
        case rest =>
          obtain ⟨g, rfl, rfl, hgB, hbc⟩ := hcut
          have hsc := hbc.size
          have hgne : w.heap.size ≠ g := by have := hgB.out.2; omega
          clear y0 y1 z0 z1 c0 c1 q0 q1
          have hRB := H2.out.2.2.2.2.2.2.2.2.2.2.fresh hbc
          have hbwc : Below w.heap.size w wc := H2.out.1.trans (hbc.mono (by omega))
          have hG := hgB.out.1
          have b0 := hG.cell 0 (v := .int .i64 v1) rfl
          have b1 := hG.cell 1 (v := .int .i64 m) rfl
          have y0 := hRB.cell 0 (v := .int .i64 0) rfl
          have y1 := hRB.cell 1 (v := .int .i64 0) rfl
          have z0 := hRB.frozen 0
          have z1 := hRB.frozen 1
          have zg := hG.frozen 1
          have hgw : w.heap.size ≤ g := by have := hgB.out.2; omega
          by_cases h5 : v1 = 5
          · subst h5
            have hce := scell_any wc base p m F obs.flatten pl _ (HN.out.2.2.2.fresh hbc).so (by have := H.out.2.1.len; have := H.out.2.1.many; omega)
            rw [HN.out.2.1 rfl] at hce
            have HC := Lib.hid (And.intro hce (And.intro hRB (And.intro hbwc hG))); clear hce hRB hbwc hG
            go_wp2_with fail
            refine HC.out.1.mono ?_
            rintro e w4 ⟨rfl, rfl⟩
            go_wp2_with fail
            refine bodyPost_ret (results_cell_tmp rfl _ _ w.heap.size _ _ _ rfl (((HC.out.2.1.far (p := ⟨g, 1, none⟩) hgne _).set_ 0 (.int .i64 5)).set_ 1 (.int .i64 v2)) Try.underlying23 rfl (by kernel_rfl)) rfl ?_
            exact ⟨rfl, ((HC.out.2.2.1.setCell (by simpa using hgw) _).setCell (by simp) _).setCell (by simp) _⟩
          · have d5 : (v1 == 5) = false := by simpa using h5
            have hmv := HN.out.2.2.1 h5
            subst hmv
            have HC := Lib.hid (And.intro hRB hbwc); clear hRB hbwc hG h5
            go_wp2_with fail
            refine bodyPost_ret (results_cell_tmp rfl _ _ w.heap.size _ _ _ rfl ((HC.out.1.set_ 0 (.int .i64 v1)).set_ 1 (.int .i64 m)) Try.underlying23 rfl (by kernel_rfl)) rfl ?_
            exact ⟨rfl, (HC.out.2.setCell (by simp) _).setCell (by simp) _⟩
  · have d1 : (E1 != 0) = true := by simpa using h1
    have hres := H.out.2.2.1
    unfold geE at hres
    rw [H.out.2.2.2.2.1, if_pos h1] at hres
    subst hres
    have := H.out.2.2.2.2.2 h1
    injection this with hv1 hv2
    subst hv1 hv2
    have H2 := Lib.hid (And.intro hb01 (And.intro h1 hB1)); clear hb01 hB1 h1 hb1
    go_wp2_with fail
    refine bodyPost_ret (results_cell_tmp rfl _ _ w.heap.size _ _ _ rfl ((H2.out.2.2.set_ 0 _).set_ 1 _) Try.underlying23 rfl (by kernel_rfl)) rfl ?_
    exact ⟨rfl, (H2.out.1.setCell (by simp) _).setCell (by simp) _⟩
end Sto
end Go.Proofs.Ytpkccpegdpodoaa

/- The law's shelf: a value that is handed in; Hold; Get. -/
namespace Go.Proofs.Ytpkccpegdpodoaa
open Go.RowKit

attribute [local go_sem ↓] Go.wp_at_zero Go.wp_at_succ

namespace Sto
/-- the value that a shelf tells of one handed in -/
noncomputable def vR (cs : List Kp) (k n : Int) : Int × Int := if vE cs k n = 0 then vV k n else (0, 0)
def VaPost (w : World) (v : Int × Int) (E : Int) (e : Ending) (w' : World) : Prop := e = .returned (.tuple #[.agg #[.int .i64 v.1, .int .i64 v.2], .int .i64 E]) ∧ Below w.heap.size w w'

theorem runbox_of {x k n : Int} (w : World) (hx : 0 ≤ x ∧ x ≤ 18446744073709551615) (h : unbL x = some (k, n)) : Calls Try.prog 17 #[.int .u64 x] w fun e w' => e = .returned (.tuple #[.agg #[.int .i64 k, .int .i64 n], .bool true]) ∧ Below w.heap.size w w' := by
  refine (runbox_any x w hx).mono ?_
  rintro e w' ⟨hb, (⟨k2, n2, e1, e2⟩ | ⟨e1, -⟩)⟩
  · rw [h] at e1; injection e1 with e1; injection e1 with e3 e4; subst e3 e4; exact ⟨e2, hb⟩
  · rw [h] at e1; cases e1

set_option maxHeartbeats 1600000 in
set_option maxRecDepth 100000 in
theorem sh_valued (w : World) (base q : Nat) (kk nn : Int) (G : Nat → Prop) (cs : List Kp) (h : Shf w base G q cs) (hk : Kok cs) (hkk : I64 kk) (hnn : I64 nn) :
    Calls Try.prog 144 #[.pointer (some ⟨q, 0, none⟩), .agg #[.int .i64 kk, .int .i64 nn]] w (VaPost w (vR cs kk nn) (vE cs kk nn)) := by
  obtain ⟨E, hE⟩ : ∃ x, vE cs kk nn = x := ⟨_, rfl⟩
  obtain ⟨V, hV⟩ : ∃ x, vR cs kk nn = x := ⟨_, rfl⟩
  rw [hE, hV]
  have hvz : E ≠ 0 → V = (0, 0) := fun h => by rw [← hV]; unfold vR; rw [hE, if_neg h]
  have hvv : E = 0 → V = vV kk nn := fun h => by rw [← hV]; unfold vR; rw [hE, if_pos h]
  obtain ⟨x1, hx1⟩ : ∃ x, (boxL kk nn).1 = x := ⟨_, rfl⟩
  obtain ⟨e1, he1⟩ : ∃ x, (boxL kk nn).2 = x := ⟨_, rfl⟩
  have hxr := boxL_rangeS kk nn
  rw [hx1] at hxr
  unfold vE at hE
  rw [he1] at hE
  have hbox := fun U => rbox_any kk nn U hkk hnn
  have H := Lib.hid (And.intro h (And.intro hk (And.intro hE (And.intro hvz (And.intro hvv (And.intro hbox (And.intro hx1 he1))))))); clear h hk hE hvz hvv hbox hx1 he1 hV
  obtain ⟨v1, v2⟩ := V
  go_enter Try.func144, Try.ntmps144
  go_upto_region 1 with fail
  refine wp_world (fun W => Blk W w.heap.size 23 #[.int .i64 kk, .int .i64 nn] ∧ Blk W (w.heap.size + 1) 23 #[.int .i64 0, .int .i64 0] ∧ Below w.heap.size w W ∧ W.heap.size = w.heap.size + 2) ⟨(Blk.new _ _ _).alloc _, Blk.at_ _ _ _ (by simp), ((Below.refl _ _).alloc (Nat.le_refl _) _).alloc (by simp) _, by simp⟩ ?_
  rintro W ⟨hB, hR, hbW, hsW⟩
  have b0 := hB.cell 0 (v := .int .i64 kk) rfl
  have b1 := hB.cell 1 (v := .int .i64 nn) rfl
  have HW := Lib.hid (And.intro hB (And.intro hR hbW)); clear hB hR hbW
  go_wp2_with fail
  refine (H.out.2.2.2.2.2.1 W).mono ?_
  rintro e w1 ⟨rfl, hb1⟩
  rw [H.out.2.2.2.2.2.2.1, H.out.2.2.2.2.2.2.2]
  have hs1 := hb1.size
  have hB1 := HW.out.1.fresh hb1
  have hR1 := HW.out.2.1.fresh hb1
  have hbw1 := HW.out.2.2.trans (hb1.mono (by omega))
  clear b0 b1
  by_cases h1 : e1 = 0
  · subst h1
    have b0 := hB1.cell 0 (v := .int .i64 kk) rfl
    have b1 := hB1.cell 1 (v := .int .i64 nn) rfl
    by_cases h5 : kk = 5
    · subst h5
      have hnm := sh_named w1 base q nn G cs (H.out.1.fresh hbw1) H.out.2.1
      have hres := H.out.2.2.1
      rw [if_neg (by simp), if_pos rfl] at hres
      rw [hres] at hnm
      have H1 := Lib.hid (And.intro hB1 (And.intro hR1 (And.intro hbw1 hnm))); clear hB1 hR1 hbw1 hnm hres hb1
      go_wp2_with fail
      refine H1.out.2.2.2.mono ?_
      rintro e w2 ⟨rfl, hb2⟩
      have hs2 := hb2.size
      have hbw2 := H1.out.2.2.1.trans (hb2.mono (by omega))
      have hR2 := H1.out.2.1.fresh hb2
      clear b0 b1
      have r0 := hR2.cell 0 (v := .int .i64 0) rfl
      have r1 := hR2.cell 1 (v := .int .i64 0) rfl
      have z0 := hR2.frozen 0
      have z1 := hR2.frozen 1
      by_cases h2 : E = 0
      · subst h2
        have hub := vV_box (k := 5) (n := nn) H.out.2.2.2.2.2.2.2
        rw [H.out.2.2.2.2.2.2.1, ← H.out.2.2.2.2.1 rfl] at hub
        have H2 := Lib.hid (And.intro hR2 (And.intro hbw2 hub.1)); clear hR2 hbw2 hub hb2
        have hcallee := runbox_of w2 hxr H2.out.2.2
        have HC := Lib.hid hcallee; clear hcallee
        clear r0 r1 z0 z1
        go_wp2_with fail
        refine HC.out.mono ?_
        rintro e w3 ⟨rfl, hb3⟩
        have hs3 := hb3.size
        have hR3 := (H2.out.1.fresh hb3).alloc (.cells #[.int .i64 v1, .int .i64 v2] 23)
        have hbw3 := (H2.out.2.1.trans (hb3.mono (by omega))).alloc (by omega) (.cells #[.int .i64 v1, .int .i64 v2] 23)
        have HR3 := Lib.hid (And.intro hR3 hbw3); clear hR3 hbw3 hb3
        go_upto_region 9 with fail
        refine wp_world (fun Z => Blk Z (w.heap.size + 1) 23 #[.int .i64 0, .int .i64 0] ∧ Below w.heap.size w Z ∧ Blk Z w3.heap.size 23 #[.int .i64 v1, .int .i64 v2]) ⟨HR3.out.1, HR3.out.2, Blk.new _ _ _⟩ ?_
        rintro Z ⟨hRZ, hbZ, hVZ⟩
        have r0 := hRZ.cell 0 (v := .int .i64 0) rfl
        have r1 := hRZ.cell 1 (v := .int .i64 0) rfl
        have z0 := hRZ.frozen 0
        have z1 := hRZ.frozen 1
        have y0 := hVZ.cell 0 (v := .int .i64 v1) rfl
        have y1 := hVZ.cell 1 (v := .int .i64 v2) rfl
        have HZ := Lib.hid (And.intro hRZ hbZ); clear hRZ hbZ hVZ
        go_wp2_with fail
        refine bodyPost_ret (results_cell_tmp rfl _ _ (w.heap.size + 1) _ _ _ rfl ((HZ.out.1.set_ 0 (.int .i64 v1)).set_ 1 (.int .i64 v2)) Try.underlying23 rfl (by kernel_rfl)) rfl ?_
        exact ⟨rfl, (HZ.out.2.setCell (by simp) _).setCell (by simp) _⟩
      · have d2 : (E != 0) = true := by simpa using h2
        have hv := H.out.2.2.2.1 h2
        injection hv with hv1 hv2
        subst hv1 hv2
        have H2 := Lib.hid (And.intro hR2 hbw2); clear hR2 hbw2 hb2 h2
        go_wp2_with fail
        refine bodyPost_ret (results_cell_tmp rfl _ _ (w.heap.size + 1) _ _ _ rfl ((H2.out.1.set_ 0 _).set_ 1 _) Try.underlying23 rfl (by kernel_rfl)) rfl ?_
        exact ⟨rfl, (H2.out.2.setCell (by simp) _).setCell (by simp) _⟩
    · have d5 : (kk == 5) = false := by simpa using h5
      have hres := H.out.2.2.1
      rw [if_neg (by simp), if_neg h5] at hres
      subst hres
      have hub := vV_box (k := kk) (n := nn) H.out.2.2.2.2.2.2.2
      rw [H.out.2.2.2.2.2.2.1, ← H.out.2.2.2.2.1 rfl] at hub
      have r0 := hR1.cell 0 (v := .int .i64 0) rfl
      have r1 := hR1.cell 1 (v := .int .i64 0) rfl
      have z0 := hR1.frozen 0
      have z1 := hR1.frozen 1
      have H2 := Lib.hid (And.intro hR1 (And.intro hbw1 hub.1)); clear hR1 hbw1 hub hb1 hB1 h5
      have hcallee := runbox_of w1 hxr H2.out.2.2
      have HC := Lib.hid hcallee; clear hcallee
      clear r0 r1 z0 z1
      go_wp2_with fail
      refine HC.out.mono ?_
      rintro e w3 ⟨rfl, hb3⟩
      have hs3 := hb3.size
      have hR3 := (H2.out.1.fresh hb3).alloc (.cells #[.int .i64 v1, .int .i64 v2] 23)
      have hbw3 := (H2.out.2.1.trans (hb3.mono (by omega))).alloc (by omega) (.cells #[.int .i64 v1, .int .i64 v2] 23)
      have HR3 := Lib.hid (And.intro hR3 hbw3); clear hR3 hbw3 hb3
      go_upto_region 9 with fail
      refine wp_world (fun Z => Blk Z (w.heap.size + 1) 23 #[.int .i64 0, .int .i64 0] ∧ Below w.heap.size w Z ∧ Blk Z w3.heap.size 23 #[.int .i64 v1, .int .i64 v2]) ⟨HR3.out.1, HR3.out.2, Blk.new _ _ _⟩ ?_
      rintro Z ⟨hRZ, hbZ, hVZ⟩
      have r0 := hRZ.cell 0 (v := .int .i64 0) rfl
      have r1 := hRZ.cell 1 (v := .int .i64 0) rfl
      have z0 := hRZ.frozen 0
      have z1 := hRZ.frozen 1
      have y0 := hVZ.cell 0 (v := .int .i64 v1) rfl
      have y1 := hVZ.cell 1 (v := .int .i64 v2) rfl
      have HZ := Lib.hid (And.intro hRZ hbZ); clear hRZ hbZ hVZ
      go_wp2_with fail
      refine bodyPost_ret (results_cell_tmp rfl _ _ (w.heap.size + 1) _ _ _ rfl ((HZ.out.1.set_ 0 (.int .i64 v1)).set_ 1 (.int .i64 v2)) Try.underlying23 rfl (by kernel_rfl)) rfl ?_
      exact ⟨rfl, (HZ.out.2.setCell (by simp) _).setCell (by simp) _⟩
  · have d1 : (e1 != 0) = true := by simpa using h1
    have hres := H.out.2.2.1
    rw [if_pos h1] at hres
    subst hres
    have hv := H.out.2.2.2.1 h1
    injection hv with hv1 hv2
    subst hv1 hv2
    have r0 := hR1.cell 0 (v := .int .i64 0) rfl
    have r1 := hR1.cell 1 (v := .int .i64 0) rfl
    have z0 := hR1.frozen 0
    have z1 := hR1.frozen 1
    have H2 := Lib.hid (And.intro hR1 hbw1); clear hR1 hbw1 hB1 hb1 h1
    go_wp2_with fail
    refine bodyPost_ret (results_cell_tmp rfl _ _ (w.heap.size + 1) _ _ _ rfl ((H2.out.1.set_ 0 _).set_ 1 _) Try.underlying23 rfl (by kernel_rfl)) rfl ?_
    exact ⟨rfl, (H2.out.2.setCell (by simp) _).setCell (by simp) _⟩
end Sto
end Go.Proofs.Ytpkccpegdpodoaa

/- The law's shelf: Hold, Get. -/
namespace Go.Proofs.Ytpkccpegdpodoaa
open Go.RowKit

attribute [local go_sem ↓] Go.wp_at_zero Go.wp_at_succ

namespace Sto
def HoPost (w : World) (base q : Nat) (of_ : Int) (is : Bool) (G : Nat → Prop) (cs : List Kp) (E : Int) (e : Ending) (w' : World) : Prop :=
  e = .returned (.int .i64 E) ∧ Shf w' base G q (if E = 0 then hldK cs of_.toNat is else cs) ∧ Touch G w w'
noncomputable def hoE (cs : List Kp) (of_ : Int) (is : Bool) : Int := if is = true then sNm cs of_ else drE cs of_

set_option maxHeartbeats 1600000 in
set_option maxRecDepth 100000 in
theorem sh_hold (w : World) (base q : Nat) (of_ : Int) (is : Bool) (G : Nat → Prop) (cs : List Kp) (h : Shf w base G q cs) (hk : Kok cs) :
    Calls Try.prog 71 #[.pointer (some ⟨q, 0, none⟩), .int .i64 of_, .bool is] w (HoPost w base q of_ is G cs (hoE cs of_ is)) := by
  have hnm := sh_named w base q of_ G cs h hk
  obtain ⟨E, hE⟩ : ∃ x, hoE cs of_ is = x := ⟨_, rfl⟩
  rw [hE]
  obtain ⟨P, hP⟩ : ∃ P, HoPost w base q of_ is G cs E = P := ⟨_, rfl⟩
  rw [hP]
  obtain ⟨E1, hE1⟩ : ∃ x, sNm cs of_ = x := ⟨_, rfl⟩
  rw [hE1] at hnm
  unfold hoE drE at hE
  rw [hE1] at hE
  have H := Lib.hid (And.intro h (And.intro hk (And.intro hE (And.intro hP (And.intro hE1 hnm))))); clear h hk hE hP hE1 hnm
  go_enter Try.func71, Try.ntmps71
  go_wp2_with fail
  refine H.out.2.2.2.2.2.mono ?_
  rintro e w1 ⟨rfl, hb1⟩
  by_cases h1 : E1 = 0
  · subst h1
    obtain ⟨k, c, rfl, hc, hn⟩ := sNm_get H.out.2.2.2.2.1
    have hres := H.out.2.2.1
    rw [if_neg (by simp : ¬ (0 : Int) ≠ 0), Int.toNat_natCast] at hres
    obtain ⟨A, cc, l, k1, k2, k3, k4, k5⟩ := H.out.1.fresh hb1
    rw [← k5] at hc
    obtain ⟨x, hx, hxc⟩ := get_kps hc
    have hhd : heldAt cs k = x.held := by unfold heldAt; rw [← k5, hc]; simp only; rw [← hxc]; rfl
    rw [hhd] at hres
    obtain ⟨g, rfl, hg1, hg2, -, -, q2⟩ := k2.cells hx
    have c0 := k1.cell 0 (v := .slice (some ⟨g, 0, none⟩) l.length cc) rfl
    have kl : (k : Int) < (l.length : Int) := by have := (List.getElem?_eq_some_iff.1 hx).1; omega
    have z0 := k2.row.frozen (g := g) rfl (k * 3 + 2)
    have hset : kps (l.set k { x with held := is }) = hldK cs k is := by
      rw [kps_set, ← k5]
      unfold hldK
      rw [modify_set _ (kps_get hx)]; rfl
    have hnew : Shf (w1.setCell ⟨g, k * 3 + 2, none⟩ (.bool is)) base G q (hldK cs k is) :=
      ⟨some ⟨g, 0, none⟩, cc, l.set k { x with held := is }, by rw [List.length_set]; exact k1.far (p := ⟨g, k * 3 + 2, none⟩) (fun e => own_ne_ty k2.row k1 (by decide) (by simp only at e; rw [e]; rfl)) _, k2.setHeld hx is, k3, k4, hset⟩
    have ht : Touch G w (w1.setCell ⟨g, k * 3 + 2, none⟩ (.bool is)) := (Touch.ofBelow hb1).setCell (p := ⟨g, k * 3 + 2, none⟩) (k2.foot g rfl) _
    have hsame : Shf w1 base G q cs := H.out.1.fresh hb1
    obtain ⟨hb, hhb⟩ : ∃ b, x.held = b := ⟨_, rfl⟩
    rw [hhb] at q2 hres
    have HN := Lib.hid (And.intro hnew (And.intro ht (And.intro hsame (And.intro hres hb1)))); clear hnew ht hsame hset k1 k2 k3 k4 k5 hc hx hxc hhd hn hhb hb1 hres
    cases is with
    | true =>
      have hEE : E = 0 := by have := HN.out.2.2.2.1; rw [if_pos rfl] at this; exact this.symm
      subst hEE
      go_wp2_with fail
      rw [← H.out.2.2.2.1]
      exact ⟨rfl, by rw [if_pos rfl, Int.toNat_natCast]; exact HN.out.1, HN.out.2.1⟩
    | false =>
      cases hb with
      | true =>
        have hEE : E = 0 := by have := HN.out.2.2.2.1; rw [if_neg (by simp), if_pos rfl] at this; exact this.symm
        subst hEE
        go_wp2_with fail
        rw [← H.out.2.2.2.1]
        exact ⟨rfl, by rw [if_pos rfl, Int.toNat_natCast]; exact HN.out.1, HN.out.2.1⟩
      | false =>
        have hEE : E = 8 := by have := HN.out.2.2.2.1; rw [if_neg (by simp), if_neg (by simp)] at this; exact this.symm
        subst hEE
        go_wp2_with fail
        rw [← H.out.2.2.2.1]
        exact ⟨rfl, by rw [if_neg (by decide)]; exact HN.out.2.2.1, Touch.ofBelow HN.out.2.2.2.2⟩
  · have d1 : (E1 == 0) = false := by simpa using h1
    have hres := H.out.2.2.1
    rw [if_pos h1, ite_self] at hres
    subst hres
    have HN := Lib.hid (And.intro h1 hb1); clear h1 hb1
    go_wp2_with fail
    rw [← H.out.2.2.2.1]
    exact ⟨rfl, by rw [if_neg HN.out.1]; exact H.out.1.fresh HN.out.2, Touch.ofBelow HN.out.2⟩

set_option maxHeartbeats 1600000 in
set_option maxRecDepth 100000 in
theorem sh_get (w : World) (base q : Nat) (of_ at_ : Int) (G : Nat → Prop) (cs : List Kp) (h : Shf w base G q cs) (hk : Kok cs) :
    Calls Try.prog 69 #[.pointer (some ⟨q, 0, none⟩), .int .i64 of_, .int .i64 at_] w (GePost w (geV cs of_ at_) (geE cs of_ at_)) := by
  obtain ⟨V, hV⟩ : ∃ x, geV cs of_ at_ = x := ⟨_, rfl⟩
  obtain ⟨E, hE⟩ : ∃ E, geE cs of_ at_ = E := ⟨_, rfl⟩
  rw [hE, hV]
  obtain ⟨E1, hE1⟩ : ∃ x, sNm cs of_ = x := ⟨_, rfl⟩
  have hvz : E ≠ 0 → V = (0, 0) := fun h => by rw [← hV]; unfold geV; rw [hE, if_neg h]
  have H := Lib.hid (And.intro h (And.intro hk (And.intro hE (And.intro hV (And.intro hE1 hvz))))); clear h hk hE hE1 hV hvz
  obtain ⟨v1, v2⟩ := V
  go_enter Try.func69, Try.ntmps69
  go_upto_region 1 with fail
  refine wp_world (fun W => Blk W w.heap.size 23 #[.int .i64 0, .int .i64 0] ∧ Below w.heap.size w W ∧ W.heap.size = w.heap.size + 1) ⟨Blk.new _ _ _, (Below.refl _ _).alloc (Nat.le_refl _) _, by simp⟩ ?_
  rintro W ⟨hB, hbW, hsW⟩
  have hnm := sh_named W base q of_ G cs (H.out.1.fresh hbW) H.out.2.1
  rw [H.out.2.2.2.2.1] at hnm
  have HW := Lib.hid (And.intro hB (And.intro hbW hnm)); clear hB hbW hnm
  go_wp2_with fail
  refine HW.out.2.2.mono ?_
  rintro e w1 ⟨rfl, hb1⟩
  have hs1 := hb1.size
  have hb01 := HW.out.2.1.trans (hb1.mono (by omega))
  have hB1 := HW.out.1.fresh hb1
  have hblt := hB1.lt
  have z0 := hB1.frozen 0
  have z1 := hB1.frozen 1
  have y0 := hB1.cell 0 (v := .int .i64 0) rfl
  have y1 := hB1.cell 1 (v := .int .i64 0) rfl
  by_cases h1 : E1 = 0
  · subst h1
    obtain ⟨k, c, rfl, hc, hn⟩ := sNm_get H.out.2.2.2.2.1
    obtain ⟨A, cc, l, k1, k2, k3, k4, k5⟩ := H.out.1.fresh hb01
    rw [← k5] at hc
    obtain ⟨x, hx, hxc⟩ := get_kps hc
    have hcv : c.vals = x.vals := by rw [← hxc]; rfl
    obtain ⟨g, rfl, hg1, hg2, -, q1, -⟩ := k2.cells hx
    have c0 := k1.cell 0 (v := .slice (some ⟨g, 0, none⟩) l.length cc) rfl
    have kl : (k : Int) < (l.length : Int) := by have := (List.getElem?_eq_some_iff.1 hx).1; omega
    have hvl : vlenAt cs k = x.vals.length := by unfold vlenAt; rw [← k5, hc]; simp only; rw [hcv]
    have hres := H.out.2.2.1
    unfold geE at hres
    rw [H.out.2.2.2.2.1, if_neg (by simp), Int.toNat_natCast, hvl] at hres
    obtain ⟨vl, hvlE⟩ : ∃ n, x.vals.length = n := ⟨_, rfl⟩
    rw [hvlE] at hres q1
    have hsub := k2.sub k x hx
    have hval : ∀ i : Nat, valAt cs k i = x.vals.getD i (0, 0) := fun i => by unfold valAt; rw [← k5, hc]; simp only; rw [hcv]
    have H2 := Lib.hid (And.intro hb01 (And.intro hres (And.intro hvlE (And.intro hB1 (And.intro hsub hval))))); clear hb01 hres hvlE hB1 hsub hval k1 k2 k3 k4 k5 hc hx hxc hcv hvl hn hb1
    by_cases h3 : at_ < 0
    · have d3 : decide (at_ < 0) = true := by simpa using h3
      have hEE : E = 1 := by rw [← H2.out.2.1, if_pos (.inl h3)]
      subst hEE
      have := H.out.2.2.2.2.2 (by decide)
      injection this with hv1 hv2
      subst hv1 hv2
      clear h3
      go_wp2_with fail
      refine bodyPost_ret (results_cell_tmp rfl _ _ w.heap.size _ _ _ rfl ((H2.out.2.2.2.1.set_ 0 _).set_ 1 _) Try.underlying23 rfl (by kernel_rfl)) rfl ?_
      exact ⟨rfl, (H2.out.1.setCell (by simp) _).setCell (by simp) _⟩
    · obtain ⟨i, rfl⟩ : ∃ i : Nat, at_ = (i : Int) := ⟨at_.toNat, by omega⟩
      have d3 : decide ((i : Int) < 0) = false := by simp
      by_cases h4 : vl ≤ i
      · have d4 : (vl : Int) ≤ (i : Int) := by omega
        have hEE : E = 1 := by rw [← H2.out.2.1, if_pos (.inr (by omega))]
        subst hEE
        have := H.out.2.2.2.2.2 (by decide)
        injection this with hv1 hv2
        subst hv1 hv2
        clear h3
        go_wp2_with fail
        refine bodyPost_ret (results_cell_tmp rfl _ _ w.heap.size _ _ _ rfl ((H2.out.2.2.2.1.set_ 0 _).set_ 1 _) Try.underlying23 rfl (by kernel_rfl)) rfl ?_
        exact ⟨rfl, (H2.out.1.setCell (by simp) _).setCell (by simp) _⟩
      · have d4 : ¬ (vl : Int) ≤ (i : Int) := by omega
        have d5 : (i : Int) < (vl : Int) := by omega
        have hEE : E = 0 := by rw [← H2.out.2.1, if_neg (by omega)]
        subst hEE
        clear h3
        obtain ⟨v, hv⟩ : ∃ v, x.vals[i]? = some v := ⟨_, List.getElem?_eq_getElem (by have := H2.out.2.2.1; omega)⟩
        have hvv : v = (v1, v2) := by
          have hh := H.out.2.2.2.1
          unfold geV at hh
          rw [H.out.2.2.1, if_pos rfl, Int.toNat_natCast, Int.toNat_natCast, H2.out.2.2.2.2.2] at hh
          simp only [List.getD_eq_getElem?_getD, hv, Option.getD_some] at hh
          exact hh
        subst hvv
        obtain ⟨b, o, hA, hb, hi1, hi2, p0, p1⟩ := (H2.out.2.2.2.2.1.1.at_ H2.out.2.2.2.2.1.2.2.1).pairS hv
        rw [hA] at q1
        have HV := Lib.hid hv; clear hv hA
        simp only at p0 p1
        go_wp2_with fail
        refine bodyPost_ret (results_cell_tmp rfl _ _ w.heap.size _ _ _ rfl ((H2.out.2.2.2.1.set_ 0 (.int .i64 v1)).set_ 1 (.int .i64 v2)) Try.underlying23 rfl (by kernel_rfl)) rfl ?_
        exact ⟨rfl, (H2.out.1.setCell (by simp) _).setCell (by simp) _⟩
  · have d1 : (E1 != 0) = true := by simpa using h1
    have hres := H.out.2.2.1
    unfold geE at hres
    rw [H.out.2.2.2.2.1, if_pos h1] at hres
    subst hres
    have := H.out.2.2.2.2.2 h1
    injection this with hv1 hv2
    subst hv1 hv2
    have H2 := Lib.hid (And.intro hb01 (And.intro h1 hB1)); clear hb01 hB1 h1 hb1
    go_wp2_with fail
    refine bodyPost_ret (results_cell_tmp rfl _ _ w.heap.size _ _ _ rfl ((H2.out.2.2.set_ 0 _).set_ 1 _) Try.underlying23 rfl (by kernel_rfl)) rfl ?_
    exact ⟨rfl, (H2.out.1.setCell (by simp) _).setCell (by simp) _⟩
end Sto
end Go.Proofs.Ytpkccpegdpodoaa
