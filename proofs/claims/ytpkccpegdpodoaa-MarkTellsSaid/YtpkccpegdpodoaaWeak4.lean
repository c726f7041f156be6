/- The reference's From: what is reached, round by round. -/
import Derived.Test.YtpkccpegdpodoaaWeak3
import Derived.Shelf.GgClosure.Gives
namespace Go.Proofs.Ytpkccpegdpodoaa
open Go.RowKit

theorem ret_slice {A : Option Addr} {n m c : Nat} (h : n = m) : Ending.returned (.slice A n c) = .returned (.slice A m c) := by rw [h]
theorem egSee : ∀ args w, (callFunc 108 args).run Try.prog w = .ok (.enter 108 args) w := fun _ _ => by kernel_rfl

/-- what a round keeps in the middle of it -/
def MidSt (has : List (List Int)) (l : List Int) (pairs : List (Int × Int)) (B : Nat) (s0 : List Bool) (S : World → List Bool → Bool → Prop) (i j q : Nat) (w : World) (s : List Bool) (m : Bool) : Prop :=
  S w s m ∧ RInv has l pairs s0 s m ∧ EClosed has s0 s i j ∧ PClosed pairs s0 s q
/-- the state of a round: the graph, what was seen, whether there is more -/
def SeeSt (w : World) (base G V M gS c : Nat) (hv rv : Value) (s : List Bool) (m : Bool) : Prop :=
  Blk w G 49 #[hv, rv] ∧ Blk w V 60 #[.slice (some ⟨gS, 0, none⟩) s.length c] ∧ Own w base 4 (some ⟨gS, 0, none⟩) c s ∧ Blk w M 4 #[.bool m] ∧ gS ≠ M ∧ base ≤ M ∧ base ≤ gS

theorem SeeSt.alloc {w : World} {base G V M gS c : Nat} {hv rv : Value} {s : List Bool} {m : Bool} (h : SeeSt w base G V M gS c hv rv s m) (o : Obj) : SeeSt (w.alloc o) base G V M gS c hv rv s m :=
  ⟨h.1.alloc _, h.2.1.alloc _, h.2.2.1.alloc _, h.2.2.2.1.alloc _, h.2.2.2.2⟩
theorem SeeSt.seen {w : World} {base G V M gS c : Nat} {hv rv : Value} {s : List Bool} {m m' : Bool} (h : SeeSt w base G V M gS c hv rv s m) {k : Nat} (hk : k < s.length) :
    SeeSt ((w.setCell ⟨M, 0, none⟩ (.bool m')).setCell ⟨gS, k, none⟩ (.bool true)) base G V M gS c hv rv (s.set k true) m' := by
  obtain ⟨h1, h2, h3, h4, h5, h6, h7⟩ := h
  have a1 : G ≠ M := fun e => by subst e; unfold Blk at h1 h4; rw [h1] at h4; injection h4 with h4; injection h4 with _ h4 _; exact absurd h4 (by decide)
  have a2 : V ≠ M := fun e => by subst e; unfold Blk at h2 h4; rw [h2] at h4; injection h4 with h4; injection h4 with _ h4 _; exact absurd h4 (by decide)
  have a3 : rowOf (some (⟨gS, 0, none⟩ : Addr)) ≠ some G := own_ne_ty h3 h1 (by decide)
  have a4 : rowOf (some (⟨gS, 0, none⟩ : Addr)) ≠ some V := own_ne_ty h3 h2 (by decide)
  have a3' : G ≠ gS := fun e => a3 (by rw [e]; rfl)
  have a4' : V ≠ gS := fun e => a4 (by rw [e]; rfl)
  refine ⟨(h1.far a1 _).far a3' _, ?_, (h3.setCell _ _ (fun e => h5 (by injection e))).set_bool true hk, ((h4.set_ 0 _).far (Ne.symm h5) _), h5, h6, h7⟩
  rw [List.length_set]
  exact (h2.far a2 _).far a4' _

theorem SeeSt.ne_ {w : World} {base G V M gS c : Nat} {hv rv : Value} {s : List Bool} {m : Bool} (h : SeeSt w base G V M gS c hv rv s m) : G ≠ M := by
  obtain ⟨h1, h2, h3, h4, h5, h6, h7⟩ := h
  exact fun e => by subst e; unfold Blk at h1 h4; rw [h1] at h4; injection h4 with h4; injection h4 with _ h4 _; exact absurd h4 (by decide)

theorem see_any (base G V M gS c k : Nat) (hv rv : Value) (s : List Bool) (m : Bool) (w : World) (h : SeeSt w base G V M gS c hv rv s m) (hk : k < s.length) :
    Calls Try.prog 108 #[.int .i64 k, .pointer (some ⟨M, 0, none⟩), .pointer (some ⟨V, 0, none⟩)] w fun e w' => e = .returned (.tuple #[]) ∧ SeeSt w' base G V M gS c hv rv (s.set k true) (m || !(s.getD k false)) ∧ Below base w w' ∧ w'.heap.size = w.heap.size := by
  obtain ⟨b, hb⟩ : ∃ b, s[k]? = some b := ⟨_, List.getElem?_eq_getElem hk⟩
  have hgd : s.getD k false = b := by rw [List.getD_eq_getElem?_getD, hb]; rfl
  rw [hgd]
  have c0 := h.2.2.2.1.cell 0 (v := .bool m) rfl
  have z0 := h.2.2.2.1.frozen 0
  have c1 := h.2.1.cell 0 (v := .slice (some ⟨gS, 0, none⟩) s.length c) rfl
  have c2 := h.2.2.1.cell_bool hb
  have z2 := h.2.2.1.frozen (g := gS) rfl k
  have hne := h.2.2.2.2.1
  have hVM : V ≠ M := fun e => by
    have h2 := h.2.1; have h4 := h.2.2.2.1; subst e; unfold Blk at h2 h4; rw [h2] at h4; injection h4 with h4; injection h4 with _ h4 _; exact absurd h4 (by decide)
  have k0 : (0 : Int) ≤ (k : Int) := by omega
  have k1 : (k : Int) < (s.length : Int) := by omega
  have HS := Lib.hid (fun m' => h.seen (m' := m') hk)
  have hb1 := h.2.2.2.2.2.1
  have hb2 := h.2.2.2.2.2.2
  clear hb hgd h
  cases m with
  | true =>
    go_enter Try.func108, Try.ntmps108
    go_wp2
    go_end0
    exact ⟨rfl, HS.out true, ((Below.refl _ _).setCell hb1 _).setCell hb2 _, by simp [World.setCell]⟩
  | false =>
    cases b with
    | true =>
      go_enter Try.func108, Try.ntmps108
      go_wp2
      go_end0
      exact ⟨rfl, HS.out false, ((Below.refl _ _).setCell hb1 _).setCell hb2 _, by simp [World.setCell]⟩
    | false =>
      go_enter Try.func108, Try.ntmps108
      go_wp2
      go_end0
      exact ⟨rfl, HS.out true, ((Below.refl _ _).setCell hb1 _).setCell hb2 _, by simp [World.setCell]⟩

theorem SeeSt.setm {w : World} {base G V M gS c : Nat} {hv rv : Value} {s : List Bool} {m : Bool} (h : SeeSt w base G V M gS c hv rv s m) (m' : Bool) : SeeSt (w.setCell ⟨M, 0, none⟩ (.bool m')) base G V M gS c hv rv s m' := by
  obtain ⟨h1, h2, h3, h4, h5, h6, h7⟩ := h
  have a1 : G ≠ M := fun e => by subst e; unfold Blk at h1 h4; rw [h1] at h4; injection h4 with h4; injection h4 with _ h4 _; exact absurd h4 (by decide)
  have a2 : V ≠ M := fun e => by subst e; unfold Blk at h2 h4; rw [h2] at h4; injection h4 with h4; injection h4 with _ h4 _; exact absurd h4 (by decide)
  exact ⟨h1.far a1 _, h2.far a2 _, h3.setCell _ _ (fun e => h5 (by injection e)), h4.set_ 0 _, h5, h6, h7⟩
theorem SeeSt.newm {w : World} {base G V M gS c : Nat} {hv rv : Value} {s : List Bool} {m : Bool} (h : SeeSt w base G V M gS c hv rv s m) (m' : Bool) : SeeSt (w.alloc (.cells #[.bool m'] 4)) base G V w.heap.size gS c hv rv s m' := by
  obtain ⟨h1, h2, h3, h4, h5, h6, h7⟩ := h
  have := (h3.lt gS rfl).2
  exact ⟨h1.alloc _, h2.alloc _, h3.alloc _, Blk.new _ _ _, by omega, by omega, h7⟩

set_option maxHeartbeats 3200000 in
set_option maxRecDepth 100000 in
theorem rfrom_any (B hc rc lc pc rn : Nat) (HA RA LA PA : Option Addr) (has : List (List Int)) (l : List Int) (pairs : List (Int × Int)) (w : World) (hh : At w B HA has) (hl : At w B LA l) (hp : At w B PA pairs) (hB : B ≤ w.heap.size)
    (hright : Right has) (hsrc : RightL has.length l) (hpr : RightP has.length pairs) (hlen : has.length ≤ 100) (hll : l.length ≤ 1000) (hpl : pairs.length ≤ 1000) (hhl : ∀ l ∈ has, l.length ≤ 10) :
    Calls Try.prog 33 #[.agg #[.slice HA has.length hc, .slice RA rn rc], .slice LA l.length lc, .slice PA pairs.length pc] w fun e w' => ∃ S c, e = .returned (.slice S has.length c) ∧ Own w' w.heap.size 4 S c (fromL has l pairs) ∧ Below w.heap.size w w' := by
  have hmk := Go.run_make_row' (P := Try.prog) 60 4 (.bool false) 1 Try.underlying60 infoBool rfl .i64 .i64 has.length (by omega) (by omega)
  have HH := Lib.hid (And.intro hh (And.intro hl (And.intro hp (And.intro hright (And.intro hsrc (And.intro hpr hhl)))))); clear hh hl hp hright hsrc hpr hhl
  go_enter Try.func33, Try.ntmps33
  go_wp2_with fail
  refine wp_world (fun W => Blk W w.heap.size 49 #[.slice HA has.length hc, .slice RA rn rc] ∧ Blk W (w.heap.size + 1 + 1) 60 #[.slice (some ⟨w.heap.size + 1, 0, none⟩) has.length has.length] ∧ Own W w.heap.size 4 (some ⟨w.heap.size + 1, 0, none⟩) has.length (List.replicate has.length false) ∧ Below w.heap.size w W ∧ w.heap.size + 3 ≤ W.heap.size) ⟨?_, ?_, ?_, ?_, ?_⟩ ?_
  · exact ((Blk.new _ _ _).alloc _).alloc _
  · exact Blk.at_ ((w.alloc _).alloc _) _ _ (by simp)
  · have := own_made (w.alloc (.cells #[.slice HA has.length hc, .slice RA rn rc] 49)) w.heap.size 4 has.length (by simp) (by simp only [maxLen]; omega)
    simp only [World.size_alloc] at this
    exact this.alloc _
  · exact (((Below.refl _ _).alloc (Nat.le_refl _) _).alloc (by simp) _).alloc (by simp; omega) _
  · simp
  rintro W ⟨hG, hV, hS, hb0, hs0⟩
  clear hmk
  go_loopg [24] (l.length) (fun gk iv wr => ∃ (k : Nat) (s : List Bool), k ≤ l.length ∧ gk = l.length - k ∧ iv = .int .i64 k ∧ s.length = has.length ∧ Hid ((∀ n : Nat, s[n]? = some true → (n : Int) ∈ l) ∧ (∀ n : Nat, (n : Int) ∈ l.take k → s[n]? = some true) ∧ Blk wr w.heap.size 49 #[.slice HA has.length hc, .slice RA rn rc] ∧ Blk wr (w.heap.size + 1 + 1) 60 #[.slice (some ⟨w.heap.size + 1, 0, none⟩) has.length has.length] ∧ Own wr w.heap.size 4 (some ⟨w.heap.size + 1, 0, none⟩) has.length s) ∧ Below w.heap.size w wr ∧ w.heap.size + 3 ≤ wr.heap.size)
  case atStart => exact ⟨0, List.replicate has.length false, Nat.zero_le _, rfl, rfl, by simp, ⟨fun n hn => by rw [List.getElem?_replicate] at hn; split at hn <;> simp at hn, fun n hn => by simp at hn, hG, hV, hS⟩, hb0, hs0⟩
  case round =>
    obtain ⟨k, s, hk, rfl, rfl, hsl, hkeep, hbl, hsz⟩ := hrel
    clear hG hV hS hb0 hs0
    obtain ⟨k1, k2, k3, k4, k5⟩ := hkeep.out
    by_cases hlt : k < l.length
    · obtain ⟨b, o, x, rfl, hb, hx, hok, h0⟩ := (HH.out.2.1.below (hbl.mono hB)).int_ hlt
      obtain ⟨n, rfl, hn⟩ := HH.out.2.2.2.2.1 x (List.mem_of_getElem? hx)
      obtain ⟨u, hu⟩ : ∃ v, s[n]? = some v := ⟨_, List.getElem?_eq_getElem (by omega)⟩
      have c0 := k4.cell 0 (v := .slice (some ⟨w.heap.size + 1, 0, none⟩) has.length has.length) rfl
      have c1 := k5.cell_bool hu
      have z1 := k5.frozen (g := w.heap.size + 1) rfl n
      have n0 : (0 : Int) ≤ (n : Int) := by omega
      have n1 : (n : Int) < (has.length : Int) := by omega
      have hns : n < s.length := by omega
      have HX := Lib.hid (And.intro hx (And.intro (k3.far (p := ⟨w.heap.size + 1, n, none⟩) (by simp) (.bool true)) (And.intro (k4.far (p := ⟨w.heap.size + 1, n, none⟩) (by simp) (.bool true)) (And.intro (k5.set_bool true hns) (And.intro k1 k2)))))
      clear hx hu hkeep k1 k2 k3 k4 k5
      go_wp2_with fail
      go_roundg (l.length - (k + 1))
      case measure => omega
      case rel =>
        obtain ⟨f1, f2, f3, f4, f5, f6⟩ := HX.out
        refine ⟨k + 1, s.set n true, by omega, rfl, by go_num, by simp [hsl], ⟨fun j hj => ?_, fun j hj => ?_, f2, f3, f4⟩, hbl.setCell (by simp) _, by simp [World.setCell]; omega⟩
        · rcases (set_true_get hns).1 hj with rfl | hj
          · exact List.mem_of_getElem? f1
          · exact f5 j hj
        · rw [List.take_add_one, f1] at hj
          rcases List.mem_append.1 hj with hj | hj
          · exact (set_true_get hns).2 (.inr (f6 j hj))
          · simp at hj
            exact (set_true_get hns).2 (.inl (by omega))
    · rw [List.take_of_length_le (by omega)] at k2
      have hge := (k5.lt (w.heap.size + 1) rfl).2
      have HS0 := Lib.hid (And.intro k1 (And.intro k2 (And.intro k3 (And.intro k4 k5)))); clear k1 k2 k3 k4 k5 hkeep
      go_wp2_with fail
      go_loopg [10] (unseen s + 1) (fun gk mv wr => ∃ (M : Nat) (s : List Bool) (m : Bool), mv = .pointer (some ⟨M, 0, none⟩) ∧ gk = (if m = true then unseen s + 1 else 0) ∧ s.length = has.length ∧ Hid (SeeSt wr w.heap.size w.heap.size (w.heap.size + 1 + 1) M (w.heap.size + 1) has.length (.slice HA has.length hc) (.slice RA rn rc) s m ∧ (∀ n, s[n]? = some true → RT has l pairs n) ∧ (∀ n : Nat, (n : Int) ∈ l → s[n]? = some true) ∧ (m = false → EClosed has s s has.length 0 ∧ PClosed pairs s s pairs.length)) ∧ Below w.heap.size w wr)
      case atStart =>
        obtain ⟨f1, f2, f3, f4, f5⟩ := HS0.out
        exact ⟨_, s, true, rfl, by simp, hsl, ⟨⟨f3.alloc _, by rw [hsl]; exact f4.alloc _, f5.alloc _, Blk.new _ _ _, by omega, by omega, by omega⟩, fun n hn => .root (f1 n hn), f2, fun h => by cases h⟩, hbl.alloc (by omega) _⟩
      case round =>
        obtain ⟨M, s, m, rfl, rfl, hsl, hkeep, hbl⟩ := hrel
        have hsz := hbl.size
        have m0 := hkeep.out.1.2.2.2.1.cell 0 (v := .bool m) rfl
        have mz := hkeep.out.1.2.2.2.1.frozen 0
        have hM := hkeep.out.1.2.2.2.2.2.1
        cases m with
        | false =>
          have hfin := RInv.fin hsl hkeep.out.2.1 hkeep.out.2.2.1 (hkeep.out.2.2.2 rfl).1 (hkeep.out.2.2.2 rfl).2
          have v0 := hkeep.out.1.2.1.cell 0 (v := .slice (some ⟨w.heap.size + 1, 0, none⟩) s.length has.length) rfl
          have HF := Lib.hid (And.intro hfin hkeep.out.1.2.2.1); clear hfin hkeep
          go_wp2_with fail
          go_ret
          exact ⟨some ⟨w.heap.size + 1, 0, none⟩, has.length, rfl, by rw [← HF.out.1]; exact HF.out.2, hbl⟩
        | true =>
          have hst := hkeep.out.1.setm false
          have g0 := hst.1.cell 0 (v := .slice HA has.length hc) rfl
          have HK := Lib.hid (And.intro hst hkeep.out.2); clear hst hkeep
          have hblm := hbl.setCell (p := ⟨M, 0, none⟩) hM (.bool false)
          have HS1 := Lib.hid HK.out.1.1; 
          have hGM := HK.out.1.ne_
          go_wp2_with fail
          clear g0 m0 mz
          go_loopg [37] (has.length) (fun gi iv wi => ∃ (i : Nat) (s' : List Bool) (m' : Bool), i ≤ has.length ∧ gi = has.length - i ∧ iv = .int .i64 i ∧ Hid (SeeSt wi w.heap.size w.heap.size (w.heap.size + 1 + 1) M (w.heap.size + 1) has.length (.slice HA has.length hc) (.slice RA rn rc) s' m' ∧ RInv has l pairs s s' m' ∧ EClosed has s s' i 0) ∧ Below w.heap.size w wi)
          case atStart => exact ⟨0, s, false, Nat.zero_le _, rfl, rfl, ⟨HK.out.1, ⟨hsl, hsl, HK.out.2.1, Grows.refl _, fun _ => rfl, by simp⟩, EClosed.zero _ _ _⟩, hblm⟩
          case round =>
            obtain ⟨i, s1, m1, hi, rfl, rfl, hkeep, hbl3⟩ := hrel
            have hsz3 := hbl3.size
            have hs1l := hkeep.out.2.1.len
            by_cases hlt3 : i < has.length
            · obtain ⟨b, o, li, A', c', rfl, hb, hli, hcell, hat', hlc, hmx⟩ := (HH.out.1.below (hbl3.mono hB)).slice_ hlt3
              have hll10 := HH.out.2.2.2.2.2.2 li (List.mem_of_getElem? hli)
              have HLI := Lib.hid (And.intro hli hat'); clear hli hat'
              obtain ⟨wo, rfl⟩ : ∃ wo : World, wo = wr := ⟨_, rfl⟩
              go_wp2_with fail
              go_loopg [44] (li.length) (fun gj jv wj => ∃ (j : Nat) (s' : List Bool) (m' : Bool), j ≤ li.length ∧ gj = li.length - j ∧ jv = .int .i64 j ∧ Hid (SeeSt wj w.heap.size w.heap.size (w.heap.size + 1 + 1) M (w.heap.size + 1) has.length (.slice (some ⟨b, o, none⟩) has.length hc) (.slice RA rn rc) s' m' ∧ RInv has l pairs s s' m' ∧ EClosed has s s' i j) ∧ Below w.heap.size w wj ∧ Below w.heap.size wo wj)
              case atStart => exact ⟨0, s1, m1, Nat.zero_le _, rfl, rfl, hkeep.out, hbl3, Below.refl _ _⟩
              case round =>
                obtain ⟨j, s2, m2, hj, rfl, rfl, hkeep, hbl4, hblo⟩ := hrel
                have hs2l := hkeep.out.2.1.len
                by_cases hlt4 : j < li.length
                · obtain ⟨b', o', x, rfl, hb', hx, hok, h0⟩ := (HLI.out.2.below (hblo.mono hB)).int_ hlt4
                  obtain ⟨n, rfl, hn⟩ := HH.out.2.2.2.1 li (List.mem_of_getElem? HLI.out.1) x (List.mem_of_getElem? hx)
                  obtain ⟨u, hu⟩ : ∃ v, s2[i]? = some v := ⟨_, List.getElem?_eq_getElem (by omega)⟩
                  have v0 := hkeep.out.1.2.1.cell 0 (v := .slice (some ⟨w.heap.size + 1, 0, none⟩) s2.length has.length) rfl
                  have v1 := hkeep.out.1.2.2.1.cell_bool hu
                  have i0 : (0 : Int) ≤ (i : Int) := by omega
                  have i1 : (i : Int) < (s2.length : Int) := by omega
                  cases u with
                  | false =>
                    have hec := hkeep.out.2.2.next HLI.out.1 hx (fun h => by have := hkeep.out.2.1.grows i h; rw [hu] at this; cases this)
                    have HE := Lib.hid (And.intro hkeep.out.1 (And.intro hkeep.out.2.1 hec)); clear hkeep hu hx hok hec
                    go_wp2_with fail
                    go_roundg (li.length - (j + 1))
                    case measure => omega
                    case rel => exact ⟨j + 1, s2, m2, by omega, rfl, by go_num, HE.out, hbl4, hblo⟩
                  | true =>
                    have hri := hkeep.out.2.1.see hn (.edge (hkeep.out.2.1.sound i hu) HLI.out.1 (List.mem_of_getElem? hx))
                    have hns : n < s2.length := by omega
                    have hec := (hkeep.out.2.2.grow (see_grows hns)).next HLI.out.1 hx (fun _ => see_get hns)
                    have hsee := see_any w.heap.size w.heap.size (w.heap.size + 1 + 1) M (w.heap.size + 1) has.length n _ _ s2 m2 wr hkeep.out.1 hns
                    have HSEE := Lib.hid (And.intro hsee (And.intro hri hec)); clear hkeep hu hx hok hec hri hsee
                    go_wp2_with fail
                    refine HSEE.out.1.mono ?_
                    rintro e w9 ⟨rfl, hse, hb9, hs9⟩
                    go_wp2_with fail
                    go_roundg (li.length - (j + 1))
                    case measure => omega
                    case rel => exact ⟨j + 1, _, _, by omega, rfl, by go_num, ⟨hse, HSEE.out.2⟩, hbl4.trans hb9, hblo.trans hb9⟩
                · have hec := hkeep.out.2.2.done HLI.out.1 (by omega)
                  have HE := Lib.hid (And.intro hkeep.out.1 (And.intro hkeep.out.2.1 hec)); clear hkeep hec
                  go_wp2_with fail
                  go_roundg (has.length - (i + 1))
                  case measure => omega
                  case rel => exact ⟨i + 1, s2, m2, by omega, rfl, by go_num, HE.out, hbl4⟩
            · obtain rfl : i = has.length := by omega
              go_wp2_with fail
              obtain ⟨wo, rfl⟩ : ∃ wo : World, wo = wr := ⟨_, rfl⟩
              go_loopg [59] (pairs.length) (fun gj jv wj => ∃ (j : Nat) (s' : List Bool) (m' : Bool), j ≤ pairs.length ∧ gj = pairs.length - j ∧ jv = .int .i64 j ∧ Hid (SeeSt wj w.heap.size w.heap.size (w.heap.size + 1 + 1) M (w.heap.size + 1) has.length (.slice HA has.length hc) (.slice RA rn rc) s' m' ∧ RInv has l pairs s s' m' ∧ EClosed has s s' has.length 0 ∧ PClosed pairs s s' j) ∧ Below w.heap.size w wj)
              case atStart => exact ⟨0, s1, m1, Nat.zero_le _, rfl, rfl, ⟨hkeep.out.1, hkeep.out.2.1, hkeep.out.2.2, PClosed.zero _ _ _⟩, hbl3⟩
              case round =>
                obtain ⟨j, s2, m2, hj, rfl, rfl, hkeep, hbl4⟩ := hrel
                have hs2l := hkeep.out.2.1.len
                have hsz4 := hbl4.size
                by_cases hlt4 : j < pairs.length
                · obtain ⟨b', o', x, y, rfl, hb', hx, -, -, g0, g1⟩ := (HH.out.2.2.1.below (hbl4.mono hB)).pair hlt4
                  obtain ⟨p, q, hpq, hp, hq⟩ := HH.out.2.2.2.2.2.1 _ (List.mem_of_getElem? hx)
                  injection hpq with e1 e2; subst e1 e2
                  obtain ⟨u, hu⟩ : ∃ v, s2[p]? = some v := ⟨_, List.getElem?_eq_getElem (by omega)⟩
                  have ltV := hkeep.out.1.2.1.lt
                  have ltS := (hkeep.out.1.2.2.1.lt (w.heap.size + 1) rfl).2
                  have v0 := hkeep.out.1.2.1.cell 0 (v := .slice (some ⟨w.heap.size + 1, 0, none⟩) s2.length has.length) rfl
                  have v1 := hkeep.out.1.2.2.1.cell_bool hu
                  have i0 : (0 : Int) ≤ (p : Int) := by omega
                  have i1 : (p : Int) < (s2.length : Int) := by omega
                  have hal := hkeep.out.1.alloc (.cells #[.int .i64 p, .int .i64 q] 63)
                  cases u with
                  | false =>
                    have hec := hkeep.out.2.2.2.next hx (fun h => by have := hkeep.out.2.1.grows p h; rw [hu] at this; cases this)
                    have HE := Lib.hid (And.intro hal (And.intro hkeep.out.2.1 (And.intro hkeep.out.2.2.1 hec))); clear hkeep hu hx hec hal
                    go_wp2_with fail
                    go_roundg (pairs.length - (j + 1))
                    case measure => omega
                    case rel => exact ⟨j + 1, s2, m2, by omega, rfl, by go_num, HE.out, hbl4.alloc (by omega) _⟩
                  | true =>
                    have hri := hkeep.out.2.1.see hq (.pair (hkeep.out.2.1.sound p hu) (List.mem_of_getElem? hx))
                    have hns : q < s2.length := by omega
                    have hec := (hkeep.out.2.2.2.grow (see_grows hns)).next hx (fun _ => see_get hns)
                    have hec2 := hkeep.out.2.2.1.grow (see_grows hns)
                    have hsee := see_any w.heap.size w.heap.size (w.heap.size + 1 + 1) M (w.heap.size + 1) has.length q _ _ s2 m2 _ hal hns
                    have HSEE := Lib.hid (And.intro hsee (And.intro hri (And.intro hec2 hec))); clear hkeep hu hx hec hec2 hri hsee hal
                    go_wp2_with fail
                    refine HSEE.out.1.mono ?_
                    rintro e w9 ⟨rfl, hse, hb9, hs9⟩
                    go_wp2_with fail
                    go_roundg (pairs.length - (j + 1))
                    case measure => omega
                    case rel => exact ⟨j + 1, _, _, by omega, rfl, by go_num, ⟨hse, HSEE.out.2⟩, (hbl4.alloc (by omega) _).trans hb9⟩
                · obtain rfl : j = pairs.length := by omega
                  have mm := hkeep.out.1.2.2.2.1.cell 0 (v := .bool m2) rfl
                  have hls := hkeep.out.2.1.less
                  have HE := Lib.hid hkeep.out; clear hkeep
                  go_wp2_with fail
                  go_roundg (if m2 = true then unseen s2 + 1 else 0)
                  case measure => cases m2 <;> simp at hls ⊢ <;> omega
                  case rel => exact ⟨_, s2, m2, rfl, rfl, hs2l, ⟨HE.out.1.newm m2, HE.out.2.1.sound, fun n hn => HE.out.2.1.grows n (HK.out.2.2.1 n hn), fun h => by
                    have e := HE.out.2.1.same h
                    obtain ⟨-, -, h3, h4⟩ := HE.out
                    rw [← e] at h3 h4
                    exact ⟨h3, h4⟩⟩, hbl4.alloc (by omega) _⟩

end Go.Proofs.Ytpkccpegdpodoaa
