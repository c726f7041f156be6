/- EM: Weak4, Weak7, Weak8, EnA, Held, Held2, EnB, EnC, EnD, MkA, MkB, MkC, MkD, MkE, Rept, MarkO. -/
import Derived.Test.YtpkccpegdpodoaaEM1
import Derived.Shelf.GgClosure.Gives
import Derived.Shelf.SlicesG.CompactI
import Derived.Ground.SlgnProg
import Derived.Deep.RegionHeld3
import Derived.Handy
import Derived.Deep.DeepCutAuto
import Derived.BigQuiet
import Derived.Deep.QuietTactic
import Derived.Deep.DeepMust
import Derived.Deep.LoopGhost
import Derived.Deep.DrawnRows
import Derived.Laws.Bits64b
import Derived.Laws.CopyOwn
import Derived.Deep.OwnRows
import Derived.IntWalk
import Derived.StillTailTactics
/- The reference's From: what is reached, round by round. -/
namespace Go.Proofs.Ytpkccpegdpodoaa
open Go.RowKit

theorem ret_slice {A : Option Addr} {n m c : Nat} (h : n = m) : Ending.returned (.slice A n c) = .returned (.slice A m c) := by rw [h]
theorem egSee : ∀ args w, (callFunc 108 args).run Try.prog w = .ok (.enter 108 args) w := fun _ _ => by kernel_rfl

/-- what a round keeps in the middle of it -/
def MidSt (has : List (List Int)) (l : List Int) (pairs : List (Int × Int)) (B : Nat) (s0 : List Bool) (S : World → List Bool → Bool → Prop) (i j q : Nat) (w : World) (s : List Bool) (m : Bool) : Prop :=
  S w s m ∧ RInv has l pairs s0 s m ∧ EClosed has s0 s i j ∧ PClosed pairs s0 s q
/-- the state of a round: the graph, what was seen, whether there is more -/
def SeeSt (w : World) (base G V M gS c : Nat) (hv rv : Value) (s : List Bool) (m : Bool) : Prop :=
  Blk w G 49 #[hv, rv] ∧ Blk w V 60 #[.slice (some ⟨gS, 0, none⟩) s.length c] ∧ Own w base 4 (some ⟨gS, 0, none⟩) c s ∧ Blk w M 4 #[.bool m] ∧ gS ≠ M ∧ base ≤ M ∧ base ≤ gS

theorem SeeSt.alloc {w : World} {base G V M gS c : Nat} {hv rv : Value} {s : List Bool} {m : Bool} (h : SeeSt w base G V M gS c hv rv s m) (o : Obj) : SeeSt (w.alloc o) base G V M gS c hv rv s m :=
  ⟨h.1.alloc _, h.2.1.alloc _, h.2.2.1.alloc _, h.2.2.2.1.alloc _, h.2.2.2.2⟩
theorem SeeSt.seen {w : World} {base G V M gS c : Nat} {hv rv : Value} {s : List Bool} {m m' : Bool} (h : SeeSt w base G V M gS c hv rv s m) {k : Nat} (hk : k < s.length) :
    SeeSt ((w.setCell ⟨M, 0, none⟩ (.bool m')).setCell ⟨gS, k, none⟩ (.bool true)) base G V M gS c hv rv (s.set k true) m' := by
  obtain ⟨h1, h2, h3, h4, h5, h6, h7⟩ := h
  have a1 : G ≠ M := fun e => by subst e; unfold Blk at h1 h4; rw [h1] at h4; injection h4 with h4; injection h4 with _ h4 _; exact absurd h4 (by decide)
  have a2 : V ≠ M := fun e => by subst e; unfold Blk at h2 h4; rw [h2] at h4; injection h4 with h4; injection h4 with _ h4 _; exact absurd h4 (by decide)
  have a3 : rowOf (some (⟨gS, 0, none⟩ : Addr)) ≠ some G := own_ne_ty h3 h1 (by decide)
  have a4 : rowOf (some (⟨gS, 0, none⟩ : Addr)) ≠ some V := own_ne_ty h3 h2 (by decide)
  have a3' : G ≠ gS := fun e => a3 (by rw [e]; rfl)
  have a4' : V ≠ gS := fun e => a4 (by rw [e]; rfl)
  refine ⟨(h1.far a1 _).far a3' _, ?_, (h3.setCell _ _ (fun e => h5 (by injection e))).set_bool true hk, ((h4.set_ 0 _).far (Ne.symm h5) _), h5, h6, h7⟩
  rw [List.length_set]
  exact (h2.far a2 _).far a4' _

theorem SeeSt.ne_ {w : World} {base G V M gS c : Nat} {hv rv : Value} {s : List Bool} {m : Bool} (h : SeeSt w base G V M gS c hv rv s m) : G ≠ M := by
  obtain ⟨h1, h2, h3, h4, h5, h6, h7⟩ := h
  exact fun e => by subst e; unfold Blk at h1 h4; rw [h1] at h4; injection h4 with h4; injection h4 with _ h4 _; exact absurd h4 (by decide)

theorem see_any (base G V M gS c k : Nat) (hv rv : Value) (s : List Bool) (m : Bool) (w : World) (h : SeeSt w base G V M gS c hv rv s m) (hk : k < s.length) :
    Calls Try.prog 108 #[.int .i64 k, .pointer (some ⟨M, 0, none⟩), .pointer (some ⟨V, 0, none⟩)] w fun e w' => e = .returned (.tuple #[]) ∧ SeeSt w' base G V M gS c hv rv (s.set k true) (m || !(s.getD k false)) ∧ Below base w w' ∧ w'.heap.size = w.heap.size := by
  obtain ⟨b, hb⟩ : ∃ b, s[k]? = some b := ⟨_, List.getElem?_eq_getElem hk⟩
  have hgd : s.getD k false = b := by rw [List.getD_eq_getElem?_getD, hb]; rfl
  rw [hgd]
  have c0 := h.2.2.2.1.cell 0 (v := .bool m) rfl
  have z0 := h.2.2.2.1.frozen 0
  have c1 := h.2.1.cell 0 (v := .slice (some ⟨gS, 0, none⟩) s.length c) rfl
  have c2 := h.2.2.1.cell_bool hb
  have z2 := h.2.2.1.frozen (g := gS) rfl k
  have hne := h.2.2.2.2.1
  have hVM : V ≠ M := fun e => by
    have h2 := h.2.1; have h4 := h.2.2.2.1; subst e; unfold Blk at h2 h4; rw [h2] at h4; injection h4 with h4; injection h4 with _ h4 _; exact absurd h4 (by decide)
  have k0 : (0 : Int) ≤ (k : Int) := by omega
  have k1 : (k : Int) < (s.length : Int) := by omega
  have HS := Lib.hid (fun m' => h.seen (m' := m') hk)
  have hb1 := h.2.2.2.2.2.1
  have hb2 := h.2.2.2.2.2.2
  clear hb hgd h
  cases m with
  | true =>
    go_enter Try.func108, Try.ntmps108
    go_wp2
    go_end0
    exact ⟨rfl, HS.out true, ((Below.refl _ _).setCell hb1 _).setCell hb2 _, by simp [World.setCell]⟩
  | false =>
    cases b with
    | true =>
      go_enter Try.func108, Try.ntmps108
      go_wp2
      go_end0
      exact ⟨rfl, HS.out false, ((Below.refl _ _).setCell hb1 _).setCell hb2 _, by simp [World.setCell]⟩
    | false =>
      go_enter Try.func108, Try.ntmps108
      go_wp2
      go_end0
      exact ⟨rfl, HS.out true, ((Below.refl _ _).setCell hb1 _).setCell hb2 _, by simp [World.setCell]⟩

theorem SeeSt.setm {w : World} {base G V M gS c : Nat} {hv rv : Value} {s : List Bool} {m : Bool} (h : SeeSt w base G V M gS c hv rv s m) (m' : Bool) : SeeSt (w.setCell ⟨M, 0, none⟩ (.bool m')) base G V M gS c hv rv s m' := by
  obtain ⟨h1, h2, h3, h4, h5, h6, h7⟩ := h
  have a1 : G ≠ M := fun e => by subst e; unfold Blk at h1 h4; rw [h1] at h4; injection h4 with h4; injection h4 with _ h4 _; exact absurd h4 (by decide)
  have a2 : V ≠ M := fun e => by subst e; unfold Blk at h2 h4; rw [h2] at h4; injection h4 with h4; injection h4 with _ h4 _; exact absurd h4 (by decide)
  exact ⟨h1.far a1 _, h2.far a2 _, h3.setCell _ _ (fun e => h5 (by injection e)), h4.set_ 0 _, h5, h6, h7⟩
theorem SeeSt.newm {w : World} {base G V M gS c : Nat} {hv rv : Value} {s : List Bool} {m : Bool} (h : SeeSt w base G V M gS c hv rv s m) (m' : Bool) : SeeSt (w.alloc (.cells #[.bool m'] 4)) base G V w.heap.size gS c hv rv s m' := by
  obtain ⟨h1, h2, h3, h4, h5, h6, h7⟩ := h
  have := (h3.lt gS rfl).2
  exact ⟨h1.alloc _, h2.alloc _, h3.alloc _, Blk.new _ _ _, by omega, by omega, h7⟩

set_option maxHeartbeats 3200000 in
set_option maxRecDepth 100000 in
theorem rfrom_any (B hc rc lc pc rn : Nat) (HA RA LA PA : Option Addr) (has : List (List Int)) (l : List Int) (pairs : List (Int × Int)) (w : World) (hh : At w B HA has) (hl : At w B LA l) (hp : At w B PA pairs) (hB : B ≤ w.heap.size)
    (hright : Right has) (hsrc : RightL has.length l) (hpr : RightP has.length pairs) (hlen : has.length ≤ 100) (hll : l.length ≤ 1000) (hpl : pairs.length ≤ 1000) (hhl : ∀ l ∈ has, l.length ≤ 10) :
    Calls Try.prog 33 #[.agg #[.slice HA has.length hc, .slice RA rn rc], .slice LA l.length lc, .slice PA pairs.length pc] w fun e w' => ∃ S c, e = .returned (.slice S has.length c) ∧ Own w' w.heap.size 4 S c (fromL has l pairs) ∧ Below w.heap.size w w' := by
  have hmk := Go.run_make_row' (P := Try.prog) 60 4 (.bool false) 1 Try.underlying60 infoBool rfl .i64 .i64 has.length (by omega) (by omega)
  have HH := Lib.hid (And.intro hh (And.intro hl (And.intro hp (And.intro hright (And.intro hsrc (And.intro hpr hhl)))))); clear hh hl hp hright hsrc hpr hhl
  go_enter Try.func33, Try.ntmps33
  go_wp2_with fail
  refine wp_world (fun W => Blk W w.heap.size 49 #[.slice HA has.length hc, .slice RA rn rc] ∧ Blk W (w.heap.size + 1 + 1) 60 #[.slice (some ⟨w.heap.size + 1, 0, none⟩) has.length has.length] ∧ Own W w.heap.size 4 (some ⟨w.heap.size + 1, 0, none⟩) has.length (List.replicate has.length false) ∧ Below w.heap.size w W ∧ w.heap.size + 3 ≤ W.heap.size) ⟨?_, ?_, ?_, ?_, ?_⟩ ?_
  · exact ((Blk.new _ _ _).alloc _).alloc _
  · exact Blk.at_ ((w.alloc _).alloc _) _ _ (by simp)
  · have := own_made (w.alloc (.cells #[.slice HA has.length hc, .slice RA rn rc] 49)) w.heap.size 4 has.length (by simp) (by simp only [maxLen]; omega)
    simp only [World.size_alloc] at this
    exact this.alloc _
  · exact (((Below.refl _ _).alloc (Nat.le_refl _) _).alloc (by simp) _).alloc (by simp; omega) _
  · simp
  rintro W ⟨hG, hV, hS, hb0, hs0⟩
  clear hmk
  go_loopg [24] (l.length) (fun gk iv wr => ∃ (k : Nat) (s : List Bool), k ≤ l.length ∧ gk = l.length - k ∧ iv = .int .i64 k ∧ s.length = has.length ∧ Hid ((∀ n : Nat, s[n]? = some true → (n : Int) ∈ l) ∧ (∀ n : Nat, (n : Int) ∈ l.take k → s[n]? = some true) ∧ Blk wr w.heap.size 49 #[.slice HA has.length hc, .slice RA rn rc] ∧ Blk wr (w.heap.size + 1 + 1) 60 #[.slice (some ⟨w.heap.size + 1, 0, none⟩) has.length has.length] ∧ Own wr w.heap.size 4 (some ⟨w.heap.size + 1, 0, none⟩) has.length s) ∧ Below w.heap.size w wr ∧ w.heap.size + 3 ≤ wr.heap.size)
  case atStart => exact ⟨0, List.replicate has.length false, Nat.zero_le _, rfl, rfl, by simp, ⟨fun n hn => by rw [List.getElem?_replicate] at hn; split at hn <;> simp at hn, fun n hn => by simp at hn, hG, hV, hS⟩, hb0, hs0⟩
  case round =>
    obtain ⟨k, s, hk, rfl, rfl, hsl, hkeep, hbl, hsz⟩ := hrel
    clear hG hV hS hb0 hs0
    obtain ⟨k1, k2, k3, k4, k5⟩ := hkeep.out
    by_cases hlt : k < l.length
    · obtain ⟨b, o, x, rfl, hb, hx, hok, h0⟩ := (HH.out.2.1.below (hbl.mono hB)).int_ hlt
      obtain ⟨n, rfl, hn⟩ := HH.out.2.2.2.2.1 x (List.mem_of_getElem? hx)
      obtain ⟨u, hu⟩ : ∃ v, s[n]? = some v := ⟨_, List.getElem?_eq_getElem (by omega)⟩
      have c0 := k4.cell 0 (v := .slice (some ⟨w.heap.size + 1, 0, none⟩) has.length has.length) rfl
      have c1 := k5.cell_bool hu
      have z1 := k5.frozen (g := w.heap.size + 1) rfl n
      have n0 : (0 : Int) ≤ (n : Int) := by omega
      have n1 : (n : Int) < (has.length : Int) := by omega
      have hns : n < s.length := by omega
      have HX := Lib.hid (And.intro hx (And.intro (k3.far (p := ⟨w.heap.size + 1, n, none⟩) (by simp) (.bool true)) (And.intro (k4.far (p := ⟨w.heap.size + 1, n, none⟩) (by simp) (.bool true)) (And.intro (k5.set_bool true hns) (And.intro k1 k2)))))
      clear hx hu hkeep k1 k2 k3 k4 k5
      go_wp2_with fail
      go_roundg (l.length - (k + 1))
      case measure => omega
      case rel =>
        obtain ⟨f1, f2, f3, f4, f5, f6⟩ := HX.out
        refine ⟨k + 1, s.set n true, by omega, rfl, by go_num, by simp [hsl], ⟨fun j hj => ?_, fun j hj => ?_, f2, f3, f4⟩, hbl.setCell (by simp) _, by simp [World.setCell]; omega⟩
        · rcases (set_true_get hns).1 hj with rfl | hj
          · exact List.mem_of_getElem? f1
          · exact f5 j hj
        · rw [List.take_add_one, f1] at hj
          rcases List.mem_append.1 hj with hj | hj
          · exact (set_true_get hns).2 (.inr (f6 j hj))
          · simp at hj
            exact (set_true_get hns).2 (.inl (by omega))
    · rw [List.take_of_length_le (by omega)] at k2
      have hge := (k5.lt (w.heap.size + 1) rfl).2
      have HS0 := Lib.hid (And.intro k1 (And.intro k2 (And.intro k3 (And.intro k4 k5)))); clear k1 k2 k3 k4 k5 hkeep
      go_wp2_with fail
      go_loopg [10] (unseen s + 1) (fun gk mv wr => ∃ (M : Nat) (s : List Bool) (m : Bool), mv = .pointer (some ⟨M, 0, none⟩) ∧ gk = (if m = true then unseen s + 1 else 0) ∧ s.length = has.length ∧ Hid (SeeSt wr w.heap.size w.heap.size (w.heap.size + 1 + 1) M (w.heap.size + 1) has.length (.slice HA has.length hc) (.slice RA rn rc) s m ∧ (∀ n, s[n]? = some true → RT has l pairs n) ∧ (∀ n : Nat, (n : Int) ∈ l → s[n]? = some true) ∧ (m = false → EClosed has s s has.length 0 ∧ PClosed pairs s s pairs.length)) ∧ Below w.heap.size w wr)
      case atStart =>
        obtain ⟨f1, f2, f3, f4, f5⟩ := HS0.out
        exact ⟨_, s, true, rfl, by simp, hsl, ⟨⟨f3.alloc _, by rw [hsl]; exact f4.alloc _, f5.alloc _, Blk.new _ _ _, by omega, by omega, by omega⟩, fun n hn => .root (f1 n hn), f2, fun h => by cases h⟩, hbl.alloc (by omega) _⟩
      case round =>
        obtain ⟨M, s, m, rfl, rfl, hsl, hkeep, hbl⟩ := hrel
        have hsz := hbl.size
        have m0 := hkeep.out.1.2.2.2.1.cell 0 (v := .bool m) rfl
        have mz := hkeep.out.1.2.2.2.1.frozen 0
        have hM := hkeep.out.1.2.2.2.2.2.1
        cases m with
        | false =>
          have hfin := RInv.fin hsl hkeep.out.2.1 hkeep.out.2.2.1 (hkeep.out.2.2.2 rfl).1 (hkeep.out.2.2.2 rfl).2
          have v0 := hkeep.out.1.2.1.cell 0 (v := .slice (some ⟨w.heap.size + 1, 0, none⟩) s.length has.length) rfl
          have HF := Lib.hid (And.intro hfin hkeep.out.1.2.2.1); clear hfin hkeep
          go_wp2_with fail
          go_ret
          exact ⟨some ⟨w.heap.size + 1, 0, none⟩, has.length, rfl, by rw [← HF.out.1]; exact HF.out.2, hbl⟩
        | true =>
          have hst := hkeep.out.1.setm false
          have g0 := hst.1.cell 0 (v := .slice HA has.length hc) rfl
          have HK := Lib.hid (And.intro hst hkeep.out.2); clear hst hkeep
          have hblm := hbl.setCell (p := ⟨M, 0, none⟩) hM (.bool false)
          have HS1 := Lib.hid HK.out.1.1; 
          have hGM := HK.out.1.ne_
          go_wp2_with fail
          clear g0 m0 mz
          go_loopg [37] (has.length) (fun gi iv wi => ∃ (i : Nat) (s' : List Bool) (m' : Bool), i ≤ has.length ∧ gi = has.length - i ∧ iv = .int .i64 i ∧ Hid (SeeSt wi w.heap.size w.heap.size (w.heap.size + 1 + 1) M (w.heap.size + 1) has.length (.slice HA has.length hc) (.slice RA rn rc) s' m' ∧ RInv has l pairs s s' m' ∧ EClosed has s s' i 0) ∧ Below w.heap.size w wi)
          case atStart => exact ⟨0, s, false, Nat.zero_le _, rfl, rfl, ⟨HK.out.1, ⟨hsl, hsl, HK.out.2.1, Grows.refl _, fun _ => rfl, by simp⟩, EClosed.zero _ _ _⟩, hblm⟩
          case round =>
            obtain ⟨i, s1, m1, hi, rfl, rfl, hkeep, hbl3⟩ := hrel
            have hsz3 := hbl3.size
            have hs1l := hkeep.out.2.1.len
            by_cases hlt3 : i < has.length
            · obtain ⟨b, o, li, A', c', rfl, hb, hli, hcell, hat', hlc, hmx⟩ := (HH.out.1.below (hbl3.mono hB)).slice_ hlt3
              have hll10 := HH.out.2.2.2.2.2.2 li (List.mem_of_getElem? hli)
              have HLI := Lib.hid (And.intro hli hat'); clear hli hat'
              obtain ⟨wo, rfl⟩ : ∃ wo : World, wo = wr := ⟨_, rfl⟩
              go_wp2_with fail
              go_loopg [44] (li.length) (fun gj jv wj => ∃ (j : Nat) (s' : List Bool) (m' : Bool), j ≤ li.length ∧ gj = li.length - j ∧ jv = .int .i64 j ∧ Hid (SeeSt wj w.heap.size w.heap.size (w.heap.size + 1 + 1) M (w.heap.size + 1) has.length (.slice (some ⟨b, o, none⟩) has.length hc) (.slice RA rn rc) s' m' ∧ RInv has l pairs s s' m' ∧ EClosed has s s' i j) ∧ Below w.heap.size w wj ∧ Below w.heap.size wo wj)
              case atStart => exact ⟨0, s1, m1, Nat.zero_le _, rfl, rfl, hkeep.out, hbl3, Below.refl _ _⟩
              case round =>
                obtain ⟨j, s2, m2, hj, rfl, rfl, hkeep, hbl4, hblo⟩ := hrel
                have hs2l := hkeep.out.2.1.len
                by_cases hlt4 : j < li.length
                · obtain ⟨b', o', x, rfl, hb', hx, hok, h0⟩ := (HLI.out.2.below (hblo.mono hB)).int_ hlt4
                  obtain ⟨n, rfl, hn⟩ := HH.out.2.2.2.1 li (List.mem_of_getElem? HLI.out.1) x (List.mem_of_getElem? hx)
                  obtain ⟨u, hu⟩ : ∃ v, s2[i]? = some v := ⟨_, List.getElem?_eq_getElem (by omega)⟩
                  have v0 := hkeep.out.1.2.1.cell 0 (v := .slice (some ⟨w.heap.size + 1, 0, none⟩) s2.length has.length) rfl
                  have v1 := hkeep.out.1.2.2.1.cell_bool hu
                  have i0 : (0 : Int) ≤ (i : Int) := by omega
                  have i1 : (i : Int) < (s2.length : Int) := by omega
                  cases u with
                  | false =>
                    have hec := hkeep.out.2.2.next HLI.out.1 hx (fun h => by have := hkeep.out.2.1.grows i h; rw [hu] at this; cases this)
                    have HE := Lib.hid (And.intro hkeep.out.1 (And.intro hkeep.out.2.1 hec)); clear hkeep hu hx hok hec
                    go_wp2_with fail
                    go_roundg (li.length - (j + 1))
                    case measure => omega
                    case rel => exact ⟨j + 1, s2, m2, by omega, rfl, by go_num, HE.out, hbl4, hblo⟩
                  | true =>
                    have hri := hkeep.out.2.1.see hn (.edge (hkeep.out.2.1.sound i hu) HLI.out.1 (List.mem_of_getElem? hx))
                    have hns : n < s2.length := by omega
                    have hec := (hkeep.out.2.2.grow (see_grows hns)).next HLI.out.1 hx (fun _ => see_get hns)
                    have hsee := see_any w.heap.size w.heap.size (w.heap.size + 1 + 1) M (w.heap.size + 1) has.length n _ _ s2 m2 wr hkeep.out.1 hns
                    have HSEE := Lib.hid (And.intro hsee (And.intro hri hec)); clear hkeep hu hx hok hec hri hsee
                    go_wp2_with fail
                    refine HSEE.out.1.mono ?_
                    rintro e w9 ⟨rfl, hse, hb9, hs9⟩
                    go_wp2_with fail
                    go_roundg (li.length - (j + 1))
                    case measure => omega
                    case rel => exact ⟨j + 1, _, _, by omega, rfl, by go_num, ⟨hse, HSEE.out.2⟩, hbl4.trans hb9, hblo.trans hb9⟩
                · have hec := hkeep.out.2.2.done HLI.out.1 (by omega)
                  have HE := Lib.hid (And.intro hkeep.out.1 (And.intro hkeep.out.2.1 hec)); clear hkeep hec
                  go_wp2_with fail
                  go_roundg (has.length - (i + 1))
                  case measure => omega
                  case rel => exact ⟨i + 1, s2, m2, by omega, rfl, by go_num, HE.out, hbl4⟩
            · obtain rfl : i = has.length := by omega
              go_wp2_with fail
              obtain ⟨wo, rfl⟩ : ∃ wo : World, wo = wr := ⟨_, rfl⟩
              go_loopg [59] (pairs.length) (fun gj jv wj => ∃ (j : Nat) (s' : List Bool) (m' : Bool), j ≤ pairs.length ∧ gj = pairs.length - j ∧ jv = .int .i64 j ∧ Hid (SeeSt wj w.heap.size w.heap.size (w.heap.size + 1 + 1) M (w.heap.size + 1) has.length (.slice HA has.length hc) (.slice RA rn rc) s' m' ∧ RInv has l pairs s s' m' ∧ EClosed has s s' has.length 0 ∧ PClosed pairs s s' j) ∧ Below w.heap.size w wj)
              case atStart => exact ⟨0, s1, m1, Nat.zero_le _, rfl, rfl, ⟨hkeep.out.1, hkeep.out.2.1, hkeep.out.2.2, PClosed.zero _ _ _⟩, hbl3⟩
              case round =>
                obtain ⟨j, s2, m2, hj, rfl, rfl, hkeep, hbl4⟩ := hrel
                have hs2l := hkeep.out.2.1.len
                have hsz4 := hbl4.size
                by_cases hlt4 : j < pairs.length
                · obtain ⟨b', o', x, y, rfl, hb', hx, -, -, g0, g1⟩ := (HH.out.2.2.1.below (hbl4.mono hB)).pair hlt4
                  obtain ⟨p, q, hpq, hp, hq⟩ := HH.out.2.2.2.2.2.1 _ (List.mem_of_getElem? hx)
                  injection hpq with e1 e2; subst e1 e2
                  obtain ⟨u, hu⟩ : ∃ v, s2[p]? = some v := ⟨_, List.getElem?_eq_getElem (by omega)⟩
                  have ltV := hkeep.out.1.2.1.lt
                  have ltS := (hkeep.out.1.2.2.1.lt (w.heap.size + 1) rfl).2
                  have v0 := hkeep.out.1.2.1.cell 0 (v := .slice (some ⟨w.heap.size + 1, 0, none⟩) s2.length has.length) rfl
                  have v1 := hkeep.out.1.2.2.1.cell_bool hu
                  have i0 : (0 : Int) ≤ (p : Int) := by omega
                  have i1 : (p : Int) < (s2.length : Int) := by omega
                  have hal := hkeep.out.1.alloc (.cells #[.int .i64 p, .int .i64 q] 63)
                  cases u with
                  | false =>
                    have hec := hkeep.out.2.2.2.next hx (fun h => by have := hkeep.out.2.1.grows p h; rw [hu] at this; cases this)
                    have HE := Lib.hid (And.intro hal (And.intro hkeep.out.2.1 (And.intro hkeep.out.2.2.1 hec))); clear hkeep hu hx hec hal
                    go_wp2_with fail
                    go_roundg (pairs.length - (j + 1))
                    case measure => omega
                    case rel => exact ⟨j + 1, s2, m2, by omega, rfl, by go_num, HE.out, hbl4.alloc (by omega) _⟩
                  | true =>
                    have hri := hkeep.out.2.1.see hq (.pair (hkeep.out.2.1.sound p hu) (List.mem_of_getElem? hx))
                    have hns : q < s2.length := by omega
                    have hec := (hkeep.out.2.2.2.grow (see_grows hns)).next hx (fun _ => see_get hns)
                    have hec2 := hkeep.out.2.2.1.grow (see_grows hns)
                    have hsee := see_any w.heap.size w.heap.size (w.heap.size + 1 + 1) M (w.heap.size + 1) has.length q _ _ s2 m2 _ hal hns
                    have HSEE := Lib.hid (And.intro hsee (And.intro hri (And.intro hec2 hec))); clear hkeep hu hx hec hec2 hri hsee hal
                    go_wp2_with fail
                    refine HSEE.out.1.mono ?_
                    rintro e w9 ⟨rfl, hse, hb9, hs9⟩
                    go_wp2_with fail
                    go_roundg (pairs.length - (j + 1))
                    case measure => omega
                    case rel => exact ⟨j + 1, _, _, by omega, rfl, by go_num, ⟨hse, HSEE.out.2⟩, (hbl4.alloc (by omega) _).trans hb9⟩
                · obtain rfl : j = pairs.length := by omega
                  have mm := hkeep.out.1.2.2.2.1.cell 0 (v := .bool m2) rfl
                  have hls := hkeep.out.2.1.less
                  have HE := Lib.hid hkeep.out; clear hkeep
                  go_wp2_with fail
                  go_roundg (if m2 = true then unseen s2 + 1 else 0)
                  case measure => cases m2 <;> simp at hls ⊢ <;> omega
                  case rel => exact ⟨_, s2, m2, rfl, rfl, hs2l, ⟨HE.out.1.newm m2, HE.out.2.1.sound, fun n hn => HE.out.2.1.grows n (HK.out.2.2.1 n hn), fun h => by
                    have e := HE.out.2.1.same h
                    obtain ⟨-, -, h3, h4⟩ := HE.out
                    rw [← e] at h3 h4
                    exact ⟨h3, h4⟩⟩, hbl4.alloc (by omega) _⟩

end Go.Proofs.Ytpkccpegdpodoaa

/- weak.live: what is live, by pairs. -/
namespace Go.Proofs.Ytpkccpegdpodoaa
open Go.RowKit

theorem reach_new (R base k gl : Nat) (hv rv : Value) (seen : List Bool) (todo : List Int) (w : World) (hgl : gl = w.heap.size) (h : Rch w base R hv rv seen todo) (hk : k < seen.length) (hll : todo.length ≤ 100000) (hsl : seen.length ≤ 1000000) :
    Calls Try.prog 168 #[.pointer (some ⟨R, 0, none⟩), .slice (some ⟨gl, 0, none⟩) 1 1] (w.alloc (.cells #[.int .i64 k] 3)) fun e w' => e = .returned (.tuple #[]) ∧ Rch w' base R hv rv (reach1 (seen, todo) k).1 (reach1 (seen, todo) k).2 ∧ Below base w w' := by
  subst hgl
  have hlt := h.lt
  obtain ⟨S, T, c, d, h1, h2, h3, h4⟩ := h
  have hRl := h1.lt
  have hat := At.built w #[.int .i64 (k : Int)] 3 [(k : Int)] rfl (by intro z hz; simp at hz; subst hz; exact (by unfold I64; omega : I64 (k : Int)))
  refine (reach_core R base (w.heap.size + 1) c d 1 (some ⟨w.heap.size, 0, none⟩) S T hv rv seen todo [(k : Int)] (w.alloc (.cells #[.int .i64 k] 3)) (h1.alloc _) (h2.alloc _) (h3.alloc _) h4 (by simp; omega) hat (by simp) (fun _ g hg => ?_) (fun x hx => by simp at hx; exact ⟨k, hx, hk⟩) (by simp; omega) (by omega)).mono fun e w' ⟨he, hr, hb⟩ => ⟨he, hr, ((Below.refl _ _).alloc (by omega) _).trans hb⟩
  injection hg with hg
  simp only at hg
  subst hg
  exact ⟨by omega, fun e => by have := (h2.lt _ e).2; omega, fun e => by have := (h3.lt _ e).2; omega⟩

theorem Rch.drewN {w : World} {base R : Nat} {hv rv : Value} {seen : List Bool} {todo : List Int} (h : Rch w base R hv rv seen todo) (n : Nat) : Rch (w.drewN n) base R hv rv seen todo := by
  obtain ⟨S, T, c, d, h1, h2, h3, h4⟩ := h
  exact ⟨S, T, c, d, h1.drewN n, h2.drewN n, h3.drewN n, h4⟩
def LivePost (has : List (List Int)) (roots : List Int) (pairs : List (Int × Int)) (w : World) (e : Ending) (w' : World) : Prop :=
  Below w.heap.size w w' ∧ ((prErr has roots pairs = 0 ∧ ∃ S c, e = .returned (.tuple #[.slice S has.length c, .int .i64 0]) ∧ Own w' w.heap.size 4 S c (fromL has roots pairs)) ∨
    (prErr has roots pairs ≠ 0 ∧ e = .returned (.tuple #[.slice none 0 0, .int .i64 (prErr has roots pairs)])))

/-- what the loop over pairs keeps -/
def LSt (has : List (List Int)) (src : List Int) (pairs : List (Int × Int)) (s1 : List Bool) (s : List Bool) (t : List Int) (m : Bool) : Prop :=
  Inv has src pairs [] s t ∧ Grows s1 s ∧ (m = false → s = s1 ∧ t = []) ∧ 2 * unseen s + t.length + (if m = true then 1 else 0) ≤ 2 * unseen s1

set_option maxHeartbeats 3200000 in
set_option maxRecDepth 100000 in
theorem live_any (B hc rc pc : Nat) (HA RA PA : Option Addr) (has : List (List Int)) (roots : List Int) (pairs : List (Int × Int)) (w : World) (hh : At w B HA has) (hr : At w B RA roots) (hp : At w B PA pairs) (hB : B ≤ w.heap.size) (hl : has.length ≤ 9223372036854775807) (hrl : roots.length ≤ 9223372036854775807) (hpl : pairs.length ≤ 9223372036854775807) (hrc : roots.length ≤ rc ∧ rc ≤ maxLen) :
    Calls Try.prog 106 #[.agg #[.slice HA has.length hc, .slice RA roots.length rc], .slice PA pairs.length pc] w (LivePost has roots pairs w) := by
  have hmk0 : has.length ≤ 100 → ∀ w, (Instr.makeSlice 60 (.int .i64 (has.length : Int)) (.int .i64 (has.length : Int))).run Try.prog w = .ok (.slice (some ⟨w.heap.size, 0, none⟩) has.length has.length) (w.alloc (.cells (madeCells #[.bool false] has.length) 4)) := fun h => Go.run_make_row' (P := Try.prog) 60 4 (.bool false) 1 Try.underlying60 infoBool rfl .i64 .i64 has.length (by omega) (by omega)
  have HMK := Lib.hid hmk0; clear hmk0
  have HH := Lib.hid (And.intro hh (And.intro hr hp)); clear hh hr hp
  go_enter Try.func106, Try.ntmps106
  go_wp2_with fail
  refine calls_world (fun W => Blk W w.heap.size 49 #[.slice HA has.length hc, .slice RA roots.length rc] ∧ Below w.heap.size w W ∧ w.heap.size + 1 ≤ W.heap.size) ⟨Blk.new _ _ _, (Below.refl _ _).alloc (Nat.le_refl _) _, by simp⟩ ?_
  rintro W ⟨hG, hb0, hs0⟩
  refine (wcheck_any B hc rc HA RA has roots W (HH.out.1.below (hb0.mono hB)) (HH.out.2.1.below (hb0.mono hB)) (by omega) hl hrl hrc).mono ?_
  rintro e w1 ⟨rfl, hb1⟩
  have hbl1 := hb0.trans (hb1.mono (by omega))
  have hs1 := hb1.size
  obtain ⟨ge, hge⟩ : ∃ ge, grErr has roots = ge := ⟨_, rfl⟩
  rw [hge]
  by_cases h0 : ge = 0
  rotate_left
  · have he := prErr_graph (pairs := pairs) (show grErr has roots ≠ 0 by rw [hge]; exact h0)
    have hne : (ge != 0) = true := by simp [h0]
    have HE := Lib.hid (And.intro (he.trans hge) h0); clear he hge h0 hG
    go_wp2_with fail
    go_ret2
    exact ⟨hbl1, .inr (by rw [HE.out.1]; exact ⟨HE.out.2, rfl⟩)⟩
  subst h0
  by_cases h50 : 50 < pairs.length
  · have he := prErr_large hge h50
    have HE := Lib.hid he; clear he hge hG
    go_wp2_with fail
    go_ret2
    exact ⟨hbl1, .inr (by rw [HE.out]; exact ⟨by decide, rfl⟩)⟩
  have hform := prErr_form hge h50
  obtain ⟨gl, grl, ghl, gright, gsrc⟩ := grErr_ok hge
  have hst := fromL_start pairs gsrc
  have HF := Lib.hid (And.intro hform (And.intro (hG.fresh hb1) (And.intro gright (And.intro gsrc (And.intro ghl (And.intro hst hge)))))); clear hform hge hG gright gsrc ghl hst
  go_wp2_with fail
  go_loopw [23] (fun i wr => ∃ j : Nat, j ≤ pairs.length ∧ i = .int .i64 j ∧ Hid ((pairs.take j).all (fun p => inN has.length p.1 && inN has.length p.2) = true ∧ Blk wr w.heap.size 49 #[.slice HA has.length hc, .slice RA roots.length rc]) ∧ Below w.heap.size w wr ∧ w.heap.size + 1 ≤ wr.heap.size) (fun i _ => pairs.length - (intOf i).toNat)
  case atStart => exact ⟨0, Nat.zero_le _, rfl, ⟨rfl, HF.out.2.1⟩, hbl1, by omega⟩
  case round =>
    obtain ⟨j, hj, rfl, hin, hbl, hsz⟩ := hrel
    by_cases hjt : j < pairs.length
    · obtain ⟨b, o, x, y, rfl, hb, hx, -, -, c0, c1⟩ := (HH.out.2.2.below (hbl.mono hB)).pair hjt
      have g0 := hin.out.2.cell 0 (v := .slice HA has.length hc) rfl
      have hlt0 : w.heap.size < wr.heap.size := by omega
      have hal := hin.out.2.alloc (.cells #[.int .i64 x, .int .i64 y] 63)
      have hix := fun w => in_any x has.length w
      have hiy := fun w => in_any y has.length w
      have HI := Lib.hid (And.intro hix hiy); clear hix hiy
      cases hqx : inN has.length x with
      | false =>
        have he : prErr has roots pairs = 3 := by rw [HF.out.1, if_neg]; rw [Bool.not_eq_true]; exact all_stop _ _ j _ hx (by simp [hqx])
        have HE := Lib.hid (And.intro he hqx); clear he hx hqx hal hin
        go_wp2_with (go_at_call 107; refine (HI.out.1 _).mono ?_; rintro e w9 ⟨rfl, rfl⟩; rw [HE.out.2])
        go_ret2
        exact ⟨hbl.alloc (by omega) _, .inr (by rw [HE.out.1]; exact ⟨by decide, rfl⟩)⟩
      | true =>
        have HQ := Lib.hid hqx; clear hqx
        go_wp2_with fail
        refine (HI.out.1 _).mono ?_
        rintro e w9 ⟨rfl, rfl⟩
        rw [HQ.out]
        cases hqy : inN has.length y with
        | false =>
          have he : prErr has roots pairs = 3 := by rw [HF.out.1, if_neg]; rw [Bool.not_eq_true]; exact all_stop _ _ j _ hx (by simp [hqy])
          have HE := Lib.hid (And.intro he hqy); clear he hx hqy hal hin
          go_wp2_with (go_at_call 107; refine (HI.out.2 _).mono ?_; rintro e w9 ⟨rfl, rfl⟩; rw [HE.out.2])
          go_ret2
          exact ⟨hbl.alloc (by omega) _, .inr (by rw [HE.out.1]; exact ⟨by decide, rfl⟩)⟩
        | true =>
          have HX := Lib.hid (And.intro hx (And.intro hqy (And.intro hin.out.1 hal))); clear hx hqy hal hin
          go_wp2_with (go_at_call 107; refine (HI.out.2 _).mono ?_; rintro e w9 ⟨rfl, rfl⟩; rw [HX.out.2.1])
          go_roundw
          case rel => exact ⟨j + 1, by omega, by go_num, ⟨by rw [all_snoc _ _ _ _ HX.out.1, HX.out.2.2.1]; simp [HX.out.2.1, HQ.out], HX.out.2.2.2⟩, hbl.alloc (by omega) _, by simp; omega⟩
          case measure => simp [intOf]; omega
    · have hin2 := hin.out.1
      rw [List.take_of_length_le (by omega)] at hin2
      have he : prErr has roots pairs = 0 := by rw [HF.out.1, if_pos hin2]
      have hpr := (prErr_ok he).2.2
      have g0 := hin.out.2.cell 0 (v := .slice HA has.length hc) rfl
      have g1 := hin.out.2.cell 1 (v := .slice RA roots.length rc) rfl
      have hlt0 : w.heap.size < wr.heap.size := by omega
      have HE := Lib.hid (And.intro he (And.intro hin.out.2 hpr)); clear he hin2 hin hpr
      have hmk := HMK.out gl
      go_wp2_with fail
      go_region_held3 (fun w' => w'.cell? ⟨w.heap.size, 0, none⟩ = some (.slice HA has.length hc) ∧ w'.cell? ⟨w.heap.size, 1, none⟩ = some (.slice RA roots.length rc)) (go_keep) (fail)
      go_wp2_with fail
      refine calls_world (fun V => Rch V wr.heap.size (wr.heap.size + 1) (.slice HA has.length hc) (.slice RA roots.length rc) (List.replicate has.length false) [] ∧ Below w.heap.size w V) ⟨?_, ?_⟩ ?_
      · have o1 := own_made wr wr.heap.size 4 has.length (Nat.le_refl _) (by simp only [maxLen]; omega)
        refine ⟨some ⟨wr.heap.size, 0, none⟩, none, has.length, 0, ?_, (o1.alloc _).drew, Own.nil_, by omega⟩
        rw [List.length_replicate]
        exact (Blk.at_ (wr.alloc _) _ _ (by simp)).drew
      · exact ((hbl.alloc (by omega) _).alloc (by simp; omega) _).drew
      clear g0 g1 hmk
      rintro V ⟨hR, hbV⟩
      have hsV := hR.lt
      refine (reach_old (wr.heap.size + 1) wr.heap.size B rc RA _ _ (List.replicate has.length false) [] roots V hR (HH.out.2.1.below (hbV.mono hB)) (by omega) (by rw [List.length_replicate]; exact HF.out.2.2.2.1) (by simp; omega) (by simp; omega)).mono ?_
      rintro e w2 ⟨rfl, hR1, hb2⟩
      have hbl2 := hbV.trans (hb2.mono (by omega))
      obtain ⟨s1, t1, hst⟩ : ∃ s1 t1, reachL roots (List.replicate has.length false, []) = (s1, t1) := ⟨_, _, rfl⟩
      have hH := HF.out.2.2.2.2.2.1
      rw [hst] at hR1 hH
      have htl : t1.length ≤ 2 * has.length := hH.2.2
      have H1 := Lib.hid (And.intro hR1 hH); clear hR1 hH hR hst
      go_wp2_with fail
      obtain ⟨wb, hwb⟩ : ∃ wb, wb = wr.heap.size := ⟨_, rfl⟩
      rw [← hwb] at H1 hsV ⊢
      have hwb2 : w.heap.size + 1 ≤ wb := by omega
      clear hwb
      go_loopg [10] (2 * unseen s1 + t1.length + 1) (fun gk mv wi => ∃ (s : List Bool) (t : List Int) (m : Bool), mv = .bool m ∧ gk = (if m = true then 2 * unseen s + t.length + 1 else 0) ∧ t.length ≤ 2 * has.length ∧ Hid (Rch wi wb (wb + 1) (.slice HA has.length hc) (.slice RA roots.length rc) s t ∧ Inv has roots pairs [] s t ∧ (∀ n : Nat, (n : Int) ∈ roots → s[n]? = some true) ∧ (m = false → t = [] ∧ PClosed pairs s s pairs.length)) ∧ Below w.heap.size w wi)
      case atStart => exact ⟨s1, t1, true, rfl, by simp, htl, ⟨H1.out.1, H1.out.2.1, H1.out.2.2.1, fun h => by cases h⟩, hbl2⟩
      case round =>
        obtain ⟨s, t, m, rfl, rfl, htl, hkeep, hbl⟩ := hrel
        cases m with
        | false =>
          obtain ⟨rfl, hpc⟩ := hkeep.out.2.2.2 rfl
          have hfin := hkeep.out.2.1.done hkeep.out.2.2.1 (fun k v h1 h2 => hpc k v h1 (by rw [List.take_length]; exact h2))
          have hsl := hkeep.out.2.1.len
          obtain ⟨S, T, c, d, r1, r2, r3, r4⟩ := hkeep.out.1
          rw [hsl] at r1
          rw [hfin] at r2
          have q2 := r1.cell 2 (v := .slice S has.length c) rfl
          have HO := Lib.hid r2
          clear r1 r2 r3 hfin hpc hkeep
          go_wp2_with fail
          go_ret2
          exact ⟨hbl, .inl ⟨HE.out.1, S, c, rfl, HO.out.base_le (by omega)⟩⟩
        | true =>
          have hun := unseen_le s
          have hsl := hkeep.out.2.1.len
          go_wp2_with fail
          refine (reachAll_any (wb + 1) wb B hc rc has.length roots.length HA RA has roots pairs s t wr hkeep.out.1 (HH.out.1.below (hbl.mono hB)) (by omega) HF.out.2.2.1 hkeep.out.2.1 (by omega) (by omega) (fun l hl => by have := HF.out.2.2.2.2.1 l hl; omega)).mono ?_
          rintro e w3 ⟨rfl, ⟨s2, hR2, hI2, hG2⟩, hb3⟩
          have hbl3 := hbl.trans (hb3.mono (by omega))
          have hug := unseen_grows (by rw [hsl, hI2.len]) hG2
          have hs2l := hI2.len
          have hsrc2 : ∀ n : Nat, (n : Int) ∈ roots → s2[n]? = some true := fun n hn => hG2 n (hkeep.out.2.2.1 n hn)
          have HK := Lib.hid (And.intro hR2 (And.intro hI2 hsrc2)); clear hR2 hI2 hsrc2 hG2 hkeep
          go_wp2_with fail
          go_loopg [10, 60] (pairs.length) (fun gj mv jv wj => ∃ (j : Nat) (s' : List Bool) (t' : List Int) (m' : Bool), j ≤ pairs.length ∧ gj = pairs.length - j ∧ jv = .int .i64 j ∧ mv = .bool m' ∧ s'.length = has.length ∧ Hid (Rch wj wb (wb + 1) (.slice HA has.length hc) (.slice RA roots.length rc) s' t' ∧ LSt has roots pairs s2 s' t' m' ∧ PClosed pairs s2 s' j) ∧ Below w.heap.size w wj)
          case atStart => exact ⟨0, s2, [], false, Nat.zero_le _, rfl, rfl, rfl, hs2l, ⟨HK.out.1, ⟨HK.out.2.1, Grows.refl _, fun _ => ⟨rfl, rfl⟩, by simp⟩, PClosed.zero _ _ _⟩, hbl3⟩
          case round =>
            obtain ⟨j, s4, t4, m4, hj, rfl, rfl, rfl, hs4l, hkeep, hbl4⟩ := hrel
            have hsz4 := hbl4.size
            have hwb4 := hkeep.out.1.lt
            have hme := hkeep.out.2.1.2.2.2
            have hun2 := unseen_le s2
            by_cases hjt : j < pairs.length
            · obtain ⟨b', o', x, y, rfl, hb', hx, -, -, g0, g1⟩ := (HH.out.2.2.below (hbl4.mono hB)).pair hjt
              obtain ⟨p, q, hpq, hp, hq⟩ := HE.out.2.2 _ (List.mem_of_getElem? hx)
              injection hpq with e1 e2; subst e1 e2
              obtain ⟨u, hu⟩ : ∃ v, s4[p]? = some v := ⟨_, List.getElem?_eq_getElem (by omega)⟩
              obtain ⟨v, hv⟩ : ∃ v, s4[q]? = some v := ⟨_, List.getElem?_eq_getElem (by omega)⟩
              have hcl := hkeep.out.1
              obtain ⟨S, T, c, d, r1, r2, r3, r4⟩ := hcl
              obtain ⟨g, rfl, hg1, hg2⟩ := r2.some_ (by omega)
              have hRlt := r1.lt
              have v0 := r1.cell 2 (v := .slice (some ⟨g, 0, none⟩) s4.length c) rfl
              have v1 := r2.cell_bool hu
              have v2 := r2.cell_bool hv
              have p0 : (0 : Int) ≤ (p : Int) := by omega
              have p1 : (p : Int) < (s4.length : Int) := by omega
              have q0 : (0 : Int) ≤ (q : Int) := by omega
              have q1 : (q : Int) < (s4.length : Int) := by omega
              have hRa : Rch (wr.alloc (.cells #[.int .i64 p, .int .i64 q] 63)) wb (wb + 1) (.slice HA has.length hc) (.slice RA roots.length rc) s4 t4 := ⟨some ⟨g, 0, none⟩, T, c, d, r1.alloc _, r2.alloc _, r3.alloc _, r4⟩
              have hq4 : q < s4.length := by omega
              have htl4 : t4.length ≤ 100000 := by split at hme <;> omega
              by_cases hgo : u = true ∧ v = false
              · obtain ⟨rfl, rfl⟩ := hgo
                have hi4 := hkeep.out.2.1.1
                obtain ⟨i1, i2, i3, i4⟩ := hi4.reach1 (st := (s4, t4)) hq (.pair (hi4.sound p hu) (List.mem_of_getElem? hx))
                have hr1 : reach1 (s4, t4) (q : Int) = (s4.set q true, t4 ++ [(q : Int)]) := by unfold reach1; rw [if_neg (by rw [Int.toNat_natCast, getD_true, hv]; simp), Int.toNat_natCast]
                have hus := unseen_set hv
                have hreach := fun nq => reach_new (wb + 1) wb q (wr.heap.size + 1) _ _ s4 t4 _ (by simp) (hRa.drewN nq) hq4 htl4 (by omega)
                rw [hr1] at hreach i1 i2 i3
                have h1 : m4 = false → t4 = [] ∧ s4 = s2 := fun h => ⟨(hkeep.out.2.1.2.2.1 h).2, (hkeep.out.2.1.2.2.1 h).1⟩
                have hme2 : 2 * unseen (s4.set q true) + (t4 ++ [(q : Int)]).length + 1 ≤ 2 * unseen s2 := by
                  rw [List.length_append, List.length_singleton]
                  cases m4 with
                  | false => obtain ⟨rfl, rfl⟩ := h1 rfl; simp; omega
                  | true => simp at hme; omega
                have hlst : LSt has roots pairs s2 (s4.set q true) (t4 ++ [(q : Int)]) true := ⟨i1, hkeep.out.2.1.2.1.trans i2, fun h => (by cases h), by simpa using hme2⟩
                have hpc := (hkeep.out.2.2.grow i2).next hx (fun _ => i3)
                have HR := Lib.hid (And.intro hreach (And.intro hlst hpc))
                clear hreach hlst hpc i1 i2 i3 i4 hr1 hi4 hRa hx hu hv r1 r2 r3 hkeep hus hme h1 hme2
                go_wp2_with fail
                go_quiet (fail)
                go_wp2_with fail
                refine (HR.out.1 _).mono ?_
                rintro e w9 ⟨rfl, hR9, hb9⟩
                have hbl9 : Below w.heap.size w w9 := (below_drewN (hbl4.alloc (by omega) _) _).trans (hb9.mono (by omega))
                have H9 := Lib.hid hR9; clear hR9
                go_wp2_with fail
                go_roundg (pairs.length - (j + 1))
                case measure => omega
                case rel => exact ⟨j + 1, _, _, true, by omega, rfl, by go_num, rfl, by rw [List.length_set]; exact hs4l, ⟨H9.out, HR.out.2⟩, hbl9⟩
              · have hpc := hkeep.out.2.2.next hx (fun h => by
                  have h2 := hkeep.out.2.1.2.1 p h
                  rw [hu] at h2; injection h2 with h2; subst h2
                  cases v with
                  | false => exact absurd ⟨rfl, rfl⟩ hgo
                  | true => exact hv)
                have HR := Lib.hid (And.intro hRa (And.intro hkeep.out.2.1 hpc))
                cases u with
                | false =>
                  clear hpc hRa hx hu hv r1 r2 r3 hkeep hme
                  go_wp2_with fail
                  go_quiet (fail)
                  go_wp2_with fail
                  go_roundg (pairs.length - (j + 1))
                  case measure => omega
                  case rel => exact ⟨j + 1, s4, t4, m4, by omega, rfl, by go_num, rfl, hs4l, ⟨HR.out.1.drewN _, HR.out.2⟩, below_drewN (hbl4.alloc (by omega) _) _⟩
                | true =>
                  cases v with
                  | false => exact absurd ⟨rfl, rfl⟩ hgo
                  | true =>
                    clear hpc hRa hx hu hv r1 r2 r3 hkeep hme
                    go_wp2_with fail
                    go_quiet (fail)
                    go_wp2_with fail
                    go_roundg (pairs.length - (j + 1))
                    case measure => omega
                    case rel => exact ⟨j + 1, s4, t4, m4, by omega, rfl, by go_num, rfl, hs4l, ⟨HR.out.1.drewN _, HR.out.2⟩, below_drewN (hbl4.alloc (by omega) _) _⟩
            · obtain rfl : j = pairs.length := by omega
              have HR := Lib.hid hkeep.out; clear hkeep
              go_wp2_with fail
              go_roundg (if m4 = true then 2 * unseen s4 + t4.length + 1 else 0)
              case measure => cases m4 <;> simp at hme ⊢ <;> omega
              case rel => exact ⟨s4, t4, m4, rfl, rfl, by split at hme <;> omega, ⟨HR.out.1, HR.out.2.1.1, fun n hn => HR.out.2.1.2.1 n (HK.out.2.2 n hn), fun h => ⟨(HR.out.2.1.2.2.1 h).2, by have e := (HR.out.2.1.2.2.1 h).1; have := HR.out.2.2; rw [← e] at this; exact this⟩⟩, hbl4⟩

end Go.Proofs.Ytpkccpegdpodoaa

/- weak: needed things, live things, pairs that are kept; the closed fact 'paired'. -/
namespace Go.Proofs.Ytpkccpegdpodoaa
open Go.RowKit

theorem rising_ok (l : List Bool) (h : l.length ≤ 1000000) : ∀ x ∈ rising l, Flat.ok x := by
  intro x hx
  obtain ⟨n, rfl, hn⟩ := (mem_rising l x).1 hx
  have := (List.getElem?_eq_some_iff.1 hn).1
  exact (by unfold I64; omega : I64 (n : Int))
/-- the pairs that are kept -/
def keptL (seen : List Bool) (pairs : List (Int × Int)) : List (Int × Int) := pairs.filter fun p => seen.getD p.1.toNat false
theorem keptL_snoc (seen : List Bool) (pairs : List (Int × Int)) (k : Nat) (p : Nat) (y : Int) (h : pairs[k]? = some ((p : Int), y)) (b : Bool) (hb : seen[p]? = some b) : keptL seen (pairs.take (k + 1)) = keptL seen (pairs.take k) ++ if b = true then [((p : Int), y)] else [] := by
  unfold keptL
  rw [take_snoc _ _ _ h, List.filter_append]
  have : seen.getD p false = b := by rw [List.getD_eq_getElem?_getD, hb]; rfl
  cases b <;> simp [this, hb]
theorem keptL_length (seen : List Bool) (pairs : List (Int × Int)) : (keptL seen pairs).length ≤ pairs.length := List.length_filter_le _ _
theorem pair_one : ∀ x : Int × Int, ∀ u ∈ Flat.cells x, u.oneCell' = true := by
  intro x u hu; simp [Flat.cells] at hu; rcases hu with rfl | rfl <;> rfl
theorem infoRPair : (Try.prog.info? 63).map (fun i => (i.zero, i.size, i.bytes)) = some (some (.agg #[.int .i64 0, .int .i64 0]), 2, 16) := by kernel_rfl

def NeededPost (has : List (List Int)) (roots : List Int) (w : World) (e : Ending) (w' : World) : Prop :=
  Below w.heap.size w w' ∧ ((grErr has roots = 0 ∧ ∃ A c, e = .returned (.tuple #[.slice A (rising (fromL has roots [])).length c, .int .i64 0]) ∧ Own w' w.heap.size 3 A c (rising (fromL has roots []))) ∨
    (grErr has roots ≠ 0 ∧ e = .returned (.tuple #[.slice none 0 0, .int .i64 (grErr has roots)])))

set_option maxHeartbeats 800000 in
set_option maxRecDepth 100000 in
theorem needed_any (B hc rc : Nat) (HA RA : Option Addr) (has : List (List Int)) (roots : List Int) (w : World) (hh : At w B HA has) (hr : At w B RA roots) (hB : B ≤ w.heap.size) (hl : has.length ≤ 9223372036854775807) (hrl : roots.length ≤ 9223372036854775807) (hrc : roots.length ≤ rc ∧ rc ≤ maxLen) :
    Calls Try.prog 26 #[.agg #[.slice HA has.length hc, .slice RA roots.length rc]] w (NeededPost has roots w) := by
  have HH := Lib.hid (And.intro hh hr); clear hh hr
  go_enter Try.func26, Try.ntmps26
  go_wp2_with fail
  refine calls_world (fun W => Blk W w.heap.size 49 #[.slice HA has.length hc, .slice RA roots.length rc] ∧ Below w.heap.size w W ∧ w.heap.size + 1 ≤ W.heap.size) ⟨Blk.new _ _ _, (Below.refl _ _).alloc (Nat.le_refl _) _, by simp⟩ ?_
  rintro W ⟨hG, hb0, hs0⟩
  refine (wcheck_any B hc rc HA RA has roots W (HH.out.1.below (hb0.mono hB)) (HH.out.2.below (hb0.mono hB)) (by omega) hl hrl hrc).mono ?_
  rintro e w1 ⟨rfl, hb1⟩
  have hbl1 := hb0.trans (hb1.mono (by omega))
  have hs1 := hb1.size
  have hG1 := hG.fresh hb1
  have g0 := hG1.cell 0 (v := .slice HA has.length hc) rfl
  have g1 := hG1.cell 1 (v := .slice RA roots.length rc) rfl
  clear hG hG1
  obtain ⟨ge, hge⟩ : ∃ ge, grErr has roots = ge := ⟨_, rfl⟩
  rw [hge]
  by_cases h0 : ge = 0
  rotate_left
  · have hne : (ge != 0) = true := by simp [h0]
    have HE := Lib.hid (And.intro hge h0); clear hge h0
    go_wp2_with fail
    go_ret2
    exact ⟨hbl1, .inr (by rw [HE.out.1]; exact ⟨HE.out.2, rfl⟩)⟩
  subst h0
  obtain ⟨gl, grl, ghl, gright, gsrc⟩ := grErr_ok hge
  have HG := Lib.hid (And.intro gright (And.intro gsrc (And.intro ghl hge))); clear gright gsrc ghl hge
  go_wp2_with fail
  refine (wfrom_any B hc rc rc roots.length HA RA RA has roots w1 (HH.out.1.below (hbl1.mono hB)) (HH.out.2.below (hbl1.mono hB)) (by omega) HG.out.1 HG.out.2.1 gl (by omega) HG.out.2.2.1).mono ?_
  rintro e w2 ⟨S, c, rfl, hown2, hb2⟩
  have hs2 := hb2.size
  have HO := Lib.hid hown2; clear hown2 g0 g1
  go_wp2_with fail
  refine (wrising_any S c w2.heap.size has.length (fromL has roots []) w2 (fromL_length _ _ _) (HO.out.at_ (fun _ _ => trivial)) (Nat.le_refl _) (by omega)).mono ?_
  rintro e w3 ⟨A3, c3, rfl, hown3, hb3⟩
  have HO3 := Lib.hid hown3; clear hown3
  go_wp2_with fail
  go_ret2
  exact ⟨hbl1.trans ((hb2.mono (by omega)).trans (hb3.mono (by omega))), .inl ⟨HG.out.2.2.2, A3, c3, rfl, HO3.out.base_le (by omega)⟩⟩

def LivesPost (has : List (List Int)) (roots : List Int) (pairs : List (Int × Int)) (w : World) (e : Ending) (w' : World) : Prop :=
  Below w.heap.size w w' ∧ ((prErr has roots pairs = 0 ∧ ∃ A c, e = .returned (.tuple #[.slice A (rising (fromL has roots pairs)).length c, .int .i64 0]) ∧ Own w' w.heap.size 3 A c (rising (fromL has roots pairs))) ∨
    (prErr has roots pairs ≠ 0 ∧ ∃ A c, e = .returned (.tuple #[.slice A 0 c, .int .i64 (prErr has roots pairs)])))

theorem fromL_small {has : List (List Int)} {roots : List Int} {pairs : List (Int × Int)} (h : prErr has roots pairs = 0) : has.length ≤ 100 := (grErr_ok (prErr_ok h).1).1

set_option maxHeartbeats 800000 in
set_option maxRecDepth 100000 in
theorem lives_any (B hc rc pc : Nat) (HA RA PA : Option Addr) (has : List (List Int)) (roots : List Int) (pairs : List (Int × Int)) (w : World) (hh : At w B HA has) (hr : At w B RA roots) (hp : At w B PA pairs) (hB : B ≤ w.heap.size) (hl : has.length ≤ 9223372036854775807) (hrl : roots.length ≤ 9223372036854775807) (hpl : pairs.length ≤ 9223372036854775807) (hrc : roots.length ≤ rc ∧ rc ≤ maxLen) :
    Calls Try.prog 27 #[.agg #[.slice HA has.length hc, .slice RA roots.length rc], .slice PA pairs.length pc] w (LivesPost has roots pairs w) := by
  have HH := Lib.hid (And.intro hh (And.intro hr hp)); clear hh hr hp
  go_enter Try.func27, Try.ntmps27
  go_wp2_with fail
  refine calls_world (fun W => Below w.heap.size w W ∧ w.heap.size + 1 ≤ W.heap.size) ⟨(Below.refl _ _).alloc (Nat.le_refl _) _, by simp⟩ ?_
  rintro W ⟨hb0, hs0⟩
  refine (live_any B hc rc pc HA RA PA has roots pairs W (HH.out.1.below (hb0.mono hB)) (HH.out.2.1.below (hb0.mono hB)) (HH.out.2.2.below (hb0.mono hB)) (by omega) hl hrl hpl hrc).mono ?_
  rintro e w1 ⟨hb1, hp⟩
  have hbl1 := hb0.trans (hb1.mono (by omega))
  have hs1 := hb1.size
  rcases hp with ⟨h0, S, c, rfl, hown⟩ | ⟨h0, rfl⟩
  · have hsm := fromL_small h0
    have HO := Lib.hid (And.intro hown h0); clear hown h0
    go_wp2_with fail
    refine (wrising_any S c w1.heap.size has.length (fromL has roots pairs) w1 (fromL_length _ _ _) (HO.out.1.at_ (fun _ _ => trivial)) (Nat.le_refl _) (by omega)).mono ?_
    rintro e w3 ⟨A3, c3, rfl, hown3, hb3⟩
    have HO3 := Lib.hid hown3; clear hown3
    go_wp2_with fail
    go_ret2
    exact ⟨hbl1.trans (hb3.mono (by omega)), .inl ⟨HO.out.2, A3, c3, rfl, HO3.out.base_le (by omega)⟩⟩
  · obtain ⟨pe, hpe⟩ : ∃ pe, prErr has roots pairs = pe := ⟨_, rfl⟩
    rw [hpe] at h0 ⊢
    have HE := Lib.hid (And.intro hpe h0); clear hpe h0
    go_wp2_with fail
    refine (wrising_any none 0 0 0 [] w1 rfl At.nil_ (by omega) (by omega)).mono ?_
    rintro e w3 ⟨A3, c3, rfl, hown3, hb3⟩
    clear hown3
    go_wp2_with fail
    go_ret2
    exact ⟨hbl1.trans (hb3.mono (by omega)), .inr (by rw [HE.out.1]; exact ⟨HE.out.2, A3, c3, rfl⟩)⟩

def KeptPost (has : List (List Int)) (roots : List Int) (pairs : List (Int × Int)) (w : World) (e : Ending) (w' : World) : Prop :=
  Below w.heap.size w w' ∧ ((prErr has roots pairs = 0 ∧ ∃ A c, e = .returned (.tuple #[.slice A (keptL (fromL has roots pairs) pairs).length c, .int .i64 0]) ∧ Own w' w.heap.size 63 A c (keptL (fromL has roots pairs) pairs)) ∨
    (prErr has roots pairs ≠ 0 ∧ e = .returned (.tuple #[.slice none 0 0, .int .i64 (prErr has roots pairs)])))

set_option maxHeartbeats 1600000 in
set_option maxRecDepth 100000 in
theorem kept_any (B hc rc pc : Nat) (HA RA PA : Option Addr) (has : List (List Int)) (roots : List Int) (pairs : List (Int × Int)) (w : World) (hh : At w B HA has) (hr : At w B RA roots) (hp : At w B PA pairs) (hB : B ≤ w.heap.size) (hl : has.length ≤ 9223372036854775807) (hrl : roots.length ≤ 9223372036854775807) (hpl : pairs.length ≤ 9223372036854775807) (hrc : roots.length ≤ rc ∧ rc ≤ maxLen) :
    Calls Try.prog 28 #[.agg #[.slice HA has.length hc, .slice RA roots.length rc], .slice PA pairs.length pc] w (KeptPost has roots pairs w) := by
  obtain ⟨i0, hi, hz0, hz1, hz2⟩ := info_parts infoRPair
  have HH := Lib.hid (And.intro hh (And.intro hr hp)); clear hh hr hp
  go_enter Try.func28, Try.ntmps28
  go_wp2_with fail
  refine calls_world (fun W => Below w.heap.size w W ∧ w.heap.size + 1 ≤ W.heap.size) ⟨(Below.refl _ _).alloc (Nat.le_refl _) _, by simp⟩ ?_
  rintro W ⟨hb0, hs0⟩
  refine (live_any B hc rc pc HA RA PA has roots pairs W (HH.out.1.below (hb0.mono hB)) (HH.out.2.1.below (hb0.mono hB)) (HH.out.2.2.below (hb0.mono hB)) (by omega) hl hrl hpl hrc).mono ?_
  rintro e w1 ⟨hb1, hp⟩
  have hbl1 := hb0.trans (hb1.mono (by omega))
  have hs1 := hb1.size
  rcases hp with ⟨h0, S, c, rfl, hown⟩ | ⟨h0, rfl⟩
  rotate_left
  · obtain ⟨pe, hpe⟩ : ∃ pe, prErr has roots pairs = pe := ⟨_, rfl⟩
    rw [hpe] at h0 ⊢
    have hne : (pe != 0) = true := by simp [h0]
    have HE := Lib.hid (And.intro hpe h0); clear hpe h0
    go_wp2_with fail
    go_ret2
    exact ⟨hbl1, .inr (by rw [HE.out.1]; exact ⟨HE.out.2, rfl⟩)⟩
  have hsm := fromL_small h0
  have hp50 := (prErr_ok h0).2.1
  have hfl := fromL_length has roots pairs
  have HO := Lib.hid (And.intro hown (And.intro h0 (And.intro (prErr_ok h0).2.2 hfl))); clear hown h0 hfl
  generalize hseen : fromL has roots pairs = seen at HO
  have HSEEN := Lib.hid hseen; clear hseen
  go_wp2_with fail
  go_loopg [8, 22] (pairs.length) (fun gk ov iv wr => ∃ (k : Nat) (A1 : Option Addr) (c1 : Nat), k ≤ pairs.length ∧ gk = pairs.length - k ∧ iv = .int .i64 k ∧ ov = .slice A1 (keptL seen (pairs.take k)).length c1 ∧ Hid (Own wr w.heap.size 63 A1 c1 (keptL seen (pairs.take k)) ∧ Own wr W.heap.size 4 S c seen) ∧ Below w.heap.size w wr)
  case atStart => exact ⟨0, none, 0, Nat.zero_le _, rfl, rfl, rfl, ⟨Own.nil_, HO.out.1⟩, hbl1⟩
  case round =>
    obtain ⟨k, A1, c1, hk, rfl, rfl, rfl, hkeep, hbl⟩ := hrel
    have hsz := hbl.size
    have hkl := keptL_length seen (pairs.take k)
    rw [List.length_take] at hkl
    by_cases hlt : k < pairs.length
    · obtain ⟨b, o, x, y, rfl, hb, hx, hox, hoy, c0, c1'⟩ := (HH.out.2.2.below (hbl.mono hB)).pair hlt
      obtain ⟨p, q, hpq, hp, hq⟩ := HO.out.2.2.1 _ (List.mem_of_getElem? hx)
      injection hpq with e1 e2; subst e1 e2
      have hsl := HO.out.2.2.2
      obtain ⟨u, hu⟩ : ∃ v, seen[p]? = some v := ⟨_, List.getElem?_eq_getElem (by omega)⟩
      obtain ⟨g, rfl, hg1, hg2⟩ := hkeep.out.2.some_ (by omega)
      have v1 := hkeep.out.2.cell_bool hu
      have p0 : (0 : Int) ≤ (p : Int) := by omega
      have p1 : (p : Int) < (has.length : Int) := by omega
      have hsn := keptL_snoc seen pairs k p q hx u hu
      have hal := hkeep.out.2.alloc (.cells #[.int .i64 p, .int .i64 q] 63)
      have hal1 := hkeep.out.1.alloc (.cells #[.int .i64 p, .int .i64 q] 63)
      cases u with
      | false =>
        rw [if_neg (by simp), List.append_nil] at hsn
        have HS := Lib.hid (And.intro hsn (And.intro hal1 hal)); clear hsn hx hu hal hal1 hkeep hsl
        go_wp2_with fail
        go_roundg (pairs.length - (k + 1))
        case measure => omega
        case rel => exact ⟨k + 1, A1, c1, by omega, rfl, by go_num, by rw [HS.out.1], by unfold Hid; rw [HS.out.1]; exact HS.out.2, hbl.alloc hsz _⟩
      | true =>
        rw [if_pos rfl] at hsn
        have HS := Lib.hid (And.intro hsn (And.intro hal1 (And.intro hal (And.intro hox hoy)))); clear hsn hx hu hal hal1 hkeep hsl hox hoy
        go_wp2_with (at_builtin; go_must (refine wpList_app (α := Int × Int) (m := 1) (B := wr.heap.size + 1 + 1) (r := [((p : Int), (q : Int))]) rfl (.tmp 31) (.tmp 33) _ rfl w.heap.size 63 i0 _ 16 Try.underlying50 hi hz0 hz1 hz2 rfl (by decide) pair_one (by rfl) rfl (HS.out.2.1.alloc _) (by rfl) ?_ rfl (by omega) (by simp only [maxLen]; omega) (by simp; omega) ?_))
        · have := At.built (wr.alloc (.cells #[.int .i64 p, .int .i64 q] 63)) #[.int .i64 p, .int .i64 q] 63 [((p : Int), (q : Int))] rfl (by intro z hz; simp at hz; subst hz; exact HS.out.2.2.2)
          simpa using this
        intro A2 c2 w2 hown2 hgr2 hat2
        have hbl2 : Below w.heap.size w w2 := ((hbl.alloc hsz _).alloc (by simp; omega) _).grown hgr2 (by simp; omega) (fun g hg => (HS.out.2.1.lt g hg).1)
        have hS2 : Own w2 W.heap.size 4 (some ⟨g, 0, none⟩) c seen := (HS.out.2.2.1.alloc _).grown hgr2 (fun h hh e => own_own_ty HS.out.2.2.1 HS.out.2.1 (by decide) h hh e)
        have HO2 := Lib.hid (And.intro hown2 hS2); clear hown2 hS2
        go_wp2_with fail
        go_roundg (pairs.length - (k + 1))
        case measure => omega
        case rel => exact ⟨k + 1, A2, c2, by omega, rfl, by go_num, by rw [HS.out.1, List.length_append]; rfl, by unfold Hid; rw [HS.out.1]; exact HO2.out, hbl2⟩
    · have hk2 : pairs.take k = pairs := List.take_of_length_le (by omega)
      rw [hk2] at hkeep ⊢
      clear hk2
      go_wp2_with fail
      go_ret2
      exact ⟨hbl, .inl (by rw [HSEEN.out]; exact ⟨HO.out.2.1, A1, c1, rfl, hkeep.out.1⟩)⟩

end Go.Proofs.Ytpkccpegdpodoaa

/- slices.Contains, ContainsFunc with a closure, Compact, Sort: at rows of the call's own. -/
namespace Go.Proofs.Ytpkccpegdpodoaa
open Go.RowKit Go.Sort Go.Shelf

attribute [local go_sem ↓] Go.wp_at_zero Go.wp_at_succ

def cmpL_ren : Go.Shelf.Ren := ⟨fun | 43 => 187 | n => n, fun | 22 => 47 | 23 => 3 | 3 => 3 | 4 => 4 | 0 => 0 | n => n, fun | n => n⟩
theorem cmpL : Go.Proofs.SlLaysN.n43 Try.prog cmpL_ren := {
  mixed := by kernel_rfl
  f43 := ⟨Try.f187.name, by decide, Try.func187.trans (congrArg some (by kernel_rfl))⟩
  t0 := Try.underlying0
  a0 := Try.isAgg0
  z0 := Try.sizeOf0
  v0 := Try.zeroValue0
  t3 := Try.underlying3
  a3 := Try.isAgg3
  z3 := Try.sizeOf3
  v3 := Try.zeroValue3
  t4 := Try.underlying4
  a4 := Try.isAgg4
  z4 := Try.sizeOf4
  v4 := Try.zeroValue4
  t22 := Try.underlying47
  a22 := Try.isAgg47
  z22 := Try.sizeOf47
  v22 := Try.zeroValue47
  t23 := Try.underlying3
  a23 := Try.isAgg3
  z23 := Try.sizeOf3
  v23 := Try.zeroValue3
  i23 := by kernel_rfl }

theorem grow_none (w : World) : grow w #[] = w := by simp [grow]
theorem compact_len (l : List Int) : (Lib.compact l).length ≤ l.length := by
  unfold Lib.compact Lib.compactUpTo
  rw [List.length_map]
  have := List.length_filter_le (Lib.keeps l.toArray) (List.range l.length)
  simpa using this
theorem compact_own (w : World) (base n : Nat) (A : Option Addr) (c : Nat) (l : List Int) (hn : l.length = n) (h100 : n ≤ 1000000) (h : Own w base 3 A c l) :
    Calls Try.prog 187 #[.slice A n c] w fun e w' => e = .returned (.slice A (Lib.compact l).length c) ∧ Own w' base 3 A c (Lib.compact l) ∧ w.grownBy w' (rowOf A) := by
  subst hn
  rcases h.2 with ⟨h1, h0⟩ | ⟨g, cap, cur, hv, hg, hh, hn, hcap, hsz, htk⟩
  · injection h1 with h1 h2 h3
    subst h1 h3
    have hl : l = [] := List.length_eq_zero_iff.1 h2
    subst hl
    have hcon := AnyG.slices_Compact_int_empty cmpL none 0 w
    change Calls Try.prog 187 _ _ _ at hcon
    refine hcon.mono ?_
    rintro e w' ⟨rfl, rfl⟩
    exact ⟨rfl, by rw [show Lib.compact ([] : List Int) = [] from rfl]; exact h, World.grownBy.refl _ _⟩
  · injection hv with hv h2 h3
    subst hv h3
    have hlt := (Array.getElem?_eq_some_iff.1 hh).1
    have htk' : cur.toList.take l.length = l.map (Value.int .i64) := by rw [← flat_ints, ← htk, show Flat.sz Int = 1 from rfl, Nat.mul_one]
    have hcon := AnyG.slices_Compact_int cmpL g 0 c l w (holds_of_blockI hh htk') (by omega) hn
    change Calls Try.prog 187 _ _ _ at hcon
    refine hcon.mono ?_
    rintro e w' ⟨rfl, m, rfl⟩
    obtain ⟨ts, hts⟩ : ∃ ts, Lib.compact l ++ List.replicate (l.length - (Lib.compact l).length) 0 = ts := ⟨_, rfl⟩
    have hcl := compact_len l
    have hl : ts.length = l.length := by rw [← hts, List.length_append, List.length_replicate]; omega
    rw [hts, ← grow_none (putRow _ _ _ _ _)]
    refine ⟨rfl, ?_, grownBy_sortedI _⟩
    have := ownsRow_sortedI (n := m) (os := #[]) (ts := ts) hl hg hh hn hcap hsz
    have ho : Own (grow (putRow (Value.int .i64) (Sort.ahead w m) g 0 ts.toArray) #[]) base 3 (some ⟨g, 0, none⟩) c ts := by
      unfold Own
      rw [flat_ints, hl]
      exact this
    have ht := ho.take_ (Lib.compact l).length (by rw [hl]; exact hcl)
    rw [← hts, List.take_left' rfl] at ht
    rw [← hts]
    exact ht

set_option maxHeartbeats 800000 in
set_option maxRecDepth 100000 in
theorem indexIntE_any (A : Option Addr) (c B n : Nat) (l : List Int) (x : Int) (w : World) (hn : l.length = n) (h : At w B A l) (hl : n ≤ 9223372036854775807) :
    Calls Try.prog 185 #[.slice A n c, .int .i64 x] w fun e w' => e = .returned (.int .i64 (idxI (fun y => y == x) l)) ∧ w = w' := by
  have H := Lib.hid (And.intro h hn); clear h hn
  go_enter Try.func185, Try.ntmps185
  go_wp2
  go_loopg [8] n (fun gk i wr => ∃ k : Nat, k ≤ n ∧ gk = n - k ∧ i = .int .i64 k ∧ Hid ((l.take k).any (fun y => y == x) = false) ∧ w = wr)
  case atStart => exact ⟨0, Nat.zero_le _, rfl, rfl, by simp [Hid], rfl⟩
  case round =>
    obtain ⟨k, hk, rfl, rfl, hno, rfl⟩ := hrel
    by_cases hlt : k < n
    · obtain ⟨b, o, y, rfl, hb, hx, hox, h0⟩ := H.out.1.int_ (k := k) (by have := H.out.2; omega)
      have hk0 : (0 : Int) ≤ (k : Int) := by omega
      have hk1 : (k : Int) < (n : Int) := by omega
      by_cases hq : x = y
      · subst hq
        have HX := Lib.hid hx; clear hx
        go_wp2
        go_ret
        exact ⟨by rw [idxI_hit (fun y => y == x) l k x HX.out (by simp) hno.out]; rfl, rfl⟩
      · have d0 : (x == y) = false := by simpa using hq
        have d1 : (y == x) = false := by simpa using fun e : y = x => hq e.symm
        have HX := Lib.hid (And.intro hx d1); clear hx d1 hq
        go_wp2
        go_roundg (n - (k + 1))
        case measure => omega
        case rel => exact ⟨k + 1, by omega, rfl, by go_num, by unfold Hid; rw [any_snocI _ _ _ _ HX.out.1, hno.out, HX.out.2]; rfl, rfl⟩
    · go_wp2
      go_ret
      exact ⟨by have h1 := hno.out; rw [List.take_of_length_le (by have := H.out.2; omega)] at h1; unfold idxI; rw [h1]; rfl, rfl⟩
theorem any_eqE (l : List Int) (x : Int) : l.any (fun y => y == x) = l.contains x := by
  rw [Bool.eq_iff_iff, List.any_eq_true, List.contains_iff_mem]
  constructor
  · rintro ⟨y, h1, h2⟩
    have : y = x := by simpa using h2
    rw [← this]; exact h1
  · intro h; exact ⟨x, h, by simp⟩
set_option maxRecDepth 100000 in
theorem containsIntE_any (A : Option Addr) (c B n : Nat) (l : List Int) (x : Int) (w : World) (hn : l.length = n) (h : At w B A l) (hl : n ≤ 9223372036854775807) :
    Calls Try.prog 153 #[.slice A n c, .int .i64 x] w fun e w' => e = .returned (.bool (l.contains x)) ∧ w = w' := by
  have hc := any_eqE l x
  have hcall := indexIntE_any A c B n l x w hn h hl
  obtain ⟨r, hr⟩ : ∃ r, idxI (fun y => y == x) l = r := ⟨_, rfl⟩
  have hge : decide (r ≥ 0) = l.contains x := by
    rw [← hr, ← hc]
    unfold idxI
    cases l.any fun y => y == x <;> simp
  rw [hr] at hcall
  have HC := Lib.hid hcall; clear hcall h hn hc
  have HG := Lib.hid hge; clear hge hr
  go_enter Try.func153, Try.ntmps153
  go_wp2_with fail
  refine HC.out.mono ?_
  rintro e w1 ⟨rfl, rfl⟩
  go_wp2_with fail
  go_ret
  exact ⟨by rw [← HG.out]; rfl, rfl⟩
set_option maxRecDepth 100000 in
theorem containsFuncE_any (A : Option Addr) (c B g n : Nat) (lb : Array Value) (p : Int → Bool) (l : List Int) (w : World) (hn : l.length = n) (h : At w B A l) (hB : B ≤ w.heap.size) (hl : n ≤ 9223372036854775807)
    (eg : ∀ args w, (callFunc g args).run Try.prog w = .ok (.enter g args) w) (hp : PredQ Try.prog g lb iv p l none w) :
    Calls Try.prog 150 #[.slice A n c, .func (.func g) #[] lb] w fun e w' => e = .returned (.bool (l.any p)) ∧ Below w.heap.size w w' := by
  have hcall := indexFuncInt_any A c B g n lb p l w hn h hB hl eg hp
  obtain ⟨r, hr⟩ : ∃ r, idxI p l = r := ⟨_, rfl⟩
  have hge : decide (r ≥ 0) = l.any p := by
    rw [← hr]
    unfold idxI
    cases l.any p <;> simp
  rw [hr] at hcall
  have HC := Lib.hid hcall; clear hcall h hn hp eg
  have HG := Lib.hid hge; clear hge hr
  go_enter Try.func150, Try.ntmps150
  go_wp2_with fail
  refine HC.out.mono ?_
  rintro e w1 ⟨rfl, hb⟩
  go_wp2_with fail
  go_ret
  exact ⟨by rw [← HG.out]; rfl, hb⟩

end Go.Proofs.Ytpkccpegdpodoaa

/- A region that draws, its operations taken one by one: one that is run in whatever order, one that a guard leaves out, one call. No program is named here. -/
namespace Go.Proofs.Ytpkccpegdpodoaa
open Go.RowKit

section
variable {P : Program} {ops : Array Oper} {Q : Exit → Act → World → Prop} {md : Region.Mode} {S : World → Prop} {fuel : Nat} {listed : Array Bool} {a : Act} {w : World}
theorem oi_of {i : Nat} {o : Oper} (h : ops.toList[i]? = some o) : ops[i]? = some o := by rw [← Array.getElem?_toList]; exact h
theorem held_take (i : Nat) {oi : Oper} {v : Value} (hi : ops.toList[i]? = some oi) (hs : Region.noSelect ops = true) (hf : Region.free md ops listed i = true) (hr : (Region.ready md ops listed).contains i = true)
    (hQ : ∀ c a w, Q (.panic c) (a.put oi.dst v) w → Q (.panic c) a w) (hw : Region.wanted oi (yielded ops a.tmps) = true) (hv : ∀ w, S w → (execOp a.eval oi).run P w = .ok (.value v) w) (hS : S w)
    (h : wpAnyH P md ops Q S fuel (listed.setIfInBounds i true) (a.put oi.dst v) w) : wpAnyH P md ops Q S (fuel + 1) listed a w := wpAnyH_take (oi_of hi) hs hf hr hQ (.inl ⟨hw, hv⟩) hS h
theorem held_skip (i : Nat) {oi : Oper} (hi : ops.toList[i]? = some oi) (hs : Region.noSelect ops = true) (hf : Region.free md ops listed i = true) (hr : (Region.ready md ops listed).contains i = true)
    (hQ : ∀ c a w, Q (.panic c) (a.put oi.dst undef) w → Q (.panic c) a w) (hw : Region.wanted oi (yielded ops a.tmps) = false) (hS : S w)
    (h : wpAnyH P md ops Q S fuel (listed.setIfInBounds i true) (a.put oi.dst undef) w) : wpAnyH P md ops Q S (fuel + 1) listed a w := wpAnyH_take (oi_of hi) hs hf hr hQ (.inr ⟨hw, rfl⟩) hS h
theorem held_call (i : Nat) {oi : Oper} (hr : Region.ready md ops listed = [i]) (hi : ops.toList[i]? = some oi)
    (h : ∀ K' : Act → World → Prop, Shut (∀ a w, S w → (S w → wpAnyH P md ops Q S fuel (listed.setIfInBounds i true) a w) → K' a w) → if Region.wanted oi (yielded ops a.tmps) = true then Oper.wp P oi a w K' Q else K' (a.put oi.dst undef) w) :
    wpAnyH P md ops Q S (fuel + 1) listed a w := wpAnyH_ready hr (by simp) (AllReadyH.cons (oi_of hi) h AllReadyH.nil)
end

end Go.Proofs.Ytpkccpegdpodoaa

/- A region that draws, where two operations are ready at once: both orders. No program is named here. -/
namespace Go.Proofs.Ytpkccpegdpodoaa
open Go.RowKit

section
variable {P : Program} {ops : Array Oper} {Q : Exit → Act → World → Prop} {md : Region.Mode} {S : World → Prop} {fuel : Nat} {listed : Array Bool} {a : Act} {w : World}
theorem held_call2 (i j : Nat) {oi oj : Oper} (hr : Region.ready md ops listed = [i, j]) (hi : ops.toList[i]? = some oi) (hj : ops.toList[j]? = some oj)
    (h1 : ∀ K' : Act → World → Prop, Shut (∀ a w, S w → (S w → wpAnyH P md ops Q S fuel (listed.setIfInBounds i true) a w) → K' a w) → if Region.wanted oi (yielded ops a.tmps) = true then Oper.wp P oi a w K' Q else K' (a.put oi.dst undef) w)
    (h2 : ∀ K' : Act → World → Prop, Shut (∀ a w, S w → (S w → wpAnyH P md ops Q S fuel (listed.setIfInBounds j true) a w) → K' a w) → if Region.wanted oj (yielded ops a.tmps) = true then Oper.wp P oj a w K' Q else K' (a.put oj.dst undef) w) :
    wpAnyH P md ops Q S (fuel + 1) listed a w := wpAnyH_ready hr (by simp) (AllReadyH.cons (oi_of hi) h1 (AllReadyH.cons (oi_of hj) h2 AllReadyH.nil))
theorem held_world (p : World → Prop) (h0 : p w) (h : ∀ w, p w → wpAnyH P md ops Q S fuel listed a w) : wpAnyH P md ops Q S fuel listed a w := h w h0
end

end Go.Proofs.Ytpkccpegdpodoaa

/- ends.due; R.EndsFault. -/
namespace Go.Proofs.Ytpkccpegdpodoaa
open Go.RowKit

attribute [local go_sem ↓] Go.wp_at_zero Go.wp_at_succ

theorem endsE_graph {has : List (List Int)} {roots l : List Int} (h : grErr has roots ≠ 0) : endsE has roots l = grErr has roots := by unfold endsE; rw [if_pos h]
theorem endsE_large {has : List (List Int)} {roots l : List Int} (h : grErr has roots = 0) (hl : 100 < l.length) : endsE has roots l = 2 := by unfold endsE; rw [if_neg (by simpa using h), if_pos hl]
theorem endsE_form {has : List (List Int)} {roots l : List Int} {k : Nat} {x : Int} (h : grErr has roots = 0) (hl : ¬ 100 < l.length) (hx : l[k]? = some x) (hi : inN has.length x = false) : endsE has roots l = 3 := by
  unfold endsE; rw [if_neg (by simpa using h), if_neg hl, if_neg]
  intro e
  have := List.all_eq_true.1 e x (List.mem_of_getElem? hx)
  rw [hi] at this; cases this
theorem endsE_ok {has : List (List Int)} {roots l : List Int} (h : grErr has roots = 0) (hl : ¬ 100 < l.length) (ha : l.all (inN has.length) = true) : endsE has roots l = 0 := by
  unfold endsE; rw [if_neg (by simpa using h), if_neg hl, if_pos ha]
theorem all_snocE {α : Type} (p : α → Bool) (l : List α) (k : Nat) (x : α) (h : l[k]? = some x) : (l.take (k + 1)).all p = ((l.take k).all p && p x) := by
  rw [List.take_add_one, h]; simp [List.all_append]
theorem all_in {m : Nat} {l : List Int} (h : l.all (inN m) = true) : ∀ x ∈ l, ∃ n : Nat, x = (n : Int) ∧ n < m := fun x hx => by
  have := inN_iff.1 (List.all_eq_true.1 h x hx)
  exact ⟨x.toNat, by omega, by omega⟩

set_option maxHeartbeats 1600000 in
set_option maxRecDepth 100000 in
theorem endsFault_any (B hc rc lc : Nat) (HA RA LA : Option Addr) (has : List (List Int)) (roots l : List Int) (w : World) (hh : At w B HA has) (hr : At w B RA roots) (hla : At w B LA l) (hB : B ≤ w.heap.size) (hl : has.length ≤ 9223372036854775807) (hrl : roots.length ≤ 9223372036854775807) (hll : l.length ≤ 9223372036854775807) :
    Calls Try.prog 80 #[.agg #[.slice HA has.length hc, .slice RA roots.length rc], .slice LA l.length lc] w fun e w' => e = .returned (.int .i64 (endsE has roots l)) ∧ Below w.heap.size w w' := by
  have HH := Lib.hid (And.intro hh (And.intro hr hla)); clear hh hr hla
  obtain ⟨N, hN⟩ : ∃ N, has.length = N := ⟨_, rfl⟩
  obtain ⟨q, hq⟩ : ∃ q, l.length = q := ⟨_, rfl⟩
  have HN := Lib.hid (And.intro hN hq)
  rw [hq] at hll ⊢
  clear hN hq
  go_enter Try.func80, Try.ntmps80
  go_wp2_with fail
  refine calls_world (fun W => Blk W w.heap.size 49 #[.slice HA has.length hc, .slice RA roots.length rc] ∧ Below w.heap.size w W ∧ w.heap.size + 1 ≤ W.heap.size) ⟨Blk.new _ _ _, (Below.refl _ _).alloc (Nat.le_refl _) _, by simp⟩ ?_
  rintro W ⟨hG, hb0, hs0⟩
  refine (gfault_any B hc rc HA RA has roots W (HH.out.1.below (hb0.mono hB)) (HH.out.2.1.below (hb0.mono hB)) (by omega) hl hrl).mono ?_
  rintro e w1 ⟨rfl, hb1⟩
  have hbl1 := hb0.trans (hb1.mono (by omega))
  have hs1 := hb1.size
  have hG1 := hG.fresh hb1
  rw [HN.out.1] at hG1
  have g0 := hG1.cell 0 (v := .slice HA N hc) rfl
  clear hG hG1
  obtain ⟨ge, hge⟩ : ∃ ge, grErr has roots = ge := ⟨_, rfl⟩
  rw [hge]
  by_cases h0 : ge = 0
  rotate_left
  · have hne : (ge != 0) = true := by simp [h0]
    have he := endsE_graph (l := l) (show grErr has roots ≠ 0 by rw [hge]; exact h0)
    rw [hge] at he
    have HE := Lib.hid he; clear hge h0 he
    go_wp2_with fail
    go_ret
    exact ⟨by rw [HE.out]; rfl, hbl1⟩
  subst h0
  by_cases h100 : 100 < q
  · have HE := Lib.hid (endsE_large (l := l) hge (by rw [HN.out.2]; exact h100)); clear hge
    have hd : (100 : Int) < (q : Int) := by omega
    go_wp2_with fail
    go_ret
    exact ⟨by rw [HE.out]; rfl, hbl1⟩
  have hd : ¬ (100 : Int) < (q : Int) := by omega
  have HG := Lib.hid hge; clear hge
  go_wp2_with fail
  go_loopg [18] q (fun gk iv wr => ∃ k : Nat, k ≤ q ∧ gk = q - k ∧ iv = .int .i64 k ∧ Hid ((l.take k).all (inN has.length) = true) ∧ w1 = wr)
  case atStart => exact ⟨0, Nat.zero_le _, rfl, rfl, by simp [Hid], rfl⟩
  case round =>
    obtain ⟨k, hk, rfl, rfl, hkeep, rfl⟩ := hrel
    by_cases hlt : k < q
    · obtain ⟨b, o, x, rfl, hb, hx, hox, q0⟩ := (HH.out.2.2.below (hbl1.mono hB)).int_ (k := k) (by have := HN.out.2; omega)
      have b0 : (0 : Int) ≤ (k : Int) := by omega
      have b1 : (k : Int) < (q : Int) := by omega
      cases hin : inN has.length x with
      | false =>
        have HE := Lib.hid (endsE_form HG.out (by rw [HN.out.2]; exact h100) hx hin)
        by_cases hneg : x < 0
        · clear hin hx
          go_wp2_with fail
          go_ret
          exact ⟨by rw [HE.out]; rfl, hbl1⟩
        · have hge : (N : Int) ≤ x := by
            unfold inN at hin
            rw [HN.out.1] at hin
            simp only [Bool.and_eq_false_iff, decide_eq_false_iff_not] at hin
            omega
          clear hin hx
          go_wp2_with fail
          go_ret
          exact ⟨by rw [HE.out]; rfl, hbl1⟩
      | true =>
        have hh := inN_iff.1 hin
        rw [HN.out.1] at hh
        have hsn := all_snocE (inN has.length) l k x hx
        rw [hkeep.out, hin] at hsn
        have hneg : ¬ x < 0 := by omega
        have hge : ¬ (N : Int) ≤ x := by omega
        have HS := Lib.hid hsn; clear hsn hin hx hh
        go_wp2_with fail
        go_roundg (q - (k + 1))
        case measure => omega
        case rel => exact ⟨k + 1, by omega, rfl, by go_num, HS.out, rfl⟩
    · obtain rfl : q = k := by omega
      have hall := hkeep.out
      rw [List.take_of_length_le (by have := HN.out.2; omega)] at hall
      have HE := Lib.hid (endsE_ok HG.out (by rw [HN.out.2]; exact h100) hall); clear hall hkeep
      go_wp2_with fail
      go_ret
      exact ⟨by rw [HE.out]; rfl, hbl1⟩

def DuePost (has : List (List Int)) (roots l : List Int) (w : World) (e : Ending) (w' : World) : Prop :=
  Below w.heap.size w w' ∧ ((endsE has roots l = 0 ∧ ∃ A c S sc, e = .returned (.tuple #[.slice A (duI (fromL has roots []) l).length c, .slice S has.length sc, .int .i64 0]) ∧ Own w' w.heap.size 3 A c (duI (fromL has roots []) l) ∧ Own w' w.heap.size 4 S sc (fromL has roots [])) ∨
    (endsE has roots l ≠ 0 ∧ e = .returned (.tuple #[.slice none 0 0, .slice none 0 0, .int .i64 (endsE has roots l)])))

set_option maxHeartbeats 800000 in
set_option maxRecDepth 100000 in
/-- the closure of due -/
theorem due1_any (w : World) (base K sc N : Nat) (S : Option Addr) (nd : List Bool) (x : Int) (hK : Blk w K 60 #[.slice S N sc]) (hS : Own w base 4 S sc nd) (hn : nd.length = N) (hx : ∃ n : Nat, x = (n : Int) ∧ n < N) :
    Calls Try.prog 186 #[.int .i64 x, .pointer (some ⟨K, 0, none⟩)] w fun e w' => e = .returned (.bool (nd.getD x.toNat false)) ∧ w = w' := by
  obtain ⟨n, rfl, hnN⟩ := hx
  obtain ⟨b, hb⟩ : ∃ b, nd[n]? = some b := ⟨_, List.getElem?_eq_getElem (by omega)⟩
  have hg : nd.getD ((n : Int)).toNat false = b := by rw [Int.toNat_natCast, List.getD_eq_getElem?_getD, hb]; rfl
  rw [hg]
  obtain ⟨g, rfl, _, _⟩ := hS.some_ (by omega)
  have c0 := hS.cell_bool hb
  have k0 := hK.cell 0 (v := .slice (some ⟨g, 0, none⟩) N sc) rfl
  have n0 : (0 : Int) ≤ (n : Int) := by omega
  have n1 : (n : Int) < (N : Int) := by omega
  clear hK hS hn hb hg
  go_enter Try.func186, Try.ntmps186
  go_wp2_with fail
  go_ret
  exact ⟨rfl, rfl⟩

set_option maxHeartbeats 3200000 in
set_option maxRecDepth 100000 in
theorem due_any (B hc rc lc : Nat) (HA RA LA : Option Addr) (has : List (List Int)) (roots l : List Int) (w : World) (hh : At w B HA has) (hr : At w B RA roots) (hla : At w B LA l) (hB : B ≤ w.heap.size) (hl : has.length ≤ 9223372036854775807) (hrl : roots.length ≤ 9223372036854775807) (hll : l.length ≤ 9223372036854775807) (hrc : roots.length ≤ rc ∧ rc ≤ maxLen) :
    Calls Try.prog 148 #[.agg #[.slice HA has.length hc, .slice RA roots.length rc], .slice LA l.length lc] w (DuePost has roots l w) := by
  obtain ⟨P, hP⟩ : ∃ P, DuePost has roots l w = P := ⟨_, rfl⟩
  have HP := Lib.hid hP
  rw [hP]; clear hP
  have HH := Lib.hid (And.intro hh (And.intro hr hla)); clear hh hr hla
  obtain ⟨N, hN⟩ : ∃ N, has.length = N := ⟨_, rfl⟩
  obtain ⟨q, hq⟩ : ∃ q, l.length = q := ⟨_, rfl⟩
  have HN := Lib.hid (And.intro hN hq)
  rw [hq] at hll ⊢
  clear hN hq
  have heg : ∀ args w, (callFunc 186 args).run Try.prog w = .ok (.enter 186 args) w := fun _ _ => by kernel_rfl
  have HEG := Lib.hid heg; clear heg
  go_enter Try.func148, Try.ntmps148
  go_wp2_with fail
  refine calls_world (fun W => Blk W w.heap.size 49 #[.slice HA has.length hc, .slice RA roots.length rc] ∧ Below w.heap.size w W ∧ w.heap.size + 1 ≤ W.heap.size) ⟨Blk.new _ _ _, (Below.refl _ _).alloc (Nat.le_refl _) _, by simp⟩ ?_
  rintro W ⟨hG, hb0, hs0⟩
  refine (wcheck_any B hc rc HA RA has roots W (HH.out.1.below (hb0.mono hB)) (HH.out.2.1.below (hb0.mono hB)) (by omega) hl hrl hrc).mono ?_
  rintro e w1 ⟨rfl, hb1⟩
  have hbl1 := hb0.trans (hb1.mono (by omega))
  have hs1 := hb1.size
  have hG1 := hG.fresh hb1
  rw [HN.out.1] at hG1
  have g0 := hG1.cell 0 (v := .slice HA N hc) rfl
  have g1 := hG1.cell 1 (v := .slice RA roots.length rc) rfl
  clear hG hG1
  obtain ⟨ge, hge⟩ : ∃ ge, grErr has roots = ge := ⟨_, rfl⟩
  rw [hge]
  by_cases h0 : ge = 0
  rotate_left
  · have hne : (ge != 0) = true := by simp [h0]
    have he := endsE_graph (l := l) (show grErr has roots ≠ 0 by rw [hge]; exact h0)
    rw [hge] at he
    have HE := Lib.hid (And.intro he h0); clear hge h0 he
    go_wp2_with fail
    rw [← HP.out]
    exact ⟨hbl1, .inr (by rw [HE.out.1]; exact ⟨HE.out.2, rfl⟩)⟩
  subst h0
  by_cases h100 : 100 < q
  · have HE := Lib.hid (endsE_large (l := l) hge (by rw [HN.out.2]; exact h100)); clear hge
    have hd : (100 : Int) < (q : Int) := by omega
    go_wp2_with fail
    rw [← HP.out]
    exact ⟨hbl1, .inr (by rw [HE.out]; exact ⟨by decide, rfl⟩)⟩
  have hd : ¬ (100 : Int) < (q : Int) := by omega
  obtain ⟨gl, grl, ghl, gright, gsrc⟩ := grErr_ok hge
  have HG := Lib.hid (And.intro hge (And.intro gright (And.intro gsrc ghl))); clear hge gright gsrc ghl
  go_wp2_with fail
  go_loopg [22] q (fun gk iv wr => ∃ k : Nat, k ≤ q ∧ gk = q - k ∧ iv = .int .i64 k ∧ Hid ((l.take k).all (inN has.length) = true) ∧ w1 = wr)
  case atStart => exact ⟨0, Nat.zero_le _, rfl, rfl, by simp [Hid], rfl⟩
  case round =>
    obtain ⟨k, hk, rfl, rfl, hkeep, rfl⟩ := hrel
    by_cases hlt : k < q
    · obtain ⟨b, o, x, rfl, hb, hx, hox, q0⟩ := (HH.out.2.2.below (hbl1.mono hB)).int_ (k := k) (by have := HN.out.2; omega)
      have b0 : (0 : Int) ≤ (k : Int) := by omega
      have b1 : (k : Int) < (q : Int) := by omega
      cases hin : inN has.length x with
      | false =>
        have HE := Lib.hid (endsE_form HG.out.1 (by rw [HN.out.2]; exact h100) hx hin)
        by_cases hneg : x < 0
        · clear hin hx
          go_wp2_with fail
          rw [← HP.out]
          exact ⟨hbl1, .inr (by rw [HE.out]; exact ⟨by decide, rfl⟩)⟩
        · have hge : (N : Int) ≤ x := by
            unfold inN at hin
            rw [HN.out.1] at hin
            simp only [Bool.and_eq_false_iff, decide_eq_false_iff_not] at hin
            omega
          clear hin hx
          go_wp2_with fail
          rw [← HP.out]
          exact ⟨hbl1, .inr (by rw [HE.out]; exact ⟨by decide, rfl⟩)⟩
      | true =>
        have hh := inN_iff.1 hin
        rw [HN.out.1] at hh
        have hsn := all_snocE (inN has.length) l k x hx
        rw [hkeep.out, hin] at hsn
        have hneg : ¬ x < 0 := by omega
        have hge : ¬ (N : Int) ≤ x := by omega
        have HS := Lib.hid hsn; clear hsn hin hx hh
        go_wp2_with fail
        go_roundg (q - (k + 1))
        case measure => omega
        case rel => exact ⟨k + 1, by omega, rfl, by go_num, HS.out, rfl⟩
    · obtain rfl : q = k := by omega
      have hall := hkeep.out
      rw [List.take_of_length_le (by have := HN.out.2; omega)] at hall
      have HE := Lib.hid (And.intro (endsE_ok HG.out.1 (by rw [HN.out.2]; exact h100) hall) (all_in hall)); clear hall hkeep
      go_wp2_with fail
      rw [← HN.out.1]
      refine (wfrom_any B hc rc rc roots.length HA RA RA has roots w1 (HH.out.1.below (hbl1.mono hB)) (HH.out.2.1.below (hbl1.mono hB)) (by omega) HG.out.2.1 HG.out.2.2.1 gl (by omega) HG.out.2.2.2).mono ?_
      rintro e w2 ⟨S, sc, rfl, hown2, hb2⟩
      rw [HN.out.1]
      have hs2 := hb2.size
      have HO := Lib.hid (And.intro hown2 (hbl1.trans (hb2.mono (by omega)))); clear hown2 g0 g1 hb2
      go_wp2_with fail
      refine calls_world (fun V => Blk V w2.heap.size 60 #[.slice S N sc] ∧ Below w2.heap.size w2 V ∧ w2.heap.size < V.heap.size) ⟨Blk.new _ _ _, (Below.refl _ _).alloc (Nat.le_refl _) _, by simp⟩ ?_
      rintro V ⟨hK, hbV, hsV⟩
      refine (cloneInt_any LA lc B q l V HN.out.2 (HH.out.2.2.below ((HO.out.2.trans (hbV.mono (by omega))).mono hB)) (by omega) (by omega)).mono ?_
      rintro e w3 ⟨CA, cc, rfl, ho3, hb3⟩
      have hs3 := hb3.size
      have hK3 := hK.fresh hb3
      have hS3 := (HO.out.1.fresh hbV).fresh hb3
      have hnl : (fromL has roots []).length = N := by rw [fromL_length]; exact HN.out.1
      have hlok : ∀ x ∈ l, Flat.ok x := fun x hx => by
        obtain ⟨n, rfl, hn⟩ := HE.out.2 x hx
        exact (by unfold I64; omega : I64 (n : Int))
      have hdel := deleteFuncInt_any CA cc V.heap.size 186 q #[.pointer (some ⟨w2.heap.size, 0, none⟩)] (fun x => (fromL has roots []).getD x.toNat false) l w3 HN.out.2 ho3 hlok HEG.out (fun U x hx hok hg => by
        have hKU := hK3.grown hg (fun e => by have := (ho3.lt _ e).1; omega)
        have hSU := hS3.grown hg (fun g hg' e => by have h1 := (ho3.lt _ e).1; have h2 := (HO.out.1.lt g hg').2; omega)
        refine (due1_any U _ w2.heap.size sc N S (fromL has roots []) x hKU hSU hnl (by obtain ⟨n, rfl, hn⟩ := HE.out.2 x hx; exact ⟨n, rfl, by have := HN.out.1; omega⟩)).mono ?_
        rintro e U' ⟨rfl, rfl⟩
        exact ⟨rfl, Below.refl _ _⟩)
      have hfl : (l.filter fun x => !(fromL has roots []).getD x.toNat false).length ≤ 100 := by have := List.length_filter_le (fun x => !(fromL has roots []).getD x.toNat false) l; have := HN.out.2; omega
      obtain ⟨fl, hfl2⟩ : ∃ fl, (l.filter fun x => !(fromL has roots []).getD x.toNat false).length = fl := ⟨_, rfl⟩
      rw [hfl2] at hdel hfl
      have HFL := Lib.hid hfl2; clear hfl2
      have HD := Lib.hid (And.intro hdel (And.intro hK3 (And.intro hS3 (And.intro ((HO.out.2.trans (hbV.mono (by omega))).trans (hb3.mono (by omega))) ho3)))); clear hdel hK3 hS3 hK hb3 ho3 hbV hlok
      go_wp2_with fail
      refine HD.out.1.mono ?_
      rintro e w4 ⟨rfl, ho4, hg4⟩
      have hs4 := hg4.size
      have hK4 := HD.out.2.1.grown hg4 (fun e => by have := (HD.out.2.2.2.2.lt _ e).1; omega)
      have hS4 := HD.out.2.2.1.grown hg4 (fun g hg' e => by have h1 := (HD.out.2.2.2.2.lt _ e).1; have h2 := (HO.out.1.lt g hg').2; omega)
      have hb4 := HD.out.2.2.2.1.grown hg4 (by omega) (fun g hg => by have := (HD.out.2.2.2.2.lt g hg).1; omega)
      have HF := Lib.hid (And.intro ho4 (And.intro hK4 (And.intro hS4 hb4))); clear ho4 hK4 hS4 hb4 hg4
      go_wp2_with fail
      refine (sort_own w4 V.heap.size _ CA cc _ HFL.out (by omega) HF.out.1).mono ?_
      rintro e w5 ⟨rfl, ho5, hg5⟩
      have hs5 := hg5.size
      have hK5 := HF.out.2.1.grown hg5 (fun e => by have := (HF.out.1.lt _ e).1; omega)
      have hS5 := HF.out.2.2.1.grown hg5 (fun g hg' e => by have h1 := (HF.out.1.lt _ e).1; have h2 := (HO.out.1.lt g hg').2; omega)
      have hb5 := HF.out.2.2.2.grown hg5 (by omega) (fun g hg => by have := (HF.out.1.lt g hg).1; omega)
      have hk5 := hK5.cell 0 (v := .slice S N sc) rfl
      have hcmp := compact_own w5.drew V.heap.size fl CA cc _ ((List.length_mergeSort _).trans HFL.out) (by omega) ho5.drew
      rw [due_eq (fun x hx => by obtain ⟨n, rfl, hn⟩ := HE.out.2 x hx; exact ⟨n, rfl, by have := HN.out.1; omega⟩)] at hcmp
      have hCK : ∀ g, rowOf CA = some g → V.heap.size ≤ g := fun g hg => (ho5.lt g hg).1
      have HQ := Lib.hid (And.intro hcmp (And.intro hK5 (And.intro hS5 (And.intro hb5 hCK)))); clear hcmp hK5 hS5 hb5 ho5 hg5 hCK
      go_upto_region 15 with fail
      refine wp_region_held_drew (S := (fun w' => w'.cell? ⟨w2.heap.size, 0, none⟩ = some (.slice S N sc))) (by kernel_rfl) ?_ (fun hHeld0 => ?_)
      · first | trivial | ((try dsimp only); (exact hk5))
      refine held_take (v := ?_) 0 rfl (by kernel_rfl) (by kernel_rfl) (by kernel_rfl) (fun _ _ _ h => h) (by rfl) ?_ (by assumption) ?_
      rotate_left
      · (intro w hSw; (try dsimp only at hSw); go_simp; try with_reducible rfl)
      try simp only [Act.put, List.setIfInBounds_toArray, List.set_cons_zero, List.set_cons_succ]
      refine held_take (v := ?_) 2 rfl (by kernel_rfl) (by kernel_rfl) (by kernel_rfl) (fun _ _ _ h => h) (by rfl) ?_ (by assumption) ?_
      rotate_left
      · (intro w hSw; (try dsimp only at hSw); go_simp; try with_reducible rfl)
      try simp only [Act.put, List.setIfInBounds_toArray, List.set_cons_zero, List.set_cons_succ]
      refine held_call 1 (by kernel_rfl) rfl (fun K hK => ?_)
      go_simp
      go_at_call 187; refine HQ.out.1.mono ?_; rintro e w6 ⟨rfl, ho6, hg6⟩; have hs6 := hg6.size; have hk6 := ((HQ.out.2.1.drewN 1).grown hg6 (fun e => by have := HQ.out.2.2.2.2 _ e; omega)).cell 0 (v := .slice S N sc) rfl; have HZ := Lib.hid (And.intro ho6 hg6); clear ho6 hg6
      try (go_wp2_with fail)
      refine hK.out _ _ ?_ (fun hHeld1 => ?_)
      · first | trivial | ((try dsimp only); (exact hk6))
      clear hK K hHeld0
      try simp only [Act.put, List.setIfInBounds_toArray, List.set_cons_zero, List.set_cons_succ]
      refine held_take (v := ?_) 3 rfl (by kernel_rfl) (by kernel_rfl) (by kernel_rfl) (fun _ _ _ h => h) (by rfl) ?_ (by assumption) ?_
      rotate_left
      · (intro w hSw; (try dsimp only at hSw); go_simp; try with_reducible rfl)
      try simp only [Act.put, List.setIfInBounds_toArray, List.set_cons_zero, List.set_cons_succ]
      refine held_take (v := ?_) 4 rfl (by kernel_rfl) (by kernel_rfl) (by kernel_rfl) (fun _ _ _ h => h) (by rfl) ?_ (by assumption) ?_
      rotate_left
      · (intro w hSw; (try dsimp only at hSw); go_simp; try with_reducible rfl)
      try simp only [Act.put, List.setIfInBounds_toArray, List.set_cons_zero, List.set_cons_succ]
      refine held_take (v := ?_) 5 rfl (by kernel_rfl) (by kernel_rfl) (by kernel_rfl) (fun _ _ _ h => h) (by rfl) ?_ (by assumption) ?_
      rotate_left
      · (intro w hSw; (try dsimp only at hSw); go_simp; try with_reducible rfl)
      try simp only [Act.put, List.setIfInBounds_toArray, List.set_cons_zero, List.set_cons_succ]
      refine wpAnyH_done (by kernel_rfl) ?_ _
      go_wp2_with fail
      rw [← HP.out]
      exact ⟨(below_drewN HQ.out.2.2.2.1 1).grown HZ.out.2 (by show w.heap.size ≤ w5.heap.size; omega) (fun g hg => by have := HQ.out.2.2.2.2 g hg; omega), .inl ⟨HE.out.1, CA, cc, S, sc, by rw [HN.out.1]; rfl, HZ.out.1.base_le (by omega), (((HQ.out.2.2.1.drewN 1).grown HZ.out.2 (fun g hg' e => by have h1 := HQ.out.2.2.2.2 _ e; have h2 := (HO.out.1.lt g hg').2; omega))).base_le (by omega)⟩⟩

end Go.Proofs.Ytpkccpegdpodoaa

/- ends.Due; R.Due. -/
namespace Go.Proofs.Ytpkccpegdpodoaa
open Go.RowKit

attribute [local go_sem ↓] Go.wp_at_zero Go.wp_at_succ

/-- who stays for those that are due -/
noncomputable def stI (has : List (List Int)) (roots l : List Int) : List Int := rising (stayE (fromL has (duI (fromL has roots []) l) []) (fromL has roots []))
def EDuePost (has : List (List Int)) (roots l : List Int) (w : World) (e : Ending) (w' : World) : Prop :=
  Below w.heap.size w w' ∧ ((endsE has roots l = 0 ∧ ∃ A c S sc, e = .returned (.tuple #[.slice A (duI (fromL has roots []) l).length c, .slice S (stI has roots l).length sc, .int .i64 0]) ∧ Own w' w.heap.size 3 A c (duI (fromL has roots []) l) ∧ Own w' w.heap.size 3 S sc (stI has roots l)) ∨
    (endsE has roots l ≠ 0 ∧ e = .returned (.tuple #[.slice none 0 0, .slice none 0 0, .int .i64 (endsE has roots l)])))
theorem endsE_right {has : List (List Int)} {roots l : List Int} (h : endsE has roots l = 0) : grErr has roots = 0 ∧ l.length ≤ 100 ∧ l.all (inN has.length) = true := by
  unfold endsE at h
  split at h
  · rename_i h1; exact absurd h h1
  · rename_i h1
    split at h
    · cases h
    · split at h
      · exact ⟨by simpa using h1, by omega, by assumption⟩
      · cases h
theorem duI_src {has : List (List Int)} {roots l : List Int} : RightL has.length (duI (fromL has roots []) l) := fun x hx => by
  obtain ⟨n, rfl, hn⟩ := duI_in x hx
  exact ⟨n, rfl, by rw [fromL_length] at hn; exact hn⟩

set_option maxHeartbeats 3200000 in
set_option maxRecDepth 100000 in
theorem eDue_any (B hc rc lc : Nat) (HA RA LA : Option Addr) (has : List (List Int)) (roots l : List Int) (w : World) (hh : At w B HA has) (hr : At w B RA roots) (hla : At w B LA l) (hB : B ≤ w.heap.size) (hl : has.length ≤ 9223372036854775807) (hrl : roots.length ≤ 9223372036854775807) (hll : l.length ≤ 9223372036854775807) (hrc : roots.length ≤ rc ∧ rc ≤ maxLen) :
    Calls Try.prog 81 #[.agg #[.slice HA has.length hc, .slice RA roots.length rc], .slice LA l.length lc] w (EDuePost has roots l w) := by
  obtain ⟨P, hP⟩ : ∃ P, EDuePost has roots l w = P := ⟨_, rfl⟩
  have HP := Lib.hid hP
  rw [hP]; clear hP
  have HH := Lib.hid (And.intro hh (And.intro hr hla)); clear hh hr hla
  go_enter Try.func81, Try.ntmps81
  go_wp2_with fail
  refine calls_world (fun W => Blk W w.heap.size 49 #[.slice HA has.length hc, .slice RA roots.length rc] ∧ Below w.heap.size w W ∧ w.heap.size + 1 ≤ W.heap.size) ⟨Blk.new _ _ _, (Below.refl _ _).alloc (Nat.le_refl _) _, by simp⟩ ?_
  rintro W ⟨hG, hb0, hs0⟩
  refine (due_any B hc rc lc HA RA LA has roots l W (HH.out.1.below (hb0.mono hB)) (HH.out.2.1.below (hb0.mono hB)) (HH.out.2.2.below (hb0.mono hB)) (by omega) hl hrl hll hrc).mono ?_
  rintro e w1 ⟨hb1, hcase⟩
  have hbl1 := hb0.trans (hb1.mono (by omega))
  have hs1 := hb1.size
  have hG1 := hG.fresh hb1
  have g0 := hG1.cell 0 (v := .slice HA has.length hc) rfl
  have g1 := hG1.cell 1 (v := .slice RA roots.length rc) rfl
  clear hG hG1
  obtain ⟨N, hN⟩ : ∃ N, has.length = N := ⟨_, rfl⟩
  rw [hN] at g0 hcase hl
  rcases hcase with ⟨h0, A, c, S, sc, rfl, hoA, hoS⟩ | ⟨h0, rfl⟩
  rotate_left
  · have hne : (endsE has roots l != 0) = true := by simp [h0]
    obtain ⟨er, her⟩ : ∃ er, endsE has roots l = er := ⟨_, rfl⟩
    rw [her] at hne h0 ⊢
    have HE := Lib.hid (And.intro her h0); clear her h0
    go_wp2_with fail
    rw [← HP.out]
    exact ⟨hbl1, .inr (by rw [HE.out.1]; exact ⟨HE.out.2, rfl⟩)⟩
  obtain ⟨hge, hlq, hin⟩ := endsE_right h0
  obtain ⟨gl, grl, ghl, gright, gsrc⟩ := grErr_ok hge
  obtain ⟨nd, hnd⟩ : ∃ nd, fromL has roots [] = nd := ⟨_, rfl⟩
  rw [hnd] at hoA hoS ⊢
  have hndl : nd.length = N := by rw [← hnd, fromL_length]; exact hN
  have hsrc : RightL has.length (duI nd l) := by rw [← hnd]; exact duI_src
  obtain ⟨q, hq⟩ : ∃ q, (duI nd l).length = q := ⟨_, rfl⟩
  have hqN : q ≤ 100 := by have := duI_length nd l; omega
  have hdok : ∀ x ∈ duI nd l, Flat.ok x := rising_ok _ (by rw [dueL_length]; omega)
  rw [hq]
  have HG := Lib.hid (And.intro h0 (And.intro gright (And.intro ghl (And.intro hnd (And.intro hsrc (And.intro hq (And.intro hdok (And.intro hN (And.intro hoA (And.intro hoS hbl1)))))))))); clear h0 gright gsrc ghl hnd hsrc hq hdok hoA hoS hge hin hbl1
  go_wp2_with fail
  rw [← HG.out.2.2.2.2.2.1, ← HG.out.2.2.2.2.2.2.2.1]
  refine (wfrom_any w1.heap.size hc rc c roots.length HA RA A has (duI nd l) w1 ((HH.out.1.below (HG.out.2.2.2.2.2.2.2.2.2.2.mono hB)).more (by omega)) (HG.out.2.2.2.2.2.2.2.2.1.at_ HG.out.2.2.2.2.2.2.1) (Nat.le_refl _) HG.out.2.1 HG.out.2.2.2.2.1 gl (by have := HG.out.2.2.2.2.2.1; omega) HG.out.2.2.1).mono ?_
  rintro e w2 ⟨T, tc, rfl, ho2, hb2⟩
  have hs2 := hb2.size
  rw [HG.out.2.2.2.2.2.1, HG.out.2.2.2.2.2.2.2.1]
  obtain ⟨sn, hsn⟩ : ∃ sn, fromL has (duI nd l) [] = sn := ⟨_, rfl⟩
  rw [hsn] at ho2
  have hsnl : sn.length = N := by rw [← hsn, fromL_length]; exact HG.out.2.2.2.2.2.2.2.1
  have HO := Lib.hid (And.intro ho2 (And.intro (HG.out.2.2.2.2.2.2.2.2.1.fresh hb2) (And.intro (HG.out.2.2.2.2.2.2.2.2.2.1.fresh hb2) (And.intro (HG.out.2.2.2.2.2.2.2.2.2.2.trans (hb2.mono (by omega))) (And.intro hsn hsnl))))); clear ho2 hb2 g0 g1 hsn hsnl
  have HND := Lib.hid hndl; clear hndl
  go_wp2_with fail
  go_loopg [27] N (fun gk iv wr => ∃ k : Nat, k ≤ N ∧ gk = N - k ∧ iv = .int .i64 k ∧ Hid (Own wr w1.heap.size 4 T tc (stayEK k sn nd)) ∧ Below w1.heap.size w2 wr ∧ w2.heap.size ≤ wr.heap.size)
  case atStart => exact ⟨0, Nat.zero_le _, rfl, rfl, by unfold Hid; rw [stayEK_zero]; exact HO.out.1, Below.refl _ _, Nat.le_refl _⟩
  case round =>
    obtain ⟨k, hk, rfl, rfl, hkeep, hbl, hsz⟩ := hrel
    by_cases hlt : k < N
    · obtain ⟨b, hb⟩ : ∃ b, sn[k]? = some b := ⟨_, List.getElem?_eq_getElem (by have := HO.out.2.2.2.2.2; omega)⟩
      obtain ⟨v, hv⟩ : ∃ v, nd[k]? = some v := ⟨_, List.getElem?_eq_getElem (by have := HND.out; omega)⟩
      have hgd : nd.getD k false = v := by rw [List.getD_eq_getElem?_getD, hv]; rfl
      have hst := stayEK_step (nd := nd) hb
      rw [hgd] at hst
      obtain ⟨gt, rfl, hgt, _⟩ := hkeep.out.some_ (by rw [stayEK_length]; have := HO.out.2.2.2.2.2; omega)
      have t0 := hkeep.out.cell_bool (stayEK_get (nd := nd) hb)
      have z0 := hkeep.out.frozen (g := gt) rfl k
      have hS := HO.out.2.2.1.below hbl (fun g hg => (HG.out.2.2.2.2.2.2.2.2.2.1.lt g hg).2)
      obtain ⟨gs, rfl, _, _⟩ := hS.some_ (by have := HND.out; omega)
      have s0 := hS.cell_bool hv
      have b0 : (0 : Int) ≤ (k : Int) := by omega
      have b1 : (k : Int) < (N : Int) := by omega
      have hset := hkeep.out.set_bool (i := k) (b && !v) (by rw [stayEK_length]; have := HO.out.2.2.2.2.2; omega)
      have HX := Lib.hid (And.intro hset hst); clear hset hst hkeep hb hv hgd hS
      cases b with
      | false =>
        go_wp2_with fail
        go_roundg (N - (k + 1))
        case measure => omega
        case rel => exact ⟨k + 1, by omega, rfl, by go_num, by unfold Hid; rw [HX.out.2]; exact HX.out.1, hbl.setCell (by simp only; omega) _, by simpa using hsz⟩
      | true =>
        go_wp2_with fail
        go_roundg (N - (k + 1))
        case measure => omega
        case rel => exact ⟨k + 1, by omega, rfl, by go_num, by unfold Hid; rw [HX.out.2]; exact HX.out.1, hbl.setCell (by simp only; omega) _, by simpa using hsz⟩
    · obtain rfl : N = k := by omega
      have hk2 := hkeep.out
      rw [show N = sn.length from HO.out.2.2.2.2.2.symm, stayEK_all] at hk2
      have hA := HO.out.2.1.below hbl (fun g hg => (HG.out.2.2.2.2.2.2.2.2.1.lt g hg).2)
      have hbw := HO.out.2.2.2.1.trans (hbl.mono (by omega))
      have HF := Lib.hid (And.intro hk2 (And.intro hA hbw)); clear hk2 hA hbw hkeep
      go_wp2_with fail
      refine (wrising_any T tc wr.heap.size N (stayE sn nd) wr (by rw [stayE_length]; exact HO.out.2.2.2.2.2) ((HF.out.1.at_ (fun _ _ => trivial)).more (Nat.le_refl _)) (Nat.le_refl _) (by omega)).mono ?_
      rintro e w5 ⟨QA, qc, rfl, ho5, hb5⟩
      have hs5 := hb5.size
      have HR := Lib.hid (And.intro ho5 hb5); clear ho5 hb5
      go_wp2_with fail
      rw [← HP.out]
      have hst : stI has roots l = rising (stayE sn nd) := by unfold stI; rw [HG.out.2.2.2.1, HO.out.2.2.2.2.1]
      refine ⟨HF.out.2.2.trans (HR.out.2.mono (by omega)), .inl ⟨HG.out.1, A, c, QA, qc, ?_, ?_, ?_⟩⟩
      · rw [hst, HG.out.2.2.2.1, HG.out.2.2.2.2.2.1]; rfl
      · rw [HG.out.2.2.2.1]; exact (HF.out.2.1.fresh HR.out.2).base_le (by omega)
      · rw [hst]; exact HR.out.1.base_le (by omega)

end Go.Proofs.Ytpkccpegdpodoaa

/- R.Due. -/
namespace Go.Proofs.Ytpkccpegdpodoaa
open Go.RowKit

attribute [local go_sem ↓] Go.wp_at_zero Go.wp_at_succ

set_option maxHeartbeats 3200000 in
set_option maxRecDepth 100000 in
theorem rDue_any (B hc rc lc q : Nat) (HA RA LA : Option Addr) (has : List (List Int)) (roots l : List Int) (w : World) (hh : At w B HA has) (hr : At w B RA roots) (hla : At w B LA l) (hB : B ≤ w.heap.size) (hq : l.length = q) (he : endsE has roots l = 0) :
    Calls Try.prog 83 #[.agg #[.slice HA has.length hc, .slice RA roots.length rc], .slice LA q lc] w fun e w' => (∃ A c S sc, e = .returned (.tuple #[.slice A (duI (fromL has roots []) l).length c, .slice S (stI has roots l).length sc]) ∧ Own w' w.heap.size 3 A c (duI (fromL has roots []) l) ∧ Own w' w.heap.size 3 S sc (stI has roots l)) ∧ Below w.heap.size w w' := by
  obtain ⟨hge, hlq, hin⟩ := endsE_right he
  obtain ⟨gl, grl, ghl, gright, gsrc⟩ := grErr_ok hge
  obtain ⟨N, hN⟩ : ∃ N, has.length = N := ⟨_, rfl⟩
  have hN100 : N ≤ 100 := by omega
  rw [hq] at hlq
  have hmk := Go.run_make_row' (P := Try.prog) 60 4 (.bool false) 1 Try.underlying60 infoBool rfl .i64 .i64 N (by omega) (by omega)
  have HH := Lib.hid (And.intro hh (And.intro hr (And.intro hla (And.intro gright (And.intro gsrc (And.intro ghl (And.intro (all_in hin) (And.intro hN hq)))))))); clear hh hr hla gright gsrc ghl hin hq he hge
  rw [hN]
  clear hN
  go_enter Try.func83, Try.ntmps83
  go_wp2_with fail
  refine calls_world (fun W => Blk W w.heap.size 49 #[.slice HA N hc, .slice RA roots.length rc] ∧ Below w.heap.size w W ∧ w.heap.size + 1 ≤ W.heap.size) ⟨Blk.new _ _ _, (Below.refl _ _).alloc (Nat.le_refl _) _, by simp⟩ ?_
  rintro W ⟨hG, hb0, hs0⟩
  have hN := HH.out.2.2.2.2.2.2.2.1
  rw [← hN]
  refine (rfrom_any B hc rc rc 0 roots.length HA RA RA none has roots [] W (HH.out.1.below (hb0.mono hB)) (HH.out.2.1.below (hb0.mono hB)) At.nil_ (by omega) HH.out.2.2.2.1 HH.out.2.2.2.2.1 (fun p hp => by simp at hp) gl (by omega) (by simp) HH.out.2.2.2.2.2.1).mono ?_
  rintro e w1 ⟨S, sc, rfl, ho1, hb1⟩
  have hs1 := hb1.size
  rw [hN]
  clear hN
  obtain ⟨nd, hnd⟩ : ∃ nd, fromL has roots [] = nd := ⟨_, rfl⟩
  rw [hnd] at ho1
  have hndl : nd.length = N := by rw [← hnd, fromL_length]; exact HH.out.2.2.2.2.2.2.2.1
  have hG1 := hG.fresh hb1
  have g0 := hG1.cell 0 (v := .slice HA N hc) rfl
  have g1 := hG1.cell 1 (v := .slice RA roots.length rc) rfl
  have H1 := Lib.hid (And.intro ho1 (And.intro hnd (And.intro hndl (And.intro hG1 (hb0.trans (hb1.mono (by omega))))))); clear ho1 hnd hndl hG1 hG hb1
  go_wp2_with fail
  clear g0 g1 hmk
  refine wp_world (fun V => Own V w1.heap.size 4 (some ⟨w1.heap.size, 0, none⟩) N (List.replicate N false) ∧ Below w1.heap.size w1 V ∧ w1.heap.size < V.heap.size) ⟨own_made w1 w1.heap.size 4 N (Nat.le_refl _) (by simp only [maxLen]; omega), (Below.refl _ _).alloc (Nat.le_refl _) _, by simp⟩ ?_
  rintro V ⟨hO, hbV, hsV⟩
  have HO := Lib.hid hO; clear hO
  go_wp2_with fail
  go_loopg [22] q (fun gk iv wr => ∃ k : Nat, k ≤ q ∧ gk = q - k ∧ iv = .int .i64 k ∧ Hid (Own wr w1.heap.size 4 (some ⟨w1.heap.size, 0, none⟩) N (dueL nd (l.take k))) ∧ Below w1.heap.size w1 wr ∧ w1.heap.size < wr.heap.size)
  case atStart => exact ⟨0, Nat.zero_le _, rfl, rfl, by unfold Hid; rw [List.take_zero, dueL_nil, H1.out.2.2.1]; exact HO.out, hbV, hsV⟩
  case round =>
    obtain ⟨k, hk, rfl, rfl, hkeep, hbl, hsz⟩ := hrel
    clear hbV hsV
    by_cases hlt : k < q
    · obtain ⟨b, o, x, rfl, hb, hx, hox, q0⟩ := (HH.out.2.2.1.below ((H1.out.2.2.2.2.trans (hbl.mono (by omega))).mono hB)).int_ (k := k) (by have := HH.out.2.2.2.2.2.2.2.2; omega)
      obtain ⟨n, rfl, hnN⟩ := HH.out.2.2.2.2.2.2.1 x (List.mem_of_getElem? hx)
      rw [HH.out.2.2.2.2.2.2.2.1] at hnN
      obtain ⟨v, hv⟩ : ∃ v, nd[n]? = some v := ⟨_, List.getElem?_eq_getElem (by have := H1.out.2.2.1; omega)⟩
      have hS := H1.out.1.below hbl (fun g hg => (H1.out.1.lt g hg).2)
      obtain ⟨gs, rfl, _, _⟩ := hS.some_ (by have := H1.out.2.2.1; omega)
      have s0 := hS.cell_bool hv
      have hdl : (dueL nd (l.take k)).length = N := by rw [dueL_length]; exact H1.out.2.2.1
      obtain ⟨d, hd⟩ : ∃ d, (dueL nd (l.take k))[n]? = some d := ⟨_, List.getElem?_eq_getElem (by omega)⟩
      have d0 := hkeep.out.cell_bool hd
      have z0 := hkeep.out.frozen (g := w1.heap.size) rfl n
      have hset := hkeep.out.set_bool (g := w1.heap.size) (i := n) (!v) (by omega)
      have hsn := dueL_snoc hx hv
      have b0 : (0 : Int) ≤ (k : Int) := by omega
      have b1 : (k : Int) < (q : Int) := by omega
      have n0 : (0 : Int) ≤ (n : Int) := by omega
      have n1 : (n : Int) < (N : Int) := by omega
      have HX := Lib.hid (And.intro hset hsn); clear hset hsn hkeep hx hv hS hd hdl
      go_wp2_with fail
      go_roundg (q - (k + 1))
      case measure => omega
      case rel => exact ⟨k + 1, by omega, rfl, by go_num, by unfold Hid; rw [HX.out.2]; exact HX.out.1, hbl.setCell (Nat.le_refl _) _, by simpa using hsz⟩
    · obtain rfl : q = k := by omega
      obtain ⟨wo, rfl⟩ : ∃ wo : World, wo = wr := ⟨_, rfl⟩
      have hk2 := hkeep.out
      rw [List.take_of_length_le (by have := HH.out.2.2.2.2.2.2.2.2; omega)] at hk2
      have hdl : (dueL nd l).length = N := by rw [dueL_length]; exact H1.out.2.2.1
      have hG2 : Blk wo w.heap.size 49 #[.slice HA N hc, .slice RA roots.length rc] := (hbl.block w.heap.size H1.out.2.2.2.1.lt).trans H1.out.2.2.2.1
      have g0 := hG2.cell 0 (v := .slice HA N hc) rfl
      have g1 := hG2.cell 1 (v := .slice RA roots.length rc) rfl
      have hri := rrising_any (some ⟨w1.heap.size, 0, none⟩) N wo.drew.heap.size N (dueL nd l) wo.drew hdl ((hk2.drew).at_ (fun _ _ => trivial)) (Nat.le_refl _) (by omega)
      obtain ⟨du, hdu⟩ : ∃ du, duI nd l = du := ⟨_, rfl⟩
      have hsrc : RightL has.length du := by rw [← hdu, ← H1.out.2.1]; exact duI_src
      have hdul : du.length ≤ 100 := by rw [← hdu]; have := duI_length nd l; have := H1.out.2.2.1; omega
      have hdok : ∀ x ∈ du, Flat.ok x := by rw [← hdu]; exact rising_ok _ (by rw [hdl]; omega)
      obtain ⟨dq, hdq⟩ : ∃ dq, du.length = dq := ⟨_, rfl⟩
      rw [show rising (dueL nd l) = du from hdu, hdq] at hri
      have hltG := hG2.lt
      have HK := Lib.hid (And.intro hk2 (And.intro hdl (And.intro hG2 (And.intro hri (And.intro hdu (And.intro hsrc (And.intro hdq hdok))))))); clear hk2 hdl hG2 hri hdu hsrc hdq hdok hkeep
      have hbw0 : Below w.heap.size w wo := H1.out.2.2.2.2.trans (hbl.mono (by omega))
      have hsw : w1.heap.size < wo.heap.size := hsz
      have hdz : wo.heap.size = wo.drew.heap.size := rfl
      go_upto_region 8 with fail
      go_cut [10] from 35 to 38 (fun ov W2 => ∃ (T : Option Addr) (tc : Nat), ov = .slice T N tc ∧ Hid (Own W2 wo.heap.size 4 T tc (fromL has du [])) ∧ Below wo.heap.size wo W2)
      case first =>
        refine wp_region_held_drew (S := (fun w' => w'.cell? ⟨w.heap.size, 0, none⟩ = some (.slice HA N hc) ∧ w'.cell? ⟨w.heap.size, 1, none⟩ = some (.slice RA roots.length rc))) (by kernel_rfl) ?_ (fun hHeld0 => ?_)
        · first | trivial | ((try dsimp only); (exact ⟨g0, g1⟩))
        refine held_take (v := ?_) 0 rfl (by kernel_rfl) (by kernel_rfl) (by kernel_rfl) (fun _ _ _ h => h) (by rfl) ?_ (by assumption) ?_
        rotate_left
        · (intro w hSw; (try dsimp only at hSw); go_simp; try with_reducible rfl)
        try simp only [Act.put, List.setIfInBounds_toArray, List.set_cons_zero, List.set_cons_succ]
        refine held_take (v := ?_) 1 rfl (by kernel_rfl) (by kernel_rfl) (by kernel_rfl) (fun _ _ _ h => h) (by rfl) ?_ (by assumption) ?_
        rotate_left
        · (intro w hSw; (try dsimp only at hSw); go_simp; try with_reducible rfl)
        try simp only [Act.put, List.setIfInBounds_toArray, List.set_cons_zero, List.set_cons_succ]
        refine held_call 2 (by kernel_rfl) rfl (fun K hK => ?_)
        go_simp
        go_at_call 32; refine HK.out.2.2.2.1.mono ?_; rintro e w5 ⟨UA, uc, rfl, ho5, hb5⟩; have hs5 := hb5.size; have k0 := (hb5.cell (p := ⟨w.heap.size, 0, none⟩) hltG).trans g0; have k1 := (hb5.cell (p := ⟨w.heap.size, 1, none⟩) hltG).trans g1; have H5 := Lib.hid (And.intro ho5 (undrew hb5)); clear ho5 hb5
        try (go_wp2_with fail)
        refine hK.out _ _ ?_ (fun hHeld1 => ?_)
        · first | trivial | ((try dsimp only); (exact ⟨k0, k1⟩))
        clear hK K hHeld0
        try simp only [Act.put, List.setIfInBounds_toArray, List.set_cons_zero, List.set_cons_succ]
        refine held_call 3 (by kernel_rfl) rfl (fun K hK => ?_)
        go_simp
        go_at_call 33; rw [← HK.out.2.2.2.2.2.2.1, ← HH.out.2.2.2.2.2.2.2.1]; refine (rfrom_any w5.heap.size hc rc uc 0 roots.length HA RA UA none has du [] w5 ((HH.out.1.below ((hbw0.trans (H5.out.2.mono (by omega))).mono hB)).more (by have := hbw0.size; have : wo.heap.size ≤ w5.heap.size := hs5; omega)) (H5.out.1.at_ HK.out.2.2.2.2.2.2.2) At.nil_ (Nat.le_refl _) HH.out.2.2.2.1 HK.out.2.2.2.2.2.1 (fun p hp => by simp at hp) gl (by omega) (by simp) HH.out.2.2.2.2.2.1).mono ?_; rintro e w6 ⟨T, tc, rfl, ho6, hb6⟩; have hs6 := hb6.size; rw [HH.out.2.2.2.2.2.2.2.1]; have j0 := (hb6.cell (p := ⟨w.heap.size, 0, none⟩) (by show w.heap.size < w5.heap.size; have : wo.heap.size ≤ w5.heap.size := hs5; omega)).trans k0; have j1 := (hb6.cell (p := ⟨w.heap.size, 1, none⟩) (by show w.heap.size < w5.heap.size; have : wo.heap.size ≤ w5.heap.size := hs5; omega)).trans k1; have H6 := Lib.hid (And.intro ho6 (H5.out.2.trans (hb6.mono hs5))); clear ho6 hb6
        try (go_wp2_with fail)
        refine hK.out _ _ ?_ (fun hHeld2 => ?_)
        · first | trivial | ((try dsimp only); (exact ⟨j0, j1⟩))
        clear hK K hHeld1
        try simp only [Act.put, List.setIfInBounds_toArray, List.set_cons_zero, List.set_cons_succ]
        refine held_take (v := ?_) 4 rfl (by kernel_rfl) (by kernel_rfl) (by kernel_rfl) (fun _ _ _ h => h) (by rfl) ?_ (by assumption) ?_
        rotate_left
        · (intro w hSw; (try dsimp only at hSw); go_simp; try with_reducible rfl)
        try simp only [Act.put, List.setIfInBounds_toArray, List.set_cons_zero, List.set_cons_succ]
        refine wpAnyH_done (by kernel_rfl) ?_ _
        go_wp2_with fail
        go_meet
        exact ⟨T, tc, rfl, H6.out.1.base_le hs5, H6.out.2⟩
      case rest =>
        obtain ⟨T, tc, rfl, ho6, hb6⟩ := hcut
        have hs6 := hb6.size
        clear g0 g1
        obtain ⟨sn, hsn⟩ : ∃ sn, fromL has du [] = sn := ⟨_, rfl⟩
        have hsnl : sn.length = N := by rw [← hsn, fromL_length]; exact HH.out.2.2.2.2.2.2.2.1
        have ho6' := ho6.out
        rw [hsn] at ho6'
        have H6 := Lib.hid (And.intro ho6' (And.intro hsn (And.intro hsnl (And.intro (HK.out.1.below hb6 (fun g hg => (HK.out.1.lt g hg).2)) (And.intro ((H1.out.1.below hbl (fun g hg => (H1.out.1.lt g hg).2)).below hb6 (fun g hg => by have := (H1.out.1.lt g hg).2; omega)) (hbw0.trans (hb6.mono (by omega)))))))); clear ho6 ho6' hsn hsnl hb6
        go_wp2_with fail
        go_loopg [41] N (fun gk iv wt => ∃ k : Nat, k ≤ N ∧ gk = N - k ∧ iv = .int .i64 k ∧ Hid (Own wt wo.heap.size 4 T tc (stayEK k sn nd)) ∧ Below wo.heap.size wc wt ∧ wc.heap.size ≤ wt.heap.size)
        case atStart => exact ⟨0, Nat.zero_le _, rfl, rfl, by unfold Hid; rw [stayEK_zero]; exact H6.out.1, Below.refl _ _, Nat.le_refl _⟩
        case round =>
          clear hbl hsz
          obtain ⟨k, hk, rfl, rfl, hkeep, hbl, hsz⟩ := hrel
          by_cases hlt : k < N
          · obtain ⟨b, hb⟩ : ∃ b, sn[k]? = some b := ⟨_, List.getElem?_eq_getElem (by have := H6.out.2.2.1; omega)⟩
            obtain ⟨v, hv⟩ : ∃ v, nd[k]? = some v := ⟨_, List.getElem?_eq_getElem (by have := H1.out.2.2.1; omega)⟩
            have hgd : nd.getD k false = v := by rw [List.getD_eq_getElem?_getD, hv]; rfl
            have hst := stayEK_step (nd := nd) hb
            rw [hgd] at hst
            obtain ⟨gt, rfl, hgt, _⟩ := hkeep.out.some_ (by rw [stayEK_length]; have := H6.out.2.2.1; omega)
            have t0 := hkeep.out.cell_bool (stayEK_get (nd := nd) hb)
            have z0 := hkeep.out.frozen (g := gt) rfl k
            have hS := H6.out.2.2.2.2.1.below hbl (fun g hg => by have := (H1.out.1.lt g hg).2; have := hsw; omega)
            obtain ⟨gs, rfl, _, _⟩ := hS.some_ (by have := H1.out.2.2.1; omega)
            have s0 := hS.cell_bool hv
            have b0 : (0 : Int) ≤ (k : Int) := by omega
            have b1 : (k : Int) < (N : Int) := by omega
            have hset := hkeep.out.set_bool (i := k) (b && !v) (by rw [stayEK_length]; have := H6.out.2.2.1; omega)
            have HX := Lib.hid (And.intro hset hst); clear hset hst hkeep hb hv hgd hS
            cases b with
            | false =>
              go_wp2_with fail
              go_roundg (N - (k + 1))
              case measure => omega
              case rel => exact ⟨k + 1, by omega, rfl, by go_num, by unfold Hid; rw [HX.out.2]; exact HX.out.1, hbl.setCell (by simp only; omega) _, by simpa using hsz⟩
            | true =>
              go_wp2_with fail
              go_roundg (N - (k + 1))
              case measure => omega
              case rel => exact ⟨k + 1, by omega, rfl, by go_num, by unfold Hid; rw [HX.out.2]; exact HX.out.1, hbl.setCell (by simp only; omega) _, by simpa using hsz⟩
          · obtain rfl : N = k := by omega
            have hk2 := hkeep.out
            rw [show N = sn.length from H6.out.2.2.1.symm, stayEK_all] at hk2
            have hD := H6.out.2.2.2.1.below hbl (fun g hg => (HK.out.1.lt g hg).2)
            have hbw := H6.out.2.2.2.2.2.trans (hbl.mono (by have := hbw0.size; omega))
            have HF := Lib.hid (And.intro hk2 (And.intro hD hbw)); clear hk2 hD hbw hkeep
            go_wp2_with fail
            refine (rrising_any (some ⟨w1.heap.size, 0, none⟩) N wr.heap.size N (dueL nd l) wr HK.out.2.1 (HF.out.2.1.at_ (fun _ _ => trivial)) (Nat.le_refl _) (by omega)).mono ?_
            rintro e w7 ⟨YA, yc, rfl, ho7, hb7⟩
            have hs7 := hb7.size
            rw [show rising (dueL nd l) = du from HK.out.2.2.2.2.1, HK.out.2.2.2.2.2.2.1]
            have H7 := Lib.hid (And.intro ho7 hb7); clear ho7 hb7
            go_wp2_with fail
            refine (rrising_any T tc w7.heap.size N (stayE sn nd) w7 (by rw [stayE_length]; exact H6.out.2.2.1) ((HF.out.1.fresh H7.out.2).at_ (fun _ _ => trivial)) (Nat.le_refl _) (by omega)).mono ?_
            rintro e w8 ⟨QA, qc, rfl, ho8, hb8⟩
            have hs8 := hb8.size
            have HR := Lib.hid (And.intro ho8 hb8); clear ho8 hb8
            go_wp2_with fail
            go_ret2
            have hbz := HF.out.2.2.size
            have hdu2 : duI (fromL has roots []) l = du := by rw [H1.out.2.1]; exact HK.out.2.2.2.2.1
            have hst : stI has roots l = rising (stayE sn nd) := by unfold stI; rw [hdu2, H6.out.2.1, H1.out.2.1]
            refine ⟨⟨YA, yc, QA, qc, ?_, ?_, ?_⟩, HF.out.2.2.trans ((H7.out.2.mono hbz).trans (HR.out.2.mono (by omega)))⟩
            · rw [hst, hdu2, HK.out.2.2.2.2.2.2.1]; rfl
            · rw [hdu2]
              have h7 := H7.out.1
              rw [show rising (dueL nd l) = du from HK.out.2.2.2.2.1] at h7
              exact (h7.fresh HR.out.2).base_le hbz
            · rw [hst]; exact HR.out.1.base_le (by omega)

end Go.Proofs.Ytpkccpegdpodoaa

/- mark: a marker's state; New, Marking, Colours, shade. R.Model's state; shade. -/
namespace Go.Proofs.Ytpkccpegdpodoaa
open Go.RowKit

attribute [local go_sem ↓] Go.wp_at_zero Go.wp_at_succ

/-- a marker at block p -/
def MkrL (w : World) (base : Nat) (F : Nat → Prop) (p : Nat) (kind : Int) (mk : Bool) (A : Option Addr) (c : Nat) (s : List It) (l : List ItR) : Prop :=
  Blk w p 182 #[.int .i64 kind, .bool mk, .slice A l.length c] ∧ Its w base F 187 A c l ∧ F p ∧ base ≤ p ∧ its l = s
/-- a model at block p -/
def MdlL (w : World) (base : Nat) (F : Nat → Prop) (p : Nat) (nursery kind : Int) (mk : Bool) (A : Option Addr) (c : Nat) (s : List It) (l : List ItR) : Prop :=
  Blk w p 95 #[.slice A l.length c, .int .i64 nursery, .int .i64 kind, .bool mk] ∧ Its w base F 104 A c l ∧ F p ∧ base ≤ p ∧ its l = s

def MkrA (w : World) (base : Nat) (F : Nat → Prop) (p : Nat) (kind : Int) (mk : Bool) (A : Option Addr) (c : Nat) (s : List It) : Prop := ∃ l : List ItR, MkrL w base F p kind mk A c s l
def MdlA (w : World) (base : Nat) (F : Nat → Prop) (p : Nat) (nursery kind : Int) (mk : Bool) (A : Option Addr) (c : Nat) (s : List It) : Prop := ∃ l : List ItR, MdlL w base F p nursery kind mk A c s l
/-- places lie where they lay -/
def SameA (l l' : List ItR) : Prop := ∀ (i : Nat) (x : ItR), l[i]? = some x → ∃ x', l'[i]? = some x' ∧ x'.A = x.A ∧ x'.c = x.c
theorem SameA.refl (l : List ItR) : SameA l l := fun i x h => ⟨x, h, rfl, rfl⟩
theorem SameA.set {l : List ItR} {i : Nat} {x y : ItR} (hx : l[i]? = some x) (h1 : y.A = x.A) (h2 : y.c = x.c) : SameA l (l.set i y) := fun j z hz => by
  by_cases e : i = j
  · subst e
    rw [hx] at hz; injection hz with hz; subst hz
    exact ⟨y, by rw [List.getElem?_set_self (List.getElem?_eq_some_iff.1 hx).1], h1, h2⟩
  · exact ⟨z, by rw [List.getElem?_set_ne e]; exact hz, rfl, rfl⟩
def Mkr (w : World) (base : Nat) (F : Nat → Prop) (p : Nat) (kind : Int) (mk : Bool) (s : List It) : Prop := ∃ (A : Option Addr) (c : Nat), MkrA w base F p kind mk A c s
def Mdl (w : World) (base : Nat) (F : Nat → Prop) (p : Nat) (nursery kind : Int) (mk : Bool) (s : List It) : Prop := ∃ (A : Option Addr) (c : Nat), MdlA w base F p nursery kind mk A c s

section
variable {w w' : World} {base p : Nat} {F G : Nat → Prop} {n kind : Int} {mk : Bool} {s : List It}
theorem Mkr.fresh (h : Mkr w base F p kind mk s) (hb : Below w.heap.size w w') : Mkr w' base F p kind mk s := by
  obtain ⟨A, c, l, h1, h2, h3, h4, h5⟩ := h
  exact ⟨A, c, l, h1.fresh hb, h2.fresh hb, h3, h4, h5⟩
theorem Mkr.touch (h : Mkr w base F p kind mk s) (ht : Touch G w w') (hd : ∀ g, F g → ¬ G g) : Mkr w' base F p kind mk s := by
  obtain ⟨A, c, l, h1, h2, h3, h4, h5⟩ := h
  exact ⟨A, c, l, (ht.block p h1.lt (hd p h3)).trans h1, h2.touch ht hd, h3, h4, h5⟩
theorem Mkr.drewN (h : Mkr w base F p kind mk s) (n : Nat) : Mkr (w.drewN n) base F p kind mk s := by
  obtain ⟨A, c, l, h1, h2, h3, h4, h5⟩ := h
  exact ⟨A, c, l, h1.drewN n, h2.drewN n, h3, h4, h5⟩
theorem Mdl.drewN (h : Mdl w base F p n kind mk s) (k : Nat) : Mdl (w.drewN k) base F p n kind mk s := by
  obtain ⟨A, c, l, h1, h2, h3, h4, h5⟩ := h
  exact ⟨A, c, l, h1.drewN k, h2.drewN k, h3, h4, h5⟩
theorem Mkr.mono (h : Mkr w base F p kind mk s) (hF : ∀ g, F g → G g) : Mkr w base G p kind mk s := by
  obtain ⟨A, c, l, h1, h2, h3, h4, h5⟩ := h
  exact ⟨A, c, l, h1, h2.mono hF, hF p h3, h4, h5⟩
theorem Mdl.fresh (h : Mdl w base F p n kind mk s) (hb : Below w.heap.size w w') : Mdl w' base F p n kind mk s := by
  obtain ⟨A, c, l, h1, h2, h3, h4, h5⟩ := h
  exact ⟨A, c, l, h1.fresh hb, h2.fresh hb, h3, h4, h5⟩
theorem Mdl.touch (h : Mdl w base F p n kind mk s) (ht : Touch G w w') (hd : ∀ g, F g → ¬ G g) : Mdl w' base F p n kind mk s := by
  obtain ⟨A, c, l, h1, h2, h3, h4, h5⟩ := h
  exact ⟨A, c, l, (ht.block p h1.lt (hd p h3)).trans h1, h2.touch ht hd, h3, h4, h5⟩
theorem Mdl.mono (h : Mdl w base F p n kind mk s) (hF : ∀ g, F g → G g) : Mdl w base G p n kind mk s := by
  obtain ⟨A, c, l, h1, h2, h3, h4, h5⟩ := h
  exact ⟨A, c, l, h1, h2.mono hF, hF p h3, h4, h5⟩
end

/-- rows of ints are as they were -/
def IntKeep (w w' : World) : Prop := ∀ (g : Nat) (cs : Array Value) (fz : Nat × Nat), w.heap[g]? = some (Obj.cells cs 3 fz) → w'.heap[g]? = w.heap[g]?
theorem IntKeep.refl (w : World) : IntKeep w w := fun _ _ _ _ => rfl
theorem IntKeep.trans {w w1 w' : World} (h : IntKeep w w1) (h' : IntKeep w1 w') : IntKeep w w' := fun g cs fz hg => by
  have h1 := h g cs fz hg
  exact (h' g cs fz (h1.trans hg)).trans h1
theorem IntKeep.set {α : Type} [Flat α] {w : World} {base : Nat} {T : TypeId} {g c : Nat} {l : List α} (h : Own w base T (some ⟨g, 0, none⟩) c l) (hT : T ≠ 3) (o : Nat) (u : Value) : IntKeep w (w.setCell ⟨g, o, none⟩ u) := fun k cs fz hk =>
  Below.heap_setCell _ _ _ _ (fun e => by
    simp only at e
    subst e
    rcases h.2 with ⟨h1, -⟩ | ⟨g', cap, cur, hv, -, hh, -⟩
    · injection h1 with h1; cases h1
    · injection hv with hv; injection hv with hv; injection hv with hv
      subst hv
      rw [hk] at hh
      injection hh with hh; injection hh with _ hh _
      exact hT hh.symm)
theorem IntKeep.below {w w' : World} (h : Below w.heap.size w w') : IntKeep w w' := fun g _ _ hg => h.block g (Array.getElem?_eq_some_iff.1 hg).1
theorem Own.intKeep {w w' : World} {base : Nat} {A : Option Addr} {c : Nat} {l : List Int} (h : Own w base 3 A c l) (hk : IntKeep w w') : Own w' base 3 A c l := by
  refine ⟨h.1, ?_⟩
  rcases h.2 with h1 | ⟨g, cap, cur, hv, hb, hh, r⟩
  · exact .inl h1
  · exact .inr ⟨g, cap, cur, hv, hb, (hk _ _ _ hh).trans hh, r⟩

theorem mnew_yes (kind : Int) (w : World) (hk : kind = 1 ∨ kind = 2) :
    Calls Try.prog 51 #[.int .i64 kind] w fun e w' => e = .returned (.tuple #[.pointer (some ⟨w.heap.size, 0, none⟩), .int .i64 0]) ∧ Mkr w' w.heap.size (fun g => g = w.heap.size) w.heap.size kind false [] ∧ Below w.heap.size w w' := by
  have H : ∀ k : Int, Mkr (w.alloc (.cells #[.int .i64 k, .bool false, .slice none 0 0] 182)) w.heap.size (fun g => g = w.heap.size) w.heap.size k false [] := fun k =>
    ⟨none, 0, [], Blk.new _ _ _, Its.nil_ _ _ _ _, rfl, Nat.le_refl _, rfl⟩
  have HH := Lib.hid H; clear H
  rcases hk with rfl | rfl
  all_goals
    go_enter Try.func51, Try.ntmps51
    go_wp2
    go_ret2
    exact ⟨rfl, HH.out _, (Below.refl _ _).alloc (Nat.le_refl _) _⟩
theorem mnew_no (kind : Int) (w : World) (h1 : kind ≠ 1) (h2 : kind ≠ 2) :
    Calls Try.prog 51 #[.int .i64 kind] w fun e w' => e = .returned (.tuple #[.pointer none, .int .i64 1]) ∧ w = w' := by
  have d1 : (kind != 1) = true := by simpa using h1
  have d2 : (kind != 2) = true := by simpa using h2
  clear h1 h2
  go_enter Try.func51, Try.ntmps51
  go_wp2
  go_ret2
  exact ⟨rfl, rfl⟩
theorem marking_any (w : World) (base p : Nat) (F : Nat → Prop) (kind : Int) (mk : Bool) (s : List It) (h : Mkr w base F p kind mk s) :
    Calls Try.prog 55 #[.pointer (some ⟨p, 0, none⟩)] w fun e w' => e = .returned (.bool mk) ∧ w = w' := by
  obtain ⟨A, c, l, h1, h2, h3, h4, h5⟩ := h
  have c1 := h1.cell 1 (v := .bool mk) rfl
  clear h1 h2 h5
  go_enter Try.func55, Try.ntmps55
  go_wp2
  go_ret
  exact ⟨rfl, rfl⟩

set_option maxHeartbeats 800000 in
set_option maxRecDepth 100000 in
theorem mshadeL_any (w : World) (base p : Nat) (F : Nat → Prop) (kind n : Int) (mk : Bool) (A : Option Addr) (c : Nat) (s : List It) (l : List ItR) (h : MkrL w base F p kind mk A c s l) (hn : n = -1 ∨ ∃ m : Nat, n = (m : Int) ∧ m < s.length) (hs : s.length ≤ 1000) :
    Calls Try.prog 178 #[.pointer (some ⟨p, 0, none⟩), .int .i64 n] w fun e w' => e = .returned (.tuple #[]) ∧ (∃ l', MkrL w' base F p kind mk A c (shadeI mk n s) l' ∧ SameA l l') ∧ Touch F w w' ∧ IntKeep w w' ∧ w'.heap.size = w.heap.size := by
  have H := Lib.hid h
  obtain ⟨h1, h2, h3, h4, h5⟩ := h
  have c1 := h1.cell 1 (v := .bool mk) rfl
  have c2 := h1.cell 2 (v := .slice A l.length c) rfl
  have HS := Lib.hid h5
  rcases hn with rfl | ⟨m, rfl, hm⟩
  · have e1 : shadeI mk (-1) s = s := if_neg (by rintro ⟨-, h, -⟩; omega)
    rw [e1]
    clear h1 h2 h5 e1
    cases mk
    all_goals
      go_enter Try.func178, Try.ntmps178
      go_wp2
      go_end0
      exact ⟨rfl, ⟨l, H.out, SameA.refl l⟩, Touch.refl _ _, IntKeep.refl _, rfl⟩
  · rw [← h5, its_length] at hm
    rw [← h5, its_length] at hs
    obtain ⟨x, hx⟩ : ∃ x, l[m]? = some x := ⟨_, List.getElem?_eq_getElem hm⟩
    obtain ⟨g, rfl, hg1, hg2, q0, q1, q2⟩ := h2.cells hx
    have hst : stAt s m = some x.st := by rw [← h5]; exact stAt_get (its_get hx)
    have b0 : (0 : Int) ≤ (m : Int) := by omega
    have b1 : (m : Int) < (l.length : Int) := by omega
    have hne : g ≠ p := fun e => own_ne_ty h2.row h1 (by decide) (by rw [e]; rfl)
    have z1 := h2.row.frozen (g := g) rfl (m * 3 + 1)
    have hgF := h2.foot g rfl
    have hset := h2.setSt hx (by decide) 1 (by unfold I64; omega)
    have hblk := h1.far (p := ⟨g, m * 3 + 1, none⟩) (fun e => hne e.symm) (.int .i64 1)
    have hits := its_set l m x { x with st := 1 } (It.setst 1) hx rfl
    rw [h5] at hits
    obtain ⟨v, hv⟩ : ∃ v, x.st = v := ⟨_, rfl⟩
    rw [hv] at hst q1
    have hln : (l.set m { x with st := 1 }).length = l.length := List.length_set
    have hik := IntKeep.set h2.row (by decide) (m * 3 + 1) (.int .i64 1)
    have hsa := SameA.set (y := { x with st := 1 }) hx rfl rfl
    have HB := Lib.hid (And.intro hset (And.intro hblk (And.intro hits (And.intro hst (And.intro hln (And.intro hik hsa))))))
    clear h1 h2 h5 hx q0 q2 hst hset hblk hits hv hln hik hsa
    by_cases hc : mk = true ∧ v = 0
    · obtain ⟨rfl, rfl⟩ := hc
      go_enter Try.func178, Try.ntmps178
      go_wp2
      go_end0
      obtain ⟨k1, k2, k3, k4, k5, k6, k7⟩ := HB.out
      have e1 : shadeI true (m : Int) s = s.modify m (It.setst 1) := by unfold shadeI; rw [if_pos ⟨rfl, by omega, by simpa using k4⟩]; simp
      rw [e1]
      exact ⟨rfl, ⟨_, ⟨by rw [k5]; exact k2, k1, h3, h4, k3⟩, k7⟩, (Touch.refl _ _).setCell hgF _, k6, by simp [World.setCell]⟩
    · have e1 : shadeI mk (m : Int) s = s := if_neg (by rintro ⟨h, -, h'⟩; exact hc ⟨h, by rw [Int.toNat_natCast, HB.out.2.2.2.1] at h'; injection h'⟩)
      rw [e1]
      have HC := Lib.hid e1; clear e1
      cases mk with
      | false =>
        clear hc
        go_enter Try.func178, Try.ntmps178
        go_wp2
        go_end0
        exact ⟨rfl, ⟨l, H.out, SameA.refl l⟩, Touch.refl _ _, IntKeep.refl _, rfl⟩
      | true =>
        have d0 : (v == 0) = false := by simp at hc; simpa using hc
        clear hc
        go_enter Try.func178, Try.ntmps178
        go_wp2
        go_end0
        exact ⟨rfl, ⟨l, H.out, SameA.refl l⟩, Touch.refl _ _, IntKeep.refl _, rfl⟩
theorem mshadeA_any (w : World) (base p : Nat) (F : Nat → Prop) (kind n : Int) (mk : Bool) (A : Option Addr) (c : Nat) (s : List It) (h : MkrA w base F p kind mk A c s) (hn : n = -1 ∨ ∃ m : Nat, n = (m : Int) ∧ m < s.length) (hs : s.length ≤ 1000) :
    Calls Try.prog 178 #[.pointer (some ⟨p, 0, none⟩), .int .i64 n] w fun e w' => e = .returned (.tuple #[]) ∧ MkrA w' base F p kind mk A c (shadeI mk n s) ∧ Touch F w w' ∧ IntKeep w w' ∧ w'.heap.size = w.heap.size := by
  obtain ⟨l, h⟩ := h
  exact (mshadeL_any w base p F kind n mk A c s l h hn hs).mono fun e w' ⟨h1, ⟨l', h2, _⟩, h3⟩ => ⟨h1, ⟨l', h2⟩, h3⟩
theorem mshade_any (w : World) (base p : Nat) (F : Nat → Prop) (kind n : Int) (mk : Bool) (s : List It) (h : Mkr w base F p kind mk s) (hn : n = -1 ∨ ∃ m : Nat, n = (m : Int) ∧ m < s.length) (hs : s.length ≤ 1000) :
    Calls Try.prog 178 #[.pointer (some ⟨p, 0, none⟩), .int .i64 n] w fun e w' => e = .returned (.tuple #[]) ∧ Mkr w' base F p kind mk (shadeI mk n s) ∧ Touch F w w' ∧ IntKeep w w' ∧ w'.heap.size = w.heap.size := by
  obtain ⟨A, c, h⟩ := h
  exact (mshadeA_any w base p F kind n mk A c s h hn hs).mono fun e w' ⟨h1, h2, h3⟩ => ⟨h1, ⟨A, c, h2⟩, h3⟩

set_option maxHeartbeats 800000 in
set_option maxRecDepth 100000 in
theorem colours_any (w : World) (base p : Nat) (F : Nat → Prop) (kind : Int) (mk : Bool) (s : List It) (h : Mkr w base F p kind mk s) (hs : s.length ≤ 1000) :
    Calls Try.prog 54 #[.pointer (some ⟨p, 0, none⟩)] w fun e w' => ∃ A c, e = .returned (.slice A s.length c) ∧ Own w' w.heap.size 3 A c (s.map It.st) ∧ Below w.heap.size w w' := by
  obtain ⟨i0, hi, hz0, hz1, hz2⟩ := info_parts infoInt
  obtain ⟨A, c, l, h1, h2, h3, h4, h5⟩ := h
  have hl : s.length = l.length := by rw [← h5, its_length]
  rw [hl] at hs ⊢
  have c2 := h1.cell 2 (v := .slice A l.length c) rfl
  have H := Lib.hid (And.intro h1 (And.intro h2 h5)); clear h1 h2 h5 hl
  go_enter Try.func54, Try.ntmps54
  go_wp2_with fail
  clear c2
  go_loopg [3, 11] l.length (fun gk ov iv wr => ∃ (k : Nat) (A1 : Option Addr) (c1 : Nat), k ≤ l.length ∧ gk = l.length - k ∧ iv = .int .i64 k ∧ ov = .slice A1 k c1 ∧ Hid (Own wr w.heap.size 3 A1 c1 ((s.take k).map It.st)) ∧ Below w.heap.size w wr)
  case atStart => exact ⟨0, none, 0, Nat.zero_le _, rfl, rfl, rfl, Own.nil_, Below.refl _ _⟩
  case round =>
    obtain ⟨k, A1, c1, hk, rfl, rfl, rfl, hkeep, hbl⟩ := hrel
    have hsz := hbl.size
    by_cases hlt : k < l.length
    · obtain ⟨x, hx⟩ : ∃ x, l[k]? = some x := ⟨_, List.getElem?_eq_getElem hlt⟩
      obtain ⟨g, rfl, hg1, hg2, q0, q1, q2⟩ := (H.out.2.1.fresh hbl).cells hx
      have b0 : (0 : Int) ≤ (k : Int) := by omega
      have b1 : (k : Int) < (l.length : Int) := by omega
      have hxs := (H.out.2.1.sub k x hx).2.2.2
      have hsn : (s.take (k + 1)).map It.st = (s.take k).map It.st ++ [x.st] := by
        have : s[k]? = some x.it := by rw [← H.out.2.2]; exact its_get hx
        rw [List.take_add_one, this]; simp [ItR.it]
      have hlen : ((s.take k).map It.st).length = k := by
        rw [List.length_map, List.length_take]
        have : s.length = l.length := by rw [← H.out.2.2, its_length]
        omega
      have HX := Lib.hid (And.intro hsn (And.intro hlen hxs)); clear hsn hlen hxs hx
      go_wp2_with (at_builtin; go_must (refine wpList_app (α := Int) (n := k) (m := 1) (B := wr.heap.size + 1 + 1) (r := [x.st]) rfl (.tmp 15) (.tmp 18) _ rfl w.heap.size 3 i0 _ 8 Try.underlying47 hi hz0 hz1 hz2 rfl (by decide) int_one (by rfl) HX.out.2.1 ((hkeep.out.alloc _).alloc _) (by rfl) ?_ rfl (by omega) (by simp only [maxLen]; omega) (by simp; omega) ?_))
      · have := At.built (wr.alloc (.cells #[.slice x.A x.has.length x.c, .int .i64 x.st, .bool x.held] 187)) #[.int .i64 x.st] 3 [x.st] rfl (by intro z hz; simp at hz; subst hz; exact HX.out.2.2)
        simpa using this
      intro A2 c2 w2 hown2 hgr2 hat2
      have hbl2 : Below w.heap.size w w2 := ((hbl.alloc hsz _).alloc (by simp; omega) _).grown hgr2 (by simp; omega) (fun g hg => (hkeep.out.lt g hg).1)
      have HO2 := Lib.hid hown2; clear hown2
      go_wp2_with fail
      go_roundg (l.length - (k + 1))
      case measure => omega
      case rel => exact ⟨k + 1, A2, c2, by omega, rfl, by go_num, rfl, by unfold Hid; rw [HX.out.1, List.map_take]; exact HO2.out, hbl2⟩
    · obtain rfl : k = l.length := by omega
      have hk2 := hkeep.out
      have hsl : s.length = l.length := by rw [← H.out.2.2, its_length]
      rw [List.take_of_length_le (by omega)] at hk2
      have HK := Lib.hid hk2; clear hk2 hkeep hsl
      go_wp2_with fail
      go_ret
      exact ⟨A1, c1, rfl, HK.out, hbl⟩

end Go.Proofs.Ytpkccpegdpodoaa

/- Graphs of things, built one by one: what a row of rows holds. -/
namespace Go.Proofs.Ytpkccpegdpodoaa
open Go.RowKit

/-- a list of ints as it lies -/
structure SlR where
  A : Option Addr
  c : Nat
  l : List Int
instance : Flat SlR where
  cells x := [.slice x.A x.l.length x.c]
  sz := 1
  len _ := rfl
  ok _ := True
theorem slr_one : ∀ x : SlR, ∀ u ∈ Flat.cells x, u.oneCell' = true := by
  intro x u hu; simp [Flat.cells] at hu; subst hu; rfl

/-- a graph that is being built: rows of its own, and its roots -/
structure GrS (w : World) (base : Nat) (HA : Option Addr) (hc : Nat) (RA : Option Addr) (rc : Nat) (hs : List SlR) (rs : List Int) : Prop where
  row : Own w base 47 HA hc hs
  sub : ∀ (i : Nat) (x : SlR), hs[i]? = some x → Own w base 3 x.A x.c x.l ∧ ∀ k ∈ x.l, I64 k
  roots : Own w base 3 RA rc rs
  apart : ∀ (i : Nat) (x : SlR), hs[i]? = some x → ∀ g, rowOf x.A = some g → rowOf RA ≠ some g

section
variable {w w' : World} {base : Nat} {HA HA' RA RA' : Option Addr} {hc hc' rc rc' : Nat} {hs : List SlR} {rs : List Int}
theorem GrS.start (w : World) (base : Nat) : GrS w base none 0 none 0 [] [] := ⟨Own.nil_, fun i x h => by simp at h, Own.nil_, fun i x h => by simp at h⟩
theorem GrS.fresh (h : GrS w base HA hc RA rc hs rs) (hb : Below w.heap.size w w') : GrS w' base HA hc RA rc hs rs :=
  ⟨h.row.fresh hb, fun i x hx => ⟨(h.sub i x hx).1.fresh hb, (h.sub i x hx).2⟩, h.roots.fresh hb, h.apart⟩
theorem GrS.alloc (h : GrS w base HA hc RA rc hs rs) (o : Obj) : GrS (w.alloc o) base HA hc RA rc hs rs := h.fresh ((Below.refl _ _).alloc (Nat.le_refl _) _)
theorem GrS.drew (h : GrS w base HA hc RA rc hs rs) : GrS w.drew base HA hc RA rc hs rs := ⟨h.row.drew, fun i x hx => ⟨(h.sub i x hx).1.drew, (h.sub i x hx).2⟩, h.roots.drew, h.apart⟩
/-- a store into a block of another type -/
theorem GrS.blk (h : GrS w base HA hc RA rc hs rs) {g : Nat} {t : TypeId} {cs : Array Value} (hg : Blk w g t cs) (h1 : 47 ≠ t) (h2 : 3 ≠ t) (i : Nat) (u : Value) : GrS (w.setCell ⟨g, i, none⟩ u) base HA hc RA rc hs rs :=
  ⟨h.row.setCell _ _ (own_ne_ty h.row hg h1), fun j x hx => ⟨(h.sub j x hx).1.setCell _ _ (own_ne_ty (h.sub j x hx).1 hg h2), (h.sub j x hx).2⟩, h.roots.setCell _ _ (own_ne_ty h.roots hg h2), h.apart⟩
theorem push_case {α : Type} {l : List α} {y : α} {i : Nat} {x : α} (h : (l ++ [y])[i]? = some x) : l[i]? = some x ∨ i = l.length ∧ x = y := by
  have hlt := (List.getElem?_eq_some_iff.1 h).1
  rw [List.length_append, List.length_singleton] at hlt
  by_cases e : i < l.length
  · rw [List.getElem?_append_left e] at h; exact .inl h
  · obtain rfl : i = l.length := by omega
    simp at h; exact .inr ⟨rfl, h.symm⟩
/-- one more row -/
theorem GrS.push {y : SlR} (h : GrS w base HA hc RA rc hs rs) (hrow : Own w' base 47 HA' hc' (hs ++ [y])) (hg : w.grownBy w' (rowOf HA)) (hy : Own w base 3 y.A y.c y.l) (hyk : ∀ k ∈ y.l, I64 k) (hya : ∀ g, rowOf y.A = some g → rowOf RA ≠ some g) :
    GrS w' base HA' hc' RA rc (hs ++ [y]) rs := by
  have grow : ∀ {z : SlR}, Own w base 3 z.A z.c z.l → Own w' base 3 z.A z.c z.l := fun {z} hz => hz.grown hg (fun g hg' e => own_own_ty h.row hz (by decide) g e hg')
  refine ⟨hrow, fun i x hx => ?_, h.roots.grown hg (fun g hg' e => own_own_ty h.row h.roots (by decide) g e hg'), fun i x hx => ?_⟩
  · rcases push_case hx with hx | ⟨-, rfl⟩
    · exact ⟨grow (h.sub i x hx).1, (h.sub i x hx).2⟩
    · exact ⟨grow hy, hyk⟩
  · rcases push_case hx with hx | ⟨-, rfl⟩
    · exact h.apart i x hx
    · exact hya
/-- one more root -/
theorem GrS.root {k : Int} (h : GrS w base HA hc RA rc hs rs) (hrow : Own w' base 3 RA' rc' (rs ++ [k])) (hg : w.grownBy w' (rowOf RA)) (hat : rowOf RA' = rowOf RA ∨ rowOf RA' = some w.heap.size) : GrS w' base HA hc RA' rc' hs (rs ++ [k]) := by
  refine ⟨h.row.grown hg (fun g hg' e => own_own_ty h.row h.roots (by decide) g hg' e), fun i x hx => ⟨(h.sub i x hx).1.grown hg (fun g hg' e => h.apart i x hx g hg' e), (h.sub i x hx).2⟩, hrow, fun i x hx g hg' => ?_⟩
  rcases hat with e | e
  · rw [e]; exact h.apart i x hx g hg'
  · rw [e]; intro e2; injection e2 with e2; have := ((h.sub i x hx).1.lt g hg').2; omega
/-- the rows read as lists -/
theorem GrS.at_ (h : GrS w base HA hc RA rc hs rs) : At w w.heap.size HA (hs.map SlR.l) := by
  intro i x hx
  rw [List.getElem?_map] at hx
  cases hs' : hs[i]? with
  | none => rw [hs'] at hx; cases hx
  | some y =>
    rw [hs'] at hx
    injection hx with hx
    subst hx
    obtain ⟨b, o, cs, hA, hb, hc, hr⟩ := h.row.at_ (fun _ _ => trivial) i y hs'
    have hy := h.sub i y hs'
    have hcap := hy.1.le_cap
    refine ⟨b, o, cs, hA, hb, hc, y.A, y.c, hr.1, hcap.1, hcap.2, fun e => ?_, hy.1.at_ (fun k hk => hy.2 k hk)⟩
    rcases hy.1.2 with ⟨h1, -⟩ | ⟨g', cap, cur, hv, -⟩
    · injection h1
    · rw [e] at hv; injection hv with hv; cases hv
end

theorem infoIntsG : (Try.prog.info? 47).map (fun i => (i.zero, i.size, i.bytes)) = some (some (.slice none 0 0), 1, 24) := by kernel_rfl
theorem gHas_take (s : List It) (k : Nat) (x : It) (h : s[k]? = some x) : gHas (s.take (k + 1)) = gHas (s.take k) ++ [x.has.filter fun k => decide (0 ≤ k)] := by
  unfold gHas; rw [List.take_add_one, h]; simp
theorem gRoots_take (s : List It) (k : Nat) (x : It) (h : s[k]? = some x) : gRoots (s.take (k + 1)) = gRoots (s.take k) ++ if x.held = true then [(k : Int)] else [] := by
  unfold gRoots
  rw [List.map_take, List.map_take]
  exact rising_snoc _ _ _ (by rw [List.getElem?_map, h]; rfl)
theorem gRoots_len (s : List It) : (gRoots s).length ≤ s.length := by
  unfold gRoots; have := rising_length (s.map It.held); rw [List.length_map] at this; exact this

/-- what a graph's function leaves -/
def GrPost (s : List It) (w : World) (e : Ending) (w' : World) : Prop :=
  ∃ (HA RA : Option Addr) (hc rc m : Nat), e = .returned (.agg #[.slice HA s.length hc, .slice RA m rc]) ∧ At w' w'.heap.size HA (gHas s) ∧ Own w' w.heap.size 3 RA rc (gRoots s) ∧ (gRoots s).length = m ∧ Below w.heap.size w w'

theorem egGraph1 : ∀ args w, (callFunc 137 args).run Try.prog w = .ok (.enter 137 args) w := fun _ _ => by kernel_rfl
theorem graph1_any (x : Int) (w : World) : Calls Try.prog 137 #[.int .i64 x] w fun e w' => e = .returned (.bool (decide (x < 0))) ∧ w = w' := by
  go_enter Try.func137, Try.ntmps137
  go_wp2
  go_ret
  exact ⟨rfl, rfl⟩
theorem filter_neg (l : List Int) : (l.filter fun x => !decide (x < 0)) = l.filter fun k => decide (0 ≤ k) := by
  congr 1; funext x
  by_cases h : x < 0
  · have h2 : ¬ 0 ≤ x := by omega
    simp [h, h2]
  · have h2 : 0 ≤ x := by omega
    simp [h, h2]

theorem results_cell1 {P : Program} {fn : Func} {p : Tmp} {ty : TypeId} (h : fn.results = #[.cell p ty]) (tmps : Array Value) (w : World) (g : Nat) (t : TypeId) (cs : Array Value) (d : TypeDesc)
    (hp : tmps.getD p undef = .pointer (some ⟨g, 0, none⟩)) (hg : Blk w g t cs)
    (hu : P.underlying ty = some d) (hd : (match d with | .struct _ | .array _ _ => true | _ => false) = true) (hi : (P.info? ty).map (·.size) = some cs.size) :
    (results fn tmps).run P w = .ok (.agg cs) w := by
  have hp' : tmps[p]?.getD undef = .pointer (some ⟨g, 0, none⟩) := by simpa using hp
  simp [results, h, hp', asAddr, run_loadVar_row w g t ty cs (0, 0) d hg hu hd hi]

/-- the graph's block and what it holds -/
def GrB (w : World) (base G k m : Nat) (s : List It) : Prop :=
  ∃ (HA RA : Option Addr) (hc rc : Nat) (hs : List SlR), Blk w G 49 #[.slice HA k hc, .slice RA m rc] ∧ GrS w base HA hc RA rc hs (gRoots (s.take k)) ∧ hs.map SlR.l = gHas (s.take k) ∧ hs.length = k ∧ (gRoots (s.take k)).length = m

set_option maxHeartbeats 1600000 in
set_option maxRecDepth 100000 in
theorem mgraph_any (w : World) (base p : Nat) (F : Nat → Prop) (kind : Int) (mk : Bool) (s : List It) (h : Mkr w base F p kind mk s) (hs : s.length ≤ 100) (hx : ∀ x ∈ s, x.has.length ≤ 10) :
    Calls Try.prog 57 #[.pointer (some ⟨p, 0, none⟩)] w (GrPost s w) := by
  obtain ⟨i0, hi, hz0, hz1, hz2⟩ := info_parts infoInt
  obtain ⟨j0, hj, hy0, hy1, hy2⟩ := info_parts infoIntsG
  obtain ⟨A, c, l, h1, h2, h3, h4, h5⟩ := h
  have hl : s.length = l.length := by rw [← h5, its_length]
  obtain ⟨N, hN⟩ : ∃ N, l.length = N := ⟨_, rfl⟩
  rw [hN] at h1 hl
  rw [hl] at hs
  have c2 := h1.cell 2 (v := .slice A N c) rfl
  have hplt := h1.lt
  have H := Lib.hid (And.intro h1 (And.intro h2 (And.intro h5 (And.intro hx (And.intro hl hN))))); clear h1 h2 h5 hl hx hN
  go_enter Try.func57, Try.ntmps57
  go_wp2_with fail
  clear c2
  go_loopg [11] N (fun gk iv wr => ∃ (k m : Nat), k ≤ N ∧ gk = N - k ∧ iv = .int .i64 k ∧ m ≤ k ∧ Hid (GrB wr w.heap.size (w.heap.size + 1) k m s ∧ Blk wr w.heap.size 49 #[.slice none 0 0, .slice none 0 0]) ∧ Below w.heap.size w wr)
  case atStart =>
    refine ⟨0, 0, Nat.zero_le _, rfl, rfl, Nat.le_refl _, ⟨⟨none, none, 0, 0, [], Blk.at_ _ _ _ (by simp), GrS.start _ _, by simp [gHas], rfl, by simp [gRoots, rising, risingFrom]⟩, (Blk.new w _ _).alloc _⟩, ((Below.refl _ _).alloc (Nat.le_refl _) _).alloc (by simp) _⟩
  case round =>
    obtain ⟨k, m, hk, rfl, rfl, hm, hkeep, hbl⟩ := hrel
    have hsz := hbl.size
    by_cases hlt : k < N
    · obtain ⟨x, hx⟩ : ∃ x, l[k]? = some x := ⟨_, List.getElem?_eq_getElem (by have := H.out.2.2.2.2.2; omega)⟩
      have hits := H.out.2.1.fresh hbl
      obtain ⟨g, rfl, hg1, hg2, q0, q1, q2⟩ := hits.cells hx
      obtain ⟨hxo, -, hxi, hxs⟩ := hits.sub k x hx
      obtain ⟨XA, xc, xh, xs, xb⟩ := x
      simp only at q0 q1 q2 hxo hxi hxs
      have hsx : s[k]? = some ⟨xh, xs, xb⟩ := by have := its_get hx; rw [H.out.2.2.1] at this; exact this
      have hx10 : xh.length ≤ 10 := H.out.2.2.2.1 _ (List.mem_of_getElem? hsx)
      have b0 : (0 : Int) ≤ (k : Int) := by omega
      have b1 : (k : Int) < (N : Int) := by omega
      have ht1 := gHas_take s k _ hsx
      have ht2 := gRoots_take s k _ hsx
      simp only at ht1 ht2
      obtain ⟨y, hy⟩ : ∃ y, (xh.filter fun k => decide (0 ≤ k)) = y := ⟨_, rfl⟩
      rw [hy] at ht1
      have hyi : ∀ k ∈ y, I64 k := fun k hk => by rw [← hy] at hk; exact hxi k (List.mem_filter.1 hk).1
      have HX := Lib.hid (And.intro ht1 (And.intro ht2 (And.intro hy (And.intro hyi (And.intro hxi (And.intro hx10 hkeep.out))))))
      have HO := Lib.hid hxo
      clear ht1 ht2 hy hyi hxi hxo hsx hx hits hkeep
      go_wp2_with fail
      refine wp_world (fun W => GrB W w.heap.size (w.heap.size + 1) k m s ∧ Blk W w.heap.size 49 #[.slice none 0 0, .slice none 0 0] ∧ Blk W wr.heap.size 187 #[.slice XA xh.length xc, .int .i64 xs, .bool xb] ∧ Below wr.heap.size wr W ∧ wr.heap.size < W.heap.size) ⟨?_, HX.out.2.2.2.2.2.2.2.alloc _, Blk.new _ _ _, (Below.refl _ _).alloc (Nat.le_refl _) _, by simp⟩ ?_
      · obtain ⟨HA, RA, hc, rc, hs', d1, d2, d3⟩ := HX.out.2.2.2.2.2.2.1
        exact ⟨HA, RA, hc, rc, hs', d1.alloc _, d2.alloc _, d3⟩
      rintro W ⟨⟨HA, RA, hc, rc, hs', d1, d2, d3, d4, d5⟩, d6, d7, d8, d9⟩
      have g0 := d1.cell 0 (v := .slice HA k hc) rfl
      have g1 := d1.cell 1 (v := .slice RA m rc) rfl
      have x0 := d7.cell 0 (v := .slice XA xh.length xc) rfl
      have x2 := d7.cell 2 (v := .bool xb) rfl
      have HW := Lib.hid (And.intro d1 (And.intro d2 (And.intro d3 (And.intro d4 (And.intro d5 (And.intro d6 (And.intro d7 (And.intro d8 ((HO.out.fresh d8).at_ HX.out.2.2.2.2.1)))))))))
      have hGX : w.heap.size + 1 ≠ wr.heap.size := fun e => by have := d7; rw [← e] at this; have h0 := d1; unfold Blk at this h0; rw [h0] at this; injection this with this; injection this with _ this _; exact absurd this (by decide)
      have hGW := d1.lt
      clear d1 d2 d3 d4 d5 d6 d7 d8 q0 q1 q2
      go_cut [] from 16 to 24 (fun V => ∃ (A3 A1 : Option Addr) (c3 c1 : Nat), Hid (Blk V (w.heap.size + 1) 49 #[.slice A3 (k + 1) c3, .slice RA m rc] ∧ GrS V w.heap.size A3 c3 RA rc (hs' ++ [⟨A1, c1, y⟩]) (gRoots (s.take k)) ∧ Blk V wr.heap.size 187 #[.slice XA xh.length xc, .int .i64 xs, .bool xb] ∧ Blk V w.heap.size 49 #[.slice none 0 0, .slice none 0 0]) ∧ Below w.heap.size w V)
      case first =>
        refine wp_region_held_drew (S := (fun w' => w'.cell? ⟨wr.heap.size, 0, none⟩ = some (.slice XA xh.length xc))) (by kernel_rfl) ?_ (fun hHeld0 => ?_)
        · first | trivial | ((try dsimp only); (exact x0))
        refine held_take (v := ?_) 0 rfl (by kernel_rfl) (by kernel_rfl) (by kernel_rfl) (fun _ _ _ h => h) (by rfl) ?_ (by assumption) ?_
        rotate_left
        · (intro w hSw; (try dsimp only at hSw); go_simp; try with_reducible rfl)
        try simp only [Act.put, List.setIfInBounds_toArray, List.set_cons_zero, List.set_cons_succ]
        refine held_take (v := ?_) 2 rfl (by kernel_rfl) (by kernel_rfl) (by kernel_rfl) (fun _ _ _ h => h) (by rfl) ?_ (by assumption) ?_
        rotate_left
        · (intro w hSw; (try dsimp only at hSw); go_simp; try with_reducible rfl)
        try simp only [Act.put, List.setIfInBounds_toArray, List.set_cons_zero, List.set_cons_succ]
        refine held_take (v := ?_) 3 rfl (by kernel_rfl) (by kernel_rfl) (by kernel_rfl) (fun _ _ _ h => h) (by rfl) ?_ (by assumption) ?_
        rotate_left
        · (intro w hSw; (try dsimp only at hSw); go_simp; try with_reducible rfl)
        try simp only [Act.put, List.setIfInBounds_toArray, List.set_cons_zero, List.set_cons_succ]
        refine held_call2 1 4 (by kernel_rfl) rfl rfl (fun K hK => ?_) (fun K hK => ?_)
        · go_simp
          skip
          refine hK.out _ _ ?_ (fun hHeld1 => ?_)
          · first | trivial | ((try dsimp only); (exact x0))
          clear hK K hHeld0
          try simp only [Act.put, List.setIfInBounds_toArray, List.set_cons_zero, List.set_cons_succ]
          refine held_call 4 (by kernel_rfl) rfl (fun K hK => ?_)
          go_simp
          go_at_call 136; refine (cloneInt_any XA xc W.heap.size xh.length xh W.drew rfl HW.out.2.2.2.2.2.2.2.2.drew (Nat.le_refl _) (by have := HX.out.2.2.2.2.2.1; omega)).mono ?_; rintro e w1 ⟨A1, c1, rfl, ho1, hb1⟩; have hs1 := hb1.size; have f0 := (hb1.cell (p := ⟨w.heap.size + 1, 0, none⟩) hGW).trans g0; have f1 := (hb1.cell (p := ⟨wr.heap.size, 0, none⟩) d9).trans x0; have HC1 := Lib.hid (And.intro ho1 (undrew hb1)); clear ho1 hb1
          try (go_wp2_with fail)
          refine hK.out _ _ ?_ (fun hHeld2 => ?_)
          · first | trivial | ((try dsimp only); (exact f1))
          clear hK K hHeld1
          try simp only [Act.put, List.setIfInBounds_toArray, List.set_cons_zero, List.set_cons_succ]
          refine held_call 5 (by kernel_rfl) rfl (fun K hK => ?_)
          go_simp
          go_at_call 135; refine (deleteFuncInt_any A1 c1 W.heap.size 137 xh.length #[] (fun x => decide (x < 0)) xh w1 rfl HC1.out.1 (fun x hx => HX.out.2.2.2.2.1 x hx) egGraph1 (fun W' x _ _ _ => (graph1_any x W').mono fun e w' ⟨he, hw⟩ => ⟨he, by subst hw; exact Below.refl _ _⟩)).mono ?_; rintro e w2 ⟨rfl, ho2, hgr2⟩; rw [filter_neg, HX.out.2.2.1] at ho2; rw [filter_neg, HX.out.2.2.1]; have hb2 : Below W.heap.size W w2 := HC1.out.2.grown hgr2 hs1 (fun g hg => (HC1.out.1.lt g hg).1); have hs2 := hb2.size; have f2 := (hb2.cell (p := ⟨w.heap.size + 1, 0, none⟩) hGW).trans g0; have f3 := (hb2.cell (p := ⟨wr.heap.size, 0, none⟩) d9).trans x0; have f4 : (w2.alloc (.cells #[.slice A1 y.length c1] 47)).cell? ⟨w.heap.size + 1, 0, none⟩ = some (.slice HA k hc) := (World.cell?_alloc_lt _ _ _ (by simp; omega)).trans f2; have f5 : (w2.alloc (.cells #[.slice A1 y.length c1] 47)).cell? ⟨wr.heap.size, 0, none⟩ = some (.slice XA xh.length xc) := (World.cell?_alloc_lt _ _ _ (by simp; omega)).trans f3; have HC2 := Lib.hid (And.intro ho2 (And.intro hb2 (And.intro (HW.out.2.1.fresh hb2) (HW.out.1.fresh hb2)))); clear ho2 hgr2 hb2
          try (go_wp2_with fail)
          refine hK.out _ _ ?_ (fun hHeld3 => ?_)
          · first | trivial | ((try dsimp only); (exact f3))
          clear hK K hHeld2
          try simp only [Act.put, List.setIfInBounds_toArray, List.set_cons_zero, List.set_cons_succ]
          refine held_call 6 (by kernel_rfl) rfl (fun K hK => ?_)
          go_simp
          skip
          refine hK.out _ _ ?_ (fun hHeld4 => ?_)
          · first | trivial | ((try dsimp only); (exact f5))
          clear hK K hHeld3
          try simp only [Act.put, List.setIfInBounds_toArray, List.set_cons_zero, List.set_cons_succ]
          refine held_call 7 (by kernel_rfl) rfl (fun K hK => ?_)
          refine step_app (α := SlR) (n := k) (m := 1) (nm := k + 1) (r := [⟨A1, c1, y⟩]) (by rfl) (.tmp 17) (.tmp 22) _ (by rfl) w.heap.size 47 j0 _ 24 Try.underlying46 hj hy0 hy1 hy2 rfl (by decide) slr_one (by rfl) HW.out.2.2.2.1 (HC2.out.2.2.1.row.alloc _) (B := w2.heap.size + 1) (X := some ⟨w2.heap.size, 0, none⟩) (d := 1) (by rfl) (At.built w2 _ _ [(⟨A1, c1, y⟩ : SlR)] rfl (fun _ _ => trivial)) rfl rfl (by omega) (by simp only [maxLen]; omega) (by simp; omega) ?_; intro A3 c3 w3 ho3 hgr3 hat3; have n1 := (HC2.out.2.2.2.alloc (.cells #[.slice A1 y.length c1] 47)).grown hgr3 (fun e => own_ne_ty (HC2.out.2.2.1.row.alloc (.cells #[.slice A1 y.length c1] 47)) (HC2.out.2.2.2.alloc (.cells #[.slice A1 y.length c1] 47)) (by decide) e); have m1 := n1.frozen 0; have n2 := (HW.out.2.2.2.2.2.2.1.fresh HC2.out.2.1).alloc (.cells #[.slice A1 y.length c1] 47); have n3 := n2.grown hgr3 (fun e => own_ne_ty (HC2.out.2.2.1.row.alloc (.cells #[.slice A1 y.length c1] 47)) n2 (by decide) e); have m2 := n3.cell 0 (v := .slice XA xh.length xc) rfl; have m3 := n1.cell 0 (v := .slice HA k hc) rfl
          refine hK.out _ _ ?_ (fun hHeld5 => ?_)
          · first | trivial | ((try dsimp only); (exact m2))
          clear hK K hHeld4
          try simp only [Act.put, List.setIfInBounds_toArray, List.set_cons_zero, List.set_cons_succ]
          refine held_take (v := ?_) 8 rfl (by kernel_rfl) (by kernel_rfl) (by kernel_rfl) (fun _ _ _ h => h) (by rfl) ?_ (by assumption) ?_
          rotate_left
          · (intro w hSw; (try dsimp only at hSw); go_simp; try with_reducible rfl)
          try simp only [Act.put, List.setIfInBounds_toArray, List.set_cons_zero, List.set_cons_succ]
          refine held_call 9 (by kernel_rfl) rfl (fun K hK => ?_)
          go_simp
          skip
          refine hK.out _ _ ?_ (fun hHeld6 => ?_)
          · first | trivial | ((try dsimp only); (exact (n3.far (p := ⟨w.heap.size + 1, 0, none⟩) (fun e => hGX e.symm) _).cell 0 rfl))
          clear hK K hHeld5
          try simp only [Act.put, List.setIfInBounds_toArray, List.set_cons_zero, List.set_cons_succ]
          refine wpAnyH_done (by kernel_rfl) ?_ _
          have n4 := HW.out.2.2.2.2.2.1.fresh (HC2.out.2.1)
          have n5 := (n4.alloc (.cells #[.slice A1 y.length c1] 47)).grown hgr3 (fun e => own_ne_ty (HC2.out.2.2.1.row.alloc (.cells #[.slice A1 y.length c1] 47)) (n4.alloc _) (by decide) e)
          have n6 := (HC2.out.2.2.1.alloc (.cells #[.slice A1 y.length c1] 47)).push ho3 hgr3 ((HC2.out.1.base_le (by omega)).alloc _) HX.out.2.2.2.1 (fun g hg e => by have h1 := (HC2.out.1.lt g hg).1; have h2 := (HW.out.2.1.roots.lt g e).2; omega)
          have hb3 : Below w.heap.size w w3 := ((hbl.trans ((HW.out.2.2.2.2.2.2.2.1.mono hsz).trans (HC2.out.2.1.mono (by omega)))).alloc (by omega) _).grown hgr3 (by simp; omega) (fun g hg => (HW.out.2.1.row.lt g hg).1)
          have HZ := Lib.hid (And.intro n1 (And.intro n3 (And.intro n5 (And.intro n6 hb3)))); clear n1 n2 n3 n4 n5 n6 hb3 g0 g1 x0 x2 m1 m2 m3 f0 f1 f2 f3 f4 f5 ho3 hgr3 hat3
          go_wp2_with fail
          go_meet
          exact ⟨A3, A1, c3, c1, ⟨HZ.out.1.set_ 0 _, HZ.out.2.2.2.1.blk HZ.out.1 (by decide) (by decide) _ _, HZ.out.2.1.far (fun e => hGX e.symm) _, HZ.out.2.2.1.far (by simp) _⟩, HZ.out.2.2.2.2.setCell (by simp) _⟩
        · go_simp
          go_at_call 136; refine (cloneInt_any XA xc W.heap.size xh.length xh W.drew rfl HW.out.2.2.2.2.2.2.2.2.drew (Nat.le_refl _) (by have := HX.out.2.2.2.2.2.1; omega)).mono ?_; rintro e w1 ⟨A1, c1, rfl, ho1, hb1⟩; have hs1 := hb1.size; have f0 := (hb1.cell (p := ⟨w.heap.size + 1, 0, none⟩) hGW).trans g0; have f1 := (hb1.cell (p := ⟨wr.heap.size, 0, none⟩) d9).trans x0; have HC1 := Lib.hid (And.intro ho1 (undrew hb1)); clear ho1 hb1
          try (go_wp2_with fail)
          refine hK.out _ _ ?_ (fun hHeld1 => ?_)
          · first | trivial | ((try dsimp only); (exact f1))
          clear hK K hHeld0
          try simp only [Act.put, List.setIfInBounds_toArray, List.set_cons_zero, List.set_cons_succ]
          refine held_call2 1 5 (by kernel_rfl) rfl rfl (fun K hK => ?_) (fun K hK => ?_)
          · go_simp
            skip
            refine hK.out _ _ ?_ (fun hHeld2 => ?_)
            · first | trivial | ((try dsimp only); (exact f1))
            clear hK K hHeld1
            try simp only [Act.put, List.setIfInBounds_toArray, List.set_cons_zero, List.set_cons_succ]
            refine held_call 5 (by kernel_rfl) rfl (fun K hK => ?_)
            go_simp
            go_at_call 135; refine (deleteFuncInt_any A1 c1 W.heap.size 137 xh.length #[] (fun x => decide (x < 0)) xh w1 rfl HC1.out.1 (fun x hx => HX.out.2.2.2.2.1 x hx) egGraph1 (fun W' x _ _ _ => (graph1_any x W').mono fun e w' ⟨he, hw⟩ => ⟨he, by subst hw; exact Below.refl _ _⟩)).mono ?_; rintro e w2 ⟨rfl, ho2, hgr2⟩; rw [filter_neg, HX.out.2.2.1] at ho2; rw [filter_neg, HX.out.2.2.1]; have hb2 : Below W.heap.size W w2 := HC1.out.2.grown hgr2 hs1 (fun g hg => (HC1.out.1.lt g hg).1); have hs2 := hb2.size; have f2 := (hb2.cell (p := ⟨w.heap.size + 1, 0, none⟩) hGW).trans g0; have f3 := (hb2.cell (p := ⟨wr.heap.size, 0, none⟩) d9).trans x0; have f4 : (w2.alloc (.cells #[.slice A1 y.length c1] 47)).cell? ⟨w.heap.size + 1, 0, none⟩ = some (.slice HA k hc) := (World.cell?_alloc_lt _ _ _ (by simp; omega)).trans f2; have f5 : (w2.alloc (.cells #[.slice A1 y.length c1] 47)).cell? ⟨wr.heap.size, 0, none⟩ = some (.slice XA xh.length xc) := (World.cell?_alloc_lt _ _ _ (by simp; omega)).trans f3; have HC2 := Lib.hid (And.intro ho2 (And.intro hb2 (And.intro (HW.out.2.1.fresh hb2) (HW.out.1.fresh hb2)))); clear ho2 hgr2 hb2
            try (go_wp2_with fail)
            refine hK.out _ _ ?_ (fun hHeld3 => ?_)
            · first | trivial | ((try dsimp only); (exact f3))
            clear hK K hHeld2
            try simp only [Act.put, List.setIfInBounds_toArray, List.set_cons_zero, List.set_cons_succ]
            refine held_call 6 (by kernel_rfl) rfl (fun K hK => ?_)
            go_simp
            skip
            refine hK.out _ _ ?_ (fun hHeld4 => ?_)
            · first | trivial | ((try dsimp only); (exact f5))
            clear hK K hHeld3
            try simp only [Act.put, List.setIfInBounds_toArray, List.set_cons_zero, List.set_cons_succ]
            refine held_call 7 (by kernel_rfl) rfl (fun K hK => ?_)
            refine step_app (α := SlR) (n := k) (m := 1) (nm := k + 1) (r := [⟨A1, c1, y⟩]) (by rfl) (.tmp 17) (.tmp 22) _ (by rfl) w.heap.size 47 j0 _ 24 Try.underlying46 hj hy0 hy1 hy2 rfl (by decide) slr_one (by rfl) HW.out.2.2.2.1 (HC2.out.2.2.1.row.alloc _) (B := w2.heap.size + 1) (X := some ⟨w2.heap.size, 0, none⟩) (d := 1) (by rfl) (At.built w2 _ _ [(⟨A1, c1, y⟩ : SlR)] rfl (fun _ _ => trivial)) rfl rfl (by omega) (by simp only [maxLen]; omega) (by simp; omega) ?_; intro A3 c3 w3 ho3 hgr3 hat3; have n1 := (HC2.out.2.2.2.alloc (.cells #[.slice A1 y.length c1] 47)).grown hgr3 (fun e => own_ne_ty (HC2.out.2.2.1.row.alloc (.cells #[.slice A1 y.length c1] 47)) (HC2.out.2.2.2.alloc (.cells #[.slice A1 y.length c1] 47)) (by decide) e); have m1 := n1.frozen 0; have n2 := (HW.out.2.2.2.2.2.2.1.fresh HC2.out.2.1).alloc (.cells #[.slice A1 y.length c1] 47); have n3 := n2.grown hgr3 (fun e => own_ne_ty (HC2.out.2.2.1.row.alloc (.cells #[.slice A1 y.length c1] 47)) n2 (by decide) e); have m2 := n3.cell 0 (v := .slice XA xh.length xc) rfl; have m3 := n1.cell 0 (v := .slice HA k hc) rfl
            refine hK.out _ _ ?_ (fun hHeld5 => ?_)
            · first | trivial | ((try dsimp only); (exact m2))
            clear hK K hHeld4
            try simp only [Act.put, List.setIfInBounds_toArray, List.set_cons_zero, List.set_cons_succ]
            refine held_take (v := ?_) 8 rfl (by kernel_rfl) (by kernel_rfl) (by kernel_rfl) (fun _ _ _ h => h) (by rfl) ?_ (by assumption) ?_
            rotate_left
            · (intro w hSw; (try dsimp only at hSw); go_simp; try with_reducible rfl)
            try simp only [Act.put, List.setIfInBounds_toArray, List.set_cons_zero, List.set_cons_succ]
            refine held_call 9 (by kernel_rfl) rfl (fun K hK => ?_)
            go_simp
            skip
            refine hK.out _ _ ?_ (fun hHeld6 => ?_)
            · first | trivial | ((try dsimp only); (exact (n3.far (p := ⟨w.heap.size + 1, 0, none⟩) (fun e => hGX e.symm) _).cell 0 rfl))
            clear hK K hHeld5
            try simp only [Act.put, List.setIfInBounds_toArray, List.set_cons_zero, List.set_cons_succ]
            refine wpAnyH_done (by kernel_rfl) ?_ _
            have n4 := HW.out.2.2.2.2.2.1.fresh (HC2.out.2.1)
            have n5 := (n4.alloc (.cells #[.slice A1 y.length c1] 47)).grown hgr3 (fun e => own_ne_ty (HC2.out.2.2.1.row.alloc (.cells #[.slice A1 y.length c1] 47)) (n4.alloc _) (by decide) e)
            have n6 := (HC2.out.2.2.1.alloc (.cells #[.slice A1 y.length c1] 47)).push ho3 hgr3 ((HC2.out.1.base_le (by omega)).alloc _) HX.out.2.2.2.1 (fun g hg e => by have h1 := (HC2.out.1.lt g hg).1; have h2 := (HW.out.2.1.roots.lt g e).2; omega)
            have hb3 : Below w.heap.size w w3 := ((hbl.trans ((HW.out.2.2.2.2.2.2.2.1.mono hsz).trans (HC2.out.2.1.mono (by omega)))).alloc (by omega) _).grown hgr3 (by simp; omega) (fun g hg => (HW.out.2.1.row.lt g hg).1)
            have HZ := Lib.hid (And.intro n1 (And.intro n3 (And.intro n5 (And.intro n6 hb3)))); clear n1 n2 n3 n4 n5 n6 hb3 g0 g1 x0 x2 m1 m2 m3 f0 f1 f2 f3 f4 f5 ho3 hgr3 hat3
            go_wp2_with fail
            go_meet
            exact ⟨A3, A1, c3, c1, ⟨HZ.out.1.set_ 0 _, HZ.out.2.2.2.1.blk HZ.out.1 (by decide) (by decide) _ _, HZ.out.2.1.far (fun e => hGX e.symm) _, HZ.out.2.2.1.far (by simp) _⟩, HZ.out.2.2.2.2.setCell (by simp) _⟩
          · go_simp
            go_at_call 135; refine (deleteFuncInt_any A1 c1 W.heap.size 137 xh.length #[] (fun x => decide (x < 0)) xh w1 rfl HC1.out.1 (fun x hx => HX.out.2.2.2.2.1 x hx) egGraph1 (fun W' x _ _ _ => (graph1_any x W').mono fun e w' ⟨he, hw⟩ => ⟨he, by subst hw; exact Below.refl _ _⟩)).mono ?_; rintro e w2 ⟨rfl, ho2, hgr2⟩; rw [filter_neg, HX.out.2.2.1] at ho2; rw [filter_neg, HX.out.2.2.1]; have hb2 : Below W.heap.size W w2 := HC1.out.2.grown hgr2 hs1 (fun g hg => (HC1.out.1.lt g hg).1); have hs2 := hb2.size; have f2 := (hb2.cell (p := ⟨w.heap.size + 1, 0, none⟩) hGW).trans g0; have f3 := (hb2.cell (p := ⟨wr.heap.size, 0, none⟩) d9).trans x0; have f4 : (w2.alloc (.cells #[.slice A1 y.length c1] 47)).cell? ⟨w.heap.size + 1, 0, none⟩ = some (.slice HA k hc) := (World.cell?_alloc_lt _ _ _ (by simp; omega)).trans f2; have f5 : (w2.alloc (.cells #[.slice A1 y.length c1] 47)).cell? ⟨wr.heap.size, 0, none⟩ = some (.slice XA xh.length xc) := (World.cell?_alloc_lt _ _ _ (by simp; omega)).trans f3; have HC2 := Lib.hid (And.intro ho2 (And.intro hb2 (And.intro (HW.out.2.1.fresh hb2) (HW.out.1.fresh hb2)))); clear ho2 hgr2 hb2
            try (go_wp2_with fail)
            refine hK.out _ _ ?_ (fun hHeld2 => ?_)
            · first | trivial | ((try dsimp only); (exact f3))
            clear hK K hHeld1
            try simp only [Act.put, List.setIfInBounds_toArray, List.set_cons_zero, List.set_cons_succ]
            refine held_call2 1 6 (by kernel_rfl) rfl rfl (fun K hK => ?_) (fun K hK => ?_)
            · go_simp
              skip
              refine hK.out _ _ ?_ (fun hHeld3 => ?_)
              · first | trivial | ((try dsimp only); (exact f3))
              clear hK K hHeld2
              try simp only [Act.put, List.setIfInBounds_toArray, List.set_cons_zero, List.set_cons_succ]
              refine held_call 6 (by kernel_rfl) rfl (fun K hK => ?_)
              go_simp
              skip
              refine hK.out _ _ ?_ (fun hHeld4 => ?_)
              · first | trivial | ((try dsimp only); (exact f5))
              clear hK K hHeld3
              try simp only [Act.put, List.setIfInBounds_toArray, List.set_cons_zero, List.set_cons_succ]
              refine held_call 7 (by kernel_rfl) rfl (fun K hK => ?_)
              refine step_app (α := SlR) (n := k) (m := 1) (nm := k + 1) (r := [⟨A1, c1, y⟩]) (by rfl) (.tmp 17) (.tmp 22) _ (by rfl) w.heap.size 47 j0 _ 24 Try.underlying46 hj hy0 hy1 hy2 rfl (by decide) slr_one (by rfl) HW.out.2.2.2.1 (HC2.out.2.2.1.row.alloc _) (B := w2.heap.size + 1) (X := some ⟨w2.heap.size, 0, none⟩) (d := 1) (by rfl) (At.built w2 _ _ [(⟨A1, c1, y⟩ : SlR)] rfl (fun _ _ => trivial)) rfl rfl (by omega) (by simp only [maxLen]; omega) (by simp; omega) ?_; intro A3 c3 w3 ho3 hgr3 hat3; have n1 := (HC2.out.2.2.2.alloc (.cells #[.slice A1 y.length c1] 47)).grown hgr3 (fun e => own_ne_ty (HC2.out.2.2.1.row.alloc (.cells #[.slice A1 y.length c1] 47)) (HC2.out.2.2.2.alloc (.cells #[.slice A1 y.length c1] 47)) (by decide) e); have m1 := n1.frozen 0; have n2 := (HW.out.2.2.2.2.2.2.1.fresh HC2.out.2.1).alloc (.cells #[.slice A1 y.length c1] 47); have n3 := n2.grown hgr3 (fun e => own_ne_ty (HC2.out.2.2.1.row.alloc (.cells #[.slice A1 y.length c1] 47)) n2 (by decide) e); have m2 := n3.cell 0 (v := .slice XA xh.length xc) rfl; have m3 := n1.cell 0 (v := .slice HA k hc) rfl
              refine hK.out _ _ ?_ (fun hHeld5 => ?_)
              · first | trivial | ((try dsimp only); (exact m2))
              clear hK K hHeld4
              try simp only [Act.put, List.setIfInBounds_toArray, List.set_cons_zero, List.set_cons_succ]
              refine held_take (v := ?_) 8 rfl (by kernel_rfl) (by kernel_rfl) (by kernel_rfl) (fun _ _ _ h => h) (by rfl) ?_ (by assumption) ?_
              rotate_left
              · (intro w hSw; (try dsimp only at hSw); go_simp; try with_reducible rfl)
              try simp only [Act.put, List.setIfInBounds_toArray, List.set_cons_zero, List.set_cons_succ]
              refine held_call 9 (by kernel_rfl) rfl (fun K hK => ?_)
              go_simp
              skip
              refine hK.out _ _ ?_ (fun hHeld6 => ?_)
              · first | trivial | ((try dsimp only); (exact (n3.far (p := ⟨w.heap.size + 1, 0, none⟩) (fun e => hGX e.symm) _).cell 0 rfl))
              clear hK K hHeld5
              try simp only [Act.put, List.setIfInBounds_toArray, List.set_cons_zero, List.set_cons_succ]
              refine wpAnyH_done (by kernel_rfl) ?_ _
              have n4 := HW.out.2.2.2.2.2.1.fresh (HC2.out.2.1)
              have n5 := (n4.alloc (.cells #[.slice A1 y.length c1] 47)).grown hgr3 (fun e => own_ne_ty (HC2.out.2.2.1.row.alloc (.cells #[.slice A1 y.length c1] 47)) (n4.alloc _) (by decide) e)
              have n6 := (HC2.out.2.2.1.alloc (.cells #[.slice A1 y.length c1] 47)).push ho3 hgr3 ((HC2.out.1.base_le (by omega)).alloc _) HX.out.2.2.2.1 (fun g hg e => by have h1 := (HC2.out.1.lt g hg).1; have h2 := (HW.out.2.1.roots.lt g e).2; omega)
              have hb3 : Below w.heap.size w w3 := ((hbl.trans ((HW.out.2.2.2.2.2.2.2.1.mono hsz).trans (HC2.out.2.1.mono (by omega)))).alloc (by omega) _).grown hgr3 (by simp; omega) (fun g hg => (HW.out.2.1.row.lt g hg).1)
              have HZ := Lib.hid (And.intro n1 (And.intro n3 (And.intro n5 (And.intro n6 hb3)))); clear n1 n2 n3 n4 n5 n6 hb3 g0 g1 x0 x2 m1 m2 m3 f0 f1 f2 f3 f4 f5 ho3 hgr3 hat3
              go_wp2_with fail
              go_meet
              exact ⟨A3, A1, c3, c1, ⟨HZ.out.1.set_ 0 _, HZ.out.2.2.2.1.blk HZ.out.1 (by decide) (by decide) _ _, HZ.out.2.1.far (fun e => hGX e.symm) _, HZ.out.2.2.1.far (by simp) _⟩, HZ.out.2.2.2.2.setCell (by simp) _⟩
            · go_simp
              skip
              refine hK.out _ _ ?_ (fun hHeld3 => ?_)
              · first | trivial | ((try dsimp only); (exact f5))
              clear hK K hHeld2
              try simp only [Act.put, List.setIfInBounds_toArray, List.set_cons_zero, List.set_cons_succ]
              refine held_call 1 (by kernel_rfl) rfl (fun K hK => ?_)
              go_simp
              skip
              refine hK.out _ _ ?_ (fun hHeld4 => ?_)
              · first | trivial | ((try dsimp only); (exact f5))
              clear hK K hHeld3
              try simp only [Act.put, List.setIfInBounds_toArray, List.set_cons_zero, List.set_cons_succ]
              refine held_call 7 (by kernel_rfl) rfl (fun K hK => ?_)
              refine step_app (α := SlR) (n := k) (m := 1) (nm := k + 1) (r := [⟨A1, c1, y⟩]) (by rfl) (.tmp 17) (.tmp 22) _ (by rfl) w.heap.size 47 j0 _ 24 Try.underlying46 hj hy0 hy1 hy2 rfl (by decide) slr_one (by rfl) HW.out.2.2.2.1 (HC2.out.2.2.1.row.alloc _) (B := w2.heap.size + 1) (X := some ⟨w2.heap.size, 0, none⟩) (d := 1) (by rfl) (At.built w2 _ _ [(⟨A1, c1, y⟩ : SlR)] rfl (fun _ _ => trivial)) rfl rfl (by omega) (by simp only [maxLen]; omega) (by simp; omega) ?_; intro A3 c3 w3 ho3 hgr3 hat3; have n1 := (HC2.out.2.2.2.alloc (.cells #[.slice A1 y.length c1] 47)).grown hgr3 (fun e => own_ne_ty (HC2.out.2.2.1.row.alloc (.cells #[.slice A1 y.length c1] 47)) (HC2.out.2.2.2.alloc (.cells #[.slice A1 y.length c1] 47)) (by decide) e); have m1 := n1.frozen 0; have n2 := (HW.out.2.2.2.2.2.2.1.fresh HC2.out.2.1).alloc (.cells #[.slice A1 y.length c1] 47); have n3 := n2.grown hgr3 (fun e => own_ne_ty (HC2.out.2.2.1.row.alloc (.cells #[.slice A1 y.length c1] 47)) n2 (by decide) e); have m2 := n3.cell 0 (v := .slice XA xh.length xc) rfl; have m3 := n1.cell 0 (v := .slice HA k hc) rfl
              refine hK.out _ _ ?_ (fun hHeld5 => ?_)
              · first | trivial | ((try dsimp only); (exact m2))
              clear hK K hHeld4
              try simp only [Act.put, List.setIfInBounds_toArray, List.set_cons_zero, List.set_cons_succ]
              refine held_take (v := ?_) 8 rfl (by kernel_rfl) (by kernel_rfl) (by kernel_rfl) (fun _ _ _ h => h) (by rfl) ?_ (by assumption) ?_
              rotate_left
              · (intro w hSw; (try dsimp only at hSw); go_simp; try with_reducible rfl)
              try simp only [Act.put, List.setIfInBounds_toArray, List.set_cons_zero, List.set_cons_succ]
              refine held_call 9 (by kernel_rfl) rfl (fun K hK => ?_)
              go_simp
              skip
              refine hK.out _ _ ?_ (fun hHeld6 => ?_)
              · first | trivial | ((try dsimp only); (exact (n3.far (p := ⟨w.heap.size + 1, 0, none⟩) (fun e => hGX e.symm) _).cell 0 rfl))
              clear hK K hHeld5
              try simp only [Act.put, List.setIfInBounds_toArray, List.set_cons_zero, List.set_cons_succ]
              refine wpAnyH_done (by kernel_rfl) ?_ _
              have n4 := HW.out.2.2.2.2.2.1.fresh (HC2.out.2.1)
              have n5 := (n4.alloc (.cells #[.slice A1 y.length c1] 47)).grown hgr3 (fun e => own_ne_ty (HC2.out.2.2.1.row.alloc (.cells #[.slice A1 y.length c1] 47)) (n4.alloc _) (by decide) e)
              have n6 := (HC2.out.2.2.1.alloc (.cells #[.slice A1 y.length c1] 47)).push ho3 hgr3 ((HC2.out.1.base_le (by omega)).alloc _) HX.out.2.2.2.1 (fun g hg e => by have h1 := (HC2.out.1.lt g hg).1; have h2 := (HW.out.2.1.roots.lt g e).2; omega)
              have hb3 : Below w.heap.size w w3 := ((hbl.trans ((HW.out.2.2.2.2.2.2.2.1.mono hsz).trans (HC2.out.2.1.mono (by omega)))).alloc (by omega) _).grown hgr3 (by simp; omega) (fun g hg => (HW.out.2.1.row.lt g hg).1)
              have HZ := Lib.hid (And.intro n1 (And.intro n3 (And.intro n5 (And.intro n6 hb3)))); clear n1 n2 n3 n4 n5 n6 hb3 g0 g1 x0 x2 m1 m2 m3 f0 f1 f2 f3 f4 f5 ho3 hgr3 hat3
              go_wp2_with fail
              go_meet
              exact ⟨A3, A1, c3, c1, ⟨HZ.out.1.set_ 0 _, HZ.out.2.2.2.1.blk HZ.out.1 (by decide) (by decide) _ _, HZ.out.2.1.far (fun e => hGX e.symm) _, HZ.out.2.2.1.far (by simp) _⟩, HZ.out.2.2.2.2.setCell (by simp) _⟩
      case rest =>
        obtain ⟨A3, A1, c3, c1, hV, hbV⟩ := hcut
        clear g0 g1 x0 x2
        have hsV := hbV.size
        have hVX := hV.out.2.2.1.lt
        have hVG := hV.out.1.lt
        have g1 := hV.out.1.cell 1 (v := .slice RA m rc) rfl
        have g0 := hV.out.1.cell 0 (v := .slice A3 (k + 1) c3) rfl
        have x2 := hV.out.2.2.1.cell 2 (v := .bool xb) rfl
        have hrl := HW.out.2.2.2.2.1
        have hhl : (hs' ++ [(⟨A1, c1, y⟩ : SlR)]).length = k + 1 := by rw [List.length_append, HW.out.2.2.2.1]; rfl
        have hhm : (hs' ++ [(⟨A1, c1, y⟩ : SlR)]).map SlR.l = gHas (s.take (k + 1)) := by rw [List.map_append, HW.out.2.2.1, HX.out.1]; rfl
        have HR := Lib.hid (And.intro hrl (And.intro hhl (And.intro hhm HX.out.2.1))); clear hrl hhl hhm HW
        cases xb with
        | false =>
          go_wp2_with fail
          go_roundg (N - (k + 1))
          case measure => omega
          case rel => exact ⟨k + 1, m, by omega, rfl, by go_num, by omega, ⟨⟨A3, RA, c3, rc, _, hV.out.1, by rw [HR.out.2.2.2]; simpa using hV.out.2.1, HR.out.2.2.1, HR.out.2.1, by rw [HR.out.2.2.2]; simpa using HR.out.1⟩, hV.out.2.2.2⟩, hbV⟩
        | true =>
          go_wp2_with (at_builtin; go_must (refine wpList_app (α := Int) (n := m) (m := 1) (B := wc.heap.size + 1) (r := [(k : Int)]) rfl (.tmp 28) (.tmp 30) _ rfl w.heap.size 3 i0 _ 8 Try.underlying47 hi hz0 hz1 hz2 rfl (by decide) int_one (by rfl) HR.out.1 (hV.out.2.1.roots.alloc _) (by rfl) (At.built wc _ _ [(k : Int)] rfl (by intro z hz; simp at hz; subst hz; exact (by unfold I64; omega : I64 (k : Int)))) rfl (by omega) (by simp only [maxLen]; omega) (by simp; omega) ?_); intro A5 c5 w5 ho5 hgr5 hat5; have p1 := (hV.out.1.alloc (.cells #[.int .i64 (k : Int)] 3)).grown hgr5 (fun e => own_ne_ty (hV.out.2.1.roots.alloc (.cells #[.int .i64 (k : Int)] 3)) (hV.out.1.alloc (.cells #[.int .i64 (k : Int)] 3)) (by decide) e); have p2 := (hV.out.2.2.2.alloc (.cells #[.int .i64 (k : Int)] 3)).grown hgr5 (fun e => own_ne_ty (hV.out.2.1.roots.alloc (.cells #[.int .i64 (k : Int)] 3)) (hV.out.2.2.2.alloc (.cells #[.int .i64 (k : Int)] 3)) (by decide) e); have p3 := (hV.out.2.1.alloc (.cells #[.int .i64 (k : Int)] 3)).root ho5 hgr5 hat5; have p4 : Below w.heap.size w w5 := (hbV.alloc (by omega) _).grown hgr5 (by simp; omega) (fun g hg => (hV.out.2.1.roots.lt g hg).1); have s5 := hgr5.size; have q1 := p1.cell 1 (v := .slice RA m rc) rfl; have z1 := p1.frozen 1; have HP := Lib.hid (And.intro p1 (And.intro p2 (And.intro p3 p4))); clear p1 p2 p3 p4 ho5 hgr5 hat5)
          go_roundg (N - (k + 1))
          case measure => omega
          case rel =>
            refine ⟨k + 1, m + 1, by omega, rfl, by go_num, by omega, ⟨⟨A3, A5, c3, c5, _, HP.out.1.set_ 1 _, ?_, HR.out.2.2.1, HR.out.2.1, by rw [HR.out.2.2.2]; simpa using HR.out.1⟩, HP.out.2.1.far (by simp) _⟩, HP.out.2.2.2.setCell (by simp) _⟩
            rw [HR.out.2.2.2]
            simpa using HP.out.2.2.1.blk HP.out.1 (by decide) (by decide) 1 _
    · obtain rfl : k = N := by omega
      have hkk := hkeep.out
      have HKK := Lib.hid hkk; clear hkk hkeep
      obtain ⟨⟨HA, RA, hc, rc, hs', b1, b2, b3, b4, b5⟩, b6⟩ := HKK.out
      have g0 := b1.cell 0 (v := .slice HA k hc) rfl
      have g1 := b1.cell 1 (v := .slice RA m rc) rfl
      have r0 := b6.cell 0 (v := .slice none 0 0) rfl
      have r1 := b6.cell 1 (v := .slice none 0 0) rfl
      have z0 := b6.frozen 0
      have z1 := b6.frozen 1
      have HB := Lib.hid (And.intro b2 (And.intro b3 (And.intro b4 (And.intro b5 b6)))); clear b1 b2 b3 b4 b5 b6 HKK
      go_wp2_with fail
      refine bodyPost_ret (results_cell1 rfl _ _ w.heap.size _ _ _ rfl ((HB.out.2.2.2.2.set_ 0 (.slice HA k hc)).set_ 1 (.slice RA m rc)) Try.underlying49 rfl (by kernel_rfl)) rfl ?_
      obtain ⟨e1, e2, e3, e4, e5⟩ := HB.out
      have hsl : s.take k = s := List.take_of_length_le (by have := H.out.2.2.2.2.1; omega)
      rw [hsl] at e1 e2 e4
      have e1' : GrS ((wr.setCell ⟨w.heap.size, 0, none⟩ (.slice HA k hc)).setCell ⟨w.heap.size, 1, none⟩ (.slice RA m rc)) w.heap.size HA hc RA rc hs' (gRoots s) := (e1.blk e5 (by decide) (by decide) _ _).blk (e5.set_ 0 _) (by decide) (by decide) _ _
      have e6 := e1'.at_
      rw [e2] at e6
      exact ⟨HA, RA, hc, rc, m, by rw [H.out.2.2.2.2.1]; rfl, e6, e1'.roots, e4, (hbl.setCell (Nat.le_refl _) _).setCell (Nat.le_refl _) _⟩

end Go.Proofs.Ytpkccpegdpodoaa

/- May things be named? A marker's and a model's. -/
namespace Go.Proofs.Ytpkccpegdpodoaa
open Go.RowKit

attribute [local go_sem ↓] Go.wp_at_zero Go.wp_at_succ

theorem fromW_any (hc rc n m : Nat) (HA RA : Option Addr) (has : List (List Int)) (roots : List Int) (w : World) (hn : has.length = n) (hm : roots.length = m) (hh : At w w.heap.size HA has) (hr : At w w.heap.size RA roots)
    (hright : Right has) (hsrc : RightL has.length roots) (hlen : n ≤ 100) (hml : m ≤ 1000) (hhl : ∀ l ∈ has, l.length ≤ 10) :
    Calls Try.prog 105 #[.agg #[.slice HA n hc, .slice RA m rc], .slice RA m rc] w fun e w' => ∃ S c, e = .returned (.slice S n c) ∧ Own w' w.heap.size 4 S c (fromL has roots []) ∧ Below w.heap.size w w' := by
  subst hn hm
  exact wfrom_any w.heap.size hc rc rc roots.length HA RA RA has roots w hh hr (Nat.le_refl _) hright hsrc hlen hml hhl
theorem fromR_any (hc rc n m : Nat) (HA RA : Option Addr) (has : List (List Int)) (roots : List Int) (w : World) (hn : has.length = n) (hm : roots.length = m) (hh : At w w.heap.size HA has) (hr : At w w.heap.size RA roots)
    (hright : Right has) (hsrc : RightL has.length roots) (hlen : n ≤ 100) (hml : m ≤ 1000) (hhl : ∀ l ∈ has, l.length ≤ 10) :
    Calls Try.prog 33 #[.agg #[.slice HA n hc, .slice RA m rc], .slice RA m rc, .slice none 0 0] w fun e w' => ∃ S c, e = .returned (.slice S n c) ∧ Own w' w.heap.size 4 S c (fromL has roots []) ∧ Below w.heap.size w w' := by
  subst hn hm
  exact rfrom_any w.heap.size hc rc rc 0 roots.length HA RA RA none has roots [] w hh hr At.nil_ (Nat.le_refl _) hright hsrc (fun p hp => by simp at hp) hlen hml (by simp) hhl

theorem all_snocM {α : Type} (p : α → Bool) (l : List α) (k : Nat) (x : α) (h : l[k]? = some x) : (l.take (k + 1)).all p = ((l.take k).all p && p x) := by
  rw [List.take_add_one, h]; simp [List.all_append]
theorem all_stopM {α : Type} (p : α → Bool) (l : List α) (k : Nat) (x : α) (h : l[k]? = some x) (hp : p x = false) : l.all p = false := by
  rw [List.all_eq_false]; exact ⟨x, List.mem_of_getElem? h, by simp [hp]⟩
theorem namedE_none {s : List It} {l : List Int} {k : Nat} {x : Int} (h : l[k]? = some x) (hx : inN s.length x = false) : namedE s l = 5 := by
  unfold namedE; rw [all_stopM _ l k x h hx]; rfl
theorem namedE_state {s : List It} {l : List Int} {k : Nat} {x : Int} (h1 : l.all (inN s.length) = true) (h : l[k]? = some x) (hx : (needed s).getD x.toNat false = false) : namedE s l = 8 := by
  unfold namedE; rw [if_pos h1, all_stopM _ l k x h hx]; rfl
theorem namedE_ok {s : List It} {l : List Int} (h1 : l.all (inN s.length) = true) (h2 : l.all (fun n => (needed s).getD n.toNat false) = true) : namedE s l = 0 := by
  unfold namedE; rw [if_pos h1, if_pos h2]

/-- things whose graph is right -/
structure Fine (s : List It) : Prop where
  small : s.length ≤ 100
  long : ∀ x ∈ s, x.has.length ≤ 10
  neg : ∀ x ∈ s, ∀ k ∈ x.has, k = -1 ∨ 0 ≤ k
  right : Right (gHas s)
  rightL : RightL (gHas s).length (gRoots s)
theorem MInv.fine {kind : Int} {mk : Bool} {s : List It} (h : MInv kind mk s) : Fine s := ⟨h.small, h.long, fun x hx k hk => (h.refs x hx k hk).imp id (fun ⟨n, e, _⟩ => by omega), h.right, h.rightL⟩
theorem Fine.glen {s : List It} (h : Fine s) : ∀ l ∈ gHas s, l.length ≤ 10 := by
  intro l hl
  unfold gHas at hl
  obtain ⟨x, hx, rfl⟩ := List.mem_map.1 hl
  exact Nat.le_trans (List.length_filter_le _ _) (h.long x hx)
theorem rising_I64 (l : List Bool) (h : l.length ≤ 1000000) : ∀ x ∈ rising l, I64 x := by
  intro x hx
  obtain ⟨n, rfl, hn⟩ := (mem_rising l x).1 hx
  have := (List.getElem?_eq_some_iff.1 hn).1
  unfold I64; omega


end Go.Proofs.Ytpkccpegdpodoaa

/- The graph of a model's things. -/
namespace Go.Proofs.Ytpkccpegdpodoaa
open Go.RowKit

attribute [local go_sem ↓] Go.wp_at_zero Go.wp_at_succ

theorem filter_snocM (l : List Int) (p : Int → Bool) (k : Nat) (x : Int) (h : l[k]? = some x) : (l.take (k + 1)).filter p = (l.take k).filter p ++ if p x = true then [x] else [] := by
  rw [List.take_add_one, h]
  simp only [Option.toList_some, List.filter_append]
  by_cases hp : p x = true <;> simp [hp]

set_option maxHeartbeats 1600000 in
set_option maxRecDepth 100000 in
theorem rgraph_any (w : World) (base p : Nat) (F : Nat → Prop) (nu kind : Int) (mk : Bool) (s : List It) (h : Mdl w base F p nu kind mk s) (hs : s.length ≤ 100) (hx : ∀ x ∈ s, x.has.length ≤ 10) (hneg : ∀ x ∈ s, ∀ k ∈ x.has, k = -1 ∨ 0 ≤ k) :
    Calls Try.prog 58 #[.pointer (some ⟨p, 0, none⟩)] w (GrPost s w) := by
  obtain ⟨i0, hi, hz0, hz1, hz2⟩ := info_parts infoInt
  obtain ⟨j0, hj, hy0, hy1, hy2⟩ := info_parts infoIntsG
  obtain ⟨A, c, l, h1, h2, h3, h4, h5⟩ := h
  have hl : s.length = l.length := by rw [← h5, its_length]
  obtain ⟨N, hN⟩ : ∃ N, l.length = N := ⟨_, rfl⟩
  rw [hN] at h1 hl
  rw [hl] at hs
  have c2 := h1.cell 0 (v := .slice A N c) rfl
  have hplt := h1.lt
  have H := Lib.hid (And.intro h1 (And.intro h2 (And.intro h5 (And.intro hx (And.intro hl (And.intro hN hneg)))))); clear h1 h2 h5 hl hx hN hneg
  go_enter Try.func58, Try.ntmps58
  go_wp2_with fail
  clear c2
  go_loopg [14] N (fun gk iv wr => ∃ (k m : Nat), k ≤ N ∧ gk = N - k ∧ iv = .int .i64 k ∧ m ≤ k ∧ Hid (GrB wr w.heap.size (w.heap.size + 1) k m s ∧ Blk wr w.heap.size 49 #[.slice none 0 0, .slice none 0 0]) ∧ Below w.heap.size w wr)
  case atStart =>
    refine ⟨0, 0, Nat.zero_le _, rfl, rfl, Nat.le_refl _, ⟨⟨none, none, 0, 0, [], Blk.at_ _ _ _ (by simp), GrS.start _ _, by simp [gHas], rfl, by simp [gRoots, rising, risingFrom]⟩, (Blk.new w _ _).alloc _⟩, ((Below.refl _ _).alloc (Nat.le_refl _) _).alloc (by simp) _⟩
  case round =>
    obtain ⟨k, m, hk, rfl, rfl, hm, hkeep, hbl⟩ := hrel
    obtain ⟨wo, rfl⟩ : ∃ wo : World, wo = wr := ⟨_, rfl⟩
    have hsz := hbl.size
    by_cases hlt : k < N
    · obtain ⟨x, hx⟩ : ∃ x, l[k]? = some x := ⟨_, List.getElem?_eq_getElem (by have := H.out.2.2.2.2.2.1; omega)⟩
      have hits := H.out.2.1.fresh hbl
      obtain ⟨g, rfl, hg1, hg2, q0, q1, q2⟩ := hits.cells hx
      obtain ⟨hxo, -, hxi, hxs⟩ := hits.sub k x hx
      obtain ⟨XA, xc, xh, xs, xb⟩ := x
      simp only at q0 q1 q2 hxo hxi hxs
      have hsx : s[k]? = some ⟨xh, xs, xb⟩ := by have := its_get hx; rw [H.out.2.2.1] at this; exact this
      have hx10 : xh.length ≤ 10 := H.out.2.2.2.1 _ (List.mem_of_getElem? hsx)
      have hxn : ∀ k ∈ xh, k = -1 ∨ 0 ≤ k := H.out.2.2.2.2.2.2 _ (List.mem_of_getElem? hsx)
      have b0 : (0 : Int) ≤ (k : Int) := by omega
      have b1 : (k : Int) < (N : Int) := by omega
      have ht1 := gHas_take s k _ hsx
      have ht2 := gRoots_take s k _ hsx
      simp only at ht1 ht2
      obtain ⟨XN, hXN⟩ : ∃ n, xh.length = n := ⟨_, rfl⟩
      rw [hXN] at q0 hx10
      have HX := Lib.hid (And.intro ht1 (And.intro ht2 (And.intro hXN (And.intro hxn (And.intro hxi hkeep.out)))))
      have HO := Lib.hid hxo
      clear ht1 ht2 hxn hxi hxo hsx hx hits hkeep hXN
      go_wp2_with fail
      refine wp_world (fun W => GrB W w.heap.size (w.heap.size + 1) k m s ∧ Blk W w.heap.size 49 #[.slice none 0 0, .slice none 0 0] ∧ Blk W wo.heap.size 104 #[.slice XA XN xc, .int .i64 xs, .bool xb] ∧ Below wo.heap.size wo W ∧ wo.heap.size < W.heap.size) ⟨?_, HX.out.2.2.2.2.2.2.alloc _, Blk.new _ _ _, (Below.refl _ _).alloc (Nat.le_refl _) _, by simp⟩ ?_
      · obtain ⟨HA, RA, hc, rc, hs', d1, d2, d3⟩ := HX.out.2.2.2.2.2.1
        exact ⟨HA, RA, hc, rc, hs', d1.alloc _, d2.alloc _, d3⟩
      rintro W ⟨⟨HA, RA, hc, rc, hs', d1, d2, d3, d4, d5⟩, d6, d7, d8, d9⟩
      have hGX : w.heap.size + 1 ≠ wo.heap.size := fun e => by have := d7; rw [← e] at this; have h0 := d1; unfold Blk at this h0; rw [h0] at this; injection this with this; injection this with _ this _; exact absurd this (by decide)
      have hGW := d1.lt
      have HW := Lib.hid (And.intro d1 (And.intro d2 (And.intro d3 (And.intro d4 (And.intro d5 (And.intro d6 (And.intro d7 (And.intro d8 ((HO.out.fresh d8).at_ HX.out.2.2.2.2.1)))))))))
      clear d1 d2 d3 d4 d5 d6 d7 d8 q0 q1 q2
      go_loopg [6, 22] XN (fun gk lv jv wj => ∃ (j q : Nat) (LA : Option Addr) (lc : Nat), j ≤ XN ∧ gk = XN - j ∧ jv = .int .i64 j ∧ lv = .slice LA q lc ∧ q ≤ j ∧ Hid (Own wj W.heap.size 3 LA lc ((xh.take j).filter fun k => decide (0 ≤ k)) ∧ ((xh.take j).filter fun k => decide (0 ≤ k)).length = q) ∧ Below W.heap.size W wj)
      case atStart => exact ⟨0, 0, none, 0, Nat.zero_le _, rfl, rfl, rfl, Nat.le_refl _, ⟨Own.nil_, rfl⟩, Below.refl _ _⟩
      case round =>
        obtain ⟨j, q, LA, lc, hjl, rfl, rfl, rfl, hq, hkeep, hbj⟩ := hrel
        have hsj := hbj.size
        by_cases hltj : j < XN
        · obtain ⟨b, o, z, rfl, hbB, hz, hzi, q0⟩ := (HW.out.2.2.2.2.2.2.2.2.below hbj).int_ (k := j) (by have := HX.out.2.2.1; omega)
          have hzn := HX.out.2.2.2.1 z (List.mem_of_getElem? hz)
          have hsn := filter_snocM xh (fun k => decide (0 ≤ k)) j z hz
          have c0 : (0 : Int) ≤ (j : Int) := by omega
          have c1 : (j : Int) < (XN : Int) := by omega
          by_cases hz1 : z = -1
          · subst hz1
            rw [if_neg (by simp), List.append_nil] at hsn
            have HS := Lib.hid hsn; clear hsn hz hzn
            go_wp2_with fail
            go_roundg (XN - (j + 1))
            case measure => omega
            case rel => exact ⟨j + 1, q, LA, lc, by omega, rfl, by go_num, rfl, by omega, by unfold Hid; rw [HS.out]; exact hkeep.out, hbj⟩
          · have hz0' : 0 ≤ z := by omega
            rw [if_pos (by simpa using hz0')] at hsn
            have d0 : (z != -1) = true := by simpa using hz1
            have HS := Lib.hid (And.intro hsn hkeep.out); clear hsn hz hzn hz1 hz0' hkeep
            go_wp2_with (at_builtin; go_must (refine wpList_app (α := Int) (n := q) (m := 1) (B := wr.heap.size + 1) (r := [z]) rfl (.tmp 28) (.tmp 30) _ rfl W.heap.size 3 i0 _ 8 Try.underlying47 hi hz0 hz1 hz2 rfl (by decide) int_one (by rfl) HS.out.2.2 (HS.out.2.1.alloc _) (by rfl) (At.built wr _ _ [z] rfl (by intro u hu; simp at hu; subst hu; exact hzi)) rfl (by omega) (by simp only [maxLen]; omega) (by simp; omega) ?_); intro A2 c2 w2 hown2 hgr2 hat2; have hb2 : Below W.heap.size W w2 := (hbj.alloc hsj _).grown hgr2 (by simp; omega) (fun g hg => (HS.out.2.1.lt g hg).1); have HO2 := Lib.hid hown2; clear hown2 hgr2 hat2)
            go_roundg (XN - (j + 1))
            case measure => omega
            case rel => exact ⟨j + 1, q + 1, A2, c2, by omega, rfl, by go_num, rfl, by omega, ⟨by rw [HS.out.1]; exact HO2.out, by rw [HS.out.1, List.length_append, HS.out.2.2]; rfl⟩, hb2⟩
        · obtain rfl : j = XN := by omega
          obtain ⟨f1, f2⟩ := hkeep.out
          rw [List.take_of_length_le (by have := HX.out.2.2.1; omega)] at f1 f2
          obtain ⟨y, hy⟩ : ∃ y, (xh.filter fun k => decide (0 ≤ k)) = y := ⟨_, rfl⟩
          rw [hy] at f1 f2
          have hyi : ∀ k ∈ y, I64 k := fun k hk => by rw [← hy] at hk; exact HX.out.2.2.2.2.1 k (List.mem_filter.1 hk).1
          have hbw : Below w.heap.size w wr := hbl.trans ((HW.out.2.2.2.2.2.2.2.1.mono hsz).trans (hbj.mono (by omega)))
          have e1 := HW.out.1.fresh hbj
          have e2 := HW.out.2.1.fresh hbj
          have e6 := HW.out.2.2.2.2.2.1.fresh hbj
          have e7 := HW.out.2.2.2.2.2.2.1.fresh hbj
          have hap : ∀ g, rowOf LA = some g → rowOf RA ≠ some g := fun g hg e => by have h1 := (f1.lt g hg).1; have h2 := (HW.out.2.1.roots.lt g e).2; omega
          have hcs : (#[Value.slice LA q lc] : Array Value).toList = flat [(⟨LA, lc, y⟩ : SlR)] := by simp [flat, Flat.cells, f2]
          have g0 := e1.cell 0 (v := .slice HA k hc) rfl
          have x2 := e7.cell 2 (v := .bool xb) rfl
          have hXlt := e7.lt
          have hGlt := e1.lt
          have ht1 := HX.out.1
          have ht1' : gHas (s.take (k + 1)) = gHas (s.take k) ++ [y] := by rw [HX.out.1, hy]
          have HV := Lib.hid (And.intro e1 (And.intro e2 (And.intro e6 (And.intro e7 (And.intro (f1.base_le (by omega : w.heap.size ≤ W.heap.size)) (And.intro hyi (And.intro hap (And.intro hcs (And.intro ht1' (And.intro HX.out.2.1 (And.intro HW.out.2.2.1 (And.intro HW.out.2.2.2.1 HW.out.2.2.2.2.1))))))))))))
          clear e1 e2 e6 e7 f1 f2 hy hyi hap hcs ht1 ht1' hkeep hbj HW
          go_upto_region 13 with (at_builtin; go_must (refine wpList_app (α := SlR) (n := k) (m := 1) (B := wr.heap.size + 1) (r := [⟨LA, lc, y⟩]) rfl (.tmp 34) (.tmp 36) _ rfl w.heap.size 47 j0 _ 24 Try.underlying46 hj hy0 hy1 hy2 rfl (by decide) slr_one (by rfl) HV.out.2.2.2.2.2.2.2.2.2.2.2.1 (HV.out.2.1.row.alloc _) (by rfl) (At.built wr _ _ [(⟨LA, lc, y⟩ : SlR)] HV.out.2.2.2.2.2.2.2.1 (fun _ _ => trivial)) rfl (by omega) (by simp only [maxLen]; omega) (by simp; omega) ?_); intro A3 c3 w3 ho3 hgr3 hat3; have s3 := hgr3.size; simp only [World.size_alloc] at s3; have n1 := (HV.out.1.alloc (.cells #[.slice LA q lc] 47)).grown hgr3 (fun e => own_ne_ty (HV.out.2.1.row.alloc (.cells #[.slice LA q lc] 47)) (HV.out.1.alloc (.cells #[.slice LA q lc] 47)) (by decide) e); have n3 := (HV.out.2.2.2.1.alloc (.cells #[.slice LA q lc] 47)).grown hgr3 (fun e => own_ne_ty (HV.out.2.1.row.alloc (.cells #[.slice LA q lc] 47)) (HV.out.2.2.2.1.alloc (.cells #[.slice LA q lc] 47)) (by decide) e); have n5 := (HV.out.2.2.1.alloc (.cells #[.slice LA q lc] 47)).grown hgr3 (fun e => own_ne_ty (HV.out.2.1.row.alloc (.cells #[.slice LA q lc] 47)) (HV.out.2.2.1.alloc (.cells #[.slice LA q lc] 47)) (by decide) e); have n6 := (HV.out.2.1.alloc (.cells #[.slice LA q lc] 47)).push ho3 hgr3 (HV.out.2.2.2.2.1.alloc _) HV.out.2.2.2.2.2.1 HV.out.2.2.2.2.2.2.1; have hb3 : Below w.heap.size w w3 := (hbw.alloc (by omega) _).grown hgr3 (by simp; omega) (fun g hg => (HV.out.2.1.row.lt g hg).1); have z0 := n1.frozen 0; have g0' := n1.cell 0 (v := .slice HA k hc) rfl; have g1 := (n1.set_ 0 (.slice A3 (k + 1) c3)).cell 1 (v := .slice RA m rc) rfl; have x2' := (n3.far (p := ⟨w.heap.size + 1, 0, none⟩) (fun e => hGX e.symm) (.slice A3 (k + 1) c3)).cell 2 (v := .bool xb) rfl; have HZ := Lib.hid (And.intro n1 (And.intro n3 (And.intro n5 (And.intro n6 hb3)))); clear n1 n3 n5 n6 hb3 ho3 hgr3 hat3 g0 x2)
          refine wp_world (fun V => Hid (Blk V (w.heap.size + 1) 49 #[.slice A3 (k + 1) c3, .slice RA m rc] ∧ GrS V w.heap.size A3 c3 RA rc (hs' ++ [⟨LA, lc, y⟩]) (gRoots (s.take k)) ∧ Blk V wo.heap.size 104 #[.slice XA j xc, .int .i64 xs, .bool xb] ∧ Blk V w.heap.size 49 #[.slice none 0 0, .slice none 0 0]) ∧ Below w.heap.size w V) ⟨⟨HZ.out.1.set_ 0 _, HZ.out.2.2.2.1.blk HZ.out.1 (by decide) (by decide) _ _, HZ.out.2.1.far (fun e => hGX e.symm) _, HZ.out.2.2.1.far (by simp) _⟩, HZ.out.2.2.2.2.setCell (by simp) _⟩ ?_
          rintro V ⟨hV, hbV⟩
          clear HZ g0' g1 x2' z0
          have hsV := hbV.size
          have hVX := hV.out.2.2.1.lt
          have hVG := hV.out.1.lt
          have g1 := hV.out.1.cell 1 (v := .slice RA m rc) rfl
          have x2 := hV.out.2.2.1.cell 2 (v := .bool xb) rfl
          obtain ⟨-, -, -, -, -, -, -, -, ht1, ht2, hm1, hm2, hm3⟩ := HV.out
          have hhl : (hs' ++ [(⟨LA, lc, y⟩ : SlR)]).length = k + 1 := by rw [List.length_append, hm2]; rfl
          have hhm : (hs' ++ [(⟨LA, lc, y⟩ : SlR)]).map SlR.l = gHas (s.take (k + 1)) := by rw [List.map_append, hm1, ht1]; rfl
          have HR := Lib.hid (And.intro hm3 (And.intro hhl (And.intro hhm ht2))); clear hm1 hm2 hm3 hhl hhm ht1 ht2 HV
          cases xb with
          | false =>
            go_wp2_with fail
            go_roundg (N - (k + 1))
            case measure => omega
            case rel => exact ⟨k + 1, m, by omega, rfl, by go_num, by omega, ⟨⟨A3, RA, c3, rc, _, hV.out.1, by rw [HR.out.2.2.2]; simpa using hV.out.2.1, HR.out.2.2.1, HR.out.2.1, by rw [HR.out.2.2.2]; simpa using HR.out.1⟩, hV.out.2.2.2⟩, hbV⟩
          | true =>
            go_wp2_with (at_builtin; go_must (refine wpList_app (α := Int) (n := m) (m := 1) (B := V.heap.size + 1) (r := [(k : Int)]) rfl (.tmp 42) (.tmp 44) _ rfl w.heap.size 3 i0 _ 8 Try.underlying47 hi hz0 hz1 hz2 rfl (by decide) int_one (by rfl) HR.out.1 (hV.out.2.1.roots.alloc _) (by rfl) (At.built V _ _ [(k : Int)] rfl (by intro z hz; simp at hz; subst hz; exact (by unfold I64; omega : I64 (k : Int)))) rfl (by omega) (by simp only [maxLen]; omega) (by simp; omega) ?_); intro A5 c5 w5 ho5 hgr5 hat5; have p1 := (hV.out.1.alloc (.cells #[.int .i64 (k : Int)] 3)).grown hgr5 (fun e => own_ne_ty (hV.out.2.1.roots.alloc (.cells #[.int .i64 (k : Int)] 3)) (hV.out.1.alloc (.cells #[.int .i64 (k : Int)] 3)) (by decide) e); have p2 := (hV.out.2.2.2.alloc (.cells #[.int .i64 (k : Int)] 3)).grown hgr5 (fun e => own_ne_ty (hV.out.2.1.roots.alloc (.cells #[.int .i64 (k : Int)] 3)) (hV.out.2.2.2.alloc (.cells #[.int .i64 (k : Int)] 3)) (by decide) e); have p3 := (hV.out.2.1.alloc (.cells #[.int .i64 (k : Int)] 3)).root ho5 hgr5 hat5; have p4 : Below w.heap.size w w5 := (hbV.alloc (by omega) _).grown hgr5 (by simp; omega) (fun g hg => (hV.out.2.1.roots.lt g hg).1); have s5 := hgr5.size; have q1 := p1.cell 1 (v := .slice RA m rc) rfl; have z1 := p1.frozen 1; have HP := Lib.hid (And.intro p1 (And.intro p2 (And.intro p3 p4))); clear p1 p2 p3 p4 ho5 hgr5 hat5)
            go_roundg (N - (k + 1))
            case measure => omega
            case rel =>
              refine ⟨k + 1, m + 1, by omega, rfl, by go_num, by omega, ⟨⟨A3, A5, c3, c5, _, HP.out.1.set_ 1 _, ?_, HR.out.2.2.1, HR.out.2.1, by rw [HR.out.2.2.2]; simpa using HR.out.1⟩, HP.out.2.1.far (by simp) _⟩, HP.out.2.2.2.setCell (by simp) _⟩
              rw [HR.out.2.2.2]
              simpa using HP.out.2.2.1.blk HP.out.1 (by decide) (by decide) 1 _
    · obtain rfl : k = N := by omega
      have hkk := hkeep.out
      have HKK := Lib.hid hkk; clear hkk hkeep
      obtain ⟨⟨HA, RA, hc, rc, hs', b1, b2, b3, b4, b5⟩, b6⟩ := HKK.out
      have g0 := b1.cell 0 (v := .slice HA k hc) rfl
      have g1 := b1.cell 1 (v := .slice RA m rc) rfl
      have r0 := b6.cell 0 (v := .slice none 0 0) rfl
      have r1 := b6.cell 1 (v := .slice none 0 0) rfl
      have z0 := b6.frozen 0
      have z1 := b6.frozen 1
      have HB := Lib.hid (And.intro b2 (And.intro b3 (And.intro b4 (And.intro b5 b6)))); clear b1 b2 b3 b4 b5 b6 HKK
      go_wp2_with fail
      refine bodyPost_ret (results_cell1 rfl _ _ w.heap.size _ _ _ rfl ((HB.out.2.2.2.2.set_ 0 (.slice HA k hc)).set_ 1 (.slice RA m rc)) Try.underlying49 rfl (by kernel_rfl)) rfl ?_
      obtain ⟨e1, e2, e3, e4, e5⟩ := HB.out
      have hsl : s.take k = s := List.take_of_length_le (by have := H.out.2.2.2.2.1; omega)
      rw [hsl] at e1 e2 e4
      have e1' : GrS ((wo.setCell ⟨w.heap.size, 0, none⟩ (.slice HA k hc)).setCell ⟨w.heap.size, 1, none⟩ (.slice RA m rc)) w.heap.size HA hc RA rc hs' (gRoots s) := (e1.blk e5 (by decide) (by decide) _ _).blk (e5.set_ 0 _) (by decide) (by decide) _ _
      have e6 := e1'.at_
      rw [e2] at e6
      exact ⟨HA, RA, hc, rc, m, by rw [H.out.2.2.2.2.1]; rfl, e6, e1'.roots, e4, (hbl.setCell (Nat.le_refl _) _).setCell (Nat.le_refl _) _⟩

end Go.Proofs.Ytpkccpegdpodoaa

/- May things be named? A marker's and a model's. -/
namespace Go.Proofs.Ytpkccpegdpodoaa
open Go.RowKit

attribute [local go_sem ↓] Go.wp_at_zero Go.wp_at_succ

set_option maxHeartbeats 1600000 in
set_option maxRecDepth 100000 in
theorem mnamed_any (w : World) (base p B lc n : Nat) (F : Nat → Prop) (kind : Int) (mk : Bool) (s : List It) (LA : Option Addr) (ls : List Int) (h : Mkr w base F p kind mk s) (hf : Fine s) (hl : At w B LA ls) (hB : B ≤ w.heap.size) (hn : ls.length = n) (hn2 : n ≤ 2) :
    Calls Try.prog 177 #[.pointer (some ⟨p, 0, none⟩), .slice LA n lc] w fun e w' => e = .returned (.int .i64 (namedE s ls)) ∧ Below w.heap.size w w' := by
  have HM := Lib.hid h
  obtain ⟨A, c, l, h1, h2, h3, h4, h5⟩ := h
  have hls : s.length = l.length := by rw [← h5, its_length]
  obtain ⟨N, hN⟩ : ∃ N, l.length = N := ⟨_, rfl⟩
  rw [hN] at h1 hls
  have hN100 : N ≤ 100 := by rw [← hls]; exact hf.small
  have c2 := h1.cell 2 (v := .slice A N c) rfl
  have hplt := h1.lt
  have H := Lib.hid (And.intro hl (And.intro hn (And.intro hls hf))); clear hl hn hls hf h1 h2 h3 h5 hN
  go_enter Try.func177, Try.ntmps177
  go_wp2_with fail
  go_loopg [13] n (fun gk iv wr => ∃ (k : Nat), k ≤ n ∧ gk = n - k ∧ iv = .int .i64 k ∧ Hid ((ls.take k).all (inN s.length) = true) ∧ w = wr)
  case atStart => exact ⟨0, Nat.zero_le _, rfl, rfl, by simp [Hid], rfl⟩
  case round =>
    obtain ⟨k, hk, rfl, rfl, hkeep, rfl⟩ := hrel
    by_cases hlt : k < n
    · obtain ⟨b, o, x, rfl, hb, hx, hox, q0⟩ := H.out.1.int_ (k := k) (by have := H.out.2.1; omega)
      have b0 : (0 : Int) ≤ (k : Int) := by omega
      have b1 : (k : Int) < (n : Int) := by omega
      cases hin : inN s.length x with
      | false =>
        have HNM := Lib.hid (namedE_none hx hin)
        by_cases hneg : x < 0
        · have d1 : decide (x < 0) = true := by simpa using hneg
          clear hin hx
          go_wp2_with fail
          go_ret
          exact ⟨by rw [HNM.out]; rfl, Below.refl _ _⟩
        · have hge : (N : Int) ≤ x := by
            have := H.out.2.2.1
            unfold inN at hin
            simp only [Bool.and_eq_false_iff, decide_eq_false_iff_not] at hin
            omega
          clear hin hx
          go_wp2_with fail
          go_ret
          exact ⟨by rw [HNM.out]; rfl, Below.refl _ _⟩
      | true =>
        have hh := inN_iff.1 hin
        have hsn := all_snocM (inN s.length) ls k x hx
        rw [hkeep.out, hin] at hsn
        have hneg : ¬ x < 0 := by omega
        have hge : ¬ (N : Int) ≤ x := by have := H.out.2.2.1; omega
        have HS := Lib.hid hsn; clear hsn hin hx hh
        go_wp2_with fail
        go_roundg (n - (k + 1))
        case measure => omega
        case rel => exact ⟨k + 1, by omega, rfl, by go_num, HS.out, rfl⟩
    · obtain rfl : n = k := by omega
      have hall := hkeep.out
      rw [List.take_of_length_le (by have := H.out.2.1; omega)] at hall
      have HA := Lib.hid hall; clear hall hkeep
      go_wp2_with fail
      refine (mgraph_any w base p F kind mk s HM.out H.out.2.2.2.small H.out.2.2.2.long).mono ?_
      rintro e w1 ⟨GA, RA, gc, rc, m, rfl, g1, g2, g3, hb1⟩
      have hs1 := hb1.size
      have hsn : s.length = N := H.out.2.2.1
      rw [hsn]
      have hm100 : m ≤ 100 := by have := gRoots_len s; omega
      have HG := Lib.hid (And.intro g1 (And.intro g2 g3)); clear g1 g2 g3 hsn c2
      go_wp2_with fail
      refine calls_world (fun W => Below w1.heap.size w1 W ∧ w1.heap.size < W.heap.size) ⟨(Below.refl _ _).alloc (Nat.le_refl _) _, by simp⟩ ?_
      rintro W ⟨hW, hsW⟩
      have hgl : (gHas s).length = N := by rw [gHas_length]; exact H.out.2.2.1
      have hsl : (s.map It.held).length ≤ 1000000 := by rw [List.length_map, H.out.2.2.1]; omega
      refine (fromW_any gc rc N m GA RA (gHas s) (gRoots s) W hgl HG.out.2.2 ((HG.out.1.below hW).more (by omega)) ((HG.out.2.1.fresh hW).at_ (rising_I64 _ hsl)) H.out.2.2.2.right H.out.2.2.2.rightL hN100 (by omega) H.out.2.2.2.glen).mono ?_
      rintro e w2 ⟨S, sc, rfl, ho2, hb2⟩
      have hs2 := hb2.size
      have hb : Below w.heap.size w w2 := hb1.trans ((hW.mono hs1).trans (hb2.mono (by omega)))
      have HO := Lib.hid ho2; clear ho2 hgl hsl
      go_wp2_with fail
      go_loopg [37] n (fun gk iv wr => ∃ (k : Nat), k ≤ n ∧ gk = n - k ∧ iv = .int .i64 k ∧ Hid ((ls.take k).all (fun n => (needed s).getD n.toNat false) = true) ∧ w2 = wr)
      case atStart => exact ⟨0, Nat.zero_le _, rfl, rfl, by simp [Hid], rfl⟩
      case round =>
        obtain ⟨k, hk, rfl, rfl, hkeep, rfl⟩ := hrel
        by_cases hlt : k < n
        · obtain ⟨b, o, x, rfl, hbB, hx, hox, q0⟩ := (H.out.1.below (hb.mono hB)).int_ (k := k) (by have := H.out.2.1; omega)
          have hin := inN_iff.1 (List.all_eq_true.1 HA.out x (List.mem_of_getElem? hx))
          obtain ⟨j, rfl⟩ := Int.eq_ofNat_of_zero_le hin.1
          have hj : j < N := by have := H.out.2.2.1; omega
          obtain ⟨v, hv⟩ : ∃ v, (needed s)[j]? = some v := ⟨_, List.getElem?_eq_getElem (by unfold needed; rw [fromL_length, gHas_length]; have := H.out.2.2.1; omega)⟩
          obtain ⟨g, rfl, hgl, hgr⟩ := HO.out.some_ (by rw [fromL_length, gHas_length]; have := H.out.2.2.1; omega)
          have v0 := HO.out.cell_bool hv
          have hgd : (needed s).getD ((j : Int).toNat) false = v := by rw [Int.toNat_natCast, List.getD_eq_getElem?_getD, hv]; rfl
          have b0 : (0 : Int) ≤ (k : Int) := by omega
          have b1 : (k : Int) < (n : Int) := by omega
          have b2 : (0 : Int) ≤ (j : Int) := by omega
          have b3 : (j : Int) < (N : Int) := by omega
          cases v with
          | false =>
            have HNM := Lib.hid (namedE_state HA.out hx hgd)
            clear hin hx hv hgd
            go_wp2_with fail
            go_ret
            exact ⟨by rw [HNM.out]; rfl, hb⟩
          | true =>
            have hsn := all_snocM (fun n => (needed s).getD n.toNat false) ls k _ hx
            rw [hkeep.out, hgd] at hsn
            have HS := Lib.hid hsn; clear hsn hin hx hv hgd
            go_wp2_with fail
            go_roundg (n - (k + 1))
            case measure => omega
            case rel => exact ⟨k + 1, by omega, rfl, by go_num, HS.out, rfl⟩
        · obtain rfl : n = k := by omega
          have hall := hkeep.out
          rw [List.take_of_length_le (by have := H.out.2.1; omega)] at hall
          have HNM := Lib.hid (namedE_ok HA.out hall); clear hall hkeep
          go_wp2_with fail
          go_ret
          exact ⟨by rw [HNM.out]; rfl, hb⟩
set_option maxHeartbeats 1600000 in
set_option maxRecDepth 100000 in
theorem rnamed_any (w : World) (base p B lc n : Nat) (F : Nat → Prop) (nu kind : Int) (mk : Bool) (s : List It) (LA : Option Addr) (ls : List Int) (h : Mdl w base F p nu kind mk s) (hf : Fine s) (hl : At w B LA ls) (hB : B ≤ w.heap.size) (hn : ls.length = n) (hn2 : n ≤ 2) :
    Calls Try.prog 180 #[.pointer (some ⟨p, 0, none⟩), .slice LA n lc] w fun e w' => e = .returned (.int .i64 (namedE s ls)) ∧ Below w.heap.size w w' := by
  have HM := Lib.hid h
  obtain ⟨A, c, l, h1, h2, h3, h4, h5⟩ := h
  have hls : s.length = l.length := by rw [← h5, its_length]
  obtain ⟨N, hN⟩ : ∃ N, l.length = N := ⟨_, rfl⟩
  rw [hN] at h1 hls
  have hN100 : N ≤ 100 := by rw [← hls]; exact hf.small
  have c2 := h1.cell 0 (v := .slice A N c) rfl
  have hplt := h1.lt
  have H := Lib.hid (And.intro hl (And.intro hn (And.intro hls hf))); clear hl hn hls hf h1 h2 h3 h5 hN
  go_enter Try.func180, Try.ntmps180
  go_wp2_with fail
  go_loopg [13] n (fun gk iv wr => ∃ (k : Nat), k ≤ n ∧ gk = n - k ∧ iv = .int .i64 k ∧ Hid ((ls.take k).all (inN s.length) = true) ∧ w = wr)
  case atStart => exact ⟨0, Nat.zero_le _, rfl, rfl, by simp [Hid], rfl⟩
  case round =>
    obtain ⟨k, hk, rfl, rfl, hkeep, rfl⟩ := hrel
    by_cases hlt : k < n
    · obtain ⟨b, o, x, rfl, hb, hx, hox, q0⟩ := H.out.1.int_ (k := k) (by have := H.out.2.1; omega)
      have b0 : (0 : Int) ≤ (k : Int) := by omega
      have b1 : (k : Int) < (n : Int) := by omega
      cases hin : inN s.length x with
      | false =>
        have HNM := Lib.hid (namedE_none hx hin)
        by_cases hneg : x < 0
        · have d1 : decide (x < 0) = true := by simpa using hneg
          clear hin hx
          go_wp2_with fail
          go_ret
          exact ⟨by rw [HNM.out]; rfl, Below.refl _ _⟩
        · have hge : (N : Int) ≤ x := by
            have := H.out.2.2.1
            unfold inN at hin
            simp only [Bool.and_eq_false_iff, decide_eq_false_iff_not] at hin
            omega
          clear hin hx
          go_wp2_with fail
          go_ret
          exact ⟨by rw [HNM.out]; rfl, Below.refl _ _⟩
      | true =>
        have hh := inN_iff.1 hin
        have hsn := all_snocM (inN s.length) ls k x hx
        rw [hkeep.out, hin] at hsn
        have hneg : ¬ x < 0 := by omega
        have hge : ¬ (N : Int) ≤ x := by have := H.out.2.2.1; omega
        have HS := Lib.hid hsn; clear hsn hin hx hh
        go_wp2_with fail
        go_roundg (n - (k + 1))
        case measure => omega
        case rel => exact ⟨k + 1, by omega, rfl, by go_num, HS.out, rfl⟩
    · obtain rfl : n = k := by omega
      have hall := hkeep.out
      rw [List.take_of_length_le (by have := H.out.2.1; omega)] at hall
      have HA := Lib.hid hall; clear hall hkeep
      go_wp2_with fail
      refine (rgraph_any w base p F nu kind mk s HM.out H.out.2.2.2.small H.out.2.2.2.long H.out.2.2.2.neg).mono ?_
      rintro e w1 ⟨GA, RA, gc, rc, m, rfl, g1, g2, g3, hb1⟩
      have hs1 := hb1.size
      have hsn : s.length = N := H.out.2.2.1
      rw [hsn]
      have hm100 : m ≤ 100 := by have := gRoots_len s; omega
      have HG := Lib.hid (And.intro g1 (And.intro g2 g3)); clear g1 g2 g3 hsn c2
      go_wp2_with fail
      refine calls_world (fun W => Below w1.heap.size w1 W ∧ w1.heap.size < W.heap.size) ⟨(Below.refl _ _).alloc (Nat.le_refl _) _, by simp⟩ ?_
      rintro W ⟨hW, hsW⟩
      have hgl : (gHas s).length = N := by rw [gHas_length]; exact H.out.2.2.1
      have hsl : (s.map It.held).length ≤ 1000000 := by rw [List.length_map, H.out.2.2.1]; omega
      refine (fromR_any gc rc N m GA RA (gHas s) (gRoots s) W hgl HG.out.2.2 ((HG.out.1.below hW).more (by omega)) ((HG.out.2.1.fresh hW).at_ (rising_I64 _ hsl)) H.out.2.2.2.right H.out.2.2.2.rightL hN100 (by omega) H.out.2.2.2.glen).mono ?_
      rintro e w2 ⟨S, sc, rfl, ho2, hb2⟩
      have hs2 := hb2.size
      have hb : Below w.heap.size w w2 := hb1.trans ((hW.mono hs1).trans (hb2.mono (by omega)))
      have HO := Lib.hid ho2; clear ho2 hgl hsl
      go_wp2_with fail
      go_loopg [37] n (fun gk iv wr => ∃ (k : Nat), k ≤ n ∧ gk = n - k ∧ iv = .int .i64 k ∧ Hid ((ls.take k).all (fun n => (needed s).getD n.toNat false) = true) ∧ w2 = wr)
      case atStart => exact ⟨0, Nat.zero_le _, rfl, rfl, by simp [Hid], rfl⟩
      case round =>
        obtain ⟨k, hk, rfl, rfl, hkeep, rfl⟩ := hrel
        by_cases hlt : k < n
        · obtain ⟨b, o, x, rfl, hbB, hx, hox, q0⟩ := (H.out.1.below (hb.mono hB)).int_ (k := k) (by have := H.out.2.1; omega)
          have hin := inN_iff.1 (List.all_eq_true.1 HA.out x (List.mem_of_getElem? hx))
          obtain ⟨j, rfl⟩ := Int.eq_ofNat_of_zero_le hin.1
          have hj : j < N := by have := H.out.2.2.1; omega
          obtain ⟨v, hv⟩ : ∃ v, (needed s)[j]? = some v := ⟨_, List.getElem?_eq_getElem (by unfold needed; rw [fromL_length, gHas_length]; have := H.out.2.2.1; omega)⟩
          obtain ⟨g, rfl, hgl, hgr⟩ := HO.out.some_ (by rw [fromL_length, gHas_length]; have := H.out.2.2.1; omega)
          have v0 := HO.out.cell_bool hv
          have hgd : (needed s).getD ((j : Int).toNat) false = v := by rw [Int.toNat_natCast, List.getD_eq_getElem?_getD, hv]; rfl
          have b0 : (0 : Int) ≤ (k : Int) := by omega
          have b1 : (k : Int) < (n : Int) := by omega
          have b2 : (0 : Int) ≤ (j : Int) := by omega
          have b3 : (j : Int) < (N : Int) := by omega
          cases v with
          | false =>
            have HNM := Lib.hid (namedE_state HA.out hx hgd)
            clear hin hx hv hgd
            go_wp2_with fail
            go_ret
            exact ⟨by rw [HNM.out]; rfl, hb⟩
          | true =>
            have hsn := all_snocM (fun n => (needed s).getD n.toNat false) ls k _ hx
            rw [hkeep.out, hgd] at hsn
            have HS := Lib.hid hsn; clear hsn hin hx hv hgd
            go_wp2_with fail
            go_roundg (n - (k + 1))
            case measure => omega
            case rel => exact ⟨k + 1, by omega, rfl, by go_num, HS.out, rfl⟩
        · obtain rfl : n = k := by omega
          have hall := hkeep.out
          rw [List.take_of_length_le (by have := H.out.2.1; omega)] at hall
          have HNM := Lib.hid (namedE_ok HA.out hall); clear hall hkeep
          go_wp2_with fail
          go_ret
          exact ⟨by rw [HNM.out]; rfl, hb⟩

end Go.Proofs.Ytpkccpegdpodoaa

/- math/bits.Mul at one and a small number; slices.Repeat of one int. -/
namespace Go.Proofs.Ytpkccpegdpodoaa
open Go.RowKit

attribute [local go_sem ↓] Go.wp_at_zero Go.wp_at_succ

theorem mul64_small (y : Nat) (hy : y ≤ 1000) (w : World) : Calls Try.prog 215 #[.int .u64 1, .int .u64 y] w fun e w' => e = .returned (.tuple #[.int .u64 0, .int .u64 y]) ∧ w = w' := by
  have hm : bits .and .u64 (y : Int) 4294967295 = (y : Int) := by
    have h := bits_and_u64_nat y 4294967295 (by omega) (by omega)
    have e : y &&& 4294967295 = y % 4294967296 := Nat.and_two_pow_sub_one_eq_mod y 32
    rw [e, Nat.mod_eq_of_lt (by omega)] at h
    exact h
  have hm1 : bits .and .u64 1 4294967295 = 1 := by decide +kernel
  have hd : (y : Int) / 4294967296 = 0 := by omega
  have hm0 : bits .and .u64 0 4294967295 = 0 := by decide +kernel
  have hw : IntKind.u64.wrap (y : Int) = (y : Int) := by rw [IntKind.wrap_u64]; omega
  go_enter Try.func215, Try.ntmps215
  go_wp2
  go_ret2
  exact ⟨rfl, rfl⟩
theorem mul_small (y : Nat) (hy : y ≤ 1000) (w : World) : Calls Try.prog 193 #[.int .u64 1, .int .u64 y] w fun e w' => e = .returned (.tuple #[.int .u64 0, .int .u64 y]) ∧ w = w' := by
  have H := Lib.hid hy
  go_enter Try.func193, Try.ntmps193
  go_wp2_with (go_at_call 215; refine (mul64_small y H.out w).mono ?_; rintro e w' ⟨rfl, rfl⟩)
  go_ret2
  exact ⟨rfl, rfl⟩

def repC (v : Int) (n k : Nat) : List Value := List.replicate k (.int .i64 v) ++ List.replicate (n - k) (.int .i64 0)
theorem repC_length (v : Int) (n k : Nat) (h : k ≤ n) : (repC v n k).length = n := by simp [repC]; omega
theorem repC_splice (v : Int) (n k m : Nat) (h : k + m ≤ n) : splice (repC v n k) k (List.replicate m (.int .i64 v)) = repC v n (k + m) := by
  unfold splice repC
  rw [List.length_replicate, List.take_left' (by simp), List.drop_append, List.drop_of_length_le (by simp), List.length_replicate, List.drop_replicate, List.nil_append, ← List.append_assoc, List.replicate_append_replicate]
  congr 2
  omega
theorem madeInt (n : Nat) : madeCells #[.int .i64 0] n = (repC 0 n 0).toArray := by
  apply Array.toList_inj.1
  apply List.ext_getElem?
  intro i
  simp only [madeCells, repC, Array.toList_map, Array.toList_range, List.getElem?_map, List.replicate_zero, List.nil_append, Nat.sub_zero, List.getElem?_replicate]
  by_cases h : i < n
  · simp [h, Nat.mod_one]
  · simp [h]
theorem repC_get (v : Int) (n k j : Nat) (h : j < k) : (repC v n k)[j]? = some (.int .i64 v) := by
  unfold repC
  rw [List.getElem?_append_left (by simpa using h), List.getElem?_replicate, if_pos h]
theorem repC_zero (v u : Int) (n : Nat) : repC v n 0 = repC u n 0 := by simp [repC]
theorem repC_flat (v : Int) (n : Nat) : repC v n n = flat (List.replicate n v) := by
  unfold repC
  rw [Nat.sub_self, List.replicate_zero, List.append_nil]
  induction n with
  | zero => rfl
  | succ n ih => rw [List.replicate_succ, ih, List.replicate_succ, flat_cons]; rfl
theorem at_one {w : World} {B : Nat} {X : Option Addr} {v : Int} (h : At w B X [v]) : ∃ b o, X = some ⟨b, o, none⟩ ∧ b < B ∧ w.cell? ⟨b, o, none⟩ = some (.int .i64 v) ∧ I64 v := by
  obtain ⟨b, o, x, rfl, hb, hx, hok, h0⟩ := h.int_ (k := 0) (by simp)
  injection hx with hx
  subst hx
  exact ⟨b, o, rfl, hb, h0, hok⟩

set_option maxHeartbeats 1600000 in
set_option maxRecDepth 100000 in
theorem repeatInt_any (A : Option Addr) (c B n : Nat) (v : Int) (w : World) (h : At w B A [v]) (hB : B ≤ w.heap.size) (hc : 1 ≤ c) (hn : n ≤ 100) :
    Calls Try.prog 171 #[.slice A 1 c, .int .i64 n] w fun e w' => e = .returned (.slice (some ⟨w.heap.size, 0, none⟩) n n) ∧ Own w' w.heap.size 3 (some ⟨w.heap.size, 0, none⟩) n (List.replicate n v) ∧ Below w.heap.size w w' := by
  have hmk := Go.run_make_row' (P := Try.prog) 47 3 (.int .i64 0) 8 Try.underlying47 infoInt rfl .i64 .i64 n (by omega) (by omega)
  have hsz : (Try.prog.info? 3).map (·.size) = some 1 := by kernel_rfl
  obtain ⟨b, o, rfl, hb, h0, hok⟩ := at_one h
  have HSZ := Lib.hid hsz; clear hsz h
  have HV := Lib.hid hok; clear hok
  have hge : (0 : Int) ≤ (n : Int) := by omega
  have hwn : IntKind.u64.wrap (n : Int) = (n : Int) := by rw [IntKind.wrap_u64]; omega
  have hwi : IntKind.i64.wrap (n : Int) = (n : Int) := IntWalk.i64_in _ (by omega)
  go_enter Try.func171, Try.ntmps171
  obtain ⟨W, hW⟩ : ∃ W, W = w.alloc (.cells (madeCells #[.int .i64 0] n) 3) := ⟨_, rfl⟩
  have hg0 : W.heap[w.heap.size]? = some (.cells (repC v n 0).toArray 3 (0, 0)) := by
    rw [hW, madeInt, repC_zero 0 v]; exact heap_alloc_new w _
  have hb0 : Below w.heap.size w W := by rw [hW]; exact (Below.refl _ _).alloc (Nat.le_refl _) _
  have hc0 : W.cell? ⟨b, o, none⟩ = some (.int .i64 v) := by
    rw [hW, World.cell?_alloc_lt w _ _ (by simp; omega)]; exact h0
  obtain ⟨W2, hrun, hg2, hb2⟩ : ∃ W2, (Builtin.copy_ #[47, 47] 3 #[.slice (some ⟨w.heap.size, 0, none⟩) n n, .slice (some ⟨b, o, none⟩) 1 c]).run Try.prog W = .ok (.int .i64 ((min 1 n : Nat) : Int)) W2 ∧ W2.heap[w.heap.size]? = some (.cells (repC v n (min 1 n)).toArray 3 (0, 0)) ∧ Below w.heap.size w W2 := by
    have hr := run_copy_row (P := Try.prog) W 47 47 3 3 w.heap.size 0 n n ⟨b, o, none⟩ 1 c (repC v n 0).toArray 3 (List.replicate (min 1 n) (.int .i64 v)) Try.underlying47 HSZ.out hg0 (by simp [Nat.min_def]) (fun j u hj => by
      rw [List.getElem?_replicate] at hj
      split at hj
      · rename_i hlt
        obtain rfl : j = 0 := by omega
        injection hj with hj
        subst hj
        exact hc0
      · cases hj) (by simp [repC_length]; omega) (fun u hu => by rw [(List.mem_replicate.1 hu).2]; rfl)
    refine ⟨_, by rw [hr, List.length_replicate]; rfl, ?_, bel_setRow hb0 (Nat.le_refl _) _⟩
    have := repC_splice v n 0 (min 1 n) (by omega)
    unfold splice at this
    rw [setRow_heap W w.heap.size _ _ _ _ hg0]
    simp only [Nat.zero_add] at this
    rw [← this]
    simp
  rw [hW] at hrun
  have H2 := Lib.hid (And.intro hg2 hb2); clear hg2 hb2 hg0 hb0 hc0 hW
  obtain ⟨m0, hm0⟩ : ∃ m, min 1 n = m := ⟨_, rfl⟩
  rw [hm0] at hrun H2
  have hm1 : m0 ≤ n := by omega
  have hm2 : 0 < n → 1 ≤ m0 := by omega
  have HM2 := Lib.hid hm2
  clear hm0 hm2
  go_wp2_with (go_at_call 193; refine (mul_small n (by omega) w).mono ?_; rintro e w' ⟨rfl, rfl⟩)
  go_loopg [8] (n - m0) (fun gk mv wr => ∃ m : Nat, m ≤ n ∧ gk = n - m ∧ mv = .int .i64 m ∧ (0 < n → 1 ≤ m) ∧ Hid (wr.heap[w.heap.size]? = some (.cells (repC v n m).toArray 3 (0, 0))) ∧ Below w.heap.size w wr)
  case atStart => exact ⟨m0, hm1, by omega, rfl, HM2.out, H2.out.1, H2.out.2⟩
  case round =>
    obtain ⟨m, hm, rfl, rfl, hp, hrow, hbl⟩ := hrel
    by_cases hlt : m < n
    · have hm1' : 1 ≤ m := hp (by omega)
      obtain ⟨q, hq⟩ : ∃ q, Nat.min m (n - m) = q := ⟨_, rfl⟩
      have hq1 : 1 ≤ q ∧ q ≤ m ∧ m + q ≤ n := by
        subst hq
        have h1 : Nat.min m (n - m) = min m (n - m) := rfl
        rw [h1]; omega
      have hnm : ¬ n = m := by omega
      have c0 : (0 : Int) ≤ (m : Int) := by omega
      have c1 : (m : Int) ≤ (n : Int) := by omega
      have c2 : m ≤ n := by omega
      have hwr : IntKind.i64.wrap ((m : Int) + (q : Int)) = ((m + q : Nat) : Int) := by rw [IntWalk.i64_in _ (by omega)]; omega
      obtain ⟨w3, hrun, hg3, hb3⟩ : ∃ w3, (Builtin.copy_ #[47, 47] 3 #[.slice (some ⟨w.heap.size, m, none⟩) (n - m) (n - m), .slice (some ⟨w.heap.size, 0, none⟩) m n]).run Try.prog wr.drew = .ok (.int .i64 (q : Int)) w3 ∧ w3.heap[w.heap.size]? = some (.cells (repC v n (m + q)).toArray 3 (0, 0)) ∧ Below w.heap.size w w3 := by
        have hr := run_copy_row (P := Try.prog) wr.drew 47 47 3 3 w.heap.size m (n - m) (n - m) ⟨w.heap.size, 0, none⟩ m n (repC v n m).toArray 3 (List.replicate q (.int .i64 v)) Try.underlying47 HSZ.out hrow.out (by simp [← hq]) (fun j u hj => by
          rw [List.getElem?_replicate] at hj
          split at hj
          · rename_i hlt2
            injection hj with hj
            subst hj
            rw [add_mk, Nat.zero_add]
            exact (Blk.cell (w := wr.drew) (t := 3) hrow.out j (by rw [List.getElem?_toArray]; exact repC_get v n m j (by omega)))
          · cases hj) (by simp [repC_length v n m c2]; omega) (fun u hu => by rw [(List.mem_replicate.1 hu).2]; rfl)
        refine ⟨_, by rw [hr, List.length_replicate]; rfl, ?_, bel_setRow (w := wr.drew) (below_drewN hbl 1) (Nat.le_refl _) _⟩
        have := repC_splice v n m q (by omega)
        unfold splice at this
        rw [setRow_heap wr.drew w.heap.size _ _ _ _ hrow.out]
        rw [← this]
        simp
      have H3 := Lib.hid (And.intro hg3 hb3); clear hg3 hb3 hq hp
      go_wp2_with fail
      go_region
      go_wp2_with fail
      go_roundg (n - (m + q))
      case measure => omega
      case rel => exact ⟨m + q, by omega, rfl, by first | rfl | go_num, fun _ => by omega, H3.out.1, H3.out.2⟩
    · obtain rfl : m = n := by omega
      have HR := Lib.hid (And.intro hrow.out hbl)
      clear hrow hp
      go_wp2_with fail
      go_ret
      refine ⟨rfl, ?_, HR.out.2⟩
      refine ⟨flat_length _, .inr ⟨w.heap.size, m, (repC v m m).toArray, by rw [List.length_replicate], Nat.le_refl _, HR.out.1, by simp, by simp only [maxLen]; omega, by simp [repC_length v m m (Nat.le_refl _), Flat.sz], ?_⟩⟩
      rw [repC_flat, List.length_replicate, List.take_of_length_le (by simp [flat_length, Flat.sz])]

end Go.Proofs.Ytpkccpegdpodoaa

/- Things that are marked: the deeds; loops over things, round by round. No program is named here. -/
namespace Go.Proofs.Ytpkccpegdpodoaa

/-- a deed -/
structure Dd where
  dd : Int
  a : Int
  b : Int
  n : Int
def newE (s : List It) (n : Int) : Int := if n < 0 ∨ 10 < n then 1 else if 100 ≤ s.length then 2 else 0
def hasAt (s : List It) (a : Int) : List Int := (s[a.toNat]?.map It.has).getD []
def heldB (s : List It) (a : Int) : Bool := (s[a.toNat]?.map It.held).getD false
def setL (d : Dd) : List Int := if d.b = -1 then [d.a] else [d.a, d.b]
noncomputable def setE (s : List It) (d : Dd) : Int := if namedE s (setL d) ≠ 0 then namedE s (setL d) else if d.n < 0 ∨ ((hasAt s d.a).length : Int) ≤ d.n then 1 else 0
def setI (kind : Int) (mk : Bool) (d : Dd) (s : List It) : List It :=
  (shadeI mk (if kind = 1 then d.b else (hasAt s d.a).getD d.n.toNat 0) s).modify d.a.toNat (It.sethas d.n.toNat d.b)
noncomputable def holdE (s : List It) (d : Dd) : Int := if namedE s [d.a] ≠ 0 then namedE s [d.a] else if d.dd = 3 ∧ heldB s d.a = false then 8 else 0
def holdI (kind : Int) (mk : Bool) (d : Dd) (s : List It) : List It :=
  (if decide (d.dd = 4) = decide (kind = 1) then shadeI mk d.a s else s).modify d.a.toNat (It.sethl (decide (d.dd = 4)))
def heldN (s : List It) : Nat := s.countP It.held

/-- what a deed comes to: a number, an error, is there marking, the things -/
noncomputable def marksI (kind : Int) (mk : Bool) (s : List It) (d : Dd) : Int × Int × Bool × List It :=
  if d.dd = 1 then (if newE s d.n ≠ 0 then (0, newE s d.n, mk, s) else ((s.length : Int), 0, mk, s ++ [newI (if mk = true then 2 else 0) d.n]))
  else if d.dd = 2 then (if setE s d ≠ 0 then (0, setE s d, mk, s) else (0, 0, mk, setI kind mk d s))
  else if d.dd = 4 ∨ d.dd = 3 then (if holdE s d ≠ 0 then (0, holdE s d, mk, s) else (0, 0, mk, holdI kind mk d s))
  else if d.dd = 6 then (if mk = true then (0, 8, mk, s) else ((heldN s : Int), 0, true, beginI s))
  else if d.dd = 5 then (if mk = false then (0, 8, mk, s) else if d.n < 0 then (0, 1, mk, s) else (((stepsI d.n.toNat s).2 : Int), 0, mk, (stepsI d.n.toNat s).1))
  else if d.dd = 7 then (if mk = false then (0, 8, mk, s) else ((endN s : Int), 0, false, endI s))
  else (0, 7, mk, s)

theorem namedE_zero {s : List It} {l : List Int} (h : namedE s l = 0) : ∀ x ∈ l, ∃ n : Nat, x = (n : Int) ∧ n < s.length ∧ RT (gHas s) (gRoots s) [] n := by
  unfold namedE at h
  split at h
  · rename_i h1
    split at h
    · rename_i h2
      intro x hx
      have a1 := inN_iff.1 (List.all_eq_true.1 h1 x hx)
      have a2 := List.all_eq_true.1 h2 x hx
      exact ⟨x.toNat, by omega, by omega, needed_RT a2⟩
    · cases h
  · cases h

theorem marks_inv {kind : Int} {mk : Bool} {s : List It} (hk : kind = 1 ∨ kind = 2) (h : MInv kind mk s) (d : Dd) : MInv kind (marksI kind mk s d).2.2.1 (marksI kind mk s d).2.2.2 := by
  unfold marksI
  split
  · split
    · exact h
    · rename_i he
      have he' : newE s d.n = 0 := by simpa using he
      unfold newE at he'
      split at he'
      · cases he'
      · split at he'
        · cases he'
        · exact h.new_ (by omega) (by omega)
  split
  · split
    · exact h
    · rename_i he
      have he' : setE s d = 0 := by simpa using he
      unfold setE at he'
      split at he'
      · rename_i h1; exact absurd he' h1
      · rename_i h1
        have hn : namedE s (setL d) = 0 := by simpa using h1
        split at he'
        · cases he'
        · rename_i h2
          have hz := namedE_zero hn
          obtain ⟨a, ha, hal, har⟩ := hz d.a (by unfold setL; split <;> simp)
          have hb : d.b = -1 ∨ ∃ b : Nat, d.b = (b : Int) ∧ b < s.length ∧ RT (gHas s) (gRoots s) [] b := by
            by_cases e : d.b = -1
            · exact .inl e
            · exact .inr (hz d.b (by unfold setL; rw [if_neg e]; simp))
          have hx : s[a]? = some s[a] := List.getElem?_eq_getElem hal
          have hat : hasAt s d.a = (s[a]).has := by unfold hasAt; rw [ha, Int.toNat_natCast, hx]; rfl
          have hnl : d.n.toNat < (s[a]).has.length := by rw [hat] at h2; omega
          have hold : (s[a]).has[d.n.toNat]? = some ((hasAt s d.a).getD d.n.toNat 0) := by
            rw [hat, List.getD_eq_getElem?_getD, List.getElem?_eq_getElem hnl]; rfl
          unfold setI
          generalize hsn : (if kind = 1 then d.b else (hasAt s d.a).getD d.n.toNat 0) = sn
          have hsh := h.shade sn
          rw [ha, Int.toNat_natCast]
          obtain ⟨z, hx', hsame⟩ : ∃ z, (shadeI mk sn s)[a]? = some z ∧ z.has = (s[a]).has := by
            unfold shadeI
            split
            · rw [get_modify]
              split
              · rw [hx]; exact ⟨_, rfl, rfl⟩
              · rw [hx]; exact ⟨_, rfl, rfl⟩
            · rw [hx]; exact ⟨_, rfl, rfl⟩
          refine hsh.set_ (old := (hasAt s d.a).getD d.n.toNat 0) ⟨_, hx', by rw [hsame]; exact hold⟩ ?_ (fun hm hk2 m hm2 => ?_) (fun hm m hm2 h0 => ?_)
          · rcases hb with e | ⟨b, e, e2, e3⟩
            · exact .inl e
            · refine .inr ⟨b, e, by rw [shadeI_length]; exact e2, ?_⟩
              rw [stAt_shade]
              split
              · simp
              · exact (h.need e3).2.1
          · rw [if_neg (by omega)] at hsn
            rw [stAt_shade]
            split
            · simp
            · rename_i hc
              intro h0
              exact hc ⟨hm, by rw [← hsn]; exact hm2, h0⟩
          · rcases hb with e | ⟨b, e, e2, e3⟩
            · omega
            · obtain rfl : b = m := by omega
              rw [stAt_shade] at h0
              split at h0
              · cases h0
              · rename_i hc
                rcases hk with hk | hk
                · exact absurd ⟨hm, by rw [← hsn, if_pos hk]; exact e, h0⟩ hc
                · refine ⟨hk, ?_⟩
                  have hp := (h.need e3).2.2 hm hk h0
                  refine hp.keep (fun i hi => ?_) (fun i hi => .inl ?_) (fun i k he _ => (edge_shade _ _ _ _ _).2 he) (by rw [stAt_shade, if_neg hc]; exact h0)
                  · rw [stAt_shade]
                    split
                    · exact .inr rfl
                    · exact .inl hi
                  · rw [stAt_shade]
                    split
                    · rfl
                    · exact hi
  split
  · rename_i h34
    split
    · exact h
    · rename_i he
      have he' : holdE s d = 0 := by simpa using he
      unfold holdE at he'
      split at he'
      · rename_i h1; exact absurd he' h1
      · rename_i h1
        have hn : namedE s [d.a] = 0 := by simpa using h1
        obtain ⟨a, ha, hal, har⟩ := namedE_zero hn d.a (by simp)
        unfold holdI
        have hneed := h.need har
        rw [ha, Int.toNat_natCast]
        split
        · rename_i hsh
          refine (h.shade _).hold_ (fun hb => ?_) (fun hb hm h0 => ?_)
          · rw [stAt_shade]
            split
            · simp
            · exact hneed.2.1
          · rw [stAt_shade] at h0
            split at h0
            · cases h0
            · rename_i hc; exact absurd ⟨hm, rfl, h0⟩ hc
        · rename_i hsh
          refine h.hold_ (fun hb => hneed.2.1) (fun hb hm h0 => ?_)
          rcases hk with hk | hk
          · rw [hb, hk] at hsh; simp at hsh
          · exact ⟨hk, hneed.2.2 hm hk h0⟩
  split
  · split
    · exact h
    · rename_i hm
      have hm' : mk = false := by simpa using hm
      subst hm'
      exact h.begin_
  split
  · split
    · exact h
    · rename_i hm
      have hm' : mk = true := by simpa using hm
      subst hm'
      split
      · exact h
      · exact h.stepsI _
  split
  · split
    · exact h
    · rename_i hm
      have hm' : mk = true := by simpa using hm
      subst hm'
      exact (h.stepsI _).sweep (stepsI_done _ _ (Nat.le_refl _))
  · exact h

/-! ### round by round -/
def beginK (k : Nat) (s : List It) : List It := s.mapIdx fun i x => if i < k ∧ x.held = true ∧ x.st = 0 then x.setst 1 else x
theorem beginK_zero (s : List It) : beginK 0 s = s := by
  apply List.ext_getElem?; intro i
  unfold beginK
  rw [List.getElem?_mapIdx]
  cases s[i]? <;> simp
theorem beginK_all (s : List It) : beginK s.length s = beginI s := by
  apply List.ext_getElem?; intro i
  unfold beginK
  rw [List.getElem?_mapIdx, beginI_get]
  cases hs : s[i]? with
  | none => rfl
  | some x => simp [(List.getElem?_eq_some_iff.1 hs).1]
theorem beginK_length (k : Nat) (s : List It) : (beginK k s).length = s.length := by simp [beginK]
theorem beginK_get (k : Nat) (s : List It) (i : Nat) {x : It} (h : s[i]? = some x) : (beginK k s)[i]? = some (if i < k ∧ x.held = true ∧ x.st = 0 then x.setst 1 else x) := by
  unfold beginK; rw [List.getElem?_mapIdx, h]; rfl
theorem beginK_step (k : Nat) (s : List It) {x : It} (h : s[k]? = some x) : beginK (k + 1) s = if x.held = true then shadeI true (k : Int) (beginK k s) else beginK k s := by
  have hk := beginK_get k s k h
  rw [if_neg (by omega)] at hk
  apply List.ext_getElem?; intro i
  cases hs : s[i]? with
  | none =>
    have hi : s.length ≤ i := by rw [List.getElem?_eq_none_iff] at hs; exact hs
    rw [List.getElem?_eq_none (by rw [beginK_length]; exact hi), List.getElem?_eq_none]
    split
    · rw [shadeI_length, beginK_length]; exact hi
    · rw [beginK_length]; exact hi
  | some y =>
    rw [beginK_get (k + 1) s i hs]
    by_cases hx : x.held = true
    · rw [if_pos hx]
      by_cases h0 : x.st = 0
      · have hsI : shadeI true (k : Int) (beginK k s) = (beginK k s).modify k (It.setst 1) := by
          unfold shadeI; rw [if_pos ⟨rfl, by omega, by rw [Int.toNat_natCast, stAt_get hk, h0]⟩, Int.toNat_natCast]
        rw [hsI, get_modify]
        by_cases e : k = i
        · subst e
          rw [h] at hs; injection hs with hs; subst hs
          rw [if_pos rfl, hk, if_pos ⟨by omega, hx, h0⟩]; rfl
        · rw [if_neg e, beginK_get k s i hs]
          have e1 : (i < k + 1) ↔ (i < k) := by omega
          simp only [e1]
      · have hsI : shadeI true (k : Int) (beginK k s) = beginK k s := if_neg (by rintro ⟨-, -, h2⟩; rw [Int.toNat_natCast, stAt_get hk] at h2; injection h2 with h2; exact h0 h2)
        rw [hsI, beginK_get k s i hs]
        by_cases e : i = k
        · subst e
          rw [h] at hs; injection hs with hs; subst hs
          rw [if_neg (by rintro ⟨-, -, h2⟩; exact h0 h2), if_neg (by omega)]
        · have e1 : (i < k + 1) ↔ (i < k) := by omega
          simp only [e1]
    · rw [if_neg hx, beginK_get k s i hs]
      by_cases e : i = k
      · subst e
        rw [h] at hs; injection hs with hs; subst hs
        rw [if_neg (by rintro ⟨-, h2, -⟩; exact hx h2), if_neg (by omega)]
      · have e1 : (i < k + 1) ↔ (i < k) := by omega
        simp only [e1]
theorem heldN_step (s : List It) (k : Nat) {x : It} (h : s[k]? = some x) : heldN (s.take (k + 1)) = heldN (s.take k) + if x.held = true then 1 else 0 := by
  unfold heldN
  rw [List.take_add_one, h]
  simp [List.countP_append, List.countP_cons]
theorem heldN_le (s : List It) : heldN s ≤ s.length := List.countP_le_length

def sweepK (k : Nat) (s : List It) : List It := s.mapIdx fun i x => if i < k then sweep1 x else x
theorem sweepK_zero (s : List It) : sweepK 0 s = s := by
  apply List.ext_getElem?; intro i
  unfold sweepK
  rw [List.getElem?_mapIdx]
  cases s[i]? <;> simp
theorem sweepK_all (s : List It) : sweepK s.length s = s.map sweep1 := by
  apply List.ext_getElem?; intro i
  unfold sweepK
  rw [List.getElem?_mapIdx, List.getElem?_map]
  cases hs : s[i]? with
  | none => rfl
  | some x => simp [(List.getElem?_eq_some_iff.1 hs).1]
theorem sweepK_length (k : Nat) (s : List It) : (sweepK k s).length = s.length := by simp [sweepK]
theorem sweepK_get (k : Nat) (s : List It) (i : Nat) {x : It} (h : s[i]? = some x) : (sweepK k s)[i]? = some (if i < k then sweep1 x else x) := by
  unfold sweepK; rw [List.getElem?_mapIdx, h]; rfl
theorem sweepK_step (k : Nat) (s : List It) (f : It → It) {x : It} (h : s[k]? = some x) (hf : f x = sweep1 x) : sweepK (k + 1) s = (sweepK k s).modify k f := by
  apply List.ext_getElem?; intro i
  rw [get_modify]
  cases hs : s[i]? with
  | none =>
    have hi : s.length ≤ i := by rw [List.getElem?_eq_none_iff] at hs; exact hs
    rw [List.getElem?_eq_none (by rw [sweepK_length]; exact hi), List.getElem?_eq_none (by rw [sweepK_length]; exact hi)]
    simp
  | some y =>
    rw [sweepK_get (k + 1) s i hs, sweepK_get k s i hs]
    by_cases e : k = i
    · subst e
      rw [h] at hs; injection hs with hs; subst hs
      rw [if_pos rfl, if_pos (by omega), if_neg (by omega)]
      simp [hf]
    · rw [if_neg e]
      have e1 : (i < k + 1) ↔ (i < k) := by omega
      simp only [e1]
def whiteN (s : List It) : Nat := s.countP fun x => decide (x.st = 0)
theorem whiteN_step (s : List It) (k : Nat) {x : It} (h : s[k]? = some x) : whiteN (s.take (k + 1)) = whiteN (s.take k) + if x.st = 0 then 1 else 0 := by
  unfold whiteN
  rw [List.take_add_one, h]
  simp [List.countP_append, List.countP_cons]
theorem whiteN_le (s : List It) : whiteN s ≤ s.length := List.countP_le_length
theorem are_whiteN (s : List It) : (are s 0).length = whiteN s := by
  have key : ∀ (l : List Bool) (i : Nat), (risingFrom i l).length = l.countP id := by
    intro l
    induction l with
    | nil => intro i; rfl
    | cons b l ih =>
      intro i
      have h := ih (i + 1)
      cases b with
      | true => simp [risingFrom, h, List.countP_cons]
      | false => simp [risingFrom, h, List.countP_cons]
  unfold are whiteN rising
  rw [key, List.countP_map]
  rfl

end Go.Proofs.Ytpkccpegdpodoaa
