/- KM: Haul2. -/
import Derived.Test.YtdlcooplllimeaaGreatDoorKM4
/- haul.objects, R.Places: the places of objects. -/
namespace Go.Proofs.YtdlcooplllimeaaGreatDoor
open Go.RowKit Go.Maps

attribute [local go_sem ↓] Go.wp_at_zero Go.wp_at_succ

theorem Hau.objs_le {ws : List U64} : ∀ f p, (Hau.objs ws f p).length + p ≤ ws.length + p ∨ True := fun _ _ => .inr trivial
theorem Hau.lg_lt (x : U64) : Hau.lg x < 4294967296 := by unfold Hau.lg; omega

/-- what a round keeps: those that are told, those that come -/
def Hau.Walk (ws : List U64) (f p : Nat) (out : List Nat) : Prop := out ++ Hau.objs ws f p = Hau.places ws ∧ (Hau.oend ws f p == ws.length) = Hau.okW ws ∧ ws.length < f + p ∧ out.length ≤ p ∧ ∀ q ∈ out, q < ws.length
theorem Hau.Walk.start (ws : List U64) : Hau.Walk ws (ws.length + 1) 0 [] := ⟨rfl, rfl, by omega, Nat.le_refl _, by simp⟩
theorem Hau.Walk.step {ws : List U64} {f p : Nat} {out : List Nat} (h : Hau.Walk ws f p out) (hp : p < ws.length) : ∃ f', Hau.Walk ws f' (p + Hau.sz ws p) (out ++ [p]) := by
  obtain ⟨h1, h2, h3, h4, h5⟩ := h
  obtain ⟨f', e1, e2, e3⟩ := Hau.objs_step hp h3
  have := Hau.sz_pos ws p
  refine ⟨f', by rw [← h1, e1]; simp, by rw [← h2, e2], e3, by simp; omega, fun q hq => ?_⟩
  rcases List.mem_append.1 hq with hq | hq
  · exact h5 q hq
  · simp at hq; omega
theorem Hau.Walk.done {ws : List U64} {f p : Nat} {out : List Nat} (h : Hau.Walk ws f p out) (hp : ws.length ≤ p) : out = Hau.places ws ∧ (p == ws.length) = Hau.okW ws := by
  obtain ⟨h1, h2, h3, h4, h5⟩ := h
  rw [Hau.objs_done hp, List.append_nil] at h1
  rw [Hau.oend_done hp] at h2
  exact ⟨h1, h2⟩
/-- words that end within an object are none -/
theorem Hau.Walk.over {ws : List U64} {f p : Nat} {out : List Nat} (h : Hau.Walk ws f p out) (hp : p < ws.length) (ho : ws.length < p + Hau.sz ws p) : Hau.okW ws = false := by
  obtain ⟨f', h'⟩ := h.step hp
  rw [← (h'.done (by omega)).2]
  simp; omega

set_option maxHeartbeats 800000 in
set_option maxRecDepth 100000 in
theorem objects_any (B c : Nat) (A : Option Addr) (ws : List U64) (w : World) (h : At w B A ws) (hB : B ≤ w.heap.size) (hl : ws.length ≤ 2000) :
    Calls Tryz.prog 63 #[.slice A ws.length c] w fun e w' => ∃ OA oc, e = .returned (.tuple #[.slice OA (Hau.places ws).length oc, .bool (Hau.okW ws)]) ∧ Own w' w.heap.size 3 OA oc (ints (Hau.places ws)) ∧ Below w.heap.size w w' := by
  obtain ⟨i0, hi, hz0, hz1, hz2⟩ := info_partsH infoIntH
  have H := Lib.hid h; clear h
  go_enter Tryz.func63, Tryz.ntmps63
  go_wp2_with fail
  go_loopg [4, 5] (ws.length + 1) (fun gk v4 v5 wr => ∃ (f p : Nat) (out : List Nat) (OA : Option Addr) (oc : Nat), p ≤ ws.length + 4294967296 ∧ gk = ws.length + 1 - p ∧ v5 = .int .i64 p ∧ v4 = .slice OA out.length oc ∧ Hid (Hau.Walk ws f p out ∧ Own wr w.heap.size 3 OA oc (ints out)) ∧ Below w.heap.size w wr)
  case atStart => exact ⟨ws.length + 1, 0, [], none, 0, by omega, rfl, rfl, rfl, ⟨Hau.Walk.start ws, Own.nil_⟩, Below.refl _ _⟩
  case round =>
    obtain ⟨f, p, out, OA, oc, hp, rfl, rfl, rfl, hkeep, hbl⟩ := hrel
    have hsz := hbl.size
    by_cases hlt : p < ws.length
    · obtain ⟨b, o, rfl, hb, hok, g0⟩ := (H.out.below (hbl.mono hB)).u64H hlt
      obtain ⟨f', hst⟩ := hkeep.out.1.step hlt
      obtain ⟨x, hx⟩ : ∃ x, Hau.wat ws p = x := ⟨_, rfl⟩
      have hsx : Hau.sz ws p = 1 + Hau.lg x := by unfold Hau.sz; rw [hx]
      rw [hx] at g0 hok
      rw [hsx] at hst
      have hol := hkeep.out.1.2.2.2.1
      have hlx := Hau.lg_lt x
      have hil := ints_length out
      have hlong := fun W => hlong_any x W hok
      have HXX := Lib.hid hx
      have HK := Lib.hid (And.intro hst (And.intro hkeep.out (And.intro hil hlong))); clear hst hkeep hil hlong hok hx hsx
      obtain ⟨n, hn⟩ : ∃ n, out.length = n := ⟨_, rfl⟩
      rw [hn] at hol
      rw [hn]
      have HN := Lib.hid hn; clear hn
      obtain ⟨q, hq⟩ : ∃ q, Hau.lg x = q := ⟨_, rfl⟩
      rw [hq] at hlx HK
      have HQ := Lib.hid hq; clear hq
      have hw1 : IntKind.i64.wrap (1 + (q : Int)) = 1 + (q : Int) := IntWalk.i64_in _ (by omega)
      have hw2 : IntKind.i64.wrap ((p : Int) + (1 + (q : Int))) = (p : Int) + (1 + (q : Int)) := IntWalk.i64_in _ (by omega)
      go_wp2_with (at_builtin; go_must (refine wpList_app (α := Int) (n := n) (m := 1) (B := wr.heap.size + 1) (r := [(p : Int)]) rfl (.tmp 10) (.tmp 12) _ rfl w.heap.size 3 i0 _ 8 Tryz.underlying34 hi hz0 hz1 hz2 rfl (by decide) int_oneH (by rfl) (by rw [HK.out.2.2.1, HN.out]) (HK.out.2.1.2.alloc _) (by rfl) ?_ rfl (by omega) (by simp only [maxLen]; omega) (by simp; omega) ?_))
      · exact At.built wr #[.int .i64 (p : Int)] 3 [(p : Int)] rfl (by intro u hu; simp at hu; subst hu; show I64 _; unfold I64; omega)
      intro A2 c2 w2 hown2 hgr2 hat2
      have hbl2 : Below w.heap.size w w2 := (hbl.alloc (by omega) _).grown hgr2 (by simp; omega) (fun g hg => (HK.out.2.1.2.lt g hg).1)
      have hg1 := ((H.out.below (hbl2.mono hB)).u64H hlt)
      obtain ⟨b', o', he, -, -, g1⟩ := hg1
      injection he with he; injection he with he1 he2; subst he1 he2
      have hin : ints out ++ [(p : Int)] = ints (out ++ [p]) := by rw [ints_append]; rfl
      have hln : n + 1 = (out ++ [p]).length := by rw [List.length_append, HN.out]; rfl
      rw [hin] at hown2
      have HF := Lib.hid (And.intro hown2 hln); clear hown2 hln hin hgr2 hat2 g0
      rw [HXX.out] at g1
      have hlg := HK.out.2.2.2 w2
      have HLG := Lib.hid hlg; clear hlg
      go_wp2_with fail
      refine HLG.out.mono ?_
      rintro e w3 ⟨rfl, rfl⟩
      go_wp2_with fail
      go_roundg (ws.length + 1 - (p + (1 + q)))
      case measure => omega
      case rel => exact ⟨f', p + (1 + q), out ++ [p], A2, c2, by omega, rfl, by go_num, by rw [HF.out.2], ⟨HK.out.1, HF.out.1⟩, hbl2⟩
    · obtain ⟨hd1, hd2⟩ := hkeep.out.1.done (by omega)
      subst hd1
      obtain ⟨q, hq⟩ : ∃ q, Hau.okW ws = q := ⟨_, rfl⟩
      rw [hq] at hd2
      have hd3 : ((p : Int) == (ws.length : Int)) = q := by rw [← hd2, Bool.eq_iff_iff]; simp; omega
      have HD := Lib.hid hq; clear hd2 hq
      have hown := hkeep.out.2
      have HO := Lib.hid hown; clear hown hkeep
      go_wp2_with fail
      go_returns
      exact ⟨OA, oc, by simp only [HD.out]; rfl, HO.out, hbl⟩

end Go.Proofs.YtdlcooplllimeaaGreatDoor
