/- R.Places, R.Has, R.wordFits. -/
import Derived.Test.YtpkccpegdpodoaaHaul2
namespace Go.Proofs.Ytpkccpegdpodoaa
open Go.RowKit Go.Maps

attribute [local go_sem ↓] Go.wp_at_zero Go.wp_at_succ

def RPlPost (ws : List U64) (w : World) (e : Ending) (w' : World) : Prop := Below w.heap.size w w' ∧
  ((Hau.okW ws = true ∧ ∃ OA oc, e = .returned (.tuple #[.slice OA (Hau.places ws).length oc, .bool true]) ∧ Own w' w.heap.size 3 OA oc (ints (Hau.places ws))) ∨ (Hau.okW ws = false ∧ e = .returned (.tuple #[.slice none 0 0, .bool false])))

set_option maxHeartbeats 800000 in
set_option maxRecDepth 100000 in
theorem rplaces_any (B c : Nat) (A : Option Addr) (ws : List U64) (w : World) (h : At w B A ws) (hB : B ≤ w.heap.size) (hl : ws.length ≤ 2000) :
    Calls Try.prog 41 #[.slice A ws.length c] w (RPlPost ws w) := by
  obtain ⟨i0, hi, hz0, hz1, hz2⟩ := info_partsH infoIntH
  have H := Lib.hid h; clear h
  go_enter Try.func41, Try.ntmps41
  go_wp2_with fail
  go_loopg [4, 5] (ws.length + 1) (fun gk v4 v5 wr => ∃ (f p : Nat) (out : List Nat) (OA : Option Addr) (oc : Nat), p ≤ ws.length ∧ gk = ws.length + 1 - p ∧ v5 = .int .i64 p ∧ v4 = .slice OA out.length oc ∧ Hid (Hau.Walk ws f p out ∧ Own wr w.heap.size 3 OA oc (ints out)) ∧ Below w.heap.size w wr)
  case atStart => exact ⟨ws.length + 1, 0, [], none, 0, by omega, rfl, rfl, rfl, ⟨Hau.Walk.start ws, Own.nil_⟩, Below.refl _ _⟩
  case round =>
    obtain ⟨f, p, out, OA, oc, hp, rfl, rfl, rfl, hkeep, hbl⟩ := hrel
    have hsz := hbl.size
    by_cases hlt : p < ws.length
    · obtain ⟨b, o, rfl, hb, hok, g0⟩ := (H.out.below (hbl.mono hB)).u64H hlt
      obtain ⟨f', hst⟩ := hkeep.out.1.step hlt
      have hov := hkeep.out.1.over hlt
      obtain ⟨x, hx⟩ : ∃ x, Hau.wat ws p = x := ⟨_, rfl⟩
      have hsx : Hau.sz ws p = 1 + Hau.lg x := by unfold Hau.sz; rw [hx]
      rw [hsx] at hst hov
      rw [hx] at hok
      have hol := hkeep.out.1.2.2.2.1
      have hlx := Hau.lg_lt x
      have hil := ints_length out
      have hlg : x.val % 4294967296 = ((Hau.lg x : Nat) : Int) := by have := hok.1; unfold Hau.lg; omega
      have HXX := Lib.hid hx
      obtain ⟨n, hn⟩ : ∃ n, out.length = n := ⟨_, rfl⟩
      rw [hn] at hol
      rw [hn]
      obtain ⟨q, hq⟩ : ∃ q, Hau.lg x = q := ⟨_, rfl⟩
      rw [hq] at hlx hst hov hlg
      have HK := Lib.hid (And.intro hst (And.intro hkeep.out (And.intro hil (And.intro hov hn)))); clear hst hkeep hil hov hx hsx hn hq
      have hw1 : IntKind.i64.wrap (1 + (q : Int)) = 1 + (q : Int) := IntWalk.i64_in _ (by omega)
      have hw2 : IntKind.i64.wrap ((p : Int) + (1 + (q : Int))) = (p : Int) + (1 + (q : Int)) := IntWalk.i64_in _ (by omega)
      have hw3 : IntKind.i64.wrap ((p : Int) + (q : Int)) = (p : Int) + (q : Int) := IntWalk.i64_in _ (by omega)
      have hx0 := hok.1
      have hx1 : x.val ≤ 18446744073709551615 := hok.2
      go_wp2_with (at_builtin; go_must (refine wpList_app (α := Int) (n := n) (m := 1) (B := wr.heap.size + 1) (r := [(p : Int)]) rfl (.tmp 19) (.tmp 21) _ rfl w.heap.size 3 i0 _ 8 Try.underlying47 hi hz0 hz1 hz2 rfl (by decide) int_oneH (by rfl) (by rw [HK.out.2.2.1, HK.out.2.2.2.2]) (HK.out.2.1.2.alloc _) (by rfl) ?_ rfl (by omega) (by simp only [maxLen]; omega) (by simp; omega) ?_))
      · exact At.built wr #[.int .i64 (p : Int)] 3 [(p : Int)] rfl (by intro u hu; simp at hu; subst hu; show I64 _; unfold I64; omega)
      intro A2 c2 w2 hown2 hgr2 hat2
      have hbl2 : Below w.heap.size w w2 := (hbl.alloc (by omega) _).grown hgr2 (by simp; omega) (fun g hg => (HK.out.2.1.2.lt g hg).1)
      obtain ⟨b', o', he, -, -, g1⟩ := ((H.out.below (hbl2.mono hB)).u64H hlt)
      injection he with he; injection he with he1 he2; subst he1 he2
      have hin : ints out ++ [(p : Int)] = ints (out ++ [p]) := by rw [ints_append]; rfl
      have hln : n + 1 = (out ++ [p]).length := by rw [List.length_append, HK.out.2.2.2.2]; rfl
      rw [hin] at hown2
      have HF := Lib.hid (And.intro hown2 hln); clear hown2 hln hin hgr2 hat2 g0
      rw [HXX.out] at g1
      by_cases hov2 : ws.length < p + (1 + q)
      · have hf := HK.out.2.2.2.1 hov2
        have hd : decide ((ws.length : Int) ≤ (p : Int) + (q : Int)) = true := by simp; omega
        have HV := Lib.hid hf; clear hf
        go_wp2_with fail
        go_returns
        exact ⟨hbl2, .inr ⟨HV.out, rfl⟩⟩
      · have hd : decide ((ws.length : Int) ≤ (p : Int) + (q : Int)) = false := by simp; omega
        go_wp2_with fail
        go_roundg (ws.length + 1 - (p + (1 + q)))
        case measure => omega
        case rel => exact ⟨f', p + (1 + q), out ++ [p], A2, c2, by omega, rfl, by go_num, by rw [HF.out.2], ⟨HK.out.1, HF.out.1⟩, hbl2⟩
    · obtain rfl : p = ws.length := by omega
      obtain ⟨hd1, hd2⟩ := hkeep.out.1.done (by omega)
      subst hd1
      have hok : Hau.okW ws = true := by rw [← hd2]; simp
      have HO := Lib.hid (And.intro hkeep.out.2 hok); clear hkeep hd2 hok
      go_wp2_with fail
      go_returns
      exact ⟨hbl, .inl ⟨HO.out.2, OA, oc, rfl, HO.out.1⟩⟩

theorem take_snocH {α : Type} (l : List α) (k : Nat) (x : α) (h : l[k]? = some x) : l.take (k + 1) = l.take k ++ [x] := by
  rw [List.take_add_one, h]; rfl

theorem hasIntH (A : Option Addr) (c B n : Nat) (l : List Nat) (x : Int) (w : World) (hn : l.length = n) (h : At w B A (ints l)) (hl : n ≤ 9223372036854775807) :
    Calls Try.prog 109 #[.slice A n c, .int .i64 x] w fun e w' => e = .returned (.bool ((ints l).contains x)) ∧ w' = w := by
  have H := Lib.hid h; clear h
  have HN := Lib.hid hn; clear hn
  obtain ⟨r, hr⟩ : ∃ r, (ints l).contains x = r := ⟨_, rfl⟩
  rw [hr]
  have HR := Lib.hid hr; clear hr
  go_enter Try.func109, Try.ntmps109
  go_wp2
  go_loop [9] (fun i => ∃ k : Nat, k ≤ n ∧ i = .int .i64 k ∧ Hid ((ints l).take k |>.contains x) = Hid (false = true)) (fun i => n - (intOf i).toNat)
  case atStart => exact ⟨0, Nat.zero_le _, rfl, by simp [Hid]⟩
  case round =>
    obtain ⟨k, hk, rfl, hno⟩ := hrel
    by_cases hlt : k < n
    · obtain ⟨y, hy⟩ : ∃ y, l[k]? = some y := ⟨_, List.getElem?_eq_getElem (by have := HN.out; omega)⟩
      obtain ⟨b, o, rfl, hb, h0⟩ := H.out.intH hy
      have hx : (ints l)[k]? = some (y : Int) := by unfold ints; rw [List.getElem?_map, hy]; rfl
      have HX := Lib.hid hx; clear hx hy
      have hlt2 : (k : Int) < (n : Int) := by omega
      by_cases hxy : x = (y : Int)
      · have hxy1 : (x == (y : Int)) = true := by simpa using hxy
        have hrt : r = true := by rw [← HR.out]; exact List.contains_iff_mem.2 (hxy ▸ List.mem_of_getElem? HX.out)
        subst hrt
        clear hxy
        go_wp2
        go_ret
        exact ⟨rfl, rfl⟩
      · have hxy2 : (x == (y : Int)) = false := by simpa using hxy
        have HXY := Lib.hid hxy; clear hxy
        go_wp2
        go_round
        case rel => exact ⟨k + 1, by omega, by go_num, by unfold Hid at hno ⊢; rw [take_snocH _ _ _ HX.out]; simp at hno ⊢; exact ⟨hno, fun h => HXY.out h⟩⟩
        case measure => simp [intOf]; omega
    · have hrf : r = false := by
        rw [← HR.out]
        have := hno
        unfold Hid at this
        rw [List.take_of_length_le (by rw [ints_length]; have := HN.out; omega)] at this
        cases hc : (ints l).contains x with
        | false => rfl
        | true => rw [hc] at this; simp at this
      subst hrf
      go_wp2
      go_ret
      exact ⟨rfl, rfl⟩

end Go.Proofs.Ytpkccpegdpodoaa
