/- The law of a cell's words. -/
import Derived.Test.YtpkccpegdpodoaaWor4
import Derived.Test.YtpkccpegdpodoaaClone
import Derived.Shelf.GgClosure.Gives
namespace Go.Proofs.Ytpkccpegdpodoaa
open Go.RowKit

theorem take_snoc {α : Type} (l : List α) (k : Nat) (x : α) (h : l[k]? = some x) : l.take (k + 1) = l.take k ++ [x] := by
  rw [List.take_add_one, h]; rfl
theorem ne_of_at {α : Type} {l r : List α} {k : Nat} {x y : α} (h : l[k]? = some x) (h' : r[k]? = some y) (hne : x ≠ y) : l ≠ r := by
  rintro rfl; rw [h] at h'; exact hne (Option.some.inj h')
theorem At.u64_ {w : World} {B : Nat} {A : Option Addr} {l : List U64} {k : Nat} (h : At w B A l) (hk : k < l.length) :
    ∃ b o x, A = some ⟨b, o, none⟩ ∧ b < B ∧ l[k]? = some ⟨x⟩ ∧ w.cell? ⟨b, o + k, none⟩ = some (.int .u64 x) := by
  obtain ⟨x, hx⟩ : ∃ x, l[k]? = some x := ⟨l[k], List.getElem?_eq_getElem hk⟩
  obtain ⟨b, o, cs, rfl, hb, hc, rfl, hok⟩ := h k x hx
  have h0 := hc 0 _ rfl
  simp only [Flat.sz, Enc.sz, Nat.mul_one, Nat.add_zero] at h0
  exact ⟨b, o, x.val, rfl, hb, hx, h0⟩
instance : DecidableEq U64 := fun a b => decidable_of_iff (a.val = b.val) ⟨fun h => by cases a; cases b; cases h; rfl, fun h => by rw [h]⟩

theorem eqU64_n (A A' : Option Addr) (c c' B B' n n' : Nat) (l r : List U64) (w : World) (hn : l.length = n) (hn' : r.length = n') (h : At w B A l) (h' : At w B' A' r) (hl : n ≤ 9223372036854775807) :
    Calls Try.prog 22 #[.slice A n c, .slice A' n' c'] w fun e w' => e = .returned (.bool (decide (l = r))) ∧ w = w' := by
  have H := Lib.hid h; clear h
  have H' := Lib.hid h'; clear h'
  have HN := Lib.hid (And.intro hn hn'); clear hn hn'
  by_cases he : n = n'
  · subst he
    go_enter Try.func22, Try.ntmps22
    go_wp2
    go_loop [14] (fun i => ∃ k : Nat, k ≤ n ∧ i = .int .i64 k ∧ Hid (l.take k = r.take k)) (fun i => n - (intOf i).toNat)
    case atStart => exact ⟨0, Nat.zero_le _, rfl, by simp [Hid]⟩
    case round =>
      obtain ⟨k, hk, rfl, heq⟩ := hrel
      by_cases hlt : k < n
      · obtain ⟨b, o, x, rfl, hb, hx, h0⟩ := H.out.u64_ (by have := HN.out.1; omega : k < l.length)
        obtain ⟨b', o', x', rfl, hb', hx', h0'⟩ := H'.out.u64_ (by have := HN.out.2; omega : k < r.length)
        have HX := Lib.hid (And.intro hx hx'); clear hx hx'
        have hk0 : (0 : Int) ≤ (k : Int) := by omega
        have hk1 : (k : Int) < (n : Int) := by omega
        by_cases hxy : x = x'
        · subst hxy
          go_wp2
          go_round
          case rel => exact ⟨k + 1, by omega, by go_num, by unfold Hid; rw [take_snoc _ _ _ HX.out.1, take_snoc _ _ _ HX.out.2, heq.out]⟩
          case measure => simp [intOf]; omega
        · have hne : (x != x') = true := by simp [hxy]
          have HXY := Lib.hid hxy; clear hxy
          go_wp2
          go_ret
          exact ⟨ret_bool (by simp [ne_of_at HX.out.1 HX.out.2 (fun e => HXY.out (by injection e))]), rfl⟩
      · go_wp2
        go_ret
        exact ⟨ret_bool (by have h1 := heq.out; have h2 := HN.out; rw [List.take_of_length_le (by omega), List.take_of_length_le (by omega)] at h1; simp [h1]), rfl⟩
  · have hne : ((n : Int) != (n' : Int)) = true := by simp; omega
    have HE := Lib.hid he; clear he
    go_enter Try.func22, Try.ntmps22
    go_wp2
    go_ret
    exact ⟨ret_bool (by have := HE.out; have h2 := HN.out; simp; rintro rfl; omega), rfl⟩

theorem frameW_ok (f : Fr) : ∀ z ∈ frameW bx f, Flat.ok z := by
  intro z hz
  simp only [frameW, List.mem_append, List.mem_cons, List.not_mem_nil, or_false] at hz
  rcases hz with (((h | h) | h) | h) | h
  · rcases h with rfl | rfl | rfl | rfl <;> exact wd_ok _
  · subst h; exact boxW_ok _
  · exact valsW_ok _ z h
  · subst h; exact wd_ok _
  · obtain ⟨t, -, ht⟩ := List.mem_flatMap.1 h
    simp at ht
    rcases ht with rfl | rfl <;> exact wd_ok _
theorem cellW_ok (c : Ce) : ∀ z ∈ cellW bx c, Flat.ok z := by
  intro z hz
  simp only [cellW, List.mem_append, List.mem_cons, List.not_mem_nil, or_false] at hz
  rcases hz with ((h | h) | h) | h
  · rcases h with rfl | rfl <;> exact wd_ok _
  · exact valsW_ok _ z h
  · subst h; exact wd_ok _
  · obtain ⟨f, -, hf⟩ := List.mem_flatMap.1 h
    exact frameW_ok f z hf
theorem cellW_le {c : Ce} (h : cellLarge c = false) : (cellW bx c).length ≤ 10000 := by
  obtain ⟨h1, h2, h3, -⟩ := cellLarge_no h
  have := flat_le (frameW bx) c.frames 110 (fun f hf => frameW_length bx f (h1 f hf))
  have : c.frames.length * 110 ≤ 30 * 110 := Nat.mul_le_mul_right _ h3
  unfold cellW
  simp only [List.length_append, valsW_length, List.length_cons, List.length_nil]
  omega

def ceW : Ce := ⟨3, 0, [(0, 0)], []⟩
theorem ceW_err : cellErr bx ceW = 0 := by decide
theorem ceW_w : cellW bx ceW = [⟨3⟩, ⟨0⟩, ⟨1⟩, ⟨18444773748872577024⟩, ⟨0⟩] := by decide

theorem worded_any (w : World) : Calls Try.prog 19 #[] w fun e w' => e = .returned (.bool true) ∧ Below w.heap.size w w' := by
  go_enter Try.func19, Try.ntmps19
  go_wp2_with fail
  have hvA := At.built w #[.int .i64 0, .int .i64 0] 23 [((0 : Int), (0 : Int))] rfl (by intro z hz; simp at hz; subst hz; exact ⟨by unfold I64; decide, by unfold I64; decide⟩)
  refine (of_any (w.heap.size + 1) 1 0 (some ⟨w.heap.size, 0, none⟩) none ceW _ hvA At.nil_ (by simp) (by decide) (by decide) ⟨by unfold I64; decide, by unfold I64; decide⟩).mono ?_
  rintro e w1 ⟨hb1, hp⟩
  obtain ⟨A, d, rfl, hown⟩ := hp.elim (fun h => h.2) (fun h => absurd ceW_err h.1)
  rw [ceW_w] at hown ⊢
  have hbl : Below w.heap.size w w1 := ((Below.refl _ _).alloc (Nat.le_refl _) _).trans (hb1.mono (by simp))
  have HO := Lib.hid hown; clear hown hp hvA
  go_wp2_with fail
  have hlit := At.built w1 #[.int .u64 3, .int .u64 0, .int .u64 1, .int .u64 18444773748872577024, .int .u64 0] 24 ([⟨3⟩, ⟨0⟩, ⟨1⟩, ⟨18444773748872577024⟩, ⟨0⟩] : List U64) rfl (by intro z hz; simp at hz; rcases hz with rfl | rfl | rfl | rfl | rfl <;> exact ⟨by decide, by decide⟩)
  refine (eqU64_n A (some ⟨w1.heap.size, 0, none⟩) d 5 (w1.heap.size) (w1.heap.size + 1) 5 5 [⟨3⟩, ⟨0⟩, ⟨1⟩, ⟨18444773748872577024⟩, ⟨0⟩] [⟨3⟩, ⟨0⟩, ⟨1⟩, ⟨18444773748872577024⟩, ⟨0⟩] _ rfl rfl ((HO.out.at_ (by intro z hz; simp at hz; rcases hz with rfl | rfl | rfl | rfl | rfl <;> exact ⟨by decide, by decide⟩)).alloc (Nat.le_refl _) _) hlit (by decide)).mono ?_
  rintro e w2 ⟨rfl, rfl⟩
  rw [decide_eq_true rfl]
  go_wp2_with fail
  go_ret
  exact ⟨rfl, hbl.alloc (by have := hb1.size; simp at this; omega) _⟩

set_option maxHeartbeats 1600000 in
set_option maxRecDepth 100000 in
theorem wordsTell_any (B vc fc : Nat) (VA FA : Option Addr) (c : Ce) (w : World) (hvA : At w B VA c.vals) (hf : At w B FA c.frames) (hB : B ≤ w.heap.size) (hv : c.vals.length ≤ 9223372036854775807) (hfl : c.frames.length ≤ 9223372036854775807) (hik : I64 c.kind ∧ I64 c.num) :
    Calls Try.prog 4 #[.agg #[.int .i64 c.kind, .int .i64 c.num, .slice VA c.vals.length vc, .slice FA c.frames.length fc]] w fun e w' => e = .returned (.bool true) ∧ Below w.heap.size w w' := by
  have HH := Lib.hid (And.intro hvA (And.intro hf hik)); clear hvA hf hik
  go_enter Try.func4, Try.ntmps4
  go_wp2_with fail
  refine calls_world (fun W => Blk W w.heap.size 38 #[.int .i64 c.kind, .int .i64 c.num, .slice VA c.vals.length vc, .slice FA c.frames.length fc] ∧ Below w.heap.size w W ∧ w.heap.size + 1 ≤ W.heap.size) ⟨Blk.new _ _ _, (Below.refl _ _).alloc (Nat.le_refl _) _, by simp⟩ ?_
  rintro W ⟨hG, hb0, hs0⟩
  refine (worded_any W).mono ?_
  rintro e w1 ⟨rfl, hb1⟩
  have hs1 := hb1.size
  have hbl1 := hb0.trans (hb1.mono (by omega))
  have hG1 := hG.fresh hb1
  have g0 := hG1.cell 0 (v := .int .i64 c.kind) rfl
  have g1 := hG1.cell 1 (v := .int .i64 c.num) rfl
  have g2 := hG1.cell 2 (v := .slice VA c.vals.length vc) rfl
  have g3 := hG1.cell 3 (v := .slice FA c.frames.length fc) rfl
  have HG1 := Lib.hid hG1; clear hG1 hG
  go_wp2_with fail
  refine (of_any B vc fc VA FA c w1 (HH.out.1.below (hbl1.mono hB)) (HH.out.2.1.below (hbl1.mono hB)) (by omega) hv hfl HH.out.2.2).mono ?_
  rintro e w2 ⟨hb2, hp⟩
  have hs2 := hb2.size
  have hbl2 := hbl1.trans (hb2.mono (by omega))
  have hG2 := HG1.out.fresh hb2
  clear g0 g1 g2 g3
  have g0 := hG2.cell 0 (v := .int .i64 c.kind) rfl
  have g1 := hG2.cell 1 (v := .int .i64 c.num) rfl
  have g2 := hG2.cell 2 (v := .slice VA c.vals.length vc) rfl
  have g3 := hG2.cell 3 (v := .slice FA c.frames.length fc) rfl
  have HG2 := Lib.hid hG2; clear hG2
  have hcf := (cfault_any B vc fc VA FA c w2 (HH.out.1.below (hbl2.mono hB)) (HH.out.2.1.below (hbl2.mono hB)) (by omega) hv hfl)
  rcases hp with ⟨h0, A, d, rfl, hown⟩ | ⟨h0, rfl⟩
  · rw [h0] at hcf
    have hlg : cellLarge c = false := by
      cases h : cellLarge c with
      | false => rfl
      | true => unfold cellErr at h0; rw [if_pos h] at h0; cases h0
    obtain ⟨cw, hcw⟩ : ∃ cw, cellW bx c = cw := ⟨_, rfl⟩
    have hcwl : cw.length ≤ 10000 := by rw [← hcw]; exact cellW_le hlg
    have hcok : ∀ z ∈ cw, Flat.ok z := by rw [← hcw]; exact cellW_ok c
    have hcw4 := fun W3 h1 h2 h3 => cellWords_any B vc fc VA FA c W3 h1 h2 h3 hlg HH.out.2.2
    rw [hcw] at hown ⊢ hcw4
    have HO := Lib.hid (And.intro hown (And.intro hcok (And.intro hcw4 hcf))); clear hown hcok hcw4 hcf h0 hlg hcw
    go_wp2_with fail
    refine HO.out.2.2.2.mono ?_
    rintro e w3 ⟨rfl, hb3⟩
    have hs3 := hb3.size
    have hbl3 := hbl2.trans (hb3.mono (by omega))
    have hG3 := HG2.out.fresh hb3
    clear g0 g1 g2 g3
    have g0 := hG3.cell 0 (v := .int .i64 c.kind) rfl
    have g1 := hG3.cell 1 (v := .int .i64 c.num) rfl
    have g2 := hG3.cell 2 (v := .slice VA c.vals.length vc) rfl
    have g3 := hG3.cell 3 (v := .slice FA c.frames.length fc) rfl
    have HO3 := Lib.hid (HO.out.1.fresh hb3)
    clear hG3
    go_wp2_with fail
    refine (HO.out.2.2.1 w3 (HH.out.1.below (hbl3.mono hB)) (HH.out.2.1.below (hbl3.mono hB)) (by omega)).mono ?_
    rintro e w4 ⟨A4, d4, rfl, hown4, hb4⟩
    have hs4 := hb4.size
    have hbl4 := hbl3.trans (hb4.mono (by omega))
    have HA4 := Lib.hid (And.intro ((HO3.out.fresh hb4).at_ HO.out.2.1) (hown4.at_ HO.out.2.1)); clear hown4
    go_wp2_with fail
    refine (eqU64_n A A4 d d4 w4.heap.size w4.heap.size cw.length cw.length cw cw w4 rfl rfl HA4.out.1 HA4.out.2 (by omega)).mono ?_
    rintro e w5 ⟨rfl, rfl⟩
    rw [decide_eq_true rfl]
    go_wp2_with fail
    go_ret
    exact ⟨rfl, hbl4⟩
  · obtain ⟨er, her⟩ : ∃ er, cellErr bx c = er := ⟨_, rfl⟩
    rw [her] at h0 hcf ⊢
    have hne : (er != 0) = true := by simp [h0]
    have HC := Lib.hid hcf; clear hcf h0 her
    go_wp2_with fail
    refine HC.out.mono ?_
    rintro e w3 ⟨rfl, hb3⟩
    have hs3 := hb3.size
    have hbl3 := hbl2.trans (hb3.mono (by omega))
    go_wp2_with fail
    go_ret
    exact ⟨rfl, hbl3⟩

end Go.Proofs.Ytpkccpegdpodoaa
