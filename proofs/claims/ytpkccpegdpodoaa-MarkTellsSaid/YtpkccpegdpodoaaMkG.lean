/- R.Model: one thing more; the numbers of those that stand so. -/
import Derived.Test.YtpkccpegdpodoaaMkF
namespace Go.Proofs.Ytpkccpegdpodoaa
open Go.RowKit

attribute [local go_sem ↓] Go.wp_at_zero Go.wp_at_succ

set_option maxHeartbeats 1600000 in
set_option maxRecDepth 100000 in
theorem more_any (w : World) (base p : Nat) (F : Nat → Prop) (nu kind st : Int) (j : Nat) (mk : Bool) (s : List It) (h : Mdl w base F p nu kind mk s) (hF : ∀ g, F g → g < w.heap.size) (hj : j ≤ 10) (hs : s.length < 100) (hst : I64 st) :
    Calls Try.prog 129 #[.pointer (some ⟨p, 0, none⟩), .int .i64 j, .int .i64 st] w fun e w' => e = .returned (.int .i64 s.length) ∧ Mdl w' base (Up F w w') p nu kind mk (s ++ [⟨List.replicate j (-1), st, true⟩]) ∧ Touch F w w' := by
  obtain ⟨i0, hi, hz0, hz1, hz2⟩ := info_parts infoInt
  obtain ⟨k0, hk0, hy0, hy1, hy2⟩ := info_parts infoItem
  obtain ⟨A, c, l, h1, h2, h3, h4, h5⟩ := h
  have hl : s.length = l.length := by rw [← h5, its_length]
  obtain ⟨L, hL⟩ : ∃ L, l.length = L := ⟨_, rfl⟩
  rw [hL] at h1 hl
  rw [hl] at hs ⊢
  have hplt := h1.lt
  have hbase : base ≤ w.heap.size := by omega
  have HST := Lib.hid hst
  have H := Lib.hid (And.intro h1 (And.intro h2 (And.intro h3 (And.intro h5 (And.intro hF hL))))); clear h1 h2 h3 h5 hF hL hl hst
  go_enter Try.func129, Try.ntmps129
  go_wp2_with fail
  go_loopg [7, 9] j (fun gk lv iv wr => ∃ (k : Nat) (LA : Option Addr) (lc : Nat), k ≤ j ∧ gk = j - k ∧ iv = .int .i64 k ∧ lv = .slice LA k lc ∧ Hid (Own wr w.heap.size 3 LA lc (List.replicate k (-1)) ∧ (List.replicate k (-1 : Int)).length = k) ∧ Below w.heap.size w wr)
  case atStart => exact ⟨0, none, 0, Nat.zero_le _, rfl, rfl, rfl, ⟨Own.nil_, rfl⟩, Below.refl _ _⟩
  case round =>
    obtain ⟨k, LA, lc, hk, rfl, rfl, rfl, hkeep, hbl⟩ := hrel
    have hsz := hbl.size
    by_cases hlt : k < j
    · have hlt2 : (k : Int) < (j : Int) := by omega
      go_wp2_with (at_builtin; go_must (refine wpList_app (α := Int) (n := k) (m := 1) (B := wr.heap.size + 1) (r := [(-1 : Int)]) rfl (.tmp 11) (.tmp 12) _ rfl w.heap.size 3 i0 _ 8 Try.underlying47 hi hz0 hz1 hz2 rfl (by decide) int_one (by rfl) hkeep.out.2 (hkeep.out.1.alloc _) (by rfl) (At.built wr _ _ [(-1 : Int)] rfl (by intro z hz; simp at hz; subst hz; exact (by unfold I64; omega : I64 (-1)))) rfl (by omega) (by simp only [maxLen]; omega) (by simp; omega) ?_); intro A2 c2 w2 hown2 hgr2 hat2; have hb2 : Below w.heap.size w w2 := (hbl.alloc hsz _).grown hgr2 (by simp; omega) (fun g hg => (hkeep.out.1.lt g hg).1); rw [← List.replicate_succ'] at hown2; have HO2 := Lib.hid hown2; clear hown2 hgr2 hat2)
      go_roundg (j - (k + 1))
      case measure => omega
      case rel => exact ⟨k + 1, A2, c2, by omega, rfl, by go_num, rfl, ⟨HO2.out, by simp⟩, hb2⟩
    · obtain rfl : j = k := by omega
      have k1 := H.out.1.fresh hbl
      have k2 := H.out.2.1.fresh hbl
      have c0 := k1.cell 0 (v := .slice A L c) rfl
      have hp1 := k1.lt
      have hcs : (#[Value.slice LA j lc, .int .i64 st, .bool true] : Array Value).toList = flat [(⟨LA, lc, List.replicate j (-1), st, true⟩ : ItR)] := by simp [flat, Flat.cells]
      have HK := Lib.hid (And.intro k1 (And.intro k2 (And.intro hkeep.out.1 hcs))); clear k1 k2 hkeep hcs
      go_wp2_with (at_builtin; go_must (refine wpList_app (α := ItR) (n := L) (m := 1) (B := wr.heap.size + 1) (r := [⟨LA, lc, List.replicate j (-1), st, true⟩]) rfl (.tmp 19) (.tmp 23) _ rfl base 104 k0 _ 40 Try.underlying93 hk0 hy0 hy1 hy2 rfl (by decide) itr_one (by rfl) H.out.2.2.2.2.2 (HK.out.2.1.row.alloc _) (by rfl) (At.built wr #[Value.slice LA j lc, .int .i64 st, .bool true] _ [(⟨LA, lc, List.replicate j (-1), st, true⟩ : ItR)] HK.out.2.2.2 (fun _ _ => trivial)) rfl (by omega) (by simp only [maxLen]; omega) (by simp; omega) ?_); intro A3 c3 w3 ho3 hgr3 hat3; have hs3 := hgr3.size; simp only [World.size_alloc] at hs3; have n1 := (HK.out.1.alloc (.cells #[Value.slice LA j lc, .int .i64 st, .bool true] 104)).grown hgr3 (fun e => own_ne_ty (HK.out.2.1.row.alloc (.cells #[Value.slice LA j lc, .int .i64 st, .bool true] 104)) (HK.out.1.alloc (.cells #[Value.slice LA j lc, .int .i64 st, .bool true] 104)) (by decide) e); have c3' := n1.cell 0 (v := .slice A L c) rfl; have z3 := n1.frozen 0; have HZ := Lib.hid (And.intro n1 (And.intro ho3 (And.intro hgr3 hat3))); clear n1 ho3 hgr3 hat3 c0)
      go_ret
      have hT : Touch F w ((w3.setCell ⟨p, 0, none⟩ (.slice A3 (L + 1) c3))) := (((Touch.ofBelow hbl).alloc (.cells #[Value.slice LA j lc, .int .i64 st, .bool true] 104)).grown HZ.out.2.2.1 (fun g hg => H.out.2.1.foot g hg)).setCell H.out.2.2.1 _
      refine ⟨by first | rfl | (congr 2; omega), ⟨A3, c3, _, ?_, ((HK.out.2.1.alloc (.cells #[Value.slice LA j lc, .int .i64 st, .bool true] 104)).push (F' := Up F w (w3.setCell ⟨p, 0, none⟩ (.slice A3 (L + 1) c3))) (by decide) HZ.out.2.1 HZ.out.2.2.1 HZ.out.2.2.2 (fun g hg => .inl hg) (fun g hg => ?_) ((HK.out.2.2.1.base_le hbase).alloc _) (fun g hg => ?_) (fun k hk => by rw [(List.mem_replicate.1 hk).2]; unfold I64; omega) HST.out).far_blk HZ.out.1 (by decide) (by decide) _ _, .inl H.out.2.2.1, h4, ?_⟩, hT⟩
      · have := HZ.out.1.set_ 0 (.slice A3 (L + 1) c3)
        rw [List.length_append, H.out.2.2.2.2.2]; exact this
      · rcases HZ.out.2.2.2 with e | e
        · exact .inl (H.out.2.1.foot g (by rw [← e]; exact hg))
        · have hg0 := (HZ.out.2.1.lt g hg).2
          rw [e] at hg; injection hg with hg; simp at hg
          exact .inr ⟨by omega, by simp; omega⟩
      · have hg0 := HK.out.2.2.1.lt g hg
        exact ⟨.inr ⟨by omega, by simp; omega⟩, fun e => by have := H.out.2.2.2.2.1 _ e; omega⟩
      · show its (l ++ [_]) = _
        unfold its; rw [List.map_append]
        have := H.out.2.2.2.1
        unfold its at this
        rw [this]; simp [ItR.it]

end Go.Proofs.Ytpkccpegdpodoaa
