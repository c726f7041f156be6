/- RF: Ord1. -/
import Derived.Test.YtljdnadejmkaeaaRF1
import Derived.Test.YtljdnadejmkaeaaRF4
import Derived.Test.YtljdnadejmkaeaaRows
import Derived.Deep.DeepMust
import Derived.Deep.LoopGhost
import Derived.Laws.BitsLemmas
import Derived.Laws.Bits64
import Derived.Laws.BitsAllLaws
/- order's writer: numbers as bytes. -/
namespace Go.Proofs.Ytljdnadejmkaeaa
open Go.RowKit

theorem infoU8 : (Try.prog.info? 5).map (fun i => (i.zero, i.size, i.bytes)) = some (some (.int .u8 0), 1, 1) := by kernel_rfl
/-- a writer at block R: its bytes -/
def Bw (w : World) (base R : Nat) (out : List U8) : Prop :=
  ∃ (A : Option Addr) (c : Nat), Blk w R 149 #[.slice A out.length c] ∧ Own w base 5 A c out ∧ base ≤ R
theorem Bw.lt {w : World} {base R : Nat} {out : List U8} (h : Bw w base R out) : base ≤ R ∧ R < w.heap.size := by
  obtain ⟨A, c, h1, -, h3⟩ := h
  exact ⟨h3, h1.lt⟩
theorem Bw.alloc {w : World} {base R : Nat} {out : List U8} (h : Bw w base R out) (o : Obj) : Bw (w.alloc o) base R out := by
  obtain ⟨A, c, h1, h2, h3⟩ := h
  exact ⟨A, c, h1.alloc o, h2.alloc o, h3⟩
theorem Bw.fresh {w w' : World} {base R : Nat} {out : List U8} (h : Bw w base R out) (hb : Below w.heap.size w w') : Bw w' base R out := by
  obtain ⟨A, c, h1, h2, h3⟩ := h
  exact ⟨A, c, h1.fresh hb, h2.fresh hb, h3⟩

/-- all blocks that are known whole stay, but the writer's own and rows of bytes -/
def BKeep (R : Nat) (w w' : World) : Prop := ∀ g t cs, g ≠ R → t ≠ 5 → Blk w g t cs → Blk w' g t cs
theorem BKeep.refl (R : Nat) (w : World) : BKeep R w w := fun _ _ _ _ _ h => h
theorem BKeep.trans {R : Nat} {a b c : World} (h : BKeep R a b) (h' : BKeep R b c) : BKeep R a c := fun g t cs h1 h2 h3 => h' g t cs h1 h2 (h g t cs h1 h2 h3)
theorem BKeep.alloc {R : Nat} {a b : World} (h : BKeep R a b) (o : Obj) : BKeep R a (b.alloc o) := fun g t cs h1 h2 h3 => (h g t cs h1 h2 h3).alloc o
theorem BKeep.set {R i : Nat} {a b : World} (h : BKeep R a b) (u : Value) : BKeep R a (b.setCell ⟨R, i, none⟩ u) := fun g t cs h1 h2 h3 => (h g t cs h1 h2 h3).far h1 u
theorem BKeep.fresh {R : Nat} {a b c : World} (h : BKeep R a b) (hb : Below b.heap.size b c) : BKeep R a c := fun g t cs h1 h2 h3 => (h g t cs h1 h2 h3).fresh hb
theorem BKeep.grown {R : Nat} {a b c : World} (h : BKeep R a b) {A : Option Addr} {base d : Nat} {l : List U8} (ho : Own b base 5 A d l) (hg : b.grownBy c (rowOf A)) : BKeep R a c := fun g t cs h1 h2 h3 => by
  have h4 := h g t cs h1 h2 h3
  exact h4.grown hg (fun e => own_ne_ty ho h4 (Ne.symm h2) e)


namespace Ord
theorem or128 : ∀ a : Fin 256, a.val ||| 128 = a.val % 128 + 128 := by decide +kernel
theorem hi_byte (u : Nat) : bits .or .u8 ((u : Int) % 256) 128 = ((u % 128 + 128 : Nat) : Int) := by
  have h := u8_or_nat (u % 256) 128 (by omega) (by omega)
  rw [show (((u % 256 : Nat) : Int)) = (u : Int) % 256 by omega] at h
  have h2 := or128 ⟨u % 256, by omega⟩
  simp only at h2
  rw [show ((128 : Nat) : Int) = 128 from rfl] at h
  rw [h, h2, show u % 256 % 128 = u % 128 by omega]
theorem xor_ones (a : Nat) (h : a < 18446744073709551616) : a ^^^ 18446744073709551615 = 18446744073709551615 - a := by
  have h1 := congrArg BitVec.toNat (BitVec.xor_allOnes (x := BitVec.ofNat 64 a))
  rw [BitVec.toNat_xor, BitVec.toNat_not, BitVec.toNat_ofNat, BitVec.toNat_allOnes, Nat.mod_eq_of_lt (by simpa using h)] at h1
  simpa using h1
theorem zig_xor (x : Int) (hx : I64 x) : bits .xor .u64 (IntKind.u64.wrap (x % 18446744073709551616 * 2)) (IntKind.u64.wrap (x / 9223372036854775808)) = (zig x : Int) := by
  unfold I64 at hx
  rw [IntKind.wrap_u64, IntKind.wrap_u64]
  unfold zig
  by_cases h : 0 ≤ x
  · rw [if_pos h, show x / 9223372036854775808 = 0 by omega, show x % 18446744073709551616 * 2 % 18446744073709551616 = ((x.toNat * 2 : Nat) : Int) by omega]
    have := bits_xor_u64_nat (x.toNat * 2) 0 (by omega) (by omega)
    rw [Nat.xor_zero] at this
    exact this
  · rw [if_neg h, show x / 9223372036854775808 % 18446744073709551616 = ((18446744073709551615 : Nat) : Int) by omega, show x % 18446744073709551616 * 2 % 18446744073709551616 = ((18446744073709551615 - ((-(x + 1)).toNat * 2 + 1) : Nat) : Int) by omega]
    rw [bits_xor_u64_nat _ _ (by omega) (by omega), xor_ones _ (by omega)]
    congr 1
    omega
end Ord

set_option maxHeartbeats 1600000 in
set_option maxRecDepth 100000 in
/-- numbers of a list that was just laid -/
theorem nums_new (R base gl n : Nat) (cs : Array Value) (l : List Int) (out : List U8) (w : World) (hgl : gl = w.heap.size) (hcs : cs.toList = flat l) (hn : l.length = n) (hok : ∀ x ∈ l, I64 x) (h : Bw w base R out) (hlen : out.length + n * 10 ≤ 1000000000000) :
    Calls Try.prog 88 #[.pointer (some ⟨R, 0, none⟩), .slice (some ⟨gl, 0, none⟩) n n] (w.alloc (.cells cs 3)) fun en w' => en = .returned (.tuple #[]) ∧ Bw w' base R (out ++ Ord.bys (Ord.numsB l)) ∧ Below base w w' ∧ BKeep R w w' := by
  obtain ⟨i0, hi, hz0, hz1, hz2⟩ := info_parts infoU8
  subst hgl hn
  have hat := At.built w cs 3 l hcs hok
  obtain ⟨A, c, h1, h2, h3⟩ := h
  have hRl := h1.lt
  have hb0 : Below base w (w.alloc (.cells cs 3)) := (Below.refl _ _).alloc (by omega) _
  have H := Lib.hid (And.intro hat (And.intro (h1.alloc (.cells cs 3)) (And.intro (h2.alloc (.cells cs 3)) (And.intro hb0 (And.intro (fun g (hg : rowOf A = some g) => (h2.lt g hg).2) ((BKeep.refl R w).alloc (.cells cs 3))))))); clear hat h1 h2 hb0 hcs hok
  obtain ⟨W, hW⟩ : ∃ W, w.alloc (.cells cs 3) = W := ⟨_, rfl⟩
  have hWs : W.heap.size = w.heap.size + 1 := by rw [← hW]; simp
  rw [hW] at H ⊢
  clear hW
  obtain ⟨gl, hgl⟩ : ∃ gl, gl = w.heap.size := ⟨_, rfl⟩
  rw [← hgl] at H hWs hRl ⊢
  clear hgl
  go_enter Try.func88, Try.ntmps88
  go_wp2
  go_loopg [9] (l.length) (fun gk iv wr => ∃ (k : Nat) (A1 : Option Addr) (c1 : Nat) (o1 : List U8), k ≤ l.length ∧ gk = l.length - k ∧ iv = .int .i64 k ∧ o1.length ≤ out.length + k * 10 ∧ Hid (o1 = out ++ Ord.bys (Ord.numsB (l.take k)) ∧ Blk wr R 149 #[.slice A1 o1.length c1] ∧ Own wr base 5 A1 c1 o1 ∧ At wr (gl + 1) (some ⟨gl, 0, none⟩) l ∧ rowOf A1 ≠ some gl ∧ BKeep R w wr) ∧ Below base w wr ∧ gl < wr.heap.size)
  case atStart => exact ⟨0, A, c, out, Nat.zero_le _, rfl, rfl, by omega, ⟨by simp [Ord.numsB, Ord.bys], H.out.2.1, H.out.2.2.1, H.out.1, fun e => (by have := H.out.2.2.2.2.1 gl e; omega), H.out.2.2.2.2.2⟩, H.out.2.2.2.1, by omega⟩
  case round =>
    obtain ⟨k, A1, c1, o1, hk, rfl, rfl, ho1, hkeep, hbl, hgs⟩ := hrel
    have hsz := hbl.size
    obtain ⟨k1, k2, k3, k4, k5, k6⟩ := hkeep.out
    by_cases hlt : k < l.length
    · obtain ⟨b, o, x, hA, hb, hx, hok, h0⟩ := k4.int_ hlt
      injection hA with hA; injection hA with e1 e2; subst e1 e2
      rw [Nat.zero_add] at h0
      have hRl2 := k2.lt
      have hcv : IntKind.u64.wrap x = x % 18446744073709551616 := IntKind.wrap_u64 x
      obtain ⟨u0, hu0⟩ : ∃ u0, Ord.zig x = u0 := ⟨_, rfl⟩
      have hzg := Ord.zig_xor x hok
      have hu64 := Ord.zig_lt hok
      have hv10 := Ord.vb_len10 hu64
      rw [hu0] at hzg hu64 hv10
      have hns := Ord.numsB_take (l := l) hx
      have hnb : Ord.numB x = Ord.vb u0 := by unfold Ord.numB; rw [hu0]
      rw [hnb] at hns
      have HK := Lib.hid (And.intro k1 (And.intro k2 (And.intro k3 (And.intro k4 (And.intro k5 (And.intro hns k6)))))); clear k1 k2 k3 k4 k5 k6 hns hok hx hkeep hnb hu0
      obtain ⟨wo, hwo⟩ : ∃ wo : World, wo = wr := ⟨_, rfl⟩
      rw [← hwo] at HK hbl hgs hsz hRl2 h0 ⊢
      clear hwo
      go_wp2_with fail
      go_loopg [6] ((Ord.vb u0).length) (fun gj uv wj => ∃ (u : Nat) (d : List Nat) (A2 : Option Addr) (c2 : Nat) (o2 : List U8), u < 18446744073709551616 ∧ gj = (Ord.vb u).length ∧ uv = .int .u64 (u : Int) ∧ o2.length + (Ord.vb u).length ≤ o1.length + 10 ∧ Hid (o2 = o1 ++ Ord.bys d ∧ d ++ Ord.vb u = Ord.vb u0 ∧ Blk wj R 149 #[.slice A2 o2.length c2] ∧ Own wj base 5 A2 c2 o2 ∧ At wj (gl + 1) (some ⟨gl, 0, none⟩) l ∧ rowOf A2 ≠ some gl ∧ BKeep R w wj) ∧ Below base w wj ∧ gl < wj.heap.size)
      case atStart => exact ⟨u0, [], A1, c1, o1, hu64, rfl, by rw [← hzg], by omega, ⟨by simp [Ord.bys], rfl, HK.out.2.1, HK.out.2.2.1, HK.out.2.2.2.1, HK.out.2.2.2.2.1, HK.out.2.2.2.2.2.2⟩, hbl, hgs⟩
      case round =>
        obtain ⟨u, d, A2, c2, o2, hu, rfl, rfl, ho2, hkeep2, hbl2, hgs2⟩ := hrel
        have hsz2 := hbl2.size
        clear hzg hu64 h0
        obtain ⟨q1, q2, q3, q4, q5, q6, q7⟩ := hkeep2.out
        have r0 := q3.cell 0 (v := .slice A2 o2.length c2) rfl
        have hRl3 := q3.lt
        have hw8 : IntKind.u8.wrap (u : Int) = (u : Int) % 256 := IntKind.wrap_u8 _
        by_cases h128 : u < 128
        · have hlt8 : ¬ (128 : Int) ≤ (u : Int) := by omega
          have hm : (u : Int) % 256 = (u : Int) := by omega
          rw [hm] at hw8
          have hvb : Ord.vb u = [u] := Ord.vb_lt h128
          rw [hvb] at q2 ho2
          have HQ := Lib.hid (And.intro q1 (And.intro q2 (And.intro (q3.alloc (.cells #[.int .u8 (u : Int)] 5)) (And.intro q4 (And.intro q5 (And.intro q6 q7)))))); clear q1 q2 q3 q4 q5 q6 q7 hkeep2 hm hvb
          simp only [List.length_singleton] at ho2
          go_wp2_with (at_builtin; go_must (refine wpList_app (α := U8) (m := 1) (B := wr.heap.size + 1) (r := [⟨(u : Int)⟩]) rfl (.tmp 40) (.tmp 43) _ rfl base 5 i0 _ 1 Try.underlying105 hi hz0 hz1 hz2 rfl (by decide) u8_one (by rfl) rfl (HQ.out.2.2.2.1.alloc _) (by rfl) ?_ rfl (by omega) (by simp only [maxLen]; omega) (by simp; omega) ?_))
          · exact At.built wr _ _ [(⟨(u : Int)⟩ : U8)] rfl (by intro z hz; simp at hz; subst hz; show (0 : Int) ≤ (u : Int) ∧ (u : Int) ≤ 255; omega)
          intro A3 c3 w3 hown3 hgr3 hat3
          have hs3 := hgr3.size
          simp only [World.size_alloc] at hs3
          obtain ⟨m1, m2, m3, m4, m5, m6, m7⟩ := HQ.out
          have m9 := (m7.alloc (.cells #[.int .u8 (u : Int)] 5)).grown (m4.alloc _) hgr3
          have r1 := m3.grown hgr3 (fun e => own_ne_ty (m4.alloc (.cells #[.int .u8 (u : Int)] 5)) m3 (by decide) e)
          have r2 := (m5.alloc (by omega) (.cells #[.int .u8 (u : Int)] 5)).grown_ (by simp; omega) hgr3 (fun h hg e => by injection hg with hg; subst hg; exact m6 e)
          have hA3 : rowOf A3 ≠ some gl := by
            intro e
            rcases hat3 with h | h
            · exact m6 (by rw [← h]; exact e)
            · rw [h] at e; injection e with e; omega
          have hbl3 : Below base w w3 := (hbl2.alloc (by omega) _).grown hgr3 (by simp; omega) (fun g hg => (m4.lt g hg).1)
          have r3 := r1.cell 0 (v := .slice A2 o2.length c2) rfl
          have z3 := r1.frozen 0
          have hl2 : (o2 ++ [(⟨(u : Int)⟩ : U8)]).length ≤ out.length + (k + 1) * 10 := by rw [List.length_append, List.length_singleton]; omega
          have hl3 : o2.length + 1 = (o2 ++ [(⟨(u : Int)⟩ : U8)]).length := by rw [List.length_append]; rfl
          have heq : o2 ++ [(⟨(u : Int)⟩ : U8)] = out ++ Ord.bys (Ord.numsB (l.take (k + 1))) := by
            rw [HK.out.2.2.2.2.2.1, ← m2, m1, HK.out.1, Ord.bys_append, Ord.bys_append]; simp [Ord.bys]
          have HF := Lib.hid (And.intro r1 (And.intro hown3 (And.intro r2 (And.intro hA3 (And.intro heq (And.intro hl2 (And.intro hl3 m9))))))); clear r1 hown3 r2 hA3 heq hl2 hl3 m1 m2 m3 m4 m5 m6 m7 m9 hgr3 hat3
          go_wp2
          go_roundg (l.length - (k + 1))
          case measure => omega
          case rel =>
            obtain ⟨f1, f2, f3, f4, f5, f6, f7, f8⟩ := HF.out
            refine ⟨k + 1, A3, c3, o2 ++ [(⟨(u : Int)⟩ : U8)], by omega, rfl, by go_num, f6, ⟨f5, ?_, f2.setCell _ _ (own_ne_ty f2 f1 (by decide)), f3.far_ (fun e => by injection e with e; simp at e; omega) _, f4, f8.set _⟩, hbl3.setCell h3 _, by simp [World.setCell]; omega⟩
            have := f1.set_ 0 (.slice A3 (o2.length + 1) c3)
            rw [← f7]
            simpa using this
        · have hge8 : (128 : Int) ≤ (u : Int) := by omega
          have hor := Ord.hi_byte u
          obtain ⟨y, hy⟩ : ∃ y, u % 128 + 128 = y := ⟨_, rfl⟩
          rw [hy] at hor
          have hvb : Ord.vb u = y :: Ord.vb (u / 128) := by rw [Ord.vb_ge h128, hy]
          rw [hvb, List.length_cons] at ho2
          rw [hvb] at q2
          have hyb : y < 256 := by omega
          have hml : (Ord.vb (u / 128)).length < (Ord.vb u).length := by rw [hvb]; simp
          have HQ := Lib.hid (And.intro q1 (And.intro q2 (And.intro (q3.alloc (.cells #[.int .u8 (y : Int)] 5)) (And.intro q4 (And.intro q5 (And.intro q6 q7)))))); clear q1 q2 q3 q4 q5 q6 q7 hkeep2 hvb hy
          have hpos := Ord.vb_pos (u / 128)
          go_wp2_with (at_builtin; go_must (refine wpList_app (α := U8) (m := 1) (B := wr.heap.size + 1) (r := [⟨(y : Int)⟩]) rfl (.tmp 26) (.tmp 30) _ rfl base 5 i0 _ 1 Try.underlying105 hi hz0 hz1 hz2 rfl (by decide) u8_one (by rfl) rfl (HQ.out.2.2.2.1.alloc _) (by rfl) ?_ rfl (by omega) (by simp only [maxLen]; omega) (by simp; omega) ?_))
          · exact At.built wr _ _ [(⟨(y : Int)⟩ : U8)] rfl (by intro z hz; simp at hz; subst hz; show (0 : Int) ≤ (y : Int) ∧ (y : Int) ≤ 255; omega)
          intro A3 c3 w3 hown3 hgr3 hat3
          have hs3 := hgr3.size
          simp only [World.size_alloc] at hs3
          obtain ⟨m1, m2, m3, m4, m5, m6, m7⟩ := HQ.out
          have m9 := (m7.alloc (.cells #[.int .u8 (y : Int)] 5)).grown (m4.alloc _) hgr3
          have r1 := m3.grown hgr3 (fun e => own_ne_ty (m4.alloc (.cells #[.int .u8 (y : Int)] 5)) m3 (by decide) e)
          have r2 := (m5.alloc (by omega) (.cells #[.int .u8 (y : Int)] 5)).grown_ (by simp; omega) hgr3 (fun h hg e => by injection hg with hg; subst hg; exact m6 e)
          have hA3 : rowOf A3 ≠ some gl := by
            intro e
            rcases hat3 with h | h
            · exact m6 (by rw [← h]; exact e)
            · rw [h] at e; injection e with e; omega
          have hbl3 : Below base w w3 := (hbl2.alloc (by omega) _).grown hgr3 (by simp; omega) (fun g hg => (m4.lt g hg).1)
          have r3 := r1.cell 0 (v := .slice A2 o2.length c2) rfl
          have z3 := r1.frozen 0
          have hl3 : o2.length + 1 = (o2 ++ [(⟨(y : Int)⟩ : U8)]).length := by rw [List.length_append]; rfl
          have heq : o2 ++ [(⟨(y : Int)⟩ : U8)] = o1 ++ Ord.bys (d ++ [y]) := by rw [m1, Ord.bys_append, List.append_assoc]; simp [Ord.bys]
          have hdd : (d ++ [y]) ++ Ord.vb (u / 128) = Ord.vb u0 := by rw [← m2]; simp
          have HF := Lib.hid (And.intro r1 (And.intro hown3 (And.intro r2 (And.intro hA3 (And.intro heq (And.intro hdd (And.intro hl3 m9))))))); clear r1 hown3 r2 hA3 heq hdd hl3 m1 m2 m3 m4 m5 m6 m7 m9 hgr3 hat3
          go_wp2
          go_roundg ((Ord.vb (u / 128)).length)
          case measure => exact hml
          case rel =>
            obtain ⟨f1, f2, f3, f4, f5, f6, f7, f8⟩ := HF.out
            refine ⟨u / 128, d ++ [y], A3, c3, o2 ++ [(⟨(y : Int)⟩ : U8)], by omega, rfl, by go_num, by rw [← f7]; omega, ⟨f5, f6, ?_, f2.setCell _ _ (own_ne_ty f2 f1 (by decide)), f3.far_ (fun e => by injection e with e; simp at e; omega) _, f4, f8.set _⟩, hbl3.setCell h3 _, by simp [World.setCell]; omega⟩
            have := f1.set_ 0 (.slice A3 (o2.length + 1) c3)
            rw [← f7]
            simpa using this
    · have hk2 : l.take k = l := List.take_of_length_le (by omega)
      rw [hk2] at k1
      have HK := Lib.hid (And.intro k1 (And.intro k2 (And.intro k3 k6))); clear k1 k2 k3 k4 k5 k6 hk2 hkeep
      go_wp2
      go_end0
      exact ⟨rfl, ⟨A1, c1, by rw [← HK.out.1]; exact HK.out.2.1, by rw [← HK.out.1]; exact HK.out.2.2.1, h3⟩, hbl, HK.out.2.2.2⟩

end Go.Proofs.Ytljdnadejmkaeaa
