/- KW: Wor1. -/
import Derived.Test.YtdlcooplllimeaaGreatDoorKT2
import Derived.Test.YtdlcooplllimeaaGreatDoorKT1
import Derived.Deep.DeepMust
import Derived.Deep.LoopGhost
/- words: the writer's small deeds: numbers, a value, values. -/
namespace Go.Proofs.YtdlcooplllimeaaGreatDoor
open Go.RowKit

def bx (v : Int × Int) : Int × Int := boxL v.1 v.2
theorem infoU64 : (Tryz.prog.info? 73).map (fun i => (i.zero, i.size, i.bytes)) = some (some (.int .u64 0), 1, 8) := by kernel_rfl
theorem u64_one : ∀ x : U64, ∀ u ∈ Flat.cells x, u.oneCell' = true := by
  intro x u hu; simp [Flat.cells] at hu; subst hu; rfl
theorem At.intW {w : World} {B : Nat} {A : Option Addr} {l : List Int} {k : Nat} (h : At w B A l) (hk : k < l.length) :
    ∃ b o x, A = some ⟨b, o, none⟩ ∧ b < B ∧ l[k]? = some x ∧ I64 x ∧ w.cell? ⟨b, o + k, none⟩ = some (.int .i64 x) := by
  obtain ⟨x, hx⟩ : ∃ x, l[k]? = some x := ⟨l[k], List.getElem?_eq_getElem hk⟩
  obtain ⟨b, o, cs, rfl, hb, hc, rfl, hok⟩ := h k x hx
  have h0 := hc 0 _ rfl
  simp only [Flat.sz, Enc.sz, Nat.mul_one, Nat.add_zero] at h0
  exact ⟨b, o, x, rfl, hb, hx, hok, h0⟩
theorem At.pairW {w : World} {B : Nat} {A : Option Addr} {l : List (Int × Int)} {k : Nat} (h : At w B A l) (hk : k < l.length) :
    ∃ b o x y, A = some ⟨b, o, none⟩ ∧ b < B ∧ l[k]? = some (x, y) ∧ I64 x ∧ I64 y ∧ w.cell? ⟨b, o + k * 2, none⟩ = some (.int .i64 x) ∧ w.cell? ⟨b, o + k * 2 + 1, none⟩ = some (.int .i64 y) := by
  obtain ⟨x, hx⟩ : ∃ x, l[k]? = some x := ⟨l[k], List.getElem?_eq_getElem hk⟩
  obtain ⟨b, o, cs, rfl, hb, hc, rfl, hok⟩ := h k x hx
  exact ⟨b, o, x.1, x.2, rfl, hb, hx, hok.1, hok.2, hc 0 _ rfl, hc 1 _ rfl⟩

def Wr (w : World) (base R : Nat) (out : List U64) (e : Int) : Prop :=
  ∃ (A : Option Addr) (c : Nat), Blk w R 185 #[.slice A out.length c, .int .i64 e] ∧ Own w base 73 A c out ∧ base ≤ R
theorem Wr.lt {w : World} {base R : Nat} {out : List U64} {e : Int} (h : Wr w base R out e) : base ≤ R ∧ R < w.heap.size := by
  obtain ⟨A, c, h1, -, h3⟩ := h
  exact ⟨h3, h1.lt⟩
theorem Wr.alloc {w : World} {base R : Nat} {out : List U64} {e : Int} (h : Wr w base R out e) (o : Obj) : Wr (w.alloc o) base R out e := by
  obtain ⟨A, c, h1, h2, h3⟩ := h
  exact ⟨A, c, h1.alloc o, h2.alloc o, h3⟩
theorem Wr.fresh {w w' : World} {base R : Nat} {out : List U64} {e : Int} (h : Wr w base R out e) (hb : Below w.heap.size w w') : Wr w' base R out e := by
  obtain ⟨A, c, h1, h2, h3⟩ := h
  exact ⟨A, c, h1.fresh hb, h2.fresh hb, h3⟩

def Keeps (R : Nat) (w w' : World) : Prop := ∀ g t cs, g ≠ R → t ≠ 73 → Blk w g t cs → Blk w' g t cs
theorem Keeps.refl (R : Nat) (w : World) : Keeps R w w := fun _ _ _ _ _ h => h
theorem Keeps.trans {R : Nat} {a b c : World} (h : Keeps R a b) (h' : Keeps R b c) : Keeps R a c := fun g t cs h1 h2 h3 => h' g t cs h1 h2 (h g t cs h1 h2 h3)
theorem Keeps.alloc {R : Nat} {a b : World} (h : Keeps R a b) (o : Obj) : Keeps R a (b.alloc o) := fun g t cs h1 h2 h3 => (h g t cs h1 h2 h3).alloc o
theorem Keeps.set {R i : Nat} {a b : World} (h : Keeps R a b) (u : Value) : Keeps R a (b.setCell ⟨R, i, none⟩ u) := fun g t cs h1 h2 h3 => (h g t cs h1 h2 h3).far h1 u
theorem Keeps.fresh {R : Nat} {a b c : World} (h : Keeps R a b) (hb : Below b.heap.size b c) : Keeps R a c := fun g t cs h1 h2 h3 => (h g t cs h1 h2 h3).fresh hb
theorem Keeps.grown {R : Nat} {a b c : World} (h : Keeps R a b) {A : Option Addr} {base d : Nat} {l : List U64} (ho : Own b base 73 A d l) (hg : b.grownBy c (rowOf A)) : Keeps R a c := fun g t cs h1 h2 h3 => by
  have h4 := h g t cs h1 h2 h3
  exact h4.grown hg (fun e => own_ne_ty ho h4 (Ne.symm h2) e)

set_option maxHeartbeats 1600000 in
set_option maxRecDepth 100000 in
theorem numbers_new (R base gl n : Nat) (cs : Array Value) (l : List Int) (out : List U64) (e : Int) (w : World) (hgl : gl = w.heap.size) (hcs : cs.toList = flat l) (hn : l.length = n) (hok : ∀ x ∈ l, I64 x) (h : Wr w base R out e) (hlen : out.length + n ≤ 10000000) :
    Calls Tryz.prog 139 #[.pointer (some ⟨R, 0, none⟩), .slice (some ⟨gl, 0, none⟩) n n] (w.alloc (.cells cs 3)) fun en w' => en = .returned (.tuple #[]) ∧ Wr w' base R (out ++ l.map wd) e ∧ Below base w w' ∧ Keeps R w w' := by
  obtain ⟨i0, hi, hz0, hz1, hz2⟩ := info_parts infoU64
  subst hgl hn
  have hat := At.built w cs 3 l hcs hok
  obtain ⟨A, c, h1, h2, h3⟩ := h
  have hRl := h1.lt
  have hb0 : Below base w (w.alloc (.cells cs 3)) := (Below.refl _ _).alloc (by omega) _
  have H := Lib.hid (And.intro hat (And.intro (h1.alloc (.cells cs 3)) (And.intro (h2.alloc (.cells cs 3)) (And.intro hb0 (And.intro (fun g (hg : rowOf A = some g) => (h2.lt g hg).2) ((Keeps.refl R w).alloc (.cells cs 3))))))); clear hat h1 h2 hb0 hcs hok
  obtain ⟨W, hW⟩ : ∃ W, w.alloc (.cells cs 3) = W := ⟨_, rfl⟩
  have hWs : W.heap.size = w.heap.size + 1 := by rw [← hW]; simp
  rw [hW] at H ⊢
  clear hW
  obtain ⟨gl, hgl⟩ : ∃ gl, gl = w.heap.size := ⟨_, rfl⟩
  rw [← hgl] at H hWs hRl ⊢
  clear hgl
  go_enter Tryz.func139, Tryz.ntmps139
  go_wp2
  go_loopg [8] (l.length) (fun gk iv wr => ∃ (k : Nat) (A1 : Option Addr) (c1 : Nat) (o1 : List U64), k ≤ l.length ∧ gk = l.length - k ∧ iv = .int .i64 k ∧ o1.length ≤ out.length + k ∧ Hid (o1 = out ++ (l.take k).map wd ∧ Blk wr R 185 #[.slice A1 o1.length c1, .int .i64 e] ∧ Own wr base 73 A1 c1 o1 ∧ At wr (gl + 1) (some ⟨gl, 0, none⟩) l ∧ rowOf A1 ≠ some gl ∧ Keeps R w wr) ∧ Below base w wr ∧ gl < wr.heap.size)
  case atStart => exact ⟨0, A, c, out, Nat.zero_le _, rfl, rfl, Nat.le_refl _, ⟨by simp, H.out.2.1, H.out.2.2.1, H.out.1, fun e => (by have := H.out.2.2.2.2.1 gl e; omega), H.out.2.2.2.2.2⟩, H.out.2.2.2.1, by omega⟩
  case round =>
    obtain ⟨k, A1, c1, o1, hk, rfl, rfl, ho1, hkeep, hbl, hgs⟩ := hrel
    have hsz := hbl.size
    obtain ⟨k1, k2, k3, k4, k5, k6⟩ := hkeep.out
    by_cases hlt : k < l.length
    · obtain ⟨b, o, x, hA, hb, hx, hok, h0⟩ := k4.intW hlt
      injection hA with hA; injection hA with e1 e2; subst e1 e2
      rw [Nat.zero_add] at h0
      have r0 := k2.cell 0 (v := .slice A1 o1.length c1) rfl
      have hRl2 := k2.lt
      have hms := map_snoc wd l k x hx
      have hcv : IntKind.u64.wrap x = x % 18446744073709551616 := IntKind.wrap_u64 x
      have k2' := k2.alloc (.cells #[.int .u64 (x % 18446744073709551616)] 73)
      have HK := Lib.hid (And.intro k1 (And.intro k2' (And.intro k3 (And.intro k4 (And.intro k5 (And.intro hms (And.intro hok k6))))))); clear k1 k2 k3 k4 k5 k6 hms hok hx k2' hkeep
      go_wp2_with (at_builtin; go_must (refine wpList_app (α := U64) (m := 1) (B := wr.heap.size + 1) (r := [wd x]) rfl (.tmp 16) (.tmp 19) _ rfl base 73 i0 _ 8 Tryz.underlying54 hi hz0 hz1 hz2 rfl (by decide) u64_one (by rfl) rfl (HK.out.2.2.1.alloc _) (by rfl) ?_ rfl (by omega) (by simp only [maxLen]; omega) (by simp; omega) ?_))
      · exact At.built wr _ _ [wd x] rfl (by intro z hz; simp at hz; subst hz; exact wd_ok x)
      intro A2 c2 w2 hown2 hgr2 hat2
      have hs2 := hgr2.size
      simp only [World.size_alloc] at hs2
      obtain ⟨m1, m2, m3, m4, m5, m6, m7, m8⟩ := HK.out
      have m9 := (m8.alloc (.cells #[.int .u64 (x % 18446744073709551616)] 73)).grown (m3.alloc _) hgr2
      have r1 := m2.grown hgr2 (fun e => own_ne_ty (m3.alloc (.cells #[.int .u64 (x % 18446744073709551616)] 73)) m2 (by decide) e)
      have r2 := (m4.alloc (by omega) (.cells #[.int .u64 (x % 18446744073709551616)] 73)).grown_ (by simp; omega) hgr2 (fun h hg e => by injection hg with hg; subst hg; exact m5 e)
      have hA2 : rowOf A2 ≠ some gl := by
        intro e
        rcases hat2 with h | h
        · exact m5 (by rw [← h]; exact e)
        · rw [h] at e; injection e with e; omega
      have hbl2 : Below base w w2 := (hbl.alloc (by omega) _).grown hgr2 (by simp; omega) (fun g hg => (m3.lt g hg).1)
      have r3 := r1.cell 0 (v := .slice A1 o1.length c1) rfl
      have z3 := r1.frozen 0
      have hl2 : (o1 ++ [wd x]).length ≤ out.length + (k + 1) := by rw [List.length_append, List.length_singleton]; omega
      have hl3 : o1.length + 1 = (o1 ++ [wd x]).length := by rw [List.length_append]; rfl
      have heq : o1 ++ [wd x] = out ++ (l.take (k + 1)).map wd := by rw [m6, m1, List.append_assoc]
      have HF := Lib.hid (And.intro r1 (And.intro hown2 (And.intro r2 (And.intro hA2 (And.intro heq (And.intro hl2 (And.intro hl3 m9))))))); clear r1 hown2 r2 hA2 heq hl2 hl3 m1 m2 m3 m4 m5 m6 m7 m8 m9 hgr2 hat2
      go_wp2
      go_roundg (l.length - (k + 1))
      case measure => omega
      case rel =>
        obtain ⟨f1, f2, f3, f4, f5, f6, f7, f8⟩ := HF.out
        refine ⟨k + 1, A2, c2, o1 ++ [wd x], by omega, rfl, by go_num, f6, ⟨f5, ?_, f2.setCell _ _ (own_ne_ty f2 f1 (by decide)), f3.far_ (fun e => by injection e with e; simp at e; omega) _, f4, f8.set _⟩, hbl2.setCell h3 _, by simp [World.setCell]; omega⟩
        have := f1.set_ 0 (.slice A2 (o1.length + 1) c2)
        rw [← f7]
        simpa using this
    · have hk2 : l.take k = l := List.take_of_length_le (by omega)
      rw [hk2] at k1
      have HK := Lib.hid (And.intro k1 (And.intro k2 (And.intro k3 k6))); clear k1 k2 k3 k4 k5 k6 hk2 hkeep
      go_wp2
      go_end0
      exact ⟨rfl, ⟨A1, c1, by rw [← HK.out.1]; exact HK.out.2.1, by rw [← HK.out.1]; exact HK.out.2.2.1, h3⟩, hbl, HK.out.2.2.2⟩


theorem boxL_range (k n : Int) : 0 ≤ (boxL k n).1 ∧ (boxL k n).1 ≤ 18446744073709551615 := by
  unfold boxL
  split
  · simp
  · split
    · split
      · simp
      · simp only; omega
    · split
      · simp
      · rename_i h1 h2 h3
        have : 65529 ≤ tagL k ∧ tagL k ≤ 65534 := by unfold tagL; split <;> omega
        simp only; omega

set_option maxHeartbeats 1600000 in
set_option maxRecDepth 100000 in
theorem value_any (R base : Nat) (k n : Int) (out : List U64) (e : Int) (w : World) (hk : I64 k) (hn : I64 n) (h : Wr w base R out e) (hlen : out.length ≤ 10000000) :
    Calls Tryz.prog 141 #[.pointer (some ⟨R, 0, none⟩), .agg #[.int .i64 k, .int .i64 n]] w fun en w' => en = .returned (.tuple #[]) ∧ Wr w' base R (out ++ [boxW bx (k, n)]) (if e = 0 then (bx (k, n)).2 else e) ∧ Below base w w' ∧ Keeps R w w' := by
  obtain ⟨i0, hi, hz0, hz1, hz2⟩ := info_parts infoU64
  have hl := h.lt
  have hr := boxL_range k n
  have hxe : bx (k, n) = boxL k n := rfl
  have hxw : boxW bx (k, n) = ⟨(boxL k n).1⟩ := rfl
  rw [hxe, hxw]
  obtain ⟨x, y, hyz⟩ : ∃ x y, boxL k n = (x, y) := ⟨_, _, rfl⟩
  rw [hyz] at hr ⊢
  have HYZ := Lib.hid (And.intro hyz (And.intro h hr)); clear hyz h hxe hxw hr
  go_enter Tryz.func141, Tryz.ntmps141
  go_wp2_with fail
  refine calls_world (fun W => Below w.heap.size w W) ((Below.refl _ _).alloc (Nat.le_refl _) _) ?_
  rintro W hb0
  have hs0 := hb0.size
  refine (box_any k n W hk hn).mono ?_
  rintro en w1 ⟨rfl, hb1⟩
  rw [HYZ.out.1]
  have hs1 := hb1.size
  have hb01 : Below w.heap.size w w1 := hb0.trans (hb1.mono hs0)
  obtain ⟨A, c, r1, r2, r3⟩ := HYZ.out.2.1.fresh hb01
  have hRl := r1.lt
  have c0 := r1.cell 0 (v := .slice A out.length c) rfl
  have c1 := r1.cell 1 (v := .int .i64 e) rfl
  have z0 := r1.frozen 0
  have z1 := r1.frozen 1
  have key := (Keeps.refl R w).fresh hb01
  by_cases he : e = 0
  · subst he
    have HR := Lib.hid (And.intro (r1.set_ 1 (.int .i64 y)) (And.intro (r2.setCell ⟨R, 1, none⟩ (.int .i64 y) (own_ne_ty r2 r1 (by decide))) (And.intro ((hb01.mono (by omega : base ≤ _)).setCell (p := ⟨R, 1, none⟩) r3 (.int .i64 y)) (key.set (i := 1) (.int .i64 y))))); clear r1 r2 key
    go_wp2_with (at_builtin; go_must (refine wpList_app (α := U64) (m := 1) (B := w1.heap.size + 1) (r := [⟨x⟩]) rfl (.tmp 24) (.tmp 26) _ rfl base 73 i0 _ 8 Tryz.underlying54 hi hz0 hz1 hz2 rfl (by decide) u64_one (by rfl) rfl (HR.out.2.1.alloc _) (by rfl) ?_ rfl (by omega) (by simp only [maxLen]; omega) (by simp; omega) ?_))
    · have := At.built (w1.setCell ⟨R, 1, none⟩ (.int .i64 y)) #[.int .u64 x] 73 [(⟨x⟩ : U64)] rfl (by intro z hz; simp at hz; subst hz; exact HYZ.out.2.2)
      simpa using this
    intro A2 c2 w2 hown2 hgr2 hat2
    have hs2 := hgr2.size
    simp only [World.size_alloc, World.size_setCell] at hs2
    obtain ⟨m1, m2, m3, m4⟩ := HR.out
    have m5 := (m4.alloc (.cells #[.int .u64 x] 73)).grown (m2.alloc _) hgr2
    have q1 := (m1.alloc (.cells #[.int .u64 x] 73)).grown hgr2 (fun e => own_ne_ty m2 m1 (by decide) e)
    have hbl2 : Below base w w2 := (m3.alloc (by simp; omega) _).grown hgr2 (by simp; omega) (fun g hg => (m2.lt g hg).1)
    have d0 := q1.cell 0 (v := .slice A out.length c) rfl
    have y0 := q1.frozen 0
    have HF := Lib.hid (And.intro q1 (And.intro hown2 m5)); clear m1 m2 m3 m4 m5 q1 hown2 hgr2 hat2
    go_wp2_with fail
    go_end0
    refine ⟨rfl, ⟨A2, c2, ?_, HF.out.2.1.setCell _ _ (own_ne_ty HF.out.2.1 HF.out.1 (by decide)), r3⟩, hbl2.setCell r3 _, HF.out.2.2.set _⟩
    have := HF.out.1.set_ 0 (.slice A2 (out.length + 1) c2)
    rw [List.length_append]
    simpa using this
  · have heb : (e == 0) = false := by simpa using he
    have HE := Lib.hid he
    have HR := Lib.hid (And.intro r1 (And.intro r2 (And.intro (hb01.mono (by omega : base ≤ _)) key))); clear r1 r2 key he
    go_wp2_with (at_builtin; go_must (refine wpList_app (α := U64) (m := 1) (B := w1.heap.size + 1) (r := [⟨x⟩]) rfl (.tmp 24) (.tmp 26) _ rfl base 73 i0 _ 8 Tryz.underlying54 hi hz0 hz1 hz2 rfl (by decide) u64_one (by rfl) rfl (HR.out.2.1.alloc _) (by rfl) ?_ rfl (by omega) (by simp only [maxLen]; omega) (by simp; omega) ?_))
    · have := At.built w1 #[.int .u64 x] 73 [(⟨x⟩ : U64)] rfl (by intro z hz; simp at hz; subst hz; exact HYZ.out.2.2)
      simpa using this
    intro A2 c2 w2 hown2 hgr2 hat2
    have hs2 := hgr2.size
    simp only [World.size_alloc] at hs2
    obtain ⟨m1, m2, m3, m4⟩ := HR.out
    have m5 := (m4.alloc (.cells #[.int .u64 x] 73)).grown (m2.alloc _) hgr2
    have q1 := (m1.alloc (.cells #[.int .u64 x] 73)).grown hgr2 (fun e => own_ne_ty m2 m1 (by decide) e)
    have hbl2 : Below base w w2 := (m3.alloc (by omega) _).grown hgr2 (by simp; omega) (fun g hg => (m2.lt g hg).1)
    have d0 := q1.cell 0 (v := .slice A out.length c) rfl
    have y0 := q1.frozen 0
    have HF := Lib.hid (And.intro q1 (And.intro hown2 m5)); clear m1 m2 m3 m4 m5 q1 hown2 hgr2 hat2
    go_wp2_with fail
    go_end0
    refine ⟨rfl, ⟨A2, c2, ?_, HF.out.2.1.setCell _ _ (own_ne_ty HF.out.2.1 HF.out.1 (by decide)), r3⟩, hbl2.setCell r3 _, HF.out.2.2.set _⟩
    have := HF.out.1.set_ 0 (.slice A2 (out.length + 1) c2)
    rw [List.length_append]
    simpa [HE.out] using this

set_option maxHeartbeats 1600000 in
set_option maxRecDepth 100000 in
theorem values_any (R base B vc : Nat) (V : Option Addr) (l : List (Int × Int)) (out : List U64) (e : Int) (w : World) (hv : At w B V l) (hB : B ≤ base) (h : Wr w base R out e) (hlen : out.length + l.length ≤ 5000000) :
    Calls Tryz.prog 140 #[.pointer (some ⟨R, 0, none⟩), .slice V l.length vc] w fun en w' => en = .returned (.tuple #[]) ∧ Wr w' base R (out ++ valsW bx l) (errFrom bx e l) ∧ Below base w w' ∧ Keeps R w w' := by
  have hl := h.lt
  have HV := Lib.hid (And.intro hv h); clear hv h
  go_enter Tryz.func140, Tryz.ntmps140
  go_wp2_with fail
  refine (numbers_new R base w.heap.size 1 _ [(l.length : Int)] out e w rfl rfl rfl (by intro x hx; simp at hx; subst hx; unfold I64; omega) HV.out.2 (by omega)).mono ?_
  rintro en w1 ⟨rfl, hW1, hb1, hk1⟩
  have H1 := Lib.hid (And.intro hW1 hk1); clear hW1 hk1
  go_wp2_with fail
  go_loopg [13] (l.length) (fun gk iv wr => ∃ (k : Nat) (o1 : List U64) (e1 : Int), k ≤ l.length ∧ gk = l.length - k ∧ iv = .int .i64 k ∧ o1.length ≤ out.length + 1 + k ∧ Hid (o1 = out ++ wd l.length :: (l.take k).map (boxW bx) ∧ e1 = errFrom bx e (l.take k) ∧ Wr wr base R o1 e1 ∧ Keeps R w wr) ∧ Below base w wr)
  case atStart => exact ⟨0, out ++ [wd l.length], e, Nat.zero_le _, rfl, rfl, by simp, ⟨by simp, rfl, H1.out⟩, hb1⟩
  case round =>
    obtain ⟨k, o1, e1, hk, rfl, rfl, ho1, hkeep, hbl⟩ := hrel
    have hlt1 := hkeep.out.2.2.1.lt
    by_cases hlt : k < l.length
    · obtain ⟨b, o, x, y, rfl, hb, hx, hox, hoy, c0, c1⟩ := (HV.out.1.below (hbl.mono hB)).pairW hlt
      have hms := map_snoc (boxW bx) l k _ hx
      have hes := errFrom_snoc bx e l k _ hx
      have HX := Lib.hid (And.intro hms (And.intro hes hkeep.out)); clear hms hes hx hkeep
      go_wp2_with fail
      refine (value_any R base x y o1 e1 _ hox hoy (HX.out.2.2.2.2.1.alloc _) (by omega)).mono ?_
      rintro en w2 ⟨rfl, hW2, hb2, hk2⟩
      have hk3 := (HX.out.2.2.2.2.2.alloc (.cells #[.int .i64 x, .int .i64 y] 48)).trans hk2
      have hbl2 : Below base w w2 := (hbl.alloc (by omega) _).trans hb2
      have hl2 : (o1 ++ [boxW bx (x, y)]).length ≤ out.length + 1 + (k + 1) := by rw [List.length_append, List.length_singleton]; omega
      have heq : o1 ++ [boxW bx (x, y)] = out ++ wd l.length :: (l.take (k + 1)).map (boxW bx) := by rw [HX.out.1, HX.out.2.2.1]; simp
      have heq2 : (if e1 = 0 then (bx (x, y)).2 else e1) = errFrom bx e (l.take (k + 1)) := by rw [HX.out.2.1, HX.out.2.2.2.1]
      have HF := Lib.hid (And.intro hW2 (And.intro heq (And.intro heq2 (And.intro hl2 hk3)))); clear hW2 heq heq2 hl2 hk2 hk3
      go_wp2_with fail
      go_roundg (l.length - (k + 1))
      case measure => omega
      case rel => exact ⟨k + 1, _, _, by omega, rfl, by go_num, HF.out.2.2.2.1, ⟨HF.out.2.1, HF.out.2.2.1, HF.out.1, HF.out.2.2.2.2⟩, hbl2⟩
    · obtain ⟨k1, k2, k3⟩ := hkeep.out
      rw [List.take_of_length_le (by omega)] at k1 k2
      subst k1 k2
      have HK := Lib.hid k3; clear k3 hkeep
      go_wp2_with fail
      go_end0
      exact ⟨rfl, HK.out.1, hbl, HK.out.2⟩

end Go.Proofs.YtdlcooplllimeaaGreatDoor
