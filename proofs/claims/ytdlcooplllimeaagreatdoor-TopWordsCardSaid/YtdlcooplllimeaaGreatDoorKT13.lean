/- KT: TopB, CtF, ClnC, KpA, KpB, RgA, RgB, CtG, RgC, RgD, CdH, CdA, CdB, CdC. -/
import Derived.Test.YtdlcooplllimeaaGreatDoorKT1
import Derived.Test.YtdlcooplllimeaaGreatDoorKT5
import Derived.Test.YtdlcooplllimeaaGreatDoorKT6
import Derived.Test.YtdlcooplllimeaaGreatDoorKT8
import Derived.Test.YtdlcooplllimeaaGreatDoorKT10
import Derived.Test.YtdlcooplllimeaaGreatDoorKT11
import Derived.Test.YtdlcooplllimeaaGreatDoorKT12
import Derived.Handy
import Derived.BigQuiet
import Derived.Deep.DrawnRows
import Derived.Deep.DeepCutAuto
import Derived.Deep.CutRange
import Derived.Deep.CutBlock
import Derived.Deep.DeepMust
import Derived.StillTailTactics
import Derived.Shelf.GgClosure.Gives
import Derived.IntWalk
/- What the walks of the top laws import. -/
namespace Go.Proofs.YtdlcooplllimeaaGreatDoor
end Go.Proofs.YtdlcooplllimeaaGreatDoor

/- slices.IndexFunc, slices.ContainsFunc with a test told from one side: what is found nowhere holds of none. -/
namespace Go.Proofs.YtdlcooplllimeaaGreatDoor
open Go.RowKit

attribute [local go_sem ↓] Go.wp_at_zero Go.wp_at_succ

theorem At.pairT {w : World} {B : Nat} {A : Option Addr} {l : List (Int × Int)} {k : Nat} (h : At w B A l) (hk : k < l.length) :
    ∃ b o x, A = some ⟨b, o, none⟩ ∧ b < B ∧ l[k]? = some x ∧ w.cell? ⟨b, o + k * 2, none⟩ = some (.int .i64 x.1) ∧ w.cell? ⟨b, o + k * 2 + 1, none⟩ = some (.int .i64 x.2) ∧ I64 x.1 ∧ I64 x.2 := by
  obtain ⟨x, hx⟩ : ∃ x, l[k]? = some x := ⟨l[k], List.getElem?_eq_getElem hk⟩
  obtain ⟨b, o, cs, rfl, hb, hc, rfl, h1, h2⟩ := h k x hx
  exact ⟨b, o, x, rfl, hb, hx, hc 0 _ rfl, hc 1 _ rfl, h1, h2⟩
theorem At.strT {w : World} {B : Nat} {A : Option Addr} {l : List ByteArray} {k : Nat} (h : At w B A l) (hk : k < l.length) :
    ∃ b o x, A = some ⟨b, o, none⟩ ∧ b < B ∧ l[k]? = some x ∧ w.cell? ⟨b, o + k, none⟩ = some (.string x) ∧ x.size ≤ maxLen := by
  obtain ⟨x, hx⟩ : ∃ x, l[k]? = some x := ⟨l[k], List.getElem?_eq_getElem hk⟩
  obtain ⟨b, o, cs, rfl, hb, hc, rfl, h1⟩ := h k x hx
  have := hc 0 _ rfl
  rw [show o + k * Enc.sz ByteArray + 0 = o + k from by show o + k * 1 + 0 = o + k; omega] at this
  exact ⟨b, o, x, rfl, hb, hx, this, h1⟩
theorem At.intT {w : World} {B : Nat} {A : Option Addr} {l : List Int} {k : Nat} (h : At w B A l) (hk : k < l.length) :
    ∃ b o x, A = some ⟨b, o, none⟩ ∧ b < B ∧ l[k]? = some x ∧ w.cell? ⟨b, o + k, none⟩ = some (.int .i64 x) ∧ I64 x := by
  obtain ⟨x, hx⟩ : ∃ x, l[k]? = some x := ⟨l[k], List.getElem?_eq_getElem hk⟩
  obtain ⟨b, o, cs, rfl, hb, hc, rfl, h1⟩ := h k x hx
  have := hc 0 _ rfl
  rw [show o + k * Enc.sz Int + 0 = o + k from by show o + k * 1 + 0 = o + k; omega] at this
  exact ⟨b, o, x, rfl, hb, hx, this, h1⟩
namespace Top
theorem all_stepT {α : Type} {l : List α} {k : Nat} {x : α} {Q : α → Prop} (h : ∀ y ∈ l.take k, Q y) (hx : l[k]? = some x) (hq : Q x) : ∀ y ∈ l.take (k + 1), Q y := by
  intro y hy
  rw [List.take_add_one, hx] at hy
  rcases List.mem_append.1 hy with hy | hy
  · exact h y hy
  · simp at hy; subst hy; exact hq

set_option maxHeartbeats 800000 in
set_option maxRecDepth 100000 in
theorem idxFVal_any (A : Option Addr) (c B g n : Nat) (lb : Array Value) (l : List (Int × Int)) (w : World) (Q : (Int × Int) → Prop) (hn : l.length = n) (h : At w B A l) (hB : B ≤ w.heap.size) (hl : n ≤ 9223372036854775807)
    (eg : ∀ args w, (callFunc g args).run Tryz.prog w = .ok (.enter g args) w) (hp : ∀ V, Below w.heap.size w V → ∀ x ∈ l, I64 x.1 → I64 x.2 → Calls Tryz.prog g (#[.agg #[.int .i64 x.1, .int .i64 x.2]] ++ lb) V fun e V' => ∃ b : Bool, e = .returned (.bool b) ∧ (b = false → Q x) ∧ Below V.heap.size V V') :
    Calls Tryz.prog 131 #[.slice A n c, .func (.func g) #[] lb] w fun e w' => ∃ r : Int, e = .returned (.int .i64 r) ∧ (r < 0 → ∀ x ∈ l, Q x) ∧ Below w.heap.size w w' := by
  have H := Lib.hid (And.intro h hn); clear h hn
  have HP := Lib.hid hp; clear hp
  have HE := Lib.hid eg
  go_enter Tryz.func131, Tryz.ntmps131
  go_wp2
  go_loopg [8] n (fun gk i wr => ∃ k : Nat, k ≤ n ∧ gk = n - k ∧ i = .int .i64 k ∧ Hid (∀ x ∈ l.take k, Q x) ∧ Below w.heap.size w wr)
  case atStart => exact ⟨0, Nat.zero_le _, rfl, rfl, by simp [Hid], Below.refl _ _⟩
  case round =>
    obtain ⟨k, hk, rfl, rfl, hno, hbl⟩ := hrel
    have hsz := hbl.size
    by_cases hlt : k < n
    · obtain ⟨b, o, x, rfl, hb, hx, q0, q1, i0, i1⟩ := (H.out.1.below (hbl.mono hB)).pairT (k := k) (by have := H.out.2; omega)
      have hk0 : (0 : Int) ≤ (k : Int) := by omega
      have hk1 : (k : Int) < (n : Int) := by omega
      have hcall := HP.out wr hbl x (List.mem_of_getElem? hx) i0 i1
      have HX := Lib.hid (And.intro hx hcall); clear hx hcall
      go_wp2_with (go_at_fn g; refine Calls.mono HX.out.2 ?_; rintro e w' ⟨bb, rfl, hq, hb'⟩; have HQ := Lib.hid hq; clear hq; cases bb)
      · go_wp2_with fail
        go_roundg (n - (k + 1))
        case measure => omega
        case rel => exact ⟨k + 1, by omega, rfl, by go_num, by unfold Hid; exact all_stepT hno.out HX.out.1 (HQ.out (by simp)), hbl.trans (hb'.mono hsz)⟩
      · go_wp2_with fail
        go_ret
        exact ⟨k, rfl, fun h => by omega, hbl.trans (hb'.mono hsz)⟩
    · go_wp2
      go_ret
      exact ⟨-1, rfl, fun _ => by have h1 := hno.out; rw [List.take_of_length_le (by have := H.out.2; omega)] at h1; exact h1, hbl⟩
set_option maxRecDepth 100000 in
theorem ctFVal_any (A : Option Addr) (c B g n : Nat) (lb : Array Value) (l : List (Int × Int)) (w : World) (Q : (Int × Int) → Prop) (hn : l.length = n) (h : At w B A l) (hB : B ≤ w.heap.size) (hl : n ≤ 9223372036854775807)
    (eg : ∀ args w, (callFunc g args).run Tryz.prog w = .ok (.enter g args) w) (hp : ∀ V, Below w.heap.size w V → ∀ x ∈ l, I64 x.1 → I64 x.2 → Calls Tryz.prog g (#[.agg #[.int .i64 x.1, .int .i64 x.2]] ++ lb) V fun e V' => ∃ b : Bool, e = .returned (.bool b) ∧ (b = false → Q x) ∧ Below V.heap.size V V') :
    Calls Tryz.prog 79 #[.slice A n c, .func (.func g) #[] lb] w fun e w' => ∃ b : Bool, e = .returned (.bool b) ∧ (b = false → ∀ x ∈ l, Q x) ∧ Below w.heap.size w w' := by
  have hc := idxFVal_any A c B g n lb l w Q hn h hB hl eg hp
  have H := Lib.hid hc; clear hc hp h hn
  go_enter Tryz.func79, Tryz.ntmps79
  go_wp2_with fail
  refine H.out.mono ?_
  rintro e w1 ⟨r, rfl, hr, hb⟩
  have HR := Lib.hid hr; clear hr
  go_wp2_with fail
  go_returns
  exact ⟨_, rfl, fun h => HR.out (by simpa using h), hb⟩
set_option maxHeartbeats 800000 in
set_option maxRecDepth 100000 in
theorem idxFShape_any (A : Option Addr) (c B g n : Nat) (lb : Array Value) (l : List (Int × Int)) (w : World) (Q : (Int × Int) → Prop) (hn : l.length = n) (h : At w B A l) (hB : B ≤ w.heap.size) (hl : n ≤ 9223372036854775807)
    (eg : ∀ args w, (callFunc g args).run Tryz.prog w = .ok (.enter g args) w) (hp : ∀ V, Below w.heap.size w V → ∀ x ∈ l, I64 x.1 → I64 x.2 → Calls Tryz.prog g (#[.agg #[.int .i64 x.1, .int .i64 x.2]] ++ lb) V fun e V' => ∃ b : Bool, e = .returned (.bool b) ∧ (b = false → Q x) ∧ Below V.heap.size V V') :
    Calls Tryz.prog 123 #[.slice A n c, .func (.func g) #[] lb] w fun e w' => ∃ r : Int, e = .returned (.int .i64 r) ∧ (r < 0 → ∀ x ∈ l, Q x) ∧ Below w.heap.size w w' := by
  have H := Lib.hid (And.intro h hn); clear h hn
  have HP := Lib.hid hp; clear hp
  have HE := Lib.hid eg
  go_enter Tryz.func123, Tryz.ntmps123
  go_wp2
  go_loopg [8] n (fun gk i wr => ∃ k : Nat, k ≤ n ∧ gk = n - k ∧ i = .int .i64 k ∧ Hid (∀ x ∈ l.take k, Q x) ∧ Below w.heap.size w wr)
  case atStart => exact ⟨0, Nat.zero_le _, rfl, rfl, by simp [Hid], Below.refl _ _⟩
  case round =>
    obtain ⟨k, hk, rfl, rfl, hno, hbl⟩ := hrel
    have hsz := hbl.size
    by_cases hlt : k < n
    · obtain ⟨b, o, x, rfl, hb, hx, q0, q1, i0, i1⟩ := (H.out.1.below (hbl.mono hB)).pairT (k := k) (by have := H.out.2; omega)
      have hk0 : (0 : Int) ≤ (k : Int) := by omega
      have hk1 : (k : Int) < (n : Int) := by omega
      have hcall := HP.out wr hbl x (List.mem_of_getElem? hx) i0 i1
      have HX := Lib.hid (And.intro hx hcall); clear hx hcall
      go_wp2_with (go_at_fn g; refine Calls.mono HX.out.2 ?_; rintro e w' ⟨bb, rfl, hq, hb'⟩; have HQ := Lib.hid hq; clear hq; cases bb)
      · go_wp2_with fail
        go_roundg (n - (k + 1))
        case measure => omega
        case rel => exact ⟨k + 1, by omega, rfl, by go_num, by unfold Hid; exact all_stepT hno.out HX.out.1 (HQ.out (by simp)), hbl.trans (hb'.mono hsz)⟩
      · go_wp2_with fail
        go_ret
        exact ⟨k, rfl, fun h => by omega, hbl.trans (hb'.mono hsz)⟩
    · go_wp2
      go_ret
      exact ⟨-1, rfl, fun _ => by have h1 := hno.out; rw [List.take_of_length_le (by have := H.out.2; omega)] at h1; exact h1, hbl⟩
set_option maxRecDepth 100000 in
theorem ctFShape_any (A : Option Addr) (c B g n : Nat) (lb : Array Value) (l : List (Int × Int)) (w : World) (Q : (Int × Int) → Prop) (hn : l.length = n) (h : At w B A l) (hB : B ≤ w.heap.size) (hl : n ≤ 9223372036854775807)
    (eg : ∀ args w, (callFunc g args).run Tryz.prog w = .ok (.enter g args) w) (hp : ∀ V, Below w.heap.size w V → ∀ x ∈ l, I64 x.1 → I64 x.2 → Calls Tryz.prog g (#[.agg #[.int .i64 x.1, .int .i64 x.2]] ++ lb) V fun e V' => ∃ b : Bool, e = .returned (.bool b) ∧ (b = false → Q x) ∧ Below V.heap.size V V') :
    Calls Tryz.prog 74 #[.slice A n c, .func (.func g) #[] lb] w fun e w' => ∃ b : Bool, e = .returned (.bool b) ∧ (b = false → ∀ x ∈ l, Q x) ∧ Below w.heap.size w w' := by
  have hc := idxFShape_any A c B g n lb l w Q hn h hB hl eg hp
  have H := Lib.hid hc; clear hc hp h hn
  go_enter Tryz.func74, Tryz.ntmps74
  go_wp2_with fail
  refine H.out.mono ?_
  rintro e w1 ⟨r, rfl, hr, hb⟩
  have HR := Lib.hid hr; clear hr
  go_wp2_with fail
  go_returns
  exact ⟨_, rfl, fun h => HR.out (by simpa using h), hb⟩
set_option maxHeartbeats 800000 in
set_option maxRecDepth 100000 in
theorem idxFStr_any (A : Option Addr) (c B g n : Nat) (lb : Array Value) (l : List ByteArray) (w : World) (Q : ByteArray → Prop) (hn : l.length = n) (h : At w B A l) (hB : B ≤ w.heap.size) (hl : n ≤ 9223372036854775807)
    (eg : ∀ args w, (callFunc g args).run Tryz.prog w = .ok (.enter g args) w) (hp : ∀ V, Below w.heap.size w V → ∀ x ∈ l, x.size ≤ maxLen → Calls Tryz.prog g (#[.string x] ++ lb) V fun e V' => ∃ b : Bool, e = .returned (.bool b) ∧ (b = false → Q x) ∧ Below V.heap.size V V') :
    Calls Tryz.prog 146 #[.slice A n c, .func (.func g) #[] lb] w fun e w' => ∃ r : Int, e = .returned (.int .i64 r) ∧ (r < 0 → ∀ x ∈ l, Q x) ∧ Below w.heap.size w w' := by
  have H := Lib.hid (And.intro h hn); clear h hn
  have HP := Lib.hid hp; clear hp
  have HE := Lib.hid eg
  go_enter Tryz.func146, Tryz.ntmps146
  go_wp2
  go_loopg [8] n (fun gk i wr => ∃ k : Nat, k ≤ n ∧ gk = n - k ∧ i = .int .i64 k ∧ Hid (∀ x ∈ l.take k, Q x) ∧ Below w.heap.size w wr)
  case atStart => exact ⟨0, Nat.zero_le _, rfl, rfl, by simp [Hid], Below.refl _ _⟩
  case round =>
    obtain ⟨k, hk, rfl, rfl, hno, hbl⟩ := hrel
    have hsz := hbl.size
    by_cases hlt : k < n
    · obtain ⟨b, o, x, rfl, hb, hx, q0, i0⟩ := (H.out.1.below (hbl.mono hB)).strT (k := k) (by have := H.out.2; omega)
      have hk0 : (0 : Int) ≤ (k : Int) := by omega
      have hk1 : (k : Int) < (n : Int) := by omega
      have hcall := HP.out wr hbl x (List.mem_of_getElem? hx) i0
      have HX := Lib.hid (And.intro hx hcall); clear hx hcall
      go_wp2_with (go_at_fn g; refine Calls.mono HX.out.2 ?_; rintro e w' ⟨bb, rfl, hq, hb'⟩; have HQ := Lib.hid hq; clear hq; cases bb)
      · go_wp2_with fail
        go_roundg (n - (k + 1))
        case measure => omega
        case rel => exact ⟨k + 1, by omega, rfl, by go_num, by unfold Hid; exact all_stepT hno.out HX.out.1 (HQ.out (by simp)), hbl.trans (hb'.mono hsz)⟩
      · go_wp2_with fail
        go_ret
        exact ⟨k, rfl, fun h => by omega, hbl.trans (hb'.mono hsz)⟩
    · go_wp2
      go_ret
      exact ⟨-1, rfl, fun _ => by have h1 := hno.out; rw [List.take_of_length_le (by have := H.out.2; omega)] at h1; exact h1, hbl⟩
set_option maxRecDepth 100000 in
theorem ctFStr_any (A : Option Addr) (c B g n : Nat) (lb : Array Value) (l : List ByteArray) (w : World) (Q : ByteArray → Prop) (hn : l.length = n) (h : At w B A l) (hB : B ≤ w.heap.size) (hl : n ≤ 9223372036854775807)
    (eg : ∀ args w, (callFunc g args).run Tryz.prog w = .ok (.enter g args) w) (hp : ∀ V, Below w.heap.size w V → ∀ x ∈ l, x.size ≤ maxLen → Calls Tryz.prog g (#[.string x] ++ lb) V fun e V' => ∃ b : Bool, e = .returned (.bool b) ∧ (b = false → Q x) ∧ Below V.heap.size V V') :
    Calls Tryz.prog 111 #[.slice A n c, .func (.func g) #[] lb] w fun e w' => ∃ b : Bool, e = .returned (.bool b) ∧ (b = false → ∀ x ∈ l, Q x) ∧ Below w.heap.size w w' := by
  have hc := idxFStr_any A c B g n lb l w Q hn h hB hl eg hp
  have H := Lib.hid hc; clear hc hp h hn
  go_enter Tryz.func111, Tryz.ntmps111
  go_wp2_with fail
  refine H.out.mono ?_
  rintro e w1 ⟨r, rfl, hr, hb⟩
  have HR := Lib.hid hr; clear hr
  go_wp2_with fail
  go_returns
  exact ⟨_, rfl, fun h => HR.out (by simpa using h), hb⟩
set_option maxHeartbeats 800000 in
set_option maxRecDepth 100000 in
theorem idxFInt_any (A : Option Addr) (c B g n : Nat) (lb : Array Value) (l : List Int) (w : World) (Q : Int → Prop) (hn : l.length = n) (h : At w B A l) (hB : B ≤ w.heap.size) (hl : n ≤ 9223372036854775807)
    (eg : ∀ args w, (callFunc g args).run Tryz.prog w = .ok (.enter g args) w) (hp : ∀ V, Below w.heap.size w V → ∀ x ∈ l, I64 x → Calls Tryz.prog g (#[.int .i64 x] ++ lb) V fun e V' => ∃ b : Bool, e = .returned (.bool b) ∧ (b = false → Q x) ∧ Below V.heap.size V V') :
    Calls Tryz.prog 169 #[.slice A n c, .func (.func g) #[] lb] w fun e w' => ∃ r : Int, e = .returned (.int .i64 r) ∧ (r < 0 → ∀ x ∈ l, Q x) ∧ Below w.heap.size w w' := by
  have H := Lib.hid (And.intro h hn); clear h hn
  have HP := Lib.hid hp; clear hp
  have HE := Lib.hid eg
  go_enter Tryz.func169, Tryz.ntmps169
  go_wp2
  go_loopg [8] n (fun gk i wr => ∃ k : Nat, k ≤ n ∧ gk = n - k ∧ i = .int .i64 k ∧ Hid (∀ x ∈ l.take k, Q x) ∧ Below w.heap.size w wr)
  case atStart => exact ⟨0, Nat.zero_le _, rfl, rfl, by simp [Hid], Below.refl _ _⟩
  case round =>
    obtain ⟨k, hk, rfl, rfl, hno, hbl⟩ := hrel
    have hsz := hbl.size
    by_cases hlt : k < n
    · obtain ⟨b, o, x, rfl, hb, hx, q0, i0⟩ := (H.out.1.below (hbl.mono hB)).intT (k := k) (by have := H.out.2; omega)
      have hk0 : (0 : Int) ≤ (k : Int) := by omega
      have hk1 : (k : Int) < (n : Int) := by omega
      have hcall := HP.out wr hbl x (List.mem_of_getElem? hx) i0
      have HX := Lib.hid (And.intro hx hcall); clear hx hcall
      go_wp2_with (go_at_fn g; refine Calls.mono HX.out.2 ?_; rintro e w' ⟨bb, rfl, hq, hb'⟩; have HQ := Lib.hid hq; clear hq; cases bb)
      · go_wp2_with fail
        go_roundg (n - (k + 1))
        case measure => omega
        case rel => exact ⟨k + 1, by omega, rfl, by go_num, by unfold Hid; exact all_stepT hno.out HX.out.1 (HQ.out (by simp)), hbl.trans (hb'.mono hsz)⟩
      · go_wp2_with fail
        go_ret
        exact ⟨k, rfl, fun h => by omega, hbl.trans (hb'.mono hsz)⟩
    · go_wp2
      go_ret
      exact ⟨-1, rfl, fun _ => by have h1 := hno.out; rw [List.take_of_length_le (by have := H.out.2; omega)] at h1; exact h1, hbl⟩
set_option maxRecDepth 100000 in
theorem ctFInt_any (A : Option Addr) (c B g n : Nat) (lb : Array Value) (l : List Int) (w : World) (Q : Int → Prop) (hn : l.length = n) (h : At w B A l) (hB : B ≤ w.heap.size) (hl : n ≤ 9223372036854775807)
    (eg : ∀ args w, (callFunc g args).run Tryz.prog w = .ok (.enter g args) w) (hp : ∀ V, Below w.heap.size w V → ∀ x ∈ l, I64 x → Calls Tryz.prog g (#[.int .i64 x] ++ lb) V fun e V' => ∃ b : Bool, e = .returned (.bool b) ∧ (b = false → Q x) ∧ Below V.heap.size V V') :
    Calls Tryz.prog 165 #[.slice A n c, .func (.func g) #[] lb] w fun e w' => ∃ b : Bool, e = .returned (.bool b) ∧ (b = false → ∀ x ∈ l, Q x) ∧ Below w.heap.size w w' := by
  have hc := idxFInt_any A c B g n lb l w Q hn h hB hl eg hp
  have H := Lib.hid hc; clear hc hp h hn
  go_enter Tryz.func165, Tryz.ntmps165
  go_wp2_with fail
  refine H.out.mono ?_
  rintro e w1 ⟨r, rfl, hr, hb⟩
  have HR := Lib.hid hr; clear hr
  go_wp2_with fail
  go_returns
  exact ⟨_, rfl, fun h => HR.out (by simpa using h), hb⟩
set_option maxHeartbeats 800000 in
set_option maxRecDepth 100000 in
theorem idxFEnd_any (A : Option Addr) (c B g n : Nat) (lb : Array Value) (l : List En) (w : World) (Q : En → Prop) (hn : l.length = n) (h : At w B A l) (hB : B ≤ w.heap.size) (hl : n ≤ 9223372036854775807)
    (eg : ∀ args w, (callFunc g args).run Tryz.prog w = .ok (.enter g args) w) (hp : ∀ V, Below w.heap.size w V → ∀ x ∈ l, I64 x.cell → I64 x.fn.1 → I64 x.fn.2 → Calls Tryz.prog g (#[.agg #[.int .i64 x.cell, .int .i64 x.fn.1, .int .i64 x.fn.2]] ++ lb) V fun e V' => ∃ b : Bool, e = .returned (.bool b) ∧ (b = false → Q x) ∧ Below V.heap.size V V') :
    Calls Tryz.prog 132 #[.slice A n c, .func (.func g) #[] lb] w fun e w' => ∃ r : Int, e = .returned (.int .i64 r) ∧ (r < 0 → ∀ x ∈ l, Q x) ∧ Below w.heap.size w w' := by
  have H := Lib.hid (And.intro h hn); clear h hn
  have HP := Lib.hid hp; clear hp
  have HE := Lib.hid eg
  go_enter Tryz.func132, Tryz.ntmps132
  go_wp2
  go_loopg [8] n (fun gk i wr => ∃ k : Nat, k ≤ n ∧ gk = n - k ∧ i = .int .i64 k ∧ Hid (∀ x ∈ l.take k, Q x) ∧ Below w.heap.size w wr)
  case atStart => exact ⟨0, Nat.zero_le _, rfl, rfl, by simp [Hid], Below.refl _ _⟩
  case round =>
    obtain ⟨k, hk, rfl, rfl, hno, hbl⟩ := hrel
    have hsz := hbl.size
    by_cases hlt : k < n
    · obtain ⟨b, o, x, rfl, hb, hx, q0, q1, q2, i0, i1, i2⟩ := (H.out.1.below (hbl.mono hB)).en_ (k := k) (by have := H.out.2; omega)
      have hk0 : (0 : Int) ≤ (k : Int) := by omega
      have hk1 : (k : Int) < (n : Int) := by omega
      have hcall := HP.out wr hbl x (List.mem_of_getElem? hx) i0 i1 i2
      have HX := Lib.hid (And.intro hx hcall); clear hx hcall
      go_wp2_with (go_at_fn g; refine Calls.mono HX.out.2 ?_; rintro e w' ⟨bb, rfl, hq, hb'⟩; have HQ := Lib.hid hq; clear hq; cases bb)
      · go_wp2_with fail
        go_roundg (n - (k + 1))
        case measure => omega
        case rel => exact ⟨k + 1, by omega, rfl, by go_num, by unfold Hid; exact all_stepT hno.out HX.out.1 (HQ.out (by simp)), hbl.trans (hb'.mono hsz)⟩
      · go_wp2_with fail
        go_ret
        exact ⟨k, rfl, fun h => by omega, hbl.trans (hb'.mono hsz)⟩
    · go_wp2
      go_ret
      exact ⟨-1, rfl, fun _ => by have h1 := hno.out; rw [List.take_of_length_le (by have := H.out.2; omega)] at h1; exact h1, hbl⟩
set_option maxRecDepth 100000 in
theorem ctFEnd_any (A : Option Addr) (c B g n : Nat) (lb : Array Value) (l : List En) (w : World) (Q : En → Prop) (hn : l.length = n) (h : At w B A l) (hB : B ≤ w.heap.size) (hl : n ≤ 9223372036854775807)
    (eg : ∀ args w, (callFunc g args).run Tryz.prog w = .ok (.enter g args) w) (hp : ∀ V, Below w.heap.size w V → ∀ x ∈ l, I64 x.cell → I64 x.fn.1 → I64 x.fn.2 → Calls Tryz.prog g (#[.agg #[.int .i64 x.cell, .int .i64 x.fn.1, .int .i64 x.fn.2]] ++ lb) V fun e V' => ∃ b : Bool, e = .returned (.bool b) ∧ (b = false → Q x) ∧ Below V.heap.size V V') :
    Calls Tryz.prog 82 #[.slice A n c, .func (.func g) #[] lb] w fun e w' => ∃ b : Bool, e = .returned (.bool b) ∧ (b = false → ∀ x ∈ l, Q x) ∧ Below w.heap.size w w' := by
  have hc := idxFEnd_any A c B g n lb l w Q hn h hB hl eg hp
  have H := Lib.hid hc; clear hc hp h hn
  go_enter Tryz.func82, Tryz.ntmps82
  go_wp2_with fail
  refine H.out.mono ?_
  rintro e w1 ⟨r, rfl, hr, hb⟩
  have HR := Lib.hid hr; clear hr
  go_wp2_with fail
  go_returns
  exact ⟨_, rfl, fun h => HR.out (by simpa using h), hb⟩
end Top
end Go.Proofs.YtdlcooplllimeaaGreatDoor

/- Copies of lists of pairs (R.Copy, slices.Clone): a list of their own that holds the same; bounded by the reach of the form. -/
namespace Go.Proofs.YtdlcooplllimeaaGreatDoor
open Go.RowKit

theorem pair_oneT : ∀ x : Int × Int, ∀ u ∈ Flat.cells x, u.oneCell' = true := by
  intro x u hu; simp [Flat.cells] at hu; rcases hu with rfl | rfl <;> rfl
namespace Top
theorem infoVal : (Tryz.prog.info? 48).map (fun i => (i.zero, i.size, i.bytes)) = some (some (.agg #[.int .i64 0, .int .i64 0]), 2, 16) := by kernel_rfl
theorem infoTry : (Tryz.prog.info? 200).map (fun i => (i.zero, i.size, i.bytes)) = some (some (.agg #[.int .i64 0, .int .i64 0]), 2, 16) := by kernel_rfl
theorem infoShape : (Tryz.prog.info? 121).map (fun i => (i.zero, i.size, i.bytes)) = some (some (.agg #[.int .i64 0, .int .i64 0]), 2, 16) := by kernel_rfl

theorem copyVal_any (A : Option Addr) (c B : Nat) (l : List (Int×Int)) (w : World) (h : At w B A l) (hl : l.length * 16 ≤ 140737488355328) :
    Calls Tryz.prog 58 #[.slice A l.length c] w (Copied 48 l w) := by
  obtain ⟨i0, hi, hz0, hz1, hz2⟩ := info_parts infoVal
  have H := Lib.hid h; clear h
  go_enter Tryz.func58, Tryz.ntmps58
  go_wp2_with (at_builtin; go_must (refine wpList_app (α := Int×Int) (n := 0) rfl (.const (.slice none 0 0)) (.tmp 3) _ rfl w.heap.size 48 i0 _ 16 Tryz.underlying23 hi hz0 hz1 hz2 rfl (by decide) pair_oneT (by rfl) rfl Own.nil_ (by rfl) H.out rfl (by omega) (by simp only [maxLen]; omega) (Nat.le_refl _) ?_); intro A1 c1 w1 hown hgr hat)
  go_ret
  exact ⟨A1, c1, by simp, by simpa using hown, (Below.refl _ _).grown hgr (Nat.le_refl _) (by simp [rowOf])⟩

theorem cloneVal_any (A : Option Addr) (c B : Nat) (l : List (Int×Int)) (w : World) (h : At w B A l) (hB : B ≤ w.heap.size) (hl : l.length * 16 ≤ 140737488355328) :
    Calls Tryz.prog 104 #[.slice A l.length c] w (Copied 48 l w) := by
  obtain ⟨i0, hi, hz0, hz1, hz2⟩ := info_parts infoVal
  cases A with
  | none =>
    have hnil : l = [] := by
      rcases l with _ | ⟨x, l⟩
      · rfl
      · obtain ⟨b, o, cs, hA, -⟩ := h 0 x rfl
        cases hA
    subst hnil
    have heq := fun w => run_eql_nil_slice w 23 48 none 0 c 0 0 Tryz.underlying23
    have heq2 := fun w => Lib.run_eql_slice_nil w 23 48 none 0 c 0 0 Tryz.underlying23
    go_enter Tryz.func104, Tryz.ntmps104
    go_wp2
    go_ret
    exact ⟨none, 0, rfl, Own.nil_, Below.refl _ _⟩
  | some a =>
    have heq2 := fun w => Lib.run_eql_slice_nil w 23 48 (some a) l.length c 0 0 Tryz.underlying23
    have H := Lib.hid h; clear h
    go_enter Tryz.func104, Tryz.ntmps104
    go_wp2_with (at_builtin; go_must (refine wpList_app (α := Int×Int) (n := 0) rfl (.tmp 5) (.tmp 6) _ rfl w.heap.size 48 i0 _ 16 Tryz.underlying23 hi hz0 hz1 hz2 rfl (by decide) pair_oneT (by rfl) rfl (own_new0 w _ _ _ rfl (Nat.le_refl _)) (by rfl) ((H.out).keep (fun p hp => World.cell?_alloc_lt w _ p (by omega))) rfl (by omega) (by simp only [maxLen]; omega) (by simp) ?_); intro A1 c1 w1 hown hgr hat)
    go_ret
    exact ⟨A1, c1, by simp, by simpa using hown, ((Below.refl _ _).alloc (Nat.le_refl _) _).grown hgr (by simp) (by simp [rowOf])⟩

theorem cloneTry_any (A : Option Addr) (c B : Nat) (l : List (Int×Int)) (w : World) (h : At w B A l) (hB : B ≤ w.heap.size) (hl : l.length * 16 ≤ 140737488355328) :
    Calls Tryz.prog 145 #[.slice A l.length c] w (Copied 200 l w) := by
  obtain ⟨i0, hi, hz0, hz1, hz2⟩ := info_parts infoTry
  cases A with
  | none =>
    have hnil : l = [] := by
      rcases l with _ | ⟨x, l⟩
      · rfl
      · obtain ⟨b, o, cs, hA, -⟩ := h 0 x rfl
        cases hA
    subst hnil
    have heq := fun w => run_eql_nil_slice w 139 200 none 0 c 0 0 Tryz.underlying139
    have heq2 := fun w => Lib.run_eql_slice_nil w 139 200 none 0 c 0 0 Tryz.underlying139
    go_enter Tryz.func145, Tryz.ntmps145
    go_wp2
    go_ret
    exact ⟨none, 0, rfl, Own.nil_, Below.refl _ _⟩
  | some a =>
    have heq2 := fun w => Lib.run_eql_slice_nil w 139 200 (some a) l.length c 0 0 Tryz.underlying139
    have H := Lib.hid h; clear h
    go_enter Tryz.func145, Tryz.ntmps145
    go_wp2_with (at_builtin; go_must (refine wpList_app (α := Int×Int) (n := 0) rfl (.tmp 5) (.tmp 6) _ rfl w.heap.size 200 i0 _ 16 Tryz.underlying139 hi hz0 hz1 hz2 rfl (by decide) pair_oneT (by rfl) rfl (own_new0 w _ _ _ rfl (Nat.le_refl _)) (by rfl) ((H.out).keep (fun p hp => World.cell?_alloc_lt w _ p (by omega))) rfl (by omega) (by simp only [maxLen]; omega) (by simp) ?_); intro A1 c1 w1 hown hgr hat)
    go_ret
    exact ⟨A1, c1, by simp, by simpa using hown, ((Below.refl _ _).alloc (Nat.le_refl _) _).grown hgr (by simp) (by simp [rowOf])⟩

theorem cloneShape_any (A : Option Addr) (c B : Nat) (l : List (Int×Int)) (w : World) (h : At w B A l) (hB : B ≤ w.heap.size) (hl : l.length * 16 ≤ 140737488355328) :
    Calls Tryz.prog 100 #[.slice A l.length c] w (Copied 121 l w) := by
  obtain ⟨i0, hi, hz0, hz1, hz2⟩ := info_parts infoShape
  cases A with
  | none =>
    have hnil : l = [] := by
      rcases l with _ | ⟨x, l⟩
      · rfl
      · obtain ⟨b, o, cs, hA, -⟩ := h 0 x rfl
        cases hA
    subst hnil
    have heq := fun w => run_eql_nil_slice w 28 121 none 0 c 0 0 Tryz.underlying28
    have heq2 := fun w => Lib.run_eql_slice_nil w 28 121 none 0 c 0 0 Tryz.underlying28
    go_enter Tryz.func100, Tryz.ntmps100
    go_wp2
    go_ret
    exact ⟨none, 0, rfl, Own.nil_, Below.refl _ _⟩
  | some a =>
    have heq2 := fun w => Lib.run_eql_slice_nil w 28 121 (some a) l.length c 0 0 Tryz.underlying28
    have H := Lib.hid h; clear h
    go_enter Tryz.func100, Tryz.ntmps100
    go_wp2_with (at_builtin; go_must (refine wpList_app (α := Int×Int) (n := 0) rfl (.tmp 5) (.tmp 6) _ rfl w.heap.size 121 i0 _ 16 Tryz.underlying28 hi hz0 hz1 hz2 rfl (by decide) pair_oneT (by rfl) rfl (own_new0 w _ _ _ rfl (Nat.le_refl _)) (by rfl) ((H.out).keep (fun p hp => World.cell?_alloc_lt w _ p (by omega))) rfl (by omega) (by simp only [maxLen]; omega) (by simp) ?_); intro A1 c1 w1 hown hgr hat)
    go_ret
    exact ⟨A1, c1, by simp, by simpa using hown, ((Below.refl _ _).alloc (Nat.le_refl _) _).grown hgr (by simp) (by simp [rowOf])⟩

end Top
end Go.Proofs.YtdlcooplllimeaaGreatDoor

/- The top laws' own words: to which cells values refer; the values of frames. -/
namespace Go.Proofs.YtdlcooplllimeaaGreatDoor
open Go.RowKit

attribute [local go_sem ↓] Go.wp_at_zero Go.wp_at_succ

namespace Top
theorem rfs_take {l : List (Int × Int)} {k : Nat} {x : Int × Int} (hx : l[k]? = some x) : rfs (l.take (k + 1)) = rfs (l.take k) ++ (if x.1 = 5 then [x.2] else []) := by
  unfold rfs
  rw [List.take_add_one, hx, List.filter_append, List.map_append]
  congr 1
  by_cases h : x.1 = 5
  · simp [h]
  · have : (x.1 == 5) = false := by simpa using h
    simp [h, this]
theorem rfs_len (l : List (Int × Int)) : (rfs l).length ≤ l.length := by
  unfold rfs
  rw [List.length_map]
  exact List.length_filter_le _ _
set_option maxHeartbeats 800000 in
set_option maxRecDepth 100000 in
theorem rRefs_any (A : Option Addr) (c B n : Nat) (l : List (Int × Int)) (w : World) (hn : l.length = n) (h : At w B A l) (hB : B ≤ w.heap.size) (hl : n ≤ 1073741824) :
    Calls Tryz.prog 22 #[.slice A n c] w fun e w' => ∃ A' c', e = .returned (.slice A' (rfs l).length c') ∧ Own w' w.heap.size 3 A' c' (rfs l) ∧ Below w.heap.size w w' := by
  obtain ⟨i0, hi, hz0, hz1, hz2⟩ := info_parts infoInt
  have H := Lib.hid (And.intro h hn); clear h hn
  go_enter Tryz.func22, Tryz.ntmps22
  go_wp2_with fail
  go_loopg [3, 8] (n) (fun gk ov iv wr => ∃ (k : Nat) (A1 : Option Addr) (c1 : Nat), k ≤ n ∧ gk = n - k ∧ iv = .int .i64 k ∧ ov = .slice A1 (rfs (l.take k)).length c1 ∧ Hid (Own wr w.heap.size 3 A1 c1 (rfs (l.take k))) ∧ Below w.heap.size w wr)
  case atStart => exact ⟨0, none, 0, Nat.zero_le _, rfl, rfl, rfl, Own.nil_, Below.refl _ _⟩
  case round =>
    obtain ⟨k, A1, c1, hk, rfl, rfl, rfl, hkeep, hbl⟩ := hrel
    have hsz := hbl.size
    by_cases hlt : k < n
    · obtain ⟨b, o, x, rfl, hb, hx, q0, q1, i1, i2⟩ := (H.out.1.below (hbl.mono hB)).pairT (by have := H.out.2; omega : k < l.length)
      have hsn := rfs_take hx
      have hrl : (rfs (l.take k)).length ≤ k := by have := rfs_len (l.take k); rw [List.length_take] at this; omega
      go_upto_region 5 with fail
      refine wp_world (fun U => Blk U wr.heap.size 48 #[.int .i64 x.1, .int .i64 x.2] ∧ Below wr.heap.size wr U ∧ wr.heap.size + 1 ≤ U.heap.size) ⟨Blk.new _ _ _, (Below.refl _ _).alloc (Nat.le_refl _) _, by simp⟩ ?_
      rintro U ⟨hV, hbU, hsU⟩
      have hOU := hkeep.out.fresh hbU
      have hbwU : Below w.heap.size w U := hbl.trans (hbU.mono hsz)
      have v0 := hV.cell 0 (v := .int .i64 x.1) rfl
      have v1 := hV.cell 1 (v := .int .i64 x.2) rfl
      obtain ⟨yn, hyn⟩ : ∃ yn, (rfs (l.take k)).length = yn := ⟨_, rfl⟩
      rw [hyn] at hrl ⊢
      by_cases h5 : x.1 = 5
      · have d5 : (x.1 == 5) = true := by rw [h5]; rfl
        rw [if_pos h5] at hsn
        have HS := Lib.hid (And.intro hsn (And.intro hyn (And.intro hbwU i2))); clear hsn hyn hbwU i2 i1 hx h5 hkeep hbl q0 q1
        have hOa := hOU.alloc (.cells #[.int .i64 x.2] 3)
        have HO := Lib.hid hOa; clear hOU hOa
        go_wp2_with (at_builtin; go_must (refine wpList_app (α := Int) (m := 1) (B := U.heap.size + 1) (r := [x.2]) rfl (.tmp 15) (.tmp 18) _ rfl w.heap.size 3 i0 _ 8 Tryz.underlying34 hi hz0 hz1 hz2 rfl (by decide) int_one (by rfl) HS.out.2.1 HO.out (by rfl) ?_ rfl (by omega) (by simp only [maxLen]; omega) (by simp; omega) ?_))
        · exact At.built U _ _ [x.2] rfl (by intro z hz; simp at hz; subst hz; exact HS.out.2.2.2)
        intro A2 c2 w2 hown2 hgr2 hat2
        have hbl2 : Below w.heap.size w w2 := (HS.out.2.2.1.alloc (by omega) _).grown hgr2 (by simp; omega) (fun g hg => (HO.out.lt g hg).1)
        have HO2 := Lib.hid hown2; clear hown2 hgr2 hat2
        go_wp2_with fail
        go_roundg (n - (k + 1))
        case measure => omega
        case rel => exact ⟨k + 1, A2, c2, by omega, rfl, by go_num, by rw [HS.out.1, List.length_append, HS.out.2.1]; rfl, by unfold Hid; rw [HS.out.1]; exact HO2.out, hbl2⟩
      · have d5 : (x.1 == 5) = false := by simpa using h5
        rw [if_neg h5, List.append_nil] at hsn
        have HS := Lib.hid (And.intro hsn (And.intro hyn (And.intro hbwU hOU))); clear hsn hyn hbwU i2 i1 hx h5 hkeep hbl q0 q1 hOU
        go_wp2_with fail
        go_roundg (n - (k + 1))
        case measure => omega
        case rel => exact ⟨k + 1, A1, c1, by omega, rfl, by go_num, by rw [HS.out.1, HS.out.2.1], by unfold Hid; rw [HS.out.1]; exact HS.out.2.2.2, HS.out.2.2.1⟩
    · have hk2 := hkeep.out
      rw [List.take_of_length_le (by have := H.out.2; omega)] at hk2
      have hk3 : l.take k = l := List.take_of_length_le (by have := H.out.2; omega)
      rw [hk3]
      have HK := Lib.hid hk2; clear hk2 hkeep hk3
      go_wp2_with fail
      go_ret
      exact ⟨A1, c1, rfl, HK.out, hbl⟩

/-! ### values of frames -/
theorem frVals_ge (l : List Fr) : l.length ≤ (frVals l).length := by
  unfold frVals
  induction l with
  | nil => simp
  | cons f l ih => rw [List.flatMap_cons, List.length_append, List.length_cons, List.length_cons]; omega
theorem frVals_take {l : List Fr} {k : Nat} {x : Fr} (hx : l[k]? = some x) : frVals (l.take (k + 1)) = (frVals (l.take k) ++ [x.self]) ++ x.regs := by
  unfold frVals
  rw [List.take_add_one, hx, List.flatMap_append]
  simp
set_option maxHeartbeats 1600000 in
set_option maxRecDepth 100000 in
theorem rFrames_any (A : Option Addr) (c B n : Nat) (l : List Fr) (w : World) (hn : l.length = n) (h : At w B A l) (hB : B ≤ w.heap.size) (hl : (frVals l).length ≤ 1073741824) :
    Calls Tryz.prog 57 #[.slice A n c] w fun e w' => ∃ A' c', e = .returned (.slice A' (frVals l).length c') ∧ Own w' w.heap.size 48 A' c' (frVals l) ∧ (∀ x ∈ frVals l, Flat.ok x) ∧ Below w.heap.size w w' := by
  obtain ⟨i0, hi, hz0, hz1, hz2⟩ := info_parts infoVal
  have hpre : ∀ k, (frVals (l.take k)).length ≤ (frVals l).length := fun k => by
    have : frVals l = frVals (l.take k) ++ frVals (l.drop k) := by unfold frVals; rw [← List.flatMap_append, List.take_append_drop]
    rw [this, List.length_append]; omega
  have hnl : n ≤ 1073741824 := by have := frVals_ge l; omega
  have H := Lib.hid (And.intro h (And.intro hn (And.intro hl hpre))); clear h hn hl hpre
  go_enter Tryz.func57, Tryz.ntmps57
  go_wp2_with fail
  go_loopg [3, 8] (n) (fun gk ov iv wr => ∃ (k : Nat) (A1 : Option Addr) (c1 : Nat), k ≤ n ∧ gk = n - k ∧ iv = .int .i64 k ∧ ov = .slice A1 (frVals (l.take k)).length c1 ∧ Hid (Own wr w.heap.size 48 A1 c1 (frVals (l.take k)) ∧ (∀ x ∈ frVals (l.take k), Flat.ok x)) ∧ Below w.heap.size w wr)
  case atStart => exact ⟨0, none, 0, Nat.zero_le _, rfl, rfl, rfl, ⟨Own.nil_, fun x hx => by simp [frVals] at hx⟩, Below.refl _ _⟩
  case round =>
    obtain ⟨k, A1, c1, hk, rfl, rfl, rfl, hkeep, hbl⟩ := hrel
    have hsz := hbl.size
    have hln := H.out.2.1
    by_cases hlt : k < n
    · obtain ⟨b, o, x, AR, cr, AT, ct, rfl, hb, hx, q0, q1, q2, q3, q4, q5, q6, q7, a1, l1, a2, l2, i0', i1, i2, i3, i4, i5⟩ := (H.out.1.below (hbl.mono hB)).fr_ (by omega : k < l.length)
      have hsn := frVals_take hx
      have hp1 := H.out.2.2.2 (k + 1)
      have hl2 := H.out.2.2.1
      rw [hsn, List.length_append, List.length_append, List.length_singleton] at hp1
      have hk0 : (0 : Int) ≤ (k : Int) := by omega
      have hk1 : (k : Int) < (n : Int) := by omega
      clear hln
      go_upto_region 5 with fail
      refine wp_world (fun U => Blk U wr.heap.size 141 #[.int .i64 x.fn, .int .i64 x.at_, .int .i64 x.fto, .int .i64 x.gen, .int .i64 x.self.1, .int .i64 x.self.2, .slice AR x.regs.length cr, .slice AT x.tries.length ct] ∧ Below wr.heap.size wr U ∧ wr.heap.size + 1 ≤ U.heap.size) ⟨Blk.new _ _ _, (Below.refl _ _).alloc (Nat.le_refl _) _, by simp⟩ ?_
      rintro U ⟨hF, hbU, hsU⟩
      have hOU := hkeep.out.1.fresh hbU
      have hbwU : Below w.heap.size w U := hbl.trans (hbU.mono hsz)
      have hAR : At U B AR x.regs := a1.below (hbU.mono (by omega))
      obtain ⟨yn, hyn⟩ : ∃ yn, (frVals (l.take k)).length = yn := ⟨_, rfl⟩
      rw [hyn] at hp1 ⊢
      replace hF : Blk U.drew wr.heap.size 141 _ := hF
      have s4 := hF.cell 4 (v := .int .i64 x.self.1) rfl
      have s5 := hF.cell 5 (v := .int .i64 x.self.2) rfl
      have s6 := hF.cell 6 (v := .slice AR x.regs.length cr) rfl
      have hFa := hF.alloc (.cells #[.int .i64 x.self.1, .int .i64 x.self.2] 48)
      have s4a := hFa.cell 4 (v := .int .i64 x.self.1) rfl
      have s5a := hFa.cell 5 (v := .int .i64 x.self.2) rfl
      have s6a := hFa.cell 6 (v := .slice AR x.regs.length cr) rfl
      have hOa : Own (U.drew.alloc (.cells #[.int .i64 x.self.1, .int .i64 x.self.2] 48)) w.heap.size 48 A1 c1 (frVals (l.take k)) := (show Own U.drew w.heap.size 48 A1 c1 (frVals (l.take k)) from hOU).alloc _
      have hua : U.heap.size + 1 ≤ (U.drew.alloc (.cells #[.int .i64 x.self.1, .int .i64 x.self.2] 48)).heap.size := Nat.le_of_eq (World.size_alloc _ _).symm
      have HUA := Lib.hid hua; clear hua
      have hsU2 : w.heap.size + 1 ≤ U.heap.size := by omega
      have hARd : At (U.drew.alloc (.cells #[.int .i64 x.self.1, .int .i64 x.self.2] 48)) B AR x.regs := (show At U.drew B AR x.regs from hAR).alloc (show B ≤ U.heap.size by omega) _
      have HU := Lib.hid (And.intro hF (And.intro hFa (And.intro hOa (And.intro hARd (And.intro hsn (And.intro hyn (And.intro hbwU (And.intro i4 (And.intro i5 hkeep.out.2))))))))); clear hF hFa hOa hAR hARd hsn hyn hbwU i4 i5 i0' i1 i2 i3 a1 a2 hOU hbU hkeep hbl hx q0 q1 q2 q3 q4 q5 q6 q7
      refine wp_region_held_drew (S := (fun w' => w'.cell? ⟨wr.heap.size, 4, none⟩ = some (.int .i64 x.self.1) ∧ w'.cell? ⟨wr.heap.size, 5, none⟩ = some (.int .i64 x.self.2) ∧ w'.cell? ⟨wr.heap.size, 6, none⟩ = some (.slice AR x.regs.length cr))) (by kernel_rfl) ?_ (fun hHeld0 => ?_)
      · first | trivial | ((try dsimp only); (first | exact ⟨s4, s5, s6⟩ | exact ⟨s4a, s5a, s6a⟩ | exact ⟨s4c, s5c, s6c⟩ | exact ⟨s4b, s5b, s6b⟩))
      refine htk 0 rfl ?_
      try go_frame
      refine htk 1 rfl ?_
      try go_frame
      refine htk 2 rfl ?_
      try go_frame
      refine htk 5 rfl ?_
      try go_frame
      refine htk 6 rfl ?_
      try go_frame
      refine held_call 3 (by kernel_rfl) rfl (fun K hK => ?_)
      go_simp
      refine hK.out _ _ ?_ (fun hHeld1 => ?_)
      · first | trivial | ((try dsimp only); (first | exact ⟨s4, s5, s6⟩ | exact ⟨s4a, s5a, s6a⟩ | exact ⟨s4c, s5c, s6c⟩ | exact ⟨s4b, s5b, s6b⟩))
      clear hK K hHeld0
      try go_frame
      refine held_call 4 (by kernel_rfl) rfl (fun K hK => ?_)
      refine step_app (α := Int × Int) (n := yn) (m := 1) (nm := yn + 1) (r := [x.self]) (by rfl) (.tmp 12) (.tmp 15) _ (by rfl) w.heap.size 48 i0 _ 16 Tryz.underlying23 hi hz0 hz1 hz2 rfl (by decide) pair_oneT (by rfl) HU.out.2.2.2.2.2.1 HU.out.2.2.1 (by rfl) (At.built U.drew _ _ [x.self] rfl (by intro z hz; simp at hz; subst hz; exact ⟨HU.out.2.2.2.2.2.2.2.1, HU.out.2.2.2.2.2.2.2.2.1⟩)) rfl rfl (by omega) (by simp only [maxLen]; omega) (by show w.heap.size ≤ (U.drew.alloc _).heap.size; simp only [World.size_alloc]; show w.heap.size ≤ U.heap.size + 1; omega) ?_; intro A2 c2 w2 hown2 hgr2 hat2; have hb2 := HU.out.2.1.grown hgr2 (own_ne_ty HU.out.2.2.1 HU.out.2.1 (by decide)); have s4b := hb2.cell 4 (v := .int .i64 x.self.1) rfl; have s5b := hb2.cell 5 (v := .int .i64 x.self.2) rfl; have s6b := hb2.cell 6 (v := .slice AR x.regs.length cr) rfl; have hat3 := HU.out.2.2.2.1.below ((Below.refl B (U.drew.alloc (.cells #[.int .i64 x.self.1, .int .i64 x.self.2] 48))).grown hgr2 (by show B ≤ (U.drew.alloc _).heap.size; simp only [World.size_alloc]; show B ≤ U.heap.size + 1; omega) (fun g hg => by have h1 := (HU.out.2.2.1.lt g hg).1; omega)); have hgs2 : U.heap.size + 1 ≤ w2.heap.size := Nat.le_trans HUA.out hgr2.size
      refine hK.out _ _ ?_ (fun hHeld2 => ?_)
      · first | trivial | ((try dsimp only); (first | exact ⟨s4, s5, s6⟩ | exact ⟨s4a, s5a, s6a⟩ | exact ⟨s4c, s5c, s6c⟩ | exact ⟨s4b, s5b, s6b⟩))
      clear hK K hHeld1
      try go_frame
      refine held_call 7 (by kernel_rfl) rfl (fun K hK => ?_)
      refine step_app (α := Int × Int) (n := yn + 1) (m := x.regs.length) (nm := yn + 1 + x.regs.length) (r := x.regs) (by rfl) (.tmp 16) (.tmp 18) _ (by rfl) w.heap.size 48 i0 _ 16 Tryz.underlying23 hi hz0 hz1 hz2 rfl (by decide) pair_oneT (by rfl) (by rw [List.length_append, HU.out.2.2.2.2.2.1]; rfl) hown2 (by rfl) hat3 rfl rfl (by omega) (by simp only [maxLen]; omega) (by omega) ?_; intro A3 c3 w3 hown3 hgr3 hat4; have hb3 := hb2.grown hgr3 (own_ne_ty hown2 hb2 (by decide)); have s4c := hb3.cell 4 (v := .int .i64 x.self.1) rfl; have s5c := hb3.cell 5 (v := .int .i64 x.self.2) rfl; have s6c := hb3.cell 6 (v := .slice AR x.regs.length cr) rfl
      refine hK.out _ _ ?_ (fun hHeld3 => ?_)
      · first | trivial | ((try dsimp only); (first | exact ⟨s4, s5, s6⟩ | exact ⟨s4a, s5a, s6a⟩ | exact ⟨s4c, s5c, s6c⟩ | exact ⟨s4b, s5b, s6b⟩))
      clear hK K hHeld2
      try go_frame
      refine htk 8 rfl ?_
      try go_frame
      refine wpAnyH_done (by kernel_rfl) ?_ _
      have hgs3 := hgr3.size
      have hblw2 : Below w.heap.size w w2 := ((HU.out.2.2.2.2.2.2.1.drew).alloc (show w.heap.size ≤ U.heap.size by omega) _).grown hgr2 (Nat.le_trans (by omega) HUA.out) (fun g hg => (HU.out.2.2.1.lt g hg).1)
      have hblw3 : Below w.heap.size w w3 := hblw2.grown hgr3 (by omega) (fun g hg => (hown2.lt g hg).1)
      have hokr : ∀ z ∈ x.regs, Flat.ok z := fun z hz => HU.out.2.2.2.1.ok_ z hz
      have HO := Lib.hid (And.intro hown3 (And.intro hblw3 hokr)); clear hown2 hown3 hgr2 hgr3 hat2 hat3 hat4 hb2 hb3 s4 s5 s6 s4a s5a s6a s4b s5b s6b s4c s5c s6c hblw2 hblw3 hokr
      go_wp2_with fail
      go_roundg (n - (k + 1))
      case measure => omega
      case rel => exact ⟨k + 1, A3, c3, by omega, rfl, by go_num, by rw [HU.out.2.2.2.2.1, List.length_append, List.length_append, HU.out.2.2.2.2.2.1]; rfl, by unfold Hid; rw [HU.out.2.2.2.2.1]; exact ⟨HO.out.1, fun z hz => (by rcases List.mem_append.1 hz with hz | hz; (rcases List.mem_append.1 hz with hz | hz; exact HU.out.2.2.2.2.2.2.2.2.2 z hz; (simp at hz; subst hz; exact ⟨HU.out.2.2.2.2.2.2.2.1, HU.out.2.2.2.2.2.2.2.2.1⟩)); exact HO.out.2.2 z hz)⟩, HO.out.2.1⟩
    · have hk2 := hkeep.out
      have hk3 : l.take k = l := List.take_of_length_le (by omega)
      rw [hk3] at hk2 ⊢
      have HK := Lib.hid hk2; clear hk2 hkeep hk3 hln
      go_wp2_with fail
      go_ret
      exact ⟨A1, c1, rfl, HK.out.1, HK.out.2, hbl⟩
end Top
end Go.Proofs.YtdlcooplllimeaaGreatDoor

/- The top laws' own words: what a cell has, what a state has from outside. -/
namespace Go.Proofs.YtdlcooplllimeaaGreatDoor
open Go.RowKit

attribute [local go_sem ↓] Go.wp_at_zero Go.wp_at_succ

namespace Top
def HasPost (c : Ce) (w : World) (e : Ending) (w' : World) : Prop := ∃ A' c', e = .returned (.slice A' (cHas c).length c') ∧ Own w' w.heap.size 48 A' c' (cHas c) ∧ (∀ x ∈ cHas c, Flat.ok x) ∧ Below w.heap.size w w'
set_option maxHeartbeats 1600000 in
set_option maxRecDepth 100000 in
theorem rHas_any (B vc fc : Nat) (VA FA : Option Addr) (c : Ce) (w : World) (hV : At w B VA c.vals) (hF : At w B FA c.frames) (hB : B ≤ w.heap.size) (hl : c.vals.length + (frVals c.frames).length ≤ 1073741824) :
    Calls Tryz.prog 23 #[.agg #[.int .i64 c.kind, .int .i64 c.num, .slice VA c.vals.length vc, .slice FA c.frames.length fc]] w (HasPost c w) := by
  obtain ⟨P, hP⟩ : ∃ P, HasPost c w = P := ⟨_, rfl⟩
  have HP := Lib.hid hP; rw [hP]; clear hP
  obtain ⟨i0, hi, hz0, hz1, hz2⟩ := info_parts infoVal
  have H := Lib.hid (And.intro hV hF); clear hV hF
  by_cases h7 : c.kind = 7
  · have d7 : (c.kind == 7) = true := by rw [h7]; rfl
    have e7 : cHas c = [] := by unfold cHas; rw [if_pos h7]
    have HE := Lib.hid e7; clear e7 h7
    go_enter Tryz.func23, Tryz.ntmps23
    go_wp2_with fail
    rw [← HP.out]
    unfold HasPost
    rw [HE.out]
    exact ⟨none, 0, rfl, Own.nil_, (fun x hx => by cases hx), (Below.refl _ _).alloc (Nat.le_refl _) _⟩
  · have d7 : (c.kind == 7) = false := by simpa using h7
    have e7 : cHas c = c.vals ++ frVals c.frames := by unfold cHas; rw [if_neg h7]
    have HE := Lib.hid e7; clear e7 h7
    go_enter Tryz.func23, Tryz.ntmps23
    go_upto_region 3 with fail
    refine wp_world (fun U => Blk U w.heap.size 46 #[.int .i64 c.kind, .int .i64 c.num, .slice VA c.vals.length vc, .slice FA c.frames.length fc] ∧ Below w.heap.size w U ∧ w.heap.size + 1 ≤ U.heap.size) ⟨Blk.new _ _ _, (Below.refl _ _).alloc (Nat.le_refl _) _, by simp⟩ ?_
    rintro U ⟨hC, hbU, hsU⟩
    replace hC : Blk U.drew w.heap.size 46 _ := hC
    have hlt : w.heap.size < U.drew.heap.size := by show w.heap.size < U.heap.size; omega
    have hBd : B ≤ U.drew.heap.size := by show B ≤ U.heap.size; omega
    have hbd : Below w.heap.size w U.drew := hbU.drew
    have u2 := hC.cell 2 (v := .slice VA c.vals.length vc) rfl
    have u3 := hC.cell 3 (v := .slice FA c.frames.length fc) rfl
    have hcp := copyVal_any VA vc B c.vals U.drew (H.out.1.below (hbd.mono hB)) (by omega)
    have hfr := rFrames_any FA fc B c.frames.length c.frames U.drew rfl (H.out.2.below (hbd.mono hB)) hBd (by omega)
    have hokv : ∀ x ∈ c.vals, Flat.ok x := fun x hx => H.out.1.ok_ x hx
    have HC := Lib.hid (And.intro hcp (And.intro hfr (And.intro hbd hokv))); clear hcp hfr hC hbU hbd hokv
    refine wp_region_held_drew (S := (fun w' => w'.cell? ⟨w.heap.size, 2, none⟩ = some (.slice VA c.vals.length vc) ∧ w'.cell? ⟨w.heap.size, 3, none⟩ = some (.slice FA c.frames.length fc))) (by kernel_rfl) ?_ (fun hHeld0 => ?_)
    · first | trivial | ((try dsimp only); (exact ⟨u2, u3⟩))
    refine htk 0 rfl ?_
    try go_frame
    refine htk 1 rfl ?_
    try go_frame
    refine htk 3 rfl ?_
    try go_frame
    refine htk 4 rfl ?_
    try go_frame
    refine held_call 2 (by kernel_rfl) rfl (fun K hK => ?_)
    go_simp
    go_at_call 58; refine HC.out.1.mono ?_; rintro e w1 ⟨A1, c1, rfl, ho1, hb1⟩; have hs1 := hb1.size; have k2 := (hb1.cell (p := ⟨w.heap.size, 2, none⟩) hlt).trans u2; have k3 := (hb1.cell (p := ⟨w.heap.size, 3, none⟩) hlt).trans u3; have hfr1 := rFrames_any FA fc B c.frames.length c.frames w1 rfl (H.out.2.below ((HC.out.2.2.1.mono hB).trans (hb1.mono hBd))) (by omega) (by omega); have HC1 := Lib.hid (And.intro ho1 (And.intro hb1 hfr1)); clear ho1 hb1 hfr1
    try (go_wp2_with fail)
    refine hK.out _ _ ?_ (fun hHeld1 => ?_)
    · first | trivial | ((try dsimp only); (exact ⟨k2, k3⟩))
    clear hK K hHeld0
    try go_frame
    refine held_call 5 (by kernel_rfl) rfl (fun K hK => ?_)
    go_simp
    go_at_call 57; refine HC1.out.2.2.mono ?_; rintro e w2 ⟨A2, c2, rfl, ho2, hok, hb2⟩; have hs2 := hb2.size; have l2 := (hb2.cell (p := ⟨w.heap.size, 2, none⟩) (show w.heap.size < w1.heap.size by omega)).trans k2; have l3 := (hb2.cell (p := ⟨w.heap.size, 3, none⟩) (show w.heap.size < w1.heap.size by omega)).trans k3; have hne : rowOf A1 ≠ some w.heap.size := own_ne_blk HC1.out.1 hlt; have HO1 := Lib.hid ((HC1.out.1.base_le (base' := w.heap.size) (by omega)).fresh hb2); have hbw2 : Below w.heap.size w w2 := (HC.out.2.2.1.trans (HC1.out.2.1.mono (by omega))).trans (hb2.mono (by omega)); have hlt2 : w.heap.size < w2.heap.size := by omega
    try (go_wp2_with fail)
    refine hK.out _ _ ?_ (fun hHeld2 => ?_)
    · first | trivial | ((try dsimp only); (exact ⟨l2, l3⟩))
    clear hK K hHeld1
    try go_frame
    refine held_call 6 (by kernel_rfl) rfl (fun K hK => ?_)
    refine step_app (α := Int × Int) (n := c.vals.length) (m := (frVals c.frames).length) (nm := c.vals.length + (frVals c.frames).length) (r := frVals c.frames) (by rfl) (.tmp 8) (.tmp 11) _ (by rfl) w.heap.size 48 i0 _ 16 Tryz.underlying23 hi hz0 hz1 hz2 rfl (by decide) pair_oneT (by rfl) rfl HO1.out (by rfl) (ho2.at_ hok) rfl rfl (by omega) (by simp only [maxLen]; omega) (by omega) ?_; intro A3 c3 w3 hown3 hgr3 hat3; have m2 := hgr3.cell l2 (Ne.symm hne); have m3 := hgr3.cell l3 (Ne.symm hne)
    refine hK.out _ _ ?_ (fun hHeld3 => ?_)
    · first | trivial | ((try dsimp only); (exact ⟨m2, m3⟩))
    clear hK K hHeld2
    try go_frame
    refine htk 7 rfl ?_
    try go_frame
    refine wpAnyH_done (by kernel_rfl) ?_ _
    have HO := Lib.hid (And.intro hown3 (And.intro (hbw2.grown hgr3 (by omega) (fun g hg => by have := (HO1.out.lt g hg).1; omega)) hok)); clear hown3 hgr3 hat3 hbw2 u2 u3 k2 k3 l2 l3 m2 m3 hok
    go_wp2_with fail
    rw [← HP.out]
    unfold HasPost
    rw [HE.out]
    refine ⟨A3, c3, by rw [List.length_append]; rfl, HO.out.1, fun x hx => ?_, HO.out.2.1⟩
    rcases List.mem_append.1 hx with hx | hx
    · exact HC.out.2.2.2 x hx
    · exact HO.out.2.2 x hx
end Top
end Go.Proofs.YtdlcooplllimeaaGreatDoor

/- ops.Right: a value that is called right is right. -/
namespace Go.Proofs.YtdlcooplllimeaaGreatDoor
open Go.RowKit

attribute [local go_sem ↓] Go.wp_at_zero Go.wp_at_succ

namespace Top
theorem owithin_any (n lo hi : Int) (w : World) : Calls Tryz.prog 148 #[.int .i64 n, .int .i64 lo, .int .i64 hi] w fun e w' => e = .returned (.bool (decide (lo ≤ n) && decide (n ≤ hi))) ∧ w = w' := by
  by_cases h1 : lo ≤ n
  · by_cases h2 : n ≤ hi
    · have d1 : decide (lo ≤ n) = true := by simpa using h1
      have d2 : decide (n ≤ hi) = true := by simpa using h2
      rw [d1, d2]
      go_enter Tryz.func148, Tryz.ntmps148
      go_wp2_with fail
      go_returns
      exact ⟨rfl, rfl⟩
    · have d1 : decide (lo ≤ n) = true := by simpa using h1
      have d2 : decide (n ≤ hi) = false := by simpa using h2
      rw [d1, d2]
      go_enter Tryz.func148, Tryz.ntmps148
      go_wp2_with fail
      go_returns
      exact ⟨rfl, rfl⟩
  · have d1 : decide (lo ≤ n) = false := by simpa using h1
    rw [d1]
    go_enter Tryz.func148, Tryz.ntmps148
    go_wp2_with fail
    go_returns
    exact ⟨rfl, rfl⟩
theorem cwithin_any (n lo hi : Int) (w : World) : Calls Tryz.prog 84 #[.int .i64 n, .int .i64 lo, .int .i64 hi] w fun e w' => e = .returned (.bool (decide (lo ≤ n) && decide (n ≤ hi))) ∧ w = w' := by
  by_cases h1 : lo ≤ n
  · by_cases h2 : n ≤ hi
    · have d1 : decide (lo ≤ n) = true := by simpa using h1
      have d2 : decide (n ≤ hi) = true := by simpa using h2
      rw [d1, d2]
      go_enter Tryz.func84, Tryz.ntmps84
      go_wp2_with fail
      go_returns
      exact ⟨rfl, rfl⟩
    · have d1 : decide (lo ≤ n) = true := by simpa using h1
      have d2 : decide (n ≤ hi) = false := by simpa using h2
      rw [d1, d2]
      go_enter Tryz.func84, Tryz.ntmps84
      go_wp2_with fail
      go_returns
      exact ⟨rfl, rfl⟩
  · have d1 : decide (lo ≤ n) = false := by simpa using h1
    rw [d1]
    go_enter Tryz.func84, Tryz.ntmps84
    go_wp2_with fail
    go_returns
    exact ⟨rfl, rfl⟩
theorem swithin_any (n lo hi : Int) (w : World) : Calls Tryz.prog 88 #[.int .i64 n, .int .i64 lo, .int .i64 hi] w fun e w' => e = .returned (.bool (decide (lo ≤ n) && decide (n ≤ hi))) ∧ w = w' := by
  by_cases h1 : lo ≤ n
  · by_cases h2 : n ≤ hi
    · have d1 : decide (lo ≤ n) = true := by simpa using h1
      have d2 : decide (n ≤ hi) = true := by simpa using h2
      rw [d1, d2]
      go_enter Tryz.func88, Tryz.ntmps88
      go_wp2_with fail
      go_returns
      exact ⟨rfl, rfl⟩
    · have d1 : decide (lo ≤ n) = true := by simpa using h1
      have d2 : decide (n ≤ hi) = false := by simpa using h2
      rw [d1, d2]
      go_enter Tryz.func88, Tryz.ntmps88
      go_wp2_with fail
      go_returns
      exact ⟨rfl, rfl⟩
  · have d1 : decide (lo ≤ n) = false := by simpa using h1
    rw [d1]
    go_enter Tryz.func88, Tryz.ntmps88
    go_wp2_with fail
    go_returns
    exact ⟨rfl, rfl⟩
theorem dwithin_any (n lo hi : Int) (w : World) : Calls Tryz.prog 151 #[.int .i64 n, .int .i64 lo, .int .i64 hi] w fun e w' => e = .returned (.bool (decide (lo ≤ n) && decide (n ≤ hi))) ∧ w = w' := by
  by_cases h1 : lo ≤ n
  · by_cases h2 : n ≤ hi
    · have d1 : decide (lo ≤ n) = true := by simpa using h1
      have d2 : decide (n ≤ hi) = true := by simpa using h2
      rw [d1, d2]
      go_enter Tryz.func151, Tryz.ntmps151
      go_wp2_with fail
      go_returns
      exact ⟨rfl, rfl⟩
    · have d1 : decide (lo ≤ n) = true := by simpa using h1
      have d2 : decide (n ≤ hi) = false := by simpa using h2
      rw [d1, d2]
      go_enter Tryz.func151, Tryz.ntmps151
      go_wp2_with fail
      go_returns
      exact ⟨rfl, rfl⟩
  · have d1 : decide (lo ≤ n) = false := by simpa using h1
    rw [d1]
    go_enter Tryz.func151, Tryz.ntmps151
    go_wp2_with fail
    go_returns
    exact ⟨rfl, rfl⟩

theorem frombits_run (x : Int) (w : World) : (callFunc 162 #[.int .u64 x]).run Tryz.prog w = .ok (.value (.float .f64 x.toNat)) w := by kernel_rfl
set_option maxRecDepth 100000 in
theorem float_any (k n : Int) (w : World) (_hn : I64 n) : Calls Tryz.prog 149 #[.agg #[.int .i64 k, .int .i64 n]] w fun e w' => e = .returned (.float .f64 (n % 18446744073709551616).toNat) ∧ Below w.heap.size w w' := by
  have hu : IntKind.u64.wrap n = n % 18446744073709551616 := IntKind.wrap_u64 n
  go_enter Tryz.func149, Tryz.ntmps149
  have hf := frombits_run (n % 18446744073709551616)
  go_wp2_with fail
  go_returns
  exact ⟨rfl, (Below.refl _ _).alloc (Nat.le_refl _) _⟩

set_option maxHeartbeats 800000 in
set_option maxRecDepth 100000 in
theorem right_iff (k n : Int) (w : World) (hk : I64 k) (hn : I64 n) : Calls Tryz.prog 116 #[.agg #[.int .i64 k, .int .i64 n]] w fun e w' => ∃ b : Bool, e = .returned (.bool b) ∧ (b = true ↔ rightP (k, n)) ∧ Below w.heap.size w w' := by
  have hB : Blk (w.alloc (.cells #[.int .i64 k, .int .i64 n] 48)) w.heap.size 48 #[.int .i64 k, .int .i64 n] := Blk.new _ _ _
  have hb : Below w.heap.size w (w.alloc (.cells #[.int .i64 k, .int .i64 n] 48)) := (Below.refl _ _).alloc (Nat.le_refl _) _
  have H := Lib.hid (And.intro hB hb); clear hB hb
  by_cases h0 : k = 0
  · subst h0
    go_enter Tryz.func116, Tryz.ntmps116
    go_wp2_with fail
    go_returns
    exact ⟨_, rfl, (by unfold rightP; simp), H.out.2⟩
  by_cases h1 : k = 1
  · subst h1
    clear h0
    go_enter Tryz.func116, Tryz.ntmps116
    go_wp2_with fail
    refine (owithin_any n 0 1 _).mono ?_
    rintro e w1 ⟨rfl, rfl⟩
    go_wp2_with fail
    go_returns
    exact ⟨_, rfl, (by unfold rightP; simp), H.out.2⟩
  by_cases h2 : k = 2
  · subst h2
    clear h0 h1
    go_enter Tryz.func116, Tryz.ntmps116
    go_wp2_with fail
    refine (owithin_any n (-2147483648) 2147483647 _).mono ?_
    rintro e w1 ⟨rfl, rfl⟩
    go_wp2_with fail
    go_returns
    exact ⟨_, rfl, (by unfold rightP; simp), H.out.2⟩
  by_cases h6 : k = 6
  · subst h6
    clear h0 h1 h2
    go_enter Tryz.func116, Tryz.ntmps116
    go_wp2_with fail
    refine (owithin_any n 0 15 _).mono ?_
    rintro e w1 ⟨rfl, rfl⟩
    go_wp2_with fail
    go_returns
    exact ⟨_, rfl, (by unfold rightP; simp; try omega), H.out.2⟩
  by_cases h4 : k = 4
  · subst h4
    clear h0 h1 h2 h6
    go_enter Tryz.func116, Tryz.ntmps116
    go_wp2_with fail
    go_returns
    exact ⟨_, rfl, (by unfold rightP; simp), H.out.2⟩
  by_cases h5 : k = 5
  · subst h5
    clear h0 h1 h2 h6 h4
    go_enter Tryz.func116, Tryz.ntmps116
    go_wp2_with fail
    go_returns
    exact ⟨_, rfl, (by unfold rightP; simp), H.out.2⟩
  by_cases h3 : k = 3
  · subst h3
    clear h0 h1 h2 h6 h4 h5
    obtain ⟨X, hX⟩ : ∃ X, (n % 18446744073709551616).toNat = X := ⟨_, rfl⟩
    have hXn : (X : Int) = n % 18446744073709551616 := by omega
    have hfl : ∀ V : World, Calls Tryz.prog 149 #[.agg #[.int .i64 3, .int .i64 n]] V fun e w' => e = .returned (.float .f64 X) ∧ Below V.heap.size V w' := fun V => by rw [← hX]; exact float_any 3 n V hn
    have HFL := Lib.hid hfl; clear hfl hX
    go_enter Tryz.func116, Tryz.ntmps116
    go_upto_region 9 with fail
    have BX : Below (w.alloc (.cells #[.int .i64 3, .int .i64 n] 48)).heap.size (w.alloc (.cells #[.int .i64 3, .int .i64 n] 48)) (w.alloc (.cells #[.int .i64 3, .int .i64 n] 48)).drew := (Below.refl _ _).drew
    by_cases hs : X % 9223372036854775808 ≤ 9218868437227405312
    · have ho := order_num hs
      have hr : rightP (3, n) := .inr <| .inr <| .inr <| .inl ⟨rfl, .inl (by unfold spo; simp only [decide_eq_false_iff_not]; omega)⟩
      have HR := Lib.hid (And.intro hr hs); clear hr hs
      refine wp_region_held_drew (S := (fun w' => w'.cell? ⟨w.heap.size, 0, none⟩ = some (.int .i64 3) ∧ w'.cell? ⟨w.heap.size, 1, none⟩ = some (.int .i64 n))) (by kernel_rfl) ?_ (fun hHeld0 => ?_)
      · first | trivial | ((try dsimp only); (exact ⟨(H.out.1.fresh BX).cell 0 rfl, (H.out.1.fresh BX).cell 1 rfl⟩))
      refine htk 0 rfl ?_
      try go_frame
      refine htk 2 rfl ?_
      try go_frame
      refine held_call 1 (by kernel_rfl) rfl (fun K hK => ?_)
      go_simp
      refine (HFL.out _).mono ?_; rintro e wA ⟨rfl, hbA⟩; have BY := BX.trans (hbA.mono BX.size); clear BX; have BX := BY; clear BY
      try (go_wp2_with fail)
      refine hK.out _ _ ?_ (fun hHeld1 => ?_)
      · first | trivial | ((try dsimp only); (exact ⟨(H.out.1.fresh BX).cell 0 rfl, (H.out.1.fresh BX).cell 1 rfl⟩))
      clear hK K hHeld0
      try go_frame
      refine held_call 3 (by kernel_rfl) rfl (fun K hK => ?_)
      go_simp
      refine (HFL.out _).mono ?_; rintro e wA ⟨rfl, hbA⟩; have BY := BX.trans (hbA.mono BX.size); clear BX; have BX := BY; clear BY
      try (go_wp2_with fail)
      refine hK.out _ _ ?_ (fun hHeld2 => ?_)
      · first | trivial | ((try dsimp only); (exact ⟨(H.out.1.fresh BX).cell 0 rfl, (H.out.1.fresh BX).cell 1 rfl⟩))
      clear hK K hHeld1
      try go_frame
      refine htk 4 rfl ?_
      try go_frame
      refine htk 5 rfl ?_
      try go_frame
      refine hsk 6 rfl ?_
      try go_frame
      refine hsk 7 rfl ?_
      try go_frame
      refine hsk 8 rfl ?_
      try go_frame
      refine htk 9 rfl ?_
      try go_frame
      refine htk 10 rfl ?_
      try go_frame
      refine wpAnyH_done (by kernel_rfl) ?_ _
      go_wp2_with fail
      go_returns
      exact ⟨_, rfl, ⟨fun _ => HR.out.1, fun _ => (by simp)⟩, H.out.2.trans (BX.mono (by simp))⟩
    · have ho := order_nan (Nat.lt_of_not_le hs)
      have hr : (n == 9221120237041090561) = true ↔ rightP (3, n) := by
        unfold rightP spo
        simp
        omega
      have HR := Lib.hid hr; clear hs hr
      refine wp_region_held_drew (S := (fun w' => w'.cell? ⟨w.heap.size, 0, none⟩ = some (.int .i64 3) ∧ w'.cell? ⟨w.heap.size, 1, none⟩ = some (.int .i64 n))) (by kernel_rfl) ?_ (fun hHeld0 => ?_)
      · first | trivial | ((try dsimp only); (exact ⟨(H.out.1.fresh BX).cell 0 rfl, (H.out.1.fresh BX).cell 1 rfl⟩))
      refine htk 0 rfl ?_
      try go_frame
      refine htk 2 rfl ?_
      try go_frame
      refine held_call 1 (by kernel_rfl) rfl (fun K hK => ?_)
      go_simp
      refine (HFL.out _).mono ?_; rintro e wA ⟨rfl, hbA⟩; have BY := BX.trans (hbA.mono BX.size); clear BX; have BX := BY; clear BY
      try (go_wp2_with fail)
      refine hK.out _ _ ?_ (fun hHeld1 => ?_)
      · first | trivial | ((try dsimp only); (exact ⟨(H.out.1.fresh BX).cell 0 rfl, (H.out.1.fresh BX).cell 1 rfl⟩))
      clear hK K hHeld0
      try go_frame
      refine held_call 3 (by kernel_rfl) rfl (fun K hK => ?_)
      go_simp
      refine (HFL.out _).mono ?_; rintro e wA ⟨rfl, hbA⟩; have BY := BX.trans (hbA.mono BX.size); clear BX; have BX := BY; clear BY
      try (go_wp2_with fail)
      refine hK.out _ _ ?_ (fun hHeld2 => ?_)
      · first | trivial | ((try dsimp only); (exact ⟨(H.out.1.fresh BX).cell 0 rfl, (H.out.1.fresh BX).cell 1 rfl⟩))
      clear hK K hHeld1
      try go_frame
      refine htk 4 rfl ?_
      try go_frame
      refine htk 5 rfl ?_
      try go_frame
      refine htk 6 rfl ?_
      try go_frame
      refine htk 7 rfl ?_
      try go_frame
      refine htk 8 rfl ?_
      try go_frame
      refine htk 9 rfl ?_
      try go_frame
      refine htk 10 rfl ?_
      try go_frame
      refine wpAnyH_done (by kernel_rfl) ?_ _
      go_wp2_with fail
      go_returns
      exact ⟨_, rfl, HR.out, H.out.2.trans (BX.mono (by simp))⟩
  have d0 : (k == 0) = false := by simpa using h0
  have d1 : (k == 1) = false := by simpa using h1
  have d2 : (k == 2) = false := by simpa using h2
  have d3 : (k == 3) = false := by simpa using h3
  have d4 : (k == 4) = false := by simpa using h4
  have d5 : (k == 5) = false := by simpa using h5
  have d6 : (k == 6) = false := by simpa using h6
  have hN : ¬ rightP (k, n) := by unfold rightP; simp only; omega
  have HN := Lib.hid hN; clear h0 h1 h2 h3 h4 h5 h6 hN
  go_enter Tryz.func116, Tryz.ntmps116
  go_wp2_with fail
  go_returns
  exact ⟨_, rfl, ⟨fun h => (by cases h), fun h => absurd h HN.out⟩, H.out.2⟩
theorem right_any (k n : Int) (w : World) (hk : I64 k) (hn : I64 n) : Calls Tryz.prog 116 #[.agg #[.int .i64 k, .int .i64 n]] w fun e w' => ∃ b : Bool, e = .returned (.bool b) ∧ (b = true → rightP (k, n)) ∧ Below w.heap.size w w' :=
  (right_iff k n w hk hn).mono fun _ _ ⟨b, h1, h2, h3⟩ => ⟨b, h1, h2.1, h3⟩
end Top
end Go.Proofs.YtdlcooplllimeaaGreatDoor

/- A state behind a pointer; cells.fits: a value that fits, fits. -/
namespace Go.Proofs.YtdlcooplllimeaaGreatDoor
open Go.RowKit

attribute [local go_sem ↓] Go.wp_at_zero Go.wp_at_succ

namespace Top
/-- the state s lies at block p -/
def StA (w : World) (p : Nat) (s : Stt) : Prop :=
  ∃ (CA SA TA HA EA DA : Option Addr) (cc sc tc hc ec dc : Nat), Blk w p 32 #[.slice CA s.cells.length cc, .slice SA s.shapes.length sc, .slice TA s.texts.length tc, .slice HA s.threads.length hc, .slice EA s.ends.length ec, .slice DA s.said.length dc, .int .i64 s.asked, .int .i64 s.steps] ∧
    At w w.heap.size CA s.cells ∧ At w w.heap.size SA s.shapes ∧ At w w.heap.size TA s.texts ∧ At w w.heap.size HA s.threads ∧ At w w.heap.size EA s.ends ∧ At w w.heap.size DA s.said
theorem StA.fresh {w w' : World} {p : Nat} {s : Stt} (h : StA w p s) (hb : Below w.heap.size w w') : StA w' p s := by
  obtain ⟨CA, SA, TA, HA, EA, DA, cc, sc, tc, hc, ec, dc, h1, h2, h3, h4, h5, h6, h7⟩ := h
  have hs := hb.size
  exact ⟨CA, SA, TA, HA, EA, DA, cc, sc, tc, hc, ec, dc, h1.fresh hb, (h2.below hb).more hs, (h3.below hb).more hs, (h4.below hb).more hs, (h5.below hb).more hs, (h6.below hb).more hs, (h7.below hb).more hs⟩
theorem StA.lt {w : World} {p : Nat} {s : Stt} (h : StA w p s) : p < w.heap.size := by
  obtain ⟨CA, SA, TA, HA, EA, DA, cc, sc, tc, hc, ec, dc, h1, -⟩ := h; exact h1.lt

/-- a value that fits: its cell is there, and is not gone -/
def fitsX (s : Stt) (v : Int × Int) : Prop := rightP v ∧ (v.1 = 4 → v.2 < s.texts.length) ∧ (v.1 = 5 → v.2 < s.cells.length ∧ ∃ c, s.cells[v.2.toNat]? = some c ∧ c.kind ≠ 0)
theorem fitsX.v {s : Stt} {v : Int × Int} (h : fitsX s v) : fitsV s.texts.length s.cells.length v := ⟨h.1, h.2.1, fun e => (h.2.2 e).1⟩
theorem fitsX.ref {s : Stt} {n : Int} (h : fitsX s (5, n)) : ∃ (m : Nat) (c : Ce), n = m ∧ m < s.cells.length ∧ s.cells[m]? = some c ∧ c.kind ≠ 0 := by
  obtain ⟨h1, -, h3⟩ := h
  obtain ⟨h4, c, h5, h6⟩ := h3 rfl
  unfold rightP at h1
  simp only at h1 h4 h5
  exact ⟨n.toNat, c, by omega, by omega, h5, h6⟩

set_option maxHeartbeats 1600000 in
set_option maxRecDepth 100000 in
theorem fits_iff (w : World) (p : Nat) (s : Stt) (k n : Int) (h : StA w p s) (hk : I64 k) (hn : I64 n) :
    Calls Tryz.prog 81 #[.pointer (some ⟨p, 0, none⟩), .agg #[.int .i64 k, .int .i64 n]] w fun e w' => ∃ b : Bool, e = .returned (.bool b) ∧ (b = true ↔ fitsX s (k, n)) ∧ Below w.heap.size w w' := by
  have hplt := h.lt
  have H := Lib.hid (And.intro h (And.intro hk hn)); clear h hk hn
  go_enter Tryz.func81, Tryz.ntmps81
  go_upto_region 1 with fail
  refine wp_world (fun W => Blk W w.heap.size 48 #[.int .i64 k, .int .i64 n] ∧ Below w.heap.size w W ∧ W.heap.size = w.heap.size + 1) ⟨Blk.new _ _ _, (Below.refl _ _).alloc (Nat.le_refl _) _, by simp⟩ ?_
  rintro W ⟨hB, hbW, hsW⟩
  have b0 := hB.cell 0 (v := .int .i64 k) rfl
  have b1 := hB.cell 1 (v := .int .i64 n) rfl
  have hr := right_iff k n W H.out.2.1 H.out.2.2
  have HW := Lib.hid (And.intro hB (And.intro hbW hr)); clear hB hbW hr
  go_wp2_with fail
  refine HW.out.2.2.mono ?_
  rintro e w1 ⟨b, rfl, hb, hb1⟩
  have hbw1 := HW.out.2.1.trans (hb1.mono (by omega))
  have hB1 := HW.out.1.fresh hb1
  clear b0 b1
  have b0 := hB1.cell 0 (v := .int .i64 k) rfl
  have b1 := hB1.cell 1 (v := .int .i64 n) rfl
  obtain ⟨CA, SA, TA, HA, EA, DA, cc, sc, tc, hc, ec, dc, h1, h2, h3⟩ := H.out.1.fresh hbw1
  have s0 := h1.cell 0 (v := .slice CA s.cells.length cc) rfl
  have s2 := h1.cell 2 (v := .slice TA s.texts.length tc) rfl
  have H1 := Lib.hid (And.intro hbw1 (And.intro h2 hb)); clear hbw1 h1 h2 h3 hB1 hb1 hb
  cases b with
  | false =>
    go_wp2_with fail
    go_returns
    exact ⟨_, rfl, ⟨fun h => (by cases h), fun h => (by cases H1.out.2.2.2 h.1)⟩, H1.out.1⟩
  | true =>
    have HRR := Lib.hid (H1.out.2.2.1 rfl)
    by_cases h4 : k = 4
    · subst h4
      go_upto_region 4 with fail
      go_quiet (fail)
      go_wp2_with fail
      go_returns
      exact ⟨_, rfl, ⟨fun h => ⟨HRR.out, fun _ => by simpa using h, fun e => absurd e (by simp)⟩, fun h => by simpa using h.2.1 rfl⟩, below_drewN H1.out.1 _⟩
    · have d4 : (k == 4) = false := by simpa using h4
      by_cases h5 : k = 5
      · subst h5
        have hr := HRR.out
        have hn0 : 0 ≤ n := by unfold rightP at hr; simp only at hr; omega
        by_cases hl : n < (s.cells.length : Int)
        · obtain ⟨m, rfl⟩ : ∃ m : Nat, n = (m : Int) := ⟨n.toNat, by omega⟩
          obtain ⟨bb, o, x, Av, cv, Af, cf, rfl, hbb, hx, q0, -⟩ := H1.out.2.1.ce_ (k := m) (by omega)
          have hfin : (!(x.kind == 0)) = true ↔ fitsX s (5, (m : Int)) := by
            constructor
            · intro h; exact ⟨hr, fun e => absurd e (by simp), fun _ => ⟨hl, x, by simpa using hx, by simpa using h⟩⟩
            · intro h; obtain ⟨c, hc, hc2⟩ := (h.2.2 rfl).2; simp only [Int.toNat_natCast] at hc; rw [hx] at hc; cases hc; simpa using hc2
          have HF := Lib.hid hfin; clear hfin hr hx
          clear h4
          go_upto_region 6 with fail
          go_quiet (fail)
          go_wp2_with fail
          go_returns
          exact ⟨_, rfl, HF.out, below_drewN H1.out.1 _⟩
        · have d6 : decide (n < (s.cells.length : Int)) = false := by simpa using hl
          have HF := Lib.hid hl; clear h4 hr
          go_upto_region 6 with fail
          go_quiet (fail)
          go_wp2_with fail
          go_returns
          exact ⟨_, rfl, ⟨fun h => (by cases h), fun h => absurd (h.2.2 rfl).1 (by have := HF.out; simp only; omega)⟩, below_drewN H1.out.1 _⟩
      · have d5 : (k == 5) = false := by simpa using h5
        have HF := Lib.hid (And.intro h4 h5); clear h4 h5
        go_wp2_with fail
        go_returns
        exact ⟨_, rfl, ⟨fun _ => ⟨HRR.out, fun e => absurd e HF.out.1, fun e => absurd e HF.out.2⟩, fun _ => rfl⟩, H1.out.1⟩
theorem fits_any (w : World) (p : Nat) (s : Stt) (k n : Int) (h : StA w p s) (hk : I64 k) (hn : I64 n) :
    Calls Tryz.prog 81 #[.pointer (some ⟨p, 0, none⟩), .agg #[.int .i64 k, .int .i64 n]] w fun e w' => ∃ b : Bool, e = .returned (.bool b) ∧ (b = true → fitsV s.texts.length s.cells.length (k, n)) ∧ Below w.heap.size w w' :=
  (fits_iff w p s k n h hk hn).mono fun _ _ ⟨b, h1, h2, h3⟩ => ⟨b, h1, fun e => (h2.1 e).v, h3⟩
end Top
end Go.Proofs.YtdlcooplllimeaaGreatDoor

/- slices.IndexFunc, slices.ContainsFunc over structs that hold slices. -/
namespace Go.Proofs.YtdlcooplllimeaaGreatDoor
open Go.RowKit

attribute [local go_sem ↓] Go.wp_at_zero Go.wp_at_succ

namespace Top
set_option maxHeartbeats 800000 in
set_option maxRecDepth 100000 in
theorem idxFCell_any (A : Option Addr) (c B g n : Nat) (lb : Array Value) (l : List Ce) (w : World) (Q : Ce → Prop) (hn : l.length = n) (h : At w B A l) (hB : B ≤ w.heap.size) (hl : n ≤ 9223372036854775807)
    (eg : ∀ args w, (callFunc g args).run Tryz.prog w = .ok (.enter g args) w) (hp : ∀ V, Below w.heap.size w V → ∀ x ∈ l, ∀ (Av Af : Option Addr) (cv cf : Nat), At V B Av x.vals → (x.vals.length ≤ cv ∧ cv ≤ maxLen) → At V B Af x.frames → (x.frames.length ≤ cf ∧ cf ≤ maxLen) → I64 x.kind → I64 x.num → Calls Tryz.prog g (#[.agg #[.int .i64 x.kind, .int .i64 x.num, .slice Av x.vals.length cv, .slice Af x.frames.length cf]] ++ lb) V fun e V' => ∃ b : Bool, e = .returned (.bool b) ∧ (b = false → Q x) ∧ Below V.heap.size V V') :
    Calls Tryz.prog 124 #[.slice A n c, .func (.func g) #[] lb] w fun e w' => ∃ r : Int, e = .returned (.int .i64 r) ∧ (r < 0 → ∀ x ∈ l, Q x) ∧ Below w.heap.size w w' := by
  have H := Lib.hid (And.intro h hn); clear h hn
  have HP := Lib.hid hp; clear hp
  have HE := Lib.hid eg
  go_enter Tryz.func124, Tryz.ntmps124
  go_wp2
  go_loopg [8] n (fun gk i wr => ∃ k : Nat, k ≤ n ∧ gk = n - k ∧ i = .int .i64 k ∧ Hid (∀ x ∈ l.take k, Q x) ∧ Below w.heap.size w wr)
  case atStart => exact ⟨0, Nat.zero_le _, rfl, rfl, by simp [Hid], Below.refl _ _⟩
  case round =>
    obtain ⟨k, hk, rfl, rfl, hno, hbl⟩ := hrel
    have hsz := hbl.size
    by_cases hlt : k < n
    · obtain ⟨b, o, x, Av, cv, Af, cf, rfl, hb, hx, q0, q1, q2, q3, a0, l0, a1, l1, i0, i1⟩ := (H.out.1.below (hbl.mono hB)).ce_ (k := k) (by have := H.out.2; omega)
      have hk0 : (0 : Int) ≤ (k : Int) := by omega
      have hk1 : (k : Int) < (n : Int) := by omega
      have hcall := HP.out wr hbl x (List.mem_of_getElem? hx) Av Af cv cf a0 l0 a1 l1 i0 i1
      have HX := Lib.hid (And.intro hx hcall); clear hx hcall
      go_wp2_with (go_at_fn g; refine Calls.mono HX.out.2 ?_; rintro e w' ⟨bb, rfl, hq, hb'⟩; have HQ := Lib.hid hq; clear hq; cases bb)
      · go_wp2_with fail
        go_roundg (n - (k + 1))
        case measure => omega
        case rel => exact ⟨k + 1, by omega, rfl, by go_num, by unfold Hid; exact all_stepT hno.out HX.out.1 (HQ.out (by simp)), hbl.trans (hb'.mono hsz)⟩
      · go_wp2_with fail
        go_ret
        exact ⟨k, rfl, fun h => by omega, hbl.trans (hb'.mono hsz)⟩
    · go_wp2
      go_ret
      exact ⟨-1, rfl, fun _ => by have h1 := hno.out; rw [List.take_of_length_le (by have := H.out.2; omega)] at h1; exact h1, hbl⟩
set_option maxRecDepth 100000 in
theorem ctFCell_any (A : Option Addr) (c B g n : Nat) (lb : Array Value) (l : List Ce) (w : World) (Q : Ce → Prop) (hn : l.length = n) (h : At w B A l) (hB : B ≤ w.heap.size) (hl : n ≤ 9223372036854775807)
    (eg : ∀ args w, (callFunc g args).run Tryz.prog w = .ok (.enter g args) w) (hp : ∀ V, Below w.heap.size w V → ∀ x ∈ l, ∀ (Av Af : Option Addr) (cv cf : Nat), At V B Av x.vals → (x.vals.length ≤ cv ∧ cv ≤ maxLen) → At V B Af x.frames → (x.frames.length ≤ cf ∧ cf ≤ maxLen) → I64 x.kind → I64 x.num → Calls Tryz.prog g (#[.agg #[.int .i64 x.kind, .int .i64 x.num, .slice Av x.vals.length cv, .slice Af x.frames.length cf]] ++ lb) V fun e V' => ∃ b : Bool, e = .returned (.bool b) ∧ (b = false → Q x) ∧ Below V.heap.size V V') :
    Calls Tryz.prog 76 #[.slice A n c, .func (.func g) #[] lb] w fun e w' => ∃ b : Bool, e = .returned (.bool b) ∧ (b = false → ∀ x ∈ l, Q x) ∧ Below w.heap.size w w' := by
  have hc := idxFCell_any A c B g n lb l w Q hn h hB hl eg hp
  have H := Lib.hid hc; clear hc hp h hn
  go_enter Tryz.func76, Tryz.ntmps76
  go_wp2_with fail
  refine H.out.mono ?_
  rintro e w1 ⟨r, rfl, hr, hb⟩
  have HR := Lib.hid hr; clear hr
  go_wp2_with fail
  go_returns
  exact ⟨_, rfl, fun h => HR.out (by simpa using h), hb⟩
set_option maxHeartbeats 800000 in
set_option maxRecDepth 100000 in
theorem idxFFrame_any (A : Option Addr) (c B g n : Nat) (lb : Array Value) (l : List Fr) (w : World) (Q : Fr → Prop) (hn : l.length = n) (h : At w B A l) (hB : B ≤ w.heap.size) (hl : n ≤ 9223372036854775807)
    (eg : ∀ args w, (callFunc g args).run Tryz.prog w = .ok (.enter g args) w) (hp : ∀ V, Below w.heap.size w V → ∀ x ∈ l, ∀ (Av Af : Option Addr) (cv cf : Nat), At V B Av x.regs → (x.regs.length ≤ cv ∧ cv ≤ maxLen) → At V B Af x.tries → (x.tries.length ≤ cf ∧ cf ≤ maxLen) → (I64 x.fn ∧ I64 x.at_ ∧ I64 x.fto ∧ I64 x.gen ∧ I64 x.self.1 ∧ I64 x.self.2) → Calls Tryz.prog g (#[.agg #[.int .i64 x.fn, .int .i64 x.at_, .int .i64 x.fto, .int .i64 x.gen, .int .i64 x.self.1, .int .i64 x.self.2, .slice Av x.regs.length cv, .slice Af x.tries.length cf]] ++ lb) V fun e V' => ∃ b : Bool, e = .returned (.bool b) ∧ (b = false → Q x) ∧ Below V.heap.size V V') :
    Calls Tryz.prog 158 #[.slice A n c, .func (.func g) #[] lb] w fun e w' => ∃ r : Int, e = .returned (.int .i64 r) ∧ (r < 0 → ∀ x ∈ l, Q x) ∧ Below w.heap.size w w' := by
  have H := Lib.hid (And.intro h hn); clear h hn
  have HP := Lib.hid hp; clear hp
  have HE := Lib.hid eg
  go_enter Tryz.func158, Tryz.ntmps158
  go_wp2
  go_loopg [8] n (fun gk i wr => ∃ k : Nat, k ≤ n ∧ gk = n - k ∧ i = .int .i64 k ∧ Hid (∀ x ∈ l.take k, Q x) ∧ Below w.heap.size w wr)
  case atStart => exact ⟨0, Nat.zero_le _, rfl, rfl, by simp [Hid], Below.refl _ _⟩
  case round =>
    obtain ⟨k, hk, rfl, rfl, hno, hbl⟩ := hrel
    have hsz := hbl.size
    by_cases hlt : k < n
    · obtain ⟨b, o, x, Av, cv, Af, cf, rfl, hb, hx, q0, q1, q2, q3, q4, q5, q6, q7, a0, l0, a1, l1, i0, i1, i2, i3, i4, i5⟩ := (H.out.1.below (hbl.mono hB)).fr_ (k := k) (by have := H.out.2; omega)
      have hk0 : (0 : Int) ≤ (k : Int) := by omega
      have hk1 : (k : Int) < (n : Int) := by omega
      have hcall := HP.out wr hbl x (List.mem_of_getElem? hx) Av Af cv cf a0 l0 a1 l1 ⟨i0, i1, i2, i3, i4, i5⟩
      have HX := Lib.hid (And.intro hx hcall); clear hx hcall
      go_wp2_with (go_at_fn g; refine Calls.mono HX.out.2 ?_; rintro e w' ⟨bb, rfl, hq, hb'⟩; have HQ := Lib.hid hq; clear hq; cases bb)
      · go_wp2_with fail
        go_roundg (n - (k + 1))
        case measure => omega
        case rel => exact ⟨k + 1, by omega, rfl, by go_num, by unfold Hid; exact all_stepT hno.out HX.out.1 (HQ.out (by simp)), hbl.trans (hb'.mono hsz)⟩
      · go_wp2_with fail
        go_ret
        exact ⟨k, rfl, fun h => by omega, hbl.trans (hb'.mono hsz)⟩
    · go_wp2
      go_ret
      exact ⟨-1, rfl, fun _ => by have h1 := hno.out; rw [List.take_of_length_le (by have := H.out.2; omega)] at h1; exact h1, hbl⟩
set_option maxRecDepth 100000 in
theorem ctFFrame_any (A : Option Addr) (c B g n : Nat) (lb : Array Value) (l : List Fr) (w : World) (Q : Fr → Prop) (hn : l.length = n) (h : At w B A l) (hB : B ≤ w.heap.size) (hl : n ≤ 9223372036854775807)
    (eg : ∀ args w, (callFunc g args).run Tryz.prog w = .ok (.enter g args) w) (hp : ∀ V, Below w.heap.size w V → ∀ x ∈ l, ∀ (Av Af : Option Addr) (cv cf : Nat), At V B Av x.regs → (x.regs.length ≤ cv ∧ cv ≤ maxLen) → At V B Af x.tries → (x.tries.length ≤ cf ∧ cf ≤ maxLen) → (I64 x.fn ∧ I64 x.at_ ∧ I64 x.fto ∧ I64 x.gen ∧ I64 x.self.1 ∧ I64 x.self.2) → Calls Tryz.prog g (#[.agg #[.int .i64 x.fn, .int .i64 x.at_, .int .i64 x.fto, .int .i64 x.gen, .int .i64 x.self.1, .int .i64 x.self.2, .slice Av x.regs.length cv, .slice Af x.tries.length cf]] ++ lb) V fun e V' => ∃ b : Bool, e = .returned (.bool b) ∧ (b = false → Q x) ∧ Below V.heap.size V V') :
    Calls Tryz.prog 129 #[.slice A n c, .func (.func g) #[] lb] w fun e w' => ∃ b : Bool, e = .returned (.bool b) ∧ (b = false → ∀ x ∈ l, Q x) ∧ Below w.heap.size w w' := by
  have hc := idxFFrame_any A c B g n lb l w Q hn h hB hl eg hp
  have H := Lib.hid hc; clear hc hp h hn
  go_enter Tryz.func129, Tryz.ntmps129
  go_wp2_with fail
  refine H.out.mono ?_
  rintro e w1 ⟨r, rfl, hr, hb⟩
  have HR := Lib.hid hr; clear hr
  go_wp2_with fail
  go_returns
  exact ⟨_, rfl, fun h => HR.out (by simpa using h), hb⟩
set_option maxHeartbeats 800000 in
set_option maxRecDepth 100000 in
theorem idxFFn_any (A : Option Addr) (c B g n : Nat) (lb : Array Value) (l : List Fn) (w : World) (Q : Fn → Prop) (hn : l.length = n) (h : At w B A l) (hB : B ≤ w.heap.size) (hl : n ≤ 9223372036854775807)
    (eg : ∀ args w, (callFunc g args).run Tryz.prog w = .ok (.enter g args) w) (hp : ∀ V, Below w.heap.size w V → ∀ x ∈ l, ∀ (Av Af : Option Addr) (cv cf : Nat), At V B Av x.caught → (x.caught.length ≤ cv ∧ cv ≤ maxLen) → At V B Af x.code → (x.code.length ≤ cf ∧ cf ≤ maxLen) → I64 x.params → I64 x.regs → Calls Tryz.prog g (#[.agg #[.int .i64 x.params, .int .i64 x.regs, .bool x.gen, .slice Av x.caught.length cv, .slice Af x.code.length cf]] ++ lb) V fun e V' => ∃ b : Bool, e = .returned (.bool b) ∧ (b = false → Q x) ∧ Below V.heap.size V V') :
    Calls Tryz.prog 117 #[.slice A n c, .func (.func g) #[] lb] w fun e w' => ∃ r : Int, e = .returned (.int .i64 r) ∧ (r < 0 → ∀ x ∈ l, Q x) ∧ Below w.heap.size w w' := by
  have H := Lib.hid (And.intro h hn); clear h hn
  have HP := Lib.hid hp; clear hp
  have HE := Lib.hid eg
  go_enter Tryz.func117, Tryz.ntmps117
  go_wp2
  go_loopg [8] n (fun gk i wr => ∃ k : Nat, k ≤ n ∧ gk = n - k ∧ i = .int .i64 k ∧ Hid (∀ x ∈ l.take k, Q x) ∧ Below w.heap.size w wr)
  case atStart => exact ⟨0, Nat.zero_le _, rfl, rfl, by simp [Hid], Below.refl _ _⟩
  case round =>
    obtain ⟨k, hk, rfl, rfl, hno, hbl⟩ := hrel
    have hsz := hbl.size
    by_cases hlt : k < n
    · obtain ⟨b, o, x, Av, cv, Af, cf, rfl, hb, hx, q0, q1, q2, q3, q4, a0, l0, a1, l1, i0, i1⟩ := (H.out.1.below (hbl.mono hB)).fn_ (k := k) (by have := H.out.2; omega)
      have hk0 : (0 : Int) ≤ (k : Int) := by omega
      have hk1 : (k : Int) < (n : Int) := by omega
      have hcall := HP.out wr hbl x (List.mem_of_getElem? hx) Av Af cv cf a0 l0 a1 l1 i0 i1
      have HX := Lib.hid (And.intro hx hcall); clear hx hcall
      go_wp2_with (go_at_fn g; refine Calls.mono HX.out.2 ?_; rintro e w' ⟨bb, rfl, hq, hb'⟩; have HQ := Lib.hid hq; clear hq; cases bb)
      · go_wp2_with fail
        go_roundg (n - (k + 1))
        case measure => omega
        case rel => exact ⟨k + 1, by omega, rfl, by go_num, by unfold Hid; exact all_stepT hno.out HX.out.1 (HQ.out (by simp)), hbl.trans (hb'.mono hsz)⟩
      · go_wp2_with fail
        go_ret
        exact ⟨k, rfl, fun h => by omega, hbl.trans (hb'.mono hsz)⟩
    · go_wp2
      go_ret
      exact ⟨-1, rfl, fun _ => by have h1 := hno.out; rw [List.take_of_length_le (by have := H.out.2; omega)] at h1; exact h1, hbl⟩
set_option maxRecDepth 100000 in
theorem ctFFn_any (A : Option Addr) (c B g n : Nat) (lb : Array Value) (l : List Fn) (w : World) (Q : Fn → Prop) (hn : l.length = n) (h : At w B A l) (hB : B ≤ w.heap.size) (hl : n ≤ 9223372036854775807)
    (eg : ∀ args w, (callFunc g args).run Tryz.prog w = .ok (.enter g args) w) (hp : ∀ V, Below w.heap.size w V → ∀ x ∈ l, ∀ (Av Af : Option Addr) (cv cf : Nat), At V B Av x.caught → (x.caught.length ≤ cv ∧ cv ≤ maxLen) → At V B Af x.code → (x.code.length ≤ cf ∧ cf ≤ maxLen) → I64 x.params → I64 x.regs → Calls Tryz.prog g (#[.agg #[.int .i64 x.params, .int .i64 x.regs, .bool x.gen, .slice Av x.caught.length cv, .slice Af x.code.length cf]] ++ lb) V fun e V' => ∃ b : Bool, e = .returned (.bool b) ∧ (b = false → Q x) ∧ Below V.heap.size V V') :
    Calls Tryz.prog 68 #[.slice A n c, .func (.func g) #[] lb] w fun e w' => ∃ b : Bool, e = .returned (.bool b) ∧ (b = false → ∀ x ∈ l, Q x) ∧ Below w.heap.size w w' := by
  have hc := idxFFn_any A c B g n lb l w Q hn h hB hl eg hp
  have H := Lib.hid hc; clear hc hp h hn
  go_enter Tryz.func68, Tryz.ntmps68
  go_wp2_with fail
  refine H.out.mono ?_
  rintro e w1 ⟨r, rfl, hr, hb⟩
  have HR := Lib.hid hr; clear hr
  go_wp2_with fail
  go_returns
  exact ⟨_, rfl, fun h => HR.out (by simpa using h), hb⟩
set_option maxHeartbeats 800000 in
set_option maxRecDepth 100000 in
theorem idxFThread_any (A : Option Addr) (c B g n : Nat) (lb : Array Value) (l : List Th) (w : World) (Q : Th → Prop) (hn : l.length = n) (h : At w B A l) (hB : B ≤ w.heap.size) (hl : n ≤ 9223372036854775807)
    (eg : ∀ args w, (callFunc g args).run Tryz.prog w = .ok (.enter g args) w) (hp : ∀ V, Below w.heap.size w V → ∀ x ∈ l, ∀ (Av : Option Addr) (cv : Nat), At V B Av x.frames → (x.frames.length ≤ cv ∧ cv ≤ maxLen) → (I64 x.state ∧ I64 x.on ∧ I64 x.val.1 ∧ I64 x.val.2) → Calls Tryz.prog g (#[.agg #[.slice Av x.frames.length cv, .int .i64 x.state, .int .i64 x.on, .int .i64 x.val.1, .int .i64 x.val.2]] ++ lb) V fun e V' => ∃ b : Bool, e = .returned (.bool b) ∧ (b = false → Q x) ∧ Below V.heap.size V V') :
    Calls Tryz.prog 86 #[.slice A n c, .func (.func g) #[] lb] w fun e w' => ∃ r : Int, e = .returned (.int .i64 r) ∧ (r < 0 → ∀ x ∈ l, Q x) ∧ Below w.heap.size w w' := by
  have H := Lib.hid (And.intro h hn); clear h hn
  have HP := Lib.hid hp; clear hp
  have HE := Lib.hid eg
  go_enter Tryz.func86, Tryz.ntmps86
  go_wp2
  go_loopg [8] n (fun gk i wr => ∃ k : Nat, k ≤ n ∧ gk = n - k ∧ i = .int .i64 k ∧ Hid (∀ x ∈ l.take k, Q x) ∧ Below w.heap.size w wr)
  case atStart => exact ⟨0, Nat.zero_le _, rfl, rfl, by simp [Hid], Below.refl _ _⟩
  case round =>
    obtain ⟨k, hk, rfl, rfl, hno, hbl⟩ := hrel
    have hsz := hbl.size
    by_cases hlt : k < n
    · obtain ⟨b, o, x, Av, cv, rfl, hb, hx, q0, q1, q2, q3, q4, a0, l0, i0, i1, i2, i3⟩ := (H.out.1.below (hbl.mono hB)).th_ (k := k) (by have := H.out.2; omega)
      have hk0 : (0 : Int) ≤ (k : Int) := by omega
      have hk1 : (k : Int) < (n : Int) := by omega
      have hcall := HP.out wr hbl x (List.mem_of_getElem? hx) Av cv a0 l0 ⟨i0, i1, i2, i3⟩
      have HX := Lib.hid (And.intro hx hcall); clear hx hcall
      go_wp2_with (go_at_fn g; refine Calls.mono HX.out.2 ?_; rintro e w' ⟨bb, rfl, hq, hb'⟩; have HQ := Lib.hid hq; clear hq; cases bb)
      · go_wp2_with fail
        go_roundg (n - (k + 1))
        case measure => omega
        case rel => exact ⟨k + 1, by omega, rfl, by go_num, by unfold Hid; exact all_stepT hno.out HX.out.1 (HQ.out (by simp)), hbl.trans (hb'.mono hsz)⟩
      · go_wp2_with fail
        go_ret
        exact ⟨k, rfl, fun h => by omega, hbl.trans (hb'.mono hsz)⟩
    · go_wp2
      go_ret
      exact ⟨-1, rfl, fun _ => by have h1 := hno.out; rw [List.take_of_length_le (by have := H.out.2; omega)] at h1; exact h1, hbl⟩
set_option maxRecDepth 100000 in
theorem ctFThread_any (A : Option Addr) (c B g n : Nat) (lb : Array Value) (l : List Th) (w : World) (Q : Th → Prop) (hn : l.length = n) (h : At w B A l) (hB : B ≤ w.heap.size) (hl : n ≤ 9223372036854775807)
    (eg : ∀ args w, (callFunc g args).run Tryz.prog w = .ok (.enter g args) w) (hp : ∀ V, Below w.heap.size w V → ∀ x ∈ l, ∀ (Av : Option Addr) (cv : Nat), At V B Av x.frames → (x.frames.length ≤ cv ∧ cv ≤ maxLen) → (I64 x.state ∧ I64 x.on ∧ I64 x.val.1 ∧ I64 x.val.2) → Calls Tryz.prog g (#[.agg #[.slice Av x.frames.length cv, .int .i64 x.state, .int .i64 x.on, .int .i64 x.val.1, .int .i64 x.val.2]] ++ lb) V fun e V' => ∃ b : Bool, e = .returned (.bool b) ∧ (b = false → Q x) ∧ Below V.heap.size V V') :
    Calls Tryz.prog 32 #[.slice A n c, .func (.func g) #[] lb] w fun e w' => ∃ b : Bool, e = .returned (.bool b) ∧ (b = false → ∀ x ∈ l, Q x) ∧ Below w.heap.size w w' := by
  have hc := idxFThread_any A c B g n lb l w Q hn h hB hl eg hp
  have H := Lib.hid hc; clear hc hp h hn
  go_enter Tryz.func32, Tryz.ntmps32
  go_wp2_with fail
  refine H.out.mono ?_
  rintro e w1 ⟨r, rfl, hr, hb⟩
  have HR := Lib.hid hr; clear hr
  go_wp2_with fail
  go_returns
  exact ⟨_, rfl, fun h => HR.out (by simpa using h), hb⟩
end Top
end Go.Proofs.YtdlcooplllimeaaGreatDoor

/- cells.all, cells.is. -/
namespace Go.Proofs.YtdlcooplllimeaaGreatDoor
open Go.RowKit

attribute [local go_sem ↓] Go.wp_at_zero Go.wp_at_succ

namespace Top
theorem egAll1 : ∀ args w, (callFunc 157 args).run Tryz.prog w = .ok (.enter 157 args) w := fun _ _ => by kernel_rfl
set_option maxRecDepth 100000 in
theorem all1_any (w : World) (p q : Nat) (s : Stt) (k n : Int) (h : StA w p s) (hq : Blk w q 78 #[.pointer (some ⟨p, 0, none⟩)]) (hk : I64 k) (hn : I64 n) :
    Calls Tryz.prog 157 #[.agg #[.int .i64 k, .int .i64 n], .pointer (some ⟨q, 0, none⟩)] w fun e w' => ∃ b : Bool, e = .returned (.bool b) ∧ (b = false → fitsV s.texts.length s.cells.length (k, n)) ∧ Below w.heap.size w w' := by
  have hqlt := hq.lt
  have q0 := hq.cell 0 (v := .pointer (some ⟨p, 0, none⟩)) rfl
  have hb0 : Below w.heap.size w (w.alloc (.cells #[.int .i64 k, .int .i64 n] 48)) := (Below.refl _ _).alloc (Nat.le_refl _) _
  have hf := fits_any _ p s k n (h.fresh hb0) hk hn
  have H := Lib.hid (And.intro hf hb0); clear hf hb0 h hq hk hn
  go_enter Tryz.func157, Tryz.ntmps157
  go_wp2_with fail
  refine H.out.1.mono ?_
  rintro e w1 ⟨b, rfl, hb, hb1⟩
  have HB := Lib.hid (And.intro hb hb1); clear hb hb1
  go_wp2_with fail
  go_returns
  exact ⟨_, rfl, fun h => HB.out.1 (by simpa using h), H.out.2.trans (HB.out.2.mono (by simp))⟩
set_option maxRecDepth 100000 in
theorem all_any' (w : World) (p B c : Nat) (A : Option Addr) (s : Stt) (l : List (Int × Int)) (h : StA w p s) (hl : At w B A l) (hB : B ≤ w.heap.size) (hm : l.length ≤ 9223372036854775807) :
    Calls Tryz.prog 128 #[.pointer (some ⟨p, 0, none⟩), .slice A l.length c] w fun e w' => ∃ b : Bool, e = .returned (.bool b) ∧ (b = true → ∀ v ∈ l, fitsV s.texts.length s.cells.length v) ∧ Below w.heap.size w w' := by
  have hb0 : Below w.heap.size w (w.alloc (.cells #[.pointer (some ⟨p, 0, none⟩)] 78)) := (Below.refl _ _).alloc (Nat.le_refl _) _
  have hct := ctFVal_any A c B 157 l.length #[.pointer (some ⟨w.heap.size, 0, none⟩)] l (w.alloc (.cells #[.pointer (some ⟨p, 0, none⟩)] 78)) (fun v => fitsV s.texts.length s.cells.length v) rfl (hl.below (hb0.mono hB)) (by simp; omega) hm egAll1
    (fun V hV x _ h1 h2 => all1_any V p w.heap.size s x.1 x.2 ((h.fresh hb0).fresh hV) ((Blk.new w _ _).fresh hV) h1 h2)
  have H := Lib.hid (And.intro hct hb0); clear hct hb0 h hl
  go_enter Tryz.func128, Tryz.ntmps128
  go_wp2_with fail
  refine H.out.1.mono ?_
  rintro e w1 ⟨b, rfl, hb, hb1⟩
  have HB := Lib.hid (And.intro hb hb1); clear hb hb1
  go_wp2_with fail
  go_returns
  exact ⟨_, rfl, fun h => HB.out.1 (by simpa using h), H.out.2.trans (HB.out.2.mono (by simp))⟩
end Top
end Go.Proofs.YtdlcooplllimeaaGreatDoor

/- cells.is: what is said to be a reference to a cell of a kind, fits. -/
namespace Go.Proofs.YtdlcooplllimeaaGreatDoor
open Go.RowKit

attribute [local go_sem ↓] Go.wp_at_zero Go.wp_at_succ

namespace Top
set_option maxHeartbeats 1600000 in
set_option maxRecDepth 100000 in
theorem is_any (w : World) (p : Nat) (s : Stt) (k n : Int) (kind : Int) (h : StA w p s) (hk : I64 k) (hn : I64 n) :
    Calls Tryz.prog 85 #[.pointer (some ⟨p, 0, none⟩), .agg #[.int .i64 k, .int .i64 n], .int .i64 kind] w fun e w' => ∃ b : Bool, e = .returned (.bool b) ∧ (b = true → fitsV s.texts.length s.cells.length (k, n)) ∧ Below w.heap.size w w' := by
  have hplt := h.lt
  have H := Lib.hid (And.intro h (And.intro hk hn)); clear h hk hn
  go_enter Tryz.func85, Tryz.ntmps85
  go_upto_region 1 with fail
  refine wp_world (fun W => Blk W w.heap.size 48 #[.int .i64 k, .int .i64 n] ∧ Below w.heap.size w W ∧ W.heap.size = w.heap.size + 1) ⟨Blk.new _ _ _, (Below.refl _ _).alloc (Nat.le_refl _) _, by simp⟩ ?_
  rintro W ⟨hB, hbW, hsW⟩
  have b0 := hB.cell 0 (v := .int .i64 k) rfl
  have b1 := hB.cell 1 (v := .int .i64 n) rfl
  have BX : Below W.heap.size W W.drew := (Below.refl _ _).drew
  have hf := fits_iff W.drew p s k n ((H.out.1.fresh hbW).fresh BX) H.out.2.1 H.out.2.2
  have hst := H.out.1.fresh hbW
  obtain ⟨CA, SA, TA, HA, EA, DA, cc, sc, tc, hc, ec, dc, h1, h2, h3⟩ := hst
  have HW := Lib.hid (And.intro hB (And.intro hbW hf)); clear hB hbW hf
  have HS := Lib.hid (And.intro h1 h2); clear h1 h2 h3
  by_cases hX : fitsX s (k, n)
  · by_cases h5 : k = 5
    · subst h5
      obtain ⟨m, x, rfl, hm, hx, -⟩ := hX.ref
      obtain ⟨bb, o, x', Av, cv, Af, cf, rfl, hbb, hx', q0, -⟩ := HS.out.2.ce_ (k := m) hm
      have HX := Lib.hid (And.intro hx hX); clear hx hx' hX
      have m1 : (m : Int) < (s.cells.length : Int) := by omega
      refine wp_region_held_drew (S := (fun w' => w'.cell? ⟨w.heap.size, 0, none⟩ = some (.int .i64 5) ∧ w'.cell? ⟨w.heap.size, 1, none⟩ = some (.int .i64 m) ∧ w'.cell? ⟨p, 0, none⟩ = some (.slice (some ⟨bb, o, none⟩) s.cells.length cc) ∧ w'.cell? ⟨bb, o + m * 4, none⟩ = some (.int .i64 x'.kind))) (by kernel_rfl) ?_ (fun hHeld0 => ?_)
      · first | trivial | ((try dsimp only); (exact ⟨(HW.out.1.fresh BX).cell 0 rfl, (HW.out.1.fresh BX).cell 1 rfl, (HS.out.1.fresh BX).cell 0 rfl, ((BX.cell (p := ⟨bb, o + m * 4, none⟩) hbb).trans q0)⟩))
      refine htk 0 rfl ?_
      try go_frame
      refine htk 1 rfl ?_
      try go_frame
      refine held_call 2 (by kernel_rfl) rfl (fun K hK => ?_)
      go_simp
      refine HW.out.2.2.mono ?_; rintro e w9 ⟨b, rfl, hfb, hb9⟩; obtain rfl : b = true := hfb.2 HX.out.2; clear hfb; have BY := BX.trans (hb9.mono BX.size); clear BX; have BX := BY; clear BY
      try (go_wp2_with fail)
      refine hK.out _ _ ?_ (fun hHeld1 => ?_)
      · first | trivial | ((try dsimp only); (exact ⟨(HW.out.1.fresh BX).cell 0 rfl, (HW.out.1.fresh BX).cell 1 rfl, (HS.out.1.fresh BX).cell 0 rfl, ((BX.cell (p := ⟨bb, o + m * 4, none⟩) hbb).trans q0)⟩))
      clear hK K hHeld0
      try go_frame
      refine htk 3 rfl ?_
      try go_frame
      refine htk 4 rfl ?_
      try go_frame
      refine htk 5 rfl ?_
      try go_frame
      refine htk 6 rfl ?_
      try go_frame
      refine htk 7 rfl ?_
      try go_frame
      refine htk 8 rfl ?_
      try go_frame
      refine htk 9 rfl ?_
      try go_frame
      refine htk 10 rfl ?_
      try go_frame
      refine htk 11 rfl ?_
      try go_frame
      refine htk 12 rfl ?_
      try go_frame
      refine htk 13 rfl ?_
      try go_frame
      refine htk 14 rfl ?_
      try go_frame
      refine htk 15 rfl ?_
      try go_frame
      refine htk 16 rfl ?_
      try go_frame
      refine htk 17 rfl ?_
      try go_frame
      refine htk 18 rfl ?_
      try go_frame
      refine htk 19 rfl ?_
      try go_frame
      refine htk 20 rfl ?_
      try go_frame
      refine htk 21 rfl ?_
      try go_frame
      refine wpAnyH_done (by kernel_rfl) ?_ _
      go_wp2_with fail
      go_returns
      exact ⟨_, rfl, fun _ => HX.out.2.v, HW.out.2.1.trans (BX.mono (by omega))⟩
    · have d5 : (k == 5) = false := by simpa using h5
      have HX := Lib.hid (And.intro h5 hX); clear h5 hX
      refine wp_region_held_drew (S := (fun w' => w'.cell? ⟨w.heap.size, 0, none⟩ = some (.int .i64 k) ∧ w'.cell? ⟨w.heap.size, 1, none⟩ = some (.int .i64 n))) (by kernel_rfl) ?_ (fun hHeld0 => ?_)
      · first | trivial | ((try dsimp only); (exact ⟨(HW.out.1.fresh BX).cell 0 rfl, (HW.out.1.fresh BX).cell 1 rfl⟩))
      refine htk 0 rfl ?_
      try go_frame
      refine htk 1 rfl ?_
      try go_frame
      refine held_call 2 (by kernel_rfl) rfl (fun K hK => ?_)
      go_simp
      refine HW.out.2.2.mono ?_; rintro e w9 ⟨b, rfl, hfb, hb9⟩; obtain rfl : b = true := hfb.2 HX.out.2; clear hfb; have BY := BX.trans (hb9.mono BX.size); clear BX; have BX := BY; clear BY
      try (go_wp2_with fail)
      refine hK.out _ _ ?_ (fun hHeld1 => ?_)
      · first | trivial | ((try dsimp only); (exact ⟨(HW.out.1.fresh BX).cell 0 rfl, (HW.out.1.fresh BX).cell 1 rfl⟩))
      clear hK K hHeld0
      try go_frame
      refine htk 3 rfl ?_
      try go_frame
      refine htk 4 rfl ?_
      try go_frame
      refine htk 5 rfl ?_
      try go_frame
      refine htk 6 rfl ?_
      try go_frame
      refine htk 7 rfl ?_
      try go_frame
      refine htk 8 rfl ?_
      try go_frame
      refine hsk 9 rfl ?_
      try go_frame
      refine hsk 10 rfl ?_
      try go_frame
      refine hsk 11 rfl ?_
      try go_frame
      refine hsk 12 rfl ?_
      try go_frame
      refine hsk 13 rfl ?_
      try go_frame
      refine hsk 14 rfl ?_
      try go_frame
      refine hsk 15 rfl ?_
      try go_frame
      refine hsk 16 rfl ?_
      try go_frame
      refine hsk 17 rfl ?_
      try go_frame
      refine hsk 18 rfl ?_
      try go_frame
      refine hsk 19 rfl ?_
      try go_frame
      refine htk 20 rfl ?_
      try go_frame
      refine htk 21 rfl ?_
      try go_frame
      refine wpAnyH_done (by kernel_rfl) ?_ _
      go_wp2_with fail
      go_returns
      exact ⟨_, rfl, fun h => (by cases h), HW.out.2.1.trans (BX.mono (by omega))⟩
  · have HX := Lib.hid hX; clear hX
    refine wp_region_held_drew (S := (fun w' => w'.cell? ⟨w.heap.size, 0, none⟩ = some (.int .i64 k) ∧ w'.cell? ⟨w.heap.size, 1, none⟩ = some (.int .i64 n))) (by kernel_rfl) ?_ (fun hHeld0 => ?_)
    · first | trivial | ((try dsimp only); (exact ⟨(HW.out.1.fresh BX).cell 0 rfl, (HW.out.1.fresh BX).cell 1 rfl⟩))
    refine htk 0 rfl ?_
    try go_frame
    refine htk 1 rfl ?_
    try go_frame
    refine held_call 2 (by kernel_rfl) rfl (fun K hK => ?_)
    go_simp
    refine HW.out.2.2.mono ?_; rintro e w9 ⟨b, rfl, hfb, hb9⟩; obtain rfl : b = false := Bool.eq_false_iff.2 (fun e => HX.out (hfb.1 e)); clear hfb; have BY := BX.trans (hb9.mono BX.size); clear BX; have BX := BY; clear BY
    try (go_wp2_with fail)
    refine hK.out _ _ ?_ (fun hHeld1 => ?_)
    · first | trivial | ((try dsimp only); (exact ⟨(HW.out.1.fresh BX).cell 0 rfl, (HW.out.1.fresh BX).cell 1 rfl⟩))
    clear hK K hHeld0
    try go_frame
    refine htk 3 rfl ?_
    try go_frame
    refine hsk 4 rfl ?_
    try go_frame
    refine hsk 5 rfl ?_
    try go_frame
    refine hsk 6 rfl ?_
    try go_frame
    refine htk 7 rfl ?_
    try go_frame
    refine htk 8 rfl ?_
    try go_frame
    refine hsk 9 rfl ?_
    try go_frame
    refine hsk 10 rfl ?_
    try go_frame
    refine hsk 11 rfl ?_
    try go_frame
    refine hsk 12 rfl ?_
    try go_frame
    refine hsk 13 rfl ?_
    try go_frame
    refine hsk 14 rfl ?_
    try go_frame
    refine hsk 15 rfl ?_
    try go_frame
    refine hsk 16 rfl ?_
    try go_frame
    refine hsk 17 rfl ?_
    try go_frame
    refine hsk 18 rfl ?_
    try go_frame
    refine hsk 19 rfl ?_
    try go_frame
    refine htk 20 rfl ?_
    try go_frame
    refine htk 21 rfl ?_
    try go_frame
    refine wpAnyH_done (by kernel_rfl) ?_ _
    go_wp2_with fail
    go_returns
    exact ⟨_, rfl, fun h => (by cases h), HW.out.2.1.trans (BX.mono (by omega))⟩
end Top
end Go.Proofs.YtdlcooplllimeaaGreatDoor

/- code: is a program too large? -/
namespace Go.Proofs.YtdlcooplllimeaaGreatDoor
open Go.RowKit

attribute [local go_sem ↓] Go.wp_at_zero Go.wp_at_succ

namespace Top
theorem egLarge1 : ∀ args w, (callFunc 112 args).run Tryz.prog w = .ok (.enter 112 args) w := fun _ _ => by kernel_rfl
theorem egLarge2 : ∀ args w, (callFunc 113 args).run Tryz.prog w = .ok (.enter 113 args) w := fun _ _ => by kernel_rfl
theorem large1_any (s : ByteArray) (w : World) : Calls Tryz.prog 112 #[.string s] w fun e w' => ∃ b : Bool, e = .returned (.bool b) ∧ (b = false → s.size ≤ 200) ∧ Below w.heap.size w w' := by
  go_enter Tryz.func112, Tryz.ntmps112
  go_wp2_with fail
  go_returns
  exact ⟨_, rfl, fun h => by simp at h; omega, Below.refl _ _⟩
theorem large2_any (pa re : Int) (ge : Bool) (KA DA : Option Addr) (nk kc nd dc : Nat) (w : World) : Calls Tryz.prog 113 #[.agg #[.int .i64 pa, .int .i64 re, .bool ge, .slice KA nk kc, .slice DA nd dc]] w fun e w' => ∃ b : Bool, e = .returned (.bool b) ∧ (b = false → re ≤ 60 ∧ nd ≤ 600) ∧ Below w.heap.size w w' := by
  have hb : ∀ o, Below w.heap.size w (w.alloc o) := fun o => (Below.refl _ _).alloc (Nat.le_refl _) _
  have HB := Lib.hid hb; clear hb
  by_cases h1 : nd ≤ 600
  · have h1' : (nd : Int) ≤ 600 := by omega
    go_enter Tryz.func113, Tryz.ntmps113
    go_wp2_with fail
    go_returns
    exact ⟨_, rfl, fun h => ⟨by simp at h; omega, h1⟩, HB.out _⟩
  · have h1' : 600 < (nd : Int) := by omega
    go_enter Tryz.func113, Tryz.ntmps113
    go_wp2_with fail
    go_returns
    exact ⟨_, rfl, fun h => (by cases h), HB.out _⟩

def NotLarge (fns : List Fn) (nc nt : Nat) : Prop := fns.length ≤ 60 ∧ nc ≤ 200 ∧ nt ≤ 200 ∧ ∀ f ∈ fns, f.regs ≤ 60 ∧ f.code.length ≤ 600
set_option maxHeartbeats 800000 in
set_option maxRecDepth 100000 in
theorem large_any (B fc nc cc nt tc : Nat) (FA CA TA : Option Addr) (fns : List Fn) (texts : List ByteArray) (w : World) (hF : At w B FA fns) (hT : At w B TA texts) (hB : B ≤ w.heap.size) (hnt : texts.length = nt) :
    Calls Tryz.prog 66 #[.agg #[.slice FA fns.length fc, .slice CA nc cc, .slice TA nt tc]] w fun e w' => ∃ b : Bool, e = .returned (.bool b) ∧ (b = false → NotLarge fns nc nt) ∧ Below w.heap.size w w' := by
  have hb0 : Below w.heap.size w (w.alloc (.cells #[.slice FA fns.length fc, .slice CA nc cc, .slice TA nt tc] 26)) := (Below.refl _ _).alloc (Nat.le_refl _) _
  by_cases h1 : fns.length ≤ 60
  · by_cases h2 : nc ≤ 200
    · by_cases h3 : nt ≤ 200
      · have h1' : (fns.length : Int) ≤ 60 := by omega
        have h2' : (nc : Int) ≤ 200 := by omega
        have h3' : (nt : Int) ≤ 200 := by omega
        have hB0 : Blk (w.alloc (.cells #[.slice FA fns.length fc, .slice CA nc cc, .slice TA nt tc] 26)) w.heap.size 26 #[.slice FA fns.length fc, .slice CA nc cc, .slice TA nt tc] := Blk.new _ _ _
        have hct := ctFStr_any TA tc B 112 nt #[] texts (w.alloc (.cells #[.slice FA fns.length fc, .slice CA nc cc, .slice TA nt tc] 26)) (fun _ => True) hnt (hT.below (hb0.mono hB)) (by simp; omega) (by omega) egLarge1
          (fun V hV x _ _ => (large1_any x V).mono fun e w' ⟨b, h1, h2, h3⟩ => ⟨b, h1, fun _ => trivial, h3⟩)
        have H := Lib.hid (And.intro hct (And.intro hb0 (And.intro hB0 hF))); clear hct hb0 hF hT hB0
        go_enter Tryz.func66, Tryz.ntmps66
        go_wp2_with fail
        refine H.out.1.mono ?_
        rintro e w1 ⟨b, rfl, -, hb1⟩
        have hbl := H.out.2.1.trans (hb1.mono (by simp))
        have g0 := (H.out.2.2.1.fresh hb1).cell 0 (v := .slice FA fns.length fc) rfl
        cases b with
        | true =>
          have HB := Lib.hid hbl; clear hbl hb1
          go_wp2_with fail
          go_returns
          exact ⟨_, rfl, fun h => (by cases h), HB.out⟩
        | false =>
          have hct2 := ctFFn_any FA fc B 113 fns.length #[] fns w1 (fun f => f.regs ≤ 60 ∧ f.code.length ≤ 600) rfl (H.out.2.2.2.below (hbl.mono hB)) (by have := hbl.size; omega) (by omega) egLarge2
            (fun V hV x _ Av Af cv cf _ _ _ _ _ _ => large2_any x.params x.regs x.gen Av Af x.caught.length cv x.code.length cf V)
          have HB := Lib.hid (And.intro hct2 hbl); clear hct2 hbl hb1
          go_wp2_with fail
          refine HB.out.1.mono ?_
          rintro e w2 ⟨b, rfl, hq, hb2⟩
          have HQ := Lib.hid (And.intro hq (HB.out.2.trans (hb2.mono (by have := HB.out.2.size; omega)))); clear hq hb2
          go_wp2_with fail
          go_returns
          exact ⟨_, rfl, fun h => ⟨h1, h2, h3, HQ.out.1 (by rw [Bool.or_eq_false_iff] at h; exact h.2)⟩, HQ.out.2⟩
      · have h1' : (fns.length : Int) ≤ 60 := by omega
        have h2' : (nc : Int) ≤ 200 := by omega
        have h3' : 200 < (nt : Int) := by omega
        have HB := Lib.hid hb0; clear hb0 hF hT
        go_enter Tryz.func66, Tryz.ntmps66
        go_wp2_with fail
        go_returns
        exact ⟨_, rfl, fun h => (by cases h), HB.out⟩
    · have h1' : (fns.length : Int) ≤ 60 := by omega
      have h2' : 200 < (nc : Int) := by omega
      have HB := Lib.hid hb0; clear hb0 hF hT
      go_enter Tryz.func66, Tryz.ntmps66
      go_wp2_with fail
      go_returns
      exact ⟨_, rfl, fun h => (by cases h), HB.out⟩
  · have h1' : 60 < (fns.length : Int) := by omega
    have HB := Lib.hid hb0; clear hb0 hF hT
    go_enter Tryz.func66, Tryz.ntmps66
    go_wp2_with fail
    go_returns
    exact ⟨_, rfl, fun h => (by cases h), HB.out⟩
end Top
end Go.Proofs.YtdlcooplllimeaaGreatDoor

/- code: the form of an order; what a letter asks of a number. -/
namespace Go.Proofs.YtdlcooplllimeaaGreatDoor
open Go.RowKit

attribute [local go_sem ↓] Go.wp_at_zero Go.wp_at_succ

namespace Top
def formV : List Value := formL.map fun l => .string (str3 l)
set_option maxHeartbeats 800000 in
set_option maxRecDepth 100000 in
theorem form_any (op : Int) (w : World) : Calls Tryz.prog 150 #[.int .i64 op] w fun e w' => (e = .returned (.string ⟨#[]⟩) ∨ ∃ (k x y z : Nat), op = k ∧ formL[k]? = some [x, y, z] ∧ x < 256 ∧ y < 256 ∧ z < 256 ∧ e = .returned (.string (str3 [x, y, z]))) ∧ Below w.heap.size w w' := by
  by_cases h1 : 1 ≤ op
  · by_cases h2 : op < 39
    · obtain ⟨k, rfl⟩ : ∃ k : Nat, op = k := ⟨op.toNat, by omega⟩
      obtain ⟨x, y, z, hk, hx, hy, hz⟩ := formL_three k (by omega) (by omega)
      have hv : formV.toArray[k]? = some (.string (str3 [x, y, z])) := by rw [List.getElem?_toArray]; unfold formV; rw [List.getElem?_map, hk]; rfl
      have k0 : (0 : Int) ≤ (k : Int) := by omega
      have H := Lib.hid (And.intro hk (And.intro hx (And.intro hy (And.intro hz hv)))); clear hk hx hy hz hv
      go_enter Tryz.func150, Tryz.ntmps150
      go_upto_region 2 with (refine wpList_st rfl 252 (.tmp 3) (.tmp 4) rfl w.heap.size rfl rfl (Blk.new w _ _) (by kernel_rfl) rfl rfl ?_)
      refine wp_world (fun W => W.cell? ⟨w.heap.size, k, none⟩ = some (.string (str3 [x, y, z])) ∧ Below w.heap.size w W) ⟨?_, bel_setRow ((Below.refl _ _).alloc (Nat.le_refl _) _) (Nat.le_refl _) _⟩ ?_
      · exact (Blk.new w _ _).setRow.cell k H.out.2.2.2.2
      rintro W ⟨hc, hbl⟩
      go_wp2_with fail
      go_returns
      exact ⟨.inr ⟨k, x, y, z, rfl, H.out.1, H.out.2.1, H.out.2.2.1, H.out.2.2.2.1, rfl⟩, hbl⟩
    · have d2 : decide (39 ≤ op) = true := by simp; omega
      go_enter Tryz.func150, Tryz.ntmps150
      go_upto_region 2 with (refine wpList_st rfl 252 (.tmp 3) (.tmp 4) rfl w.heap.size rfl rfl (Blk.new w _ _) (by kernel_rfl) rfl rfl ?_)
      refine wp_world (fun W => Below w.heap.size w W) (bel_setRow ((Below.refl _ _).alloc (Nat.le_refl _) _) (Nat.le_refl _) _) ?_
      intro W hbl
      go_wp2_with fail
      go_returns
      exact ⟨.inl rfl, hbl⟩
  · have d1 : decide (op < 1) = true := by simp; omega
    go_enter Tryz.func150, Tryz.ntmps150
    go_upto_region 2 with (refine wpList_st rfl 252 (.tmp 3) (.tmp 4) rfl w.heap.size rfl rfl (Blk.new w _ _) (by kernel_rfl) rfl rfl ?_)
    refine wp_world (fun W => Below w.heap.size w W) (bel_setRow ((Below.refl _ _).alloc (Nat.le_refl _) _) (Nat.le_refl _) _) ?_
    intro W hbl
    go_wp2_with fail
    go_returns
    exact ⟨.inl rfl, hbl⟩
end Top
end Go.Proofs.YtdlcooplllimeaaGreatDoor

/- code: what a letter asks of a number. -/
namespace Go.Proofs.YtdlcooplllimeaaGreatDoor
open Go.RowKit

attribute [local go_sem ↓] Go.wp_at_zero Go.wp_at_succ

namespace Top
/-- a call that hands back b in every world, and leaves what was there -/
def Says (f : FuncId) (args : Array Value) (b : Bool) : Prop := ∀ w : World, Calls Tryz.prog f args w fun e w' => e = .returned (.bool b) ∧ Below w.heap.size w w'
theorem Says.of {f : FuncId} {args : Array Value} {b b' : Bool} (h : Says f args b) (e : b = b') : Says f args b' := e ▸ h

section
variable (FA CA TA KA DA : Option Addr) (nf fc nc cc nt tc nk kc nd dc : Nat) (pa re : Int) (ge : Bool)
set_option maxRecDepth 100000 in
theorem reg_says (n : Int) : ∃ b : Bool, Says 153 #[.agg #[.slice FA nf fc, .slice CA nc cc, .slice TA nt tc, .int .i64 pa, .int .i64 re, .bool ge, .slice KA nk kc, .slice DA nd dc], .int .i64 n] b := by
  obtain ⟨q, hq⟩ : ∃ q, IntKind.i64.wrap (re - 1) = q := ⟨_, rfl⟩
  refine ⟨decide (0 ≤ n) && decide (n ≤ q), fun w => ?_⟩
  have hb : ∀ t, Below w.heap.size w (w.alloc (.cells #[.slice FA nf fc, .slice CA nc cc, .slice TA nt tc, .int .i64 pa, .int .i64 re, .bool ge, .slice KA nk kc, .slice DA nd dc] t)) := fun t => (Below.refl _ _).alloc (Nat.le_refl _) _
  have H := Lib.hid hb; clear hb
  go_enter Tryz.func153, Tryz.ntmps153
  go_wp2_with fail
  refine (dwithin_any n 0 q _).mono ?_
  rintro e w1 ⟨rfl, rfl⟩
  go_wp2_with fail
  go_returns
  exact ⟨rfl, H.out _⟩
set_option maxRecDepth 100000 in
theorem at_says (n : Int) (hd : nd ≤ maxLen) : Says 164 #[.agg #[.slice FA nf fc, .slice CA nc cc, .slice TA nt tc, .int .i64 pa, .int .i64 re, .bool ge, .slice KA nk kc, .slice DA nd dc], .int .i64 n] (decide (0 ≤ n) && decide (n ≤ (nd : Int) - 1)) := by
  intro w
  have hw : IntKind.i64.wrap ((nd : Int) - 1) = (nd : Int) - 1 := IntWalk.i64_in _ (by unfold maxLen at hd; omega)
  have hb : ∀ t, Below w.heap.size w (w.alloc (.cells #[.slice FA nf fc, .slice CA nc cc, .slice TA nt tc, .int .i64 pa, .int .i64 re, .bool ge, .slice KA nk kc, .slice DA nd dc] t)) := fun t => (Below.refl _ _).alloc (Nat.le_refl _) _
  have H := Lib.hid hb; clear hb
  go_enter Tryz.func164, Tryz.ntmps164
  go_wp2_with fail
  refine (dwithin_any n 0 ((nd : Int) - 1) _).mono ?_
  rintro e w1 ⟨rfl, rfl⟩
  go_wp2_with fail
  go_returns
  exact ⟨rfl, H.out _⟩
set_option maxRecDepth 100000 in
theorem text_says (n : Int) (hd : nt ≤ maxLen) : Says 163 #[.agg #[.slice FA nf fc, .slice CA nc cc, .slice TA nt tc, .int .i64 pa, .int .i64 re, .bool ge, .slice KA nk kc, .slice DA nd dc], .int .i64 n] (decide (0 ≤ n) && decide (n ≤ (nt : Int) - 1)) := by
  intro w
  have hw : IntKind.i64.wrap ((nt : Int) - 1) = (nt : Int) - 1 := IntWalk.i64_in _ (by unfold maxLen at hd; omega)
  have hb : ∀ t, Below w.heap.size w (w.alloc (.cells #[.slice FA nf fc, .slice CA nc cc, .slice TA nt tc, .int .i64 pa, .int .i64 re, .bool ge, .slice KA nk kc, .slice DA nd dc] t)) := fun t => (Below.refl _ _).alloc (Nat.le_refl _) _
  have H := Lib.hid hb; clear hb
  go_enter Tryz.func163, Tryz.ntmps163
  go_wp2_with fail
  refine (dwithin_any n 0 ((nt : Int) - 1) _).mono ?_
  rintro e w1 ⟨rfl, rfl⟩
  go_wp2_with fail
  go_returns
  exact ⟨rfl, H.out _⟩

set_option maxHeartbeats 1600000 in
set_option maxRecDepth 100000 in
theorem names_says (c : Nat) (n : Int) (hnf : nf ≤ maxLen) (hnc : nc ≤ maxLen) (hnt : nt ≤ maxLen) (hnk : nk ≤ maxLen) (hnd : nd ≤ maxLen) :
    ∃ b : Bool, (b = true → asks nf c n) ∧ Says 152 #[.agg #[.slice FA nf fc, .slice CA nc cc, .slice TA nt tc, .int .i64 pa, .int .i64 re, .bool ge, .slice KA nk kc, .slice DA nd dc], .int .u8 c, .int .i64 n] b := by
  by_cases h1 : c = 114
  · subst h1
    obtain ⟨b, hb⟩ := reg_says FA CA TA KA DA nf fc nc cc nt tc nk kc nd dc pa re ge n
    refine ⟨b, fun _ => (by unfold asks; omega), fun w => ?_⟩
    have HB := Lib.hid (And.intro hb (fun t => (Below.refl w.heap.size w).alloc (Nat.le_refl _) (.cells #[.slice FA nf fc, .slice CA nc cc, .slice TA nt tc, .int .i64 pa, .int .i64 re, .bool ge, .slice KA nk kc, .slice DA nd dc] t))); clear hb
    go_enter Tryz.func152, Tryz.ntmps152
    go_wp2_with fail
    refine (HB.out.1 _).mono ?_
    rintro e w1 ⟨rfl, hb1⟩
    go_wp2_with fail
    go_returns
    exact ⟨rfl, (HB.out.2 _).trans (hb1.mono (by simp))⟩
  by_cases h2 : c = 107
  · subst h2
    refine ⟨decide (0 ≤ n) && decide (n ≤ (nc : Int) - 1), fun _ => (by unfold asks; omega), fun w => ?_⟩
    have hw : IntKind.i64.wrap ((nc : Int) - 1) = (nc : Int) - 1 := IntWalk.i64_in _ (by unfold maxLen at hnc; omega)
    have HB := Lib.hid (fun t => (Below.refl w.heap.size w).alloc (Nat.le_refl _) (.cells #[.slice FA nf fc, .slice CA nc cc, .slice TA nt tc, .int .i64 pa, .int .i64 re, .bool ge, .slice KA nk kc, .slice DA nd dc] t))
    go_enter Tryz.func152, Tryz.ntmps152
    go_wp2_with fail
    refine (dwithin_any n 0 ((nc : Int) - 1) _).mono ?_
    rintro e w1 ⟨rfl, rfl⟩
    go_wp2_with fail
    go_returns
    exact ⟨rfl, HB.out _⟩
  by_cases h3 : c = 116
  · subst h3
    refine ⟨decide (0 ≤ n) && decide (n ≤ (nt : Int) - 1), fun _ => (by unfold asks; omega), fun w => ?_⟩
    have HB := Lib.hid (And.intro (text_says FA CA TA KA DA nf fc nc cc nt tc nk kc nd dc pa re ge n hnt) (fun t => (Below.refl w.heap.size w).alloc (Nat.le_refl _) (.cells #[.slice FA nf fc, .slice CA nc cc, .slice TA nt tc, .int .i64 pa, .int .i64 re, .bool ge, .slice KA nk kc, .slice DA nd dc] t)))
    go_enter Tryz.func152, Tryz.ntmps152
    go_wp2_with fail
    refine (HB.out.1 _).mono ?_
    rintro e w1 ⟨rfl, hb1⟩
    go_wp2_with fail
    go_returns
    exact ⟨rfl, (HB.out.2 _).trans (hb1.mono (by simp))⟩
  by_cases h4 : c = 97
  · subst h4
    refine ⟨decide (0 ≤ n) && decide (n ≤ (nd : Int) - 1), fun h => (by unfold asks; simp at h; omega), fun w => ?_⟩
    have HB := Lib.hid (And.intro (at_says FA CA TA KA DA nf fc nc cc nt tc nk kc nd dc pa re ge n hnd) (fun t => (Below.refl w.heap.size w).alloc (Nat.le_refl _) (.cells #[.slice FA nf fc, .slice CA nc cc, .slice TA nt tc, .int .i64 pa, .int .i64 re, .bool ge, .slice KA nk kc, .slice DA nd dc] t)))
    go_enter Tryz.func152, Tryz.ntmps152
    go_wp2_with fail
    refine (HB.out.1 _).mono ?_
    rintro e w1 ⟨rfl, hb1⟩
    go_wp2_with fail
    go_returns
    exact ⟨rfl, (HB.out.2 _).trans (hb1.mono (by simp))⟩
  by_cases h5 : c = 117
  · subst h5
    refine ⟨decide (0 ≤ n) && decide (n ≤ (nk : Int) - 1), fun _ => (by unfold asks; omega), fun w => ?_⟩
    have hw : IntKind.i64.wrap ((nk : Int) - 1) = (nk : Int) - 1 := IntWalk.i64_in _ (by unfold maxLen at hnk; omega)
    have HB := Lib.hid (fun t => (Below.refl w.heap.size w).alloc (Nat.le_refl _) (.cells #[.slice FA nf fc, .slice CA nc cc, .slice TA nt tc, .int .i64 pa, .int .i64 re, .bool ge, .slice KA nk kc, .slice DA nd dc] t))
    go_enter Tryz.func152, Tryz.ntmps152
    go_wp2_with fail
    refine (dwithin_any n 0 ((nk : Int) - 1) _).mono ?_
    rintro e w1 ⟨rfl, rfl⟩
    go_wp2_with fail
    go_returns
    exact ⟨rfl, HB.out _⟩
  by_cases h6 : c = 102
  · subst h6
    refine ⟨decide (1 ≤ n) && decide (n ≤ (nf : Int) - 1), fun h => (by unfold asks; simp at h; omega), fun w => ?_⟩
    have hw : IntKind.i64.wrap ((nf : Int) - 1) = (nf : Int) - 1 := IntWalk.i64_in _ (by unfold maxLen at hnf; omega)
    have HB := Lib.hid (fun t => (Below.refl w.heap.size w).alloc (Nat.le_refl _) (.cells #[.slice FA nf fc, .slice CA nc cc, .slice TA nt tc, .int .i64 pa, .int .i64 re, .bool ge, .slice KA nk kc, .slice DA nd dc] t))
    go_enter Tryz.func152, Tryz.ntmps152
    go_wp2_with fail
    refine (dwithin_any n 1 ((nf : Int) - 1) _).mono ?_
    rintro e w1 ⟨rfl, rfl⟩
    go_wp2_with fail
    go_returns
    exact ⟨rfl, HB.out _⟩
  have e1 : ((c : Int) == 114) = false := by simp; omega
  have e2 : ((c : Int) == 107) = false := by simp; omega
  have e3 : ((c : Int) == 116) = false := by simp; omega
  have e4 : ((c : Int) == 97) = false := by simp; omega
  have e5 : ((c : Int) == 117) = false := by simp; omega
  have e6 : ((c : Int) == 102) = false := by simp; omega
  have has0 : asks nf c n := by unfold asks; omega
  clear h1 h2 h3 h4 h5 h6
  by_cases h7 : c = 108
  · subst h7
    refine ⟨decide (0 ≤ n) && decide (n ≤ re), fun _ => has0, fun w => ?_⟩
    have HB := Lib.hid (fun t => (Below.refl w.heap.size w).alloc (Nat.le_refl _) (.cells #[.slice FA nf fc, .slice CA nc cc, .slice TA nt tc, .int .i64 pa, .int .i64 re, .bool ge, .slice KA nk kc, .slice DA nd dc] t)); clear has0 e1 e2 e3 e4 e5 e6
    go_enter Tryz.func152, Tryz.ntmps152
    go_wp2_with fail
    refine (dwithin_any n 0 re _).mono ?_
    rintro e w1 ⟨rfl, rfl⟩
    go_wp2_with fail
    go_returns
    exact ⟨rfl, HB.out _⟩
  by_cases h8 : c = 99
  · subst h8
    refine ⟨decide (0 ≤ n) && decide (n ≤ re), fun _ => has0, fun w => ?_⟩
    have HB := Lib.hid (fun t => (Below.refl w.heap.size w).alloc (Nat.le_refl _) (.cells #[.slice FA nf fc, .slice CA nc cc, .slice TA nt tc, .int .i64 pa, .int .i64 re, .bool ge, .slice KA nk kc, .slice DA nd dc] t)); clear has0 e1 e2 e3 e4 e5 e6
    go_enter Tryz.func152, Tryz.ntmps152
    go_wp2_with fail
    refine (dwithin_any n 0 re _).mono ?_
    rintro e w1 ⟨rfl, rfl⟩
    go_wp2_with fail
    go_returns
    exact ⟨rfl, HB.out _⟩
  by_cases h9 : c = 110
  · subst h9
    refine ⟨decide (0 ≤ n) && decide (n ≤ re), fun _ => has0, fun w => ?_⟩
    have HB := Lib.hid (fun t => (Below.refl w.heap.size w).alloc (Nat.le_refl _) (.cells #[.slice FA nf fc, .slice CA nc cc, .slice TA nt tc, .int .i64 pa, .int .i64 re, .bool ge, .slice KA nk kc, .slice DA nd dc] t)); clear has0 e1 e2 e3 e4 e5 e6
    go_enter Tryz.func152, Tryz.ntmps152
    go_wp2_with fail
    refine (dwithin_any n 0 re _).mono ?_
    rintro e w1 ⟨rfl, rfl⟩
    go_wp2_with fail
    go_returns
    exact ⟨rfl, HB.out _⟩
  have e7 : ((c : Int) == 108) = false := by simp; omega
  have e8 : ((c : Int) == 99) = false := by simp; omega
  have e9 : ((c : Int) == 110) = false := by simp; omega
  clear h7 h8 h9
  refine ⟨n == 0, fun _ => has0, fun w => ?_⟩
  have HB := Lib.hid (fun t => (Below.refl w.heap.size w).alloc (Nat.le_refl _) (.cells #[.slice FA nf fc, .slice CA nc cc, .slice TA nt tc, .int .i64 pa, .int .i64 re, .bool ge, .slice KA nk kc, .slice DA nd dc] t)); clear has0
  go_enter Tryz.func152, Tryz.ntmps152
  go_wp2_with fail
  go_returns
  exact ⟨rfl, HB.out _⟩
end
end Top
end Go.Proofs.YtdlcooplllimeaaGreatDoor

/- code: what a caught function may be; is an order right in its place? -/
namespace Go.Proofs.YtdlcooplllimeaaGreatDoor
open Go.RowKit

attribute [local go_sem ↓] Go.wp_at_zero Go.wp_at_succ

namespace Top
section
variable (FA CA TA KA DA : Option Addr) (nf fc nc cc nt tc nk kc nd dc : Nat) (pa re : Int) (ge : Bool)
theorem egCaught : ∀ args w, (callFunc 166 args).run Tryz.prog w = .ok (.enter 166 args) w := fun _ _ => by kernel_rfl
set_option maxRecDepth 100000 in
theorem caught1_any (n : Int) (g : Nat) (w : World) (hg : Blk w g 211 #[.slice FA nf fc, .slice CA nc cc, .slice TA nt tc, .int .i64 pa, .int .i64 re, .bool ge, .slice KA nk kc, .slice DA nd dc]) (hnk : nk ≤ maxLen) :
    Calls Tryz.prog 166 #[.int .i64 n, .pointer (some ⟨g, 0, none⟩)] w fun e w' => ∃ b : Bool, e = .returned (.bool b) ∧ (b = false → True) ∧ Below w.heap.size w w' := by
  have c0 := hg.cell 0 (v := .slice FA nf fc) rfl
  have c1 := hg.cell 1 (v := .slice CA nc cc) rfl
  have c2 := hg.cell 2 (v := .slice TA nt tc) rfl
  have c3 := hg.cell 3 (v := .int .i64 pa) rfl
  have c4 := hg.cell 4 (v := .int .i64 re) rfl
  have c5 := hg.cell 5 (v := .bool ge) rfl
  have c6 := hg.cell 6 (v := .slice KA nk kc) rfl
  have c7 := hg.cell 7 (v := .slice DA nd dc) rfl
  have hw : IntKind.i64.wrap (-(nk : Int)) = -(nk : Int) := IntWalk.i64_in _ (by unfold maxLen at hnk; omega)
  obtain ⟨b, hb⟩ := reg_says FA CA TA KA DA nf fc nc cc nt tc nk kc nd dc pa re ge n
  have H := Lib.hid (And.intro hg hb); clear hg hb
  go_enter Tryz.func166, Tryz.ntmps166
  go_wp2_with fail
  refine (H.out.2 _).mono ?_
  rintro e w1 ⟨rfl, hb1⟩
  have hg1 := H.out.1.fresh hb1
  have d6 := hg1.cell 6 (v := .slice KA nk kc) rfl
  cases b with
  | true =>
    have HB := Lib.hid hb1; clear hb1 hg1 c0 c1 c2 c3 c4 c5 c6 c7
    go_wp2_with fail
    go_returns
    exact ⟨_, rfl, fun _ => trivial, HB.out⟩
  | false =>
    have HB := Lib.hid hb1; clear hb1 hg1 c0 c1 c2 c3 c4 c5 c6 c7
    go_wp2_with fail
    refine (dwithin_any n (-(nk : Int)) (-1) _).mono ?_
    rintro e w2 ⟨rfl, rfl⟩
    go_wp2_with fail
    go_returns
    exact ⟨_, rfl, fun _ => trivial, HB.out⟩
set_option maxRecDepth 100000 in
theorem caught_any (x : Fn) (XA YA : Option Addr) (xc yc B : Nat) (w : World) (hX : At w B XA x.caught) (hxc : x.caught.length ≤ xc ∧ xc ≤ maxLen) (hB : B ≤ w.heap.size) (hnk : nk ≤ maxLen) :
    Calls Tryz.prog 154 #[.agg #[.slice FA nf fc, .slice CA nc cc, .slice TA nt tc, .int .i64 pa, .int .i64 re, .bool ge, .slice KA nk kc, .slice DA nd dc], .agg #[.int .i64 x.params, .int .i64 x.regs, .bool x.gen, .slice XA x.caught.length xc, .slice YA x.code.length yc]] w fun e w' => ∃ b : Bool, e = .returned (.bool b) ∧ Below w.heap.size w w' := by
  have hb0 : Below w.heap.size w ((w.alloc (.cells #[.slice FA nf fc, .slice CA nc cc, .slice TA nt tc, .int .i64 pa, .int .i64 re, .bool ge, .slice KA nk kc, .slice DA nd dc] 211)).alloc (.cells #[.int .i64 x.params, .int .i64 x.regs, .bool x.gen, .slice XA x.caught.length xc, .slice YA x.code.length yc] 160)) := ((Below.refl _ _).alloc (Nat.le_refl _) _).alloc (by simp) _
  have hct := ctFInt_any XA xc B 166 x.caught.length #[.pointer (some ⟨w.heap.size, 0, none⟩)] x.caught _ (fun _ => True) rfl (hX.below (hb0.mono hB)) (by simp; omega) (by unfold maxLen at hxc; omega) egCaught
    (fun V hV y _ _ => caught1_any FA CA TA KA DA nf fc nc cc nt tc nk kc nd dc pa re ge y w.heap.size V (((Blk.new w _ _).alloc _).fresh hV) hnk)
  have H := Lib.hid (And.intro hct hb0); clear hct hb0 hX
  go_enter Tryz.func154, Tryz.ntmps154
  go_wp2_with fail
  refine H.out.1.mono ?_
  rintro e w1 ⟨b, rfl, hb, hb1⟩
  have HB := Lib.hid hb1; clear hb hb1
  go_wp2_with fail
  go_returns
  exact ⟨_, rfl, H.out.2.trans (HB.out.mono (by simp; omega))⟩
end
end Top
end Go.Proofs.YtdlcooplllimeaaGreatDoor
