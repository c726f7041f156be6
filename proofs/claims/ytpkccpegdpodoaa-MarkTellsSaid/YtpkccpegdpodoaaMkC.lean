/- May things be named? A marker's and a model's. -/
import Derived.Test.YtpkccpegdpodoaaMkB
import Derived.Test.YtpkccpegdpodoaaWeak4
namespace Go.Proofs.Ytpkccpegdpodoaa
open Go.RowKit

attribute [local go_sem ↓] Go.wp_at_zero Go.wp_at_succ

theorem fromW_any (hc rc n m : Nat) (HA RA : Option Addr) (has : List (List Int)) (roots : List Int) (w : World) (hn : has.length = n) (hm : roots.length = m) (hh : At w w.heap.size HA has) (hr : At w w.heap.size RA roots)
    (hright : Right has) (hsrc : RightL has.length roots) (hlen : n ≤ 100) (hml : m ≤ 1000) (hhl : ∀ l ∈ has, l.length ≤ 10) :
    Calls Try.prog 105 #[.agg #[.slice HA n hc, .slice RA m rc], .slice RA m rc] w fun e w' => ∃ S c, e = .returned (.slice S n c) ∧ Own w' w.heap.size 4 S c (fromL has roots []) ∧ Below w.heap.size w w' := by
  subst hn hm
  exact wfrom_any w.heap.size hc rc rc roots.length HA RA RA has roots w hh hr (Nat.le_refl _) hright hsrc hlen hml hhl
theorem fromR_any (hc rc n m : Nat) (HA RA : Option Addr) (has : List (List Int)) (roots : List Int) (w : World) (hn : has.length = n) (hm : roots.length = m) (hh : At w w.heap.size HA has) (hr : At w w.heap.size RA roots)
    (hright : Right has) (hsrc : RightL has.length roots) (hlen : n ≤ 100) (hml : m ≤ 1000) (hhl : ∀ l ∈ has, l.length ≤ 10) :
    Calls Try.prog 33 #[.agg #[.slice HA n hc, .slice RA m rc], .slice RA m rc, .slice none 0 0] w fun e w' => ∃ S c, e = .returned (.slice S n c) ∧ Own w' w.heap.size 4 S c (fromL has roots []) ∧ Below w.heap.size w w' := by
  subst hn hm
  exact rfrom_any w.heap.size hc rc rc 0 roots.length HA RA RA none has roots [] w hh hr At.nil_ (Nat.le_refl _) hright hsrc (fun p hp => by simp at hp) hlen hml (by simp) hhl

theorem all_snocM {α : Type} (p : α → Bool) (l : List α) (k : Nat) (x : α) (h : l[k]? = some x) : (l.take (k + 1)).all p = ((l.take k).all p && p x) := by
  rw [List.take_add_one, h]; simp [List.all_append]
theorem all_stopM {α : Type} (p : α → Bool) (l : List α) (k : Nat) (x : α) (h : l[k]? = some x) (hp : p x = false) : l.all p = false := by
  rw [List.all_eq_false]; exact ⟨x, List.mem_of_getElem? h, by simp [hp]⟩
theorem namedE_none {s : List It} {l : List Int} {k : Nat} {x : Int} (h : l[k]? = some x) (hx : inN s.length x = false) : namedE s l = 5 := by
  unfold namedE; rw [all_stopM _ l k x h hx]; rfl
theorem namedE_state {s : List It} {l : List Int} {k : Nat} {x : Int} (h1 : l.all (inN s.length) = true) (h : l[k]? = some x) (hx : (needed s).getD x.toNat false = false) : namedE s l = 8 := by
  unfold namedE; rw [if_pos h1, all_stopM _ l k x h hx]; rfl
theorem namedE_ok {s : List It} {l : List Int} (h1 : l.all (inN s.length) = true) (h2 : l.all (fun n => (needed s).getD n.toNat false) = true) : namedE s l = 0 := by
  unfold namedE; rw [if_pos h1, if_pos h2]

/-- things whose graph is right -/
structure Fine (s : List It) : Prop where
  small : s.length ≤ 100
  long : ∀ x ∈ s, x.has.length ≤ 10
  neg : ∀ x ∈ s, ∀ k ∈ x.has, k = -1 ∨ 0 ≤ k
  right : Right (gHas s)
  rightL : RightL (gHas s).length (gRoots s)
theorem MInv.fine {kind : Int} {mk : Bool} {s : List It} (h : MInv kind mk s) : Fine s := ⟨h.small, h.long, fun x hx k hk => (h.refs x hx k hk).imp id (fun ⟨n, e, _⟩ => by omega), h.right, h.rightL⟩
theorem Fine.glen {s : List It} (h : Fine s) : ∀ l ∈ gHas s, l.length ≤ 10 := by
  intro l hl
  unfold gHas at hl
  obtain ⟨x, hx, rfl⟩ := List.mem_map.1 hl
  exact Nat.le_trans (List.length_filter_le _ _) (h.long x hx)
theorem rising_I64 (l : List Bool) (h : l.length ≤ 1000000) : ∀ x ∈ rising l, I64 x := by
  intro x hx
  obtain ⟨n, rfl, hn⟩ := (mem_rising l x).1 hx
  have := (List.getElem?_eq_some_iff.1 hn).1
  unfold I64; omega


end Go.Proofs.Ytpkccpegdpodoaa
