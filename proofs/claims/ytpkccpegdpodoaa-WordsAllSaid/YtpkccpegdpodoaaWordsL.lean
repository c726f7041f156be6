/- Cells in words, the plain law. Boxes come as a function. No program is named here. -/
import Derived.Test.YtpkccpegdpodoaaTypes
namespace Go.Proofs.Ytpkccpegdpodoaa

def wd (n : Int) : U64 := ⟨n % 18446744073709551616⟩
theorem wd_ok (n : Int) : 0 ≤ (wd n).val ∧ (wd n).val ≤ 18446744073709551615 := by unfold wd; simp only; omega
/-- the first error of values' boxes, behind an error e -/
def errFrom (bx : Int × Int → Int × Int) (e : Int) (l : List (Int × Int)) : Int := l.foldl (fun e v => if e = 0 then (bx v).2 else e) e
theorem errFrom_append (bx : Int × Int → Int × Int) (e : Int) (l r : List (Int × Int)) : errFrom bx e (l ++ r) = errFrom bx (errFrom bx e l) r := List.foldl_append
theorem errFrom_snoc (bx : Int × Int → Int × Int) (e : Int) (l : List (Int × Int)) (k : Nat) (x : Int × Int) (h : l[k]? = some x) : errFrom bx e (l.take (k + 1)) = if errFrom bx e (l.take k) = 0 then (bx x).2 else errFrom bx e (l.take k) := by
  rw [List.take_add_one, h]; unfold errFrom; rw [List.foldl_append]; rfl
theorem errFrom_stays (bx : Int × Int → Int × Int) (e : Int) (l : List (Int × Int)) (h : e ≠ 0) : errFrom bx e l = e := by
  unfold errFrom
  induction l with
  | nil => rfl
  | cons v l ih => rw [List.foldl_cons, if_neg h, ih]
theorem errFrom_hit (bx : Int × Int → Int × Int) (l : List (Int × Int)) (k : Nat) (x : Int × Int) (h : l[k]? = some x) (h0 : errFrom bx 0 (l.take k) = 0) (hx : (bx x).2 ≠ 0) : errFrom bx 0 l = (bx x).2 := by
  have hs := errFrom_snoc bx 0 l k x h
  rw [if_pos h0] at hs
  have e : l = l.take (k + 1) ++ l.drop (k + 1) := (List.take_append_drop _ _).symm
  rw [e, errFrom_append, hs, errFrom_stays _ _ _ hx]

def boxW (bx : Int × Int → Int × Int) (v : Int × Int) : U64 := ⟨(bx v).1⟩
def valsW (bx : Int × Int → Int × Int) (l : List (Int × Int)) : List U64 := wd l.length :: l.map (boxW bx)
def triesW (l : List (Int × Int)) : List U64 := l.flatMap fun t => [wd t.1, wd t.2]
def frameW (bx : Int × Int → Int × Int) (f : Fr) : List U64 := [wd f.fn, wd f.at_, wd f.fto, wd f.gen] ++ [boxW bx f.self] ++ valsW bx f.regs ++ [wd f.tries.length] ++ triesW f.tries
def cellW (bx : Int × Int → Int × Int) (c : Ce) : List U64 := [wd c.kind, wd c.num] ++ valsW bx c.vals ++ [wd c.frames.length] ++ c.frames.flatMap (frameW bx)
def frVals (f : Fr) : List (Int × Int) := f.self :: f.regs
def cellVals (c : Ce) : List (Int × Int) := c.vals ++ c.frames.flatMap frVals
def frLarge (f : Fr) : Bool := decide (60 < f.regs.length) || decide (20 < f.tries.length)
def mostV (k : Int) : Int := if k = 7 then 600 else 100
def cellLarge (c : Ce) : Bool := c.frames.any frLarge || decide (mostV c.kind < c.vals.length) || decide (30 < c.frames.length)
def cellErr (bx : Int × Int → Int × Int) (c : Ce) : Int := if cellLarge c = true then 2 else errFrom bx 0 (cellVals c)
theorem flatMap_snoc {α β : Type} (f : α → List β) (l : List α) (k : Nat) (x : α) (h : l[k]? = some x) : (l.take (k + 1)).flatMap f = (l.take k).flatMap f ++ f x := by
  rw [List.take_add_one, h]; simp
theorem map_snoc {α β : Type} (f : α → β) (l : List α) (k : Nat) (x : α) (h : l[k]? = some x) : (l.take (k + 1)).map f = (l.take k).map f ++ [f x] := by
  rw [List.take_add_one, h]; simp
theorem valsW_length (bx : Int × Int → Int × Int) (l : List (Int × Int)) : (valsW bx l).length = l.length + 1 := by simp [valsW]
theorem triesW_length (l : List (Int × Int)) : (triesW l).length = 2 * l.length := by
  induction l with
  | nil => rfl
  | cons t l ih => simp only [triesW, List.flatMap_cons, List.length_append, List.length_cons, List.length_nil] at ih ⊢; omega
theorem frameW_length (bx : Int × Int → Int × Int) (f : Fr) (h : frLarge f = false) : (frameW bx f).length ≤ 110 := by
  simp only [frLarge, Bool.or_eq_false_iff, decide_eq_false_iff_not] at h
  simp only [frameW, List.length_append, valsW_length, triesW_length, List.length_cons, List.length_nil]
  omega
theorem flat_le {α β : Type} (f : α → List β) (l : List α) (m : Nat) (h : ∀ x ∈ l, (f x).length ≤ m) : (l.flatMap f).length ≤ l.length * m := by
  induction l with
  | nil => simp
  | cons x l ih =>
    have h1 := h x (by simp)
    have h2 := ih (fun y hy => h y (by simp [hy]))
    rw [List.flatMap_cons, List.length_append, List.length_cons, Nat.succ_mul]
    omega
theorem cellLarge_no {c : Ce} (h : cellLarge c = false) : (∀ f ∈ c.frames, frLarge f = false) ∧ c.vals.length ≤ 600 ∧ c.frames.length ≤ 30 ∧ (c.vals.length : Int) ≤ mostV c.kind := by
  unfold cellLarge at h
  simp only [Bool.or_eq_false_iff, decide_eq_false_iff_not, List.any_eq_false] at h
  obtain ⟨⟨h1, h2⟩, h3⟩ := h
  refine ⟨fun f hf => by simpa using h1 f hf, ?_, by omega, by omega⟩
  unfold mostV at h2
  split at h2 <;> omega

end Go.Proofs.Ytpkccpegdpodoaa
