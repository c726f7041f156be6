/- A stable sort: its plain law. No program is named here. -/
import Derived.Test.YtljdnadejmkaeaaBase
namespace Go.Proofs.Ytljdnadejmkaeaa

namespace Srt
/-- ahead of: by a key; of the same key by number -/
def R (f : Int → Int) (x y : Int) : Prop := f x < f y ∨ (f x = f y ∧ x < y)
theorem R.le {f : Int → Int} {x y : Int} (h : R f x y) : f x ≤ f y := by rcases h with h | ⟨h, -⟩ <;> omega
theorem R.of_le {f : Int → Int} {x y : Int} (h : f x ≤ f y) (hl : x < y) : R f x y := by
  by_cases e : f x = f y
  · exact .inr ⟨e, hl⟩
  · exact .inl (by omega)
theorem R.trans {f : Int → Int} {x y z : Int} (h : R f x y) (h' : R f y z) : R f x z := by
  unfold R at *; omega
theorem R.irrefl {f : Int → Int} {x : Int} : ¬ R f x x := by unfold R; omega
theorem R.asymm {f : Int → Int} {x y : Int} (h : R f x y) : ¬ R f y x := by unfold R at *; omega

def cmpI (u v : Int) : Int := if u < v then -1 else if v < u then 1 else 0
theorem cmpI_neg (u v : Int) : (cmpI u v < 0) ↔ u < v := by
  unfold cmpI; split
  · simp; assumption
  · split <;> simp <;> omega

def swap2 (l : List Int) (i j : Nat) : List Int := (l.set i (l.getD j 0)).set j (l.getD i 0)
theorem swap2_length (l : List Int) (i j : Nat) : (swap2 l i j).length = l.length := by simp [swap2]
theorem set_mid (A B : List Int) (x y : Int) : (A ++ x :: B).set A.length y = A ++ y :: B := by
  rw [List.set_append_right _ _ (Nat.le_refl _), Nat.sub_self, List.set_cons_zero]
theorem get_mid (A B : List Int) (x : Int) : (A ++ x :: B)[A.length]? = some x := by
  rw [List.getElem?_append_right (Nat.le_refl _), Nat.sub_self, List.getElem?_cons_zero]
theorem swap2_parts (A M S : List Int) (x y : Int) : swap2 (A ++ x :: (M ++ y :: S)) A.length (A.length + 1 + M.length) = A ++ y :: (M ++ x :: S) := by
  have e1 : A ++ x :: (M ++ y :: S) = (A ++ x :: M) ++ y :: S := by simp
  have l1 : (A ++ x :: M).length = A.length + 1 + M.length := by simp; omega
  have g1 : (A ++ x :: (M ++ y :: S)).getD (A.length + 1 + M.length) 0 = y := by
    rw [List.getD_eq_getElem?_getD, e1, ← l1, get_mid]; rfl
  have g2 : (A ++ x :: (M ++ y :: S)).getD A.length 0 = x := by rw [List.getD_eq_getElem?_getD, get_mid]; rfl
  unfold swap2
  rw [g1, g2, set_mid]
  have e2 : A ++ y :: (M ++ y :: S) = (A ++ y :: M) ++ y :: S := by simp
  have l2 : (A ++ y :: M).length = A.length + 1 + M.length := by simp; omega
  rw [e2, ← l2, set_mid]
  simp
theorem swap2_comm_parts (A M S : List Int) (x y : Int) : swap2 (A ++ x :: (M ++ y :: S)) (A.length + 1 + M.length) A.length = A ++ y :: (M ++ x :: S) := by
  have e1 : A ++ x :: (M ++ y :: S) = (A ++ x :: M) ++ y :: S := by simp
  have l1 : (A ++ x :: M).length = A.length + 1 + M.length := by simp; omega
  have g1 : (A ++ x :: (M ++ y :: S)).getD (A.length + 1 + M.length) 0 = y := by
    rw [List.getD_eq_getElem?_getD, e1, ← l1, get_mid]; rfl
  have g2 : (A ++ x :: (M ++ y :: S)).getD A.length 0 = x := by rw [List.getD_eq_getElem?_getD, get_mid]; rfl
  unfold swap2
  rw [g1, g2, e1, ← l1, set_mid]
  have e2 : (A ++ x :: M) ++ x :: S = A ++ x :: (M ++ x :: S) := by simp
  rw [e2, set_mid]

def swpN (l : List Int) (a b : Nat) : Nat → List Int
  | 0 => l
  | n + 1 => swap2 (swpN l a b n) (a + n) (b + n)
theorem swpN_length (l : List Int) (a b n : Nat) : (swpN l a b n).length = l.length := by
  induction n with
  | zero => rfl
  | succ n ih => rw [swpN, swap2_length, ih]
theorem swpN_parts : ∀ (n : Nat) (X Y P M S : List Int), X.length = n → Y.length = n → swpN (P ++ X ++ M ++ Y ++ S) P.length (P.length + X.length + M.length) n = P ++ Y ++ M ++ X ++ S
  | 0, X, Y, P, M, S, hX, hY => by
    have := List.eq_nil_of_length_eq_zero hX; have := List.eq_nil_of_length_eq_zero hY; subst X Y; simp [swpN]
  | n + 1, X, Y, P, M, S, hX, hY => by
    rcases List.eq_nil_or_concat X with rfl | ⟨X0, x, rfl⟩
    · simp at hX
    rcases List.eq_nil_or_concat Y with rfl | ⟨Y0, y, rfl⟩
    · simp at hY
    have h1 : X0.length = n := by simpa using hX
    have h2 : Y0.length = n := by simpa using hY
    have ih := swpN_parts n X0 Y0 P (x :: M) (y :: S) h1 h2
    have e1 : P ++ (X0 ++ [x]) ++ M ++ (Y0 ++ [y]) ++ S = P ++ X0 ++ (x :: M) ++ Y0 ++ (y :: S) := by simp
    have e2 : P.length + (X0 ++ [x]).length + M.length = P.length + X0.length + (x :: M).length := by simp; omega
    rw [swpN, List.concat_eq_append, List.concat_eq_append, e2, e1, ih]
    have e3 : P ++ Y0 ++ (x :: M) ++ X0 ++ (y :: S) = (P ++ Y0) ++ x :: ((M ++ X0) ++ y :: S) := by simp
    have l3 : P.length + n = (P ++ Y0).length := by simp [h2]
    have l4 : P.length + X0.length + (x :: M).length + n = (P ++ Y0).length + 1 + (M ++ X0).length := by simp; omega
    rw [e3, l3, l4, swap2_parts]
    simp

/-! ### sorted lists -/
section
variable {f : Int → Int}
theorem last_le {X : List Int} (h : X.Pairwise (R f)) {z : Int} (hz : X.getLast? = some z) : ∀ x ∈ X, f x ≤ f z := by
  intro x hx
  rcases List.eq_nil_or_concat X with rfl | ⟨X0, y, rfl⟩
  · simp at hx
  · rw [List.concat_eq_append, List.getLast?_append] at hz
    simp at hz
    subst hz
    rw [List.concat_eq_append, List.pairwise_append] at h
    simp at hx
    rcases hx with hx | rfl
    · exact (h.2.2 x hx y (by simp)).le
    · exact Int.le_refl _
theorem head_le {X : List Int} (h : X.Pairwise (R f)) {z : Int} (hz : X.head? = some z) : ∀ x ∈ X, f z ≤ f x := by
  intro x hx
  cases X with
  | nil => simp at hx
  | cons y X =>
    simp at hz; subst hz
    rcases List.mem_cons.1 hx with rfl | hx
    · exact Int.le_refl _
    · exact ((List.pairwise_cons.1 h).1 x hx).le

/-- two cut runs: what is left of both cuts is ahead of what is right of both -/
theorem cross {X1 X2 Y1 Y2 : List Int} (hX : (X1 ++ X2).Pairwise (R f)) (hY : (Y1 ++ Y2).Pairwise (R f)) (hlt : ∀ x ∈ X1 ++ X2, ∀ y ∈ Y1 ++ Y2, x < y)
    (h1 : X1 = [] ∨ Y2 = [] ∨ ∃ x y, X1.getLast? = some x ∧ Y2.head? = some y ∧ f x ≤ f y) (h2 : X2 = [] ∨ Y1 = [] ∨ ∃ y x, Y1.getLast? = some y ∧ X2.head? = some x ∧ f y < f x) :
    ∀ z ∈ X1 ++ Y1, ∀ z' ∈ X2 ++ Y2, R f z z' := by
  rw [List.pairwise_append] at hX hY
  intro z hz z' hz'
  rcases List.mem_append.1 hz with hz | hz
  · rcases List.mem_append.1 hz' with hz' | hz'
    · exact hX.2.2 z hz z' hz'
    · rcases h1 with rfl | rfl | ⟨x, y, hx, hy, hle⟩
      · simp at hz
      · simp at hz'
      · have a := last_le hX.1 hx z hz
        have b := head_le hY.2.1 hy z' hz'
        exact R.of_le (by omega) (hlt z (by simp [hz]) z' (by simp [hz']))
  · rcases List.mem_append.1 hz' with hz' | hz'
    · rcases h2 with rfl | rfl | ⟨y, x, hy, hx, hle⟩
      · simp at hz'
      · simp at hz
      · have a := last_le hY.1 hy z hz
        have b := head_le hX.2.1 hx z' hz'
        exact .inl (by omega)
    · exact hY.2.2 z hz z' hz'

theorem join {Z1 Z2 A B : List Int} (p1 : Z1.Perm A) (p2 : Z2.Perm B) (h1 : Z1.Pairwise (R f)) (h2 : Z2.Pairwise (R f)) (h : ∀ z ∈ A, ∀ z' ∈ B, R f z z') : (Z1 ++ Z2).Pairwise (R f) :=
  List.pairwise_append.2 ⟨h1, h2, fun a ha b hb => h a (p1.mem_iff.1 ha) b (p2.mem_iff.1 hb)⟩

/-- one that is put into a run -/
theorem put_in {T1 T2 : List Int} {v : Int} (h : (T1 ++ T2).Pairwise (R f)) (hlt : ∀ t ∈ T1, t < v) (h1 : T1 = [] ∨ ∃ t, T1.getLast? = some t ∧ f t ≤ f v) (h2 : ∀ t ∈ T2, f v < f t) :
    (T1 ++ v :: T2).Pairwise (R f) := by
  rw [List.pairwise_append] at h
  refine List.pairwise_append.2 ⟨h.1, List.pairwise_cons.2 ⟨fun t ht => .inl (h2 t ht), h.2.1⟩, fun a ha b hb => ?_⟩
  rcases List.mem_cons.1 hb with rfl | hb
  · rcases h1 with rfl | ⟨t, ht, hle⟩
    · simp at ha
    · have := last_le h.1 ht a ha
      exact R.of_le (by omega) (hlt a ha)
  · exact h.2.2 a ha b hb
/-- one of the left that is put into a run of the right -/
theorem put_in_left {Y1 Y2 : List Int} {v : Int} (h : (Y1 ++ Y2).Pairwise (R f)) (hlt : ∀ y ∈ Y2, v < y) (h1 : Y1 = [] ∨ ∃ t, Y1.getLast? = some t ∧ f t < f v) (h2 : Y2 = [] ∨ ∃ t, Y2.head? = some t ∧ f v ≤ f t) :
    (Y1 ++ v :: Y2).Pairwise (R f) := by
  rw [List.pairwise_append] at h
  refine List.pairwise_append.2 ⟨h.1, List.pairwise_cons.2 ⟨fun t ht => ?_, h.2.1⟩, fun a ha b hb => ?_⟩
  · rcases h2 with rfl | ⟨u, hu, hle⟩
    · simp at ht
    · have := head_le h.2.1 hu t ht
      exact R.of_le (by omega) (hlt t ht)
  · rcases List.mem_cons.1 hb with rfl | hb
    · rcases h1 with rfl | ⟨t, ht, hle⟩
      · simp at ha
      · have := last_le h.1 ht a ha
        exact .inl (by omega)
    · exact h.2.2 a ha b hb

/-- runs of a length, each with greater numbers than those ahead of it -/
inductive Runs (f : Int → Int) (bs : Nat) : List Int → Prop
  | last (X : List Int) : X.length ≤ bs → X.Pairwise (R f) → Runs f bs X
  | cons (X T : List Int) : X.length = bs → X.Pairwise (R f) → Runs f bs T → (∀ x ∈ X, ∀ y ∈ T, x < y) → Runs f bs (X ++ T)
theorem Runs.short {bs : Nat} {l : List Int} (h : Runs f bs l) (hl : l.length ≤ bs) : l.Pairwise (R f) := by
  cases h with
  | last _ _ h => exact h
  | cons X T h1 h2 h3 h4 =>
    have : T = [] := List.eq_nil_of_length_eq_zero (by rw [List.length_append] at hl; omega)
    subst this
    rw [List.append_nil]; exact h2
theorem Runs.long {bs : Nat} {l : List Int} (h : Runs f bs l) (hl : bs ≤ l.length) : ∃ X T, l = X ++ T ∧ X.length = bs ∧ X.Pairwise (R f) ∧ Runs f bs T ∧ ∀ x ∈ X, ∀ y ∈ T, x < y := by
  cases h with
  | last _ h1 h => exact ⟨l, [], by simp, by omega, h, .last [] (by simp) (by simp), by simp⟩
  | cons X T h1 h2 h3 h4 => exact ⟨X, T, rfl, h1, h2, h3, h4⟩
/-- a prefix that ends at a run's end -/
def Led (f : Int → Int) (bs : Nat) (D : List Int) : Prop := ∀ T, Runs f bs T → (∀ x ∈ D, ∀ y ∈ T, x < y) → Runs f bs (D ++ T)
theorem Led.nil_ {bs : Nat} : Led f bs [] := fun T h _ => h
theorem Led.snoc {bs : Nat} {D X : List Int} (h : Led f bs D) (hl : X.length = bs) (hX : X.Pairwise (R f)) (hD : ∀ x ∈ D, ∀ y ∈ X, x < y) : Led f bs (D ++ X) := fun T hT hlt => by
  rw [List.append_assoc]
  refine h _ (.cons X T hl hX hT (fun x hx y hy => hlt x (by simp [hx]) y hy)) (fun x hx y hy => ?_)
  rcases List.mem_append.1 hy with hy | hy
  · exact hD x hx y hy
  · exact hlt x (by simp [hx]) y hy

theorem sorted_unique : ∀ {l l' : List Int}, l.Perm l' → l.Pairwise (R f) → l'.Pairwise (R f) → l = l'
  | [], l', hp, _, _ => by rw [List.nil_perm] at hp; exact hp.symm
  | x :: l, [], hp, _, _ => absurd hp.length_eq (by simp)
  | x :: l, y :: l', hp, h, h' => by
    have hxy : x = y := by
      rcases List.mem_cons.1 (hp.mem_iff.1 (List.mem_cons_self ..) : x ∈ y :: l') with rfl | hx
      · rfl
      · rcases List.mem_cons.1 (hp.mem_iff.2 (List.mem_cons_self ..) : y ∈ x :: l) with rfl | hy
        · rfl
        · exact absurd ((List.pairwise_cons.1 h).1 y hy) (((List.pairwise_cons.1 h').1 x hx)).asymm
    subst hxy
    rw [sorted_unique hp.cons_inv (List.pairwise_cons.1 h).2 (List.pairwise_cons.1 h').2]
end
end Srt

end Go.Proofs.Ytljdnadejmkaeaa
