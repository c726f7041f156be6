/- slices.SortStableFunc at ints: whole. -/
import Derived.Test.YtljdnadejmkaeaaSort6
namespace Go.Proofs.Ytljdnadejmkaeaa
open Go.RowKit

attribute [local go_sem ↓] Go.wp_at_zero Go.wp_at_succ

theorem symMerge_any (base g c N gf : Nat) (lb : Array Value) (f : Int → Int) (L : List Int) (hN5 : N ≤ 100000) (eg : ∀ args w, (callFunc gf args).run Try.prog w = .ok (.enter gf args) w) : ∀ n, SymOk base g c N gf lb f L n
  | 0 => fun a m b P X Y S w hn _ _ _ _ _ hX _ => by omega
  | n + 1 => by
    have ih := symMerge_any base g c N gf lb f L hN5 eg n
    intro a m b P X Y S w hn h hN ha hm hb hX hY hXs hYs hlt hL hf
    by_cases h1 : X.length = 1
    · obtain ⟨x, rfl⟩ := List.length_eq_one_iff.1 h1
      have hm' : (m : Int) = (a : Int) + 1 := by simp at hm; omega
      have e1 : P ++ [x] ++ Y ++ S = P ++ x :: (Y ++ S) := by simp
      rw [e1] at h hN
      rw [hm']
      exact symOneL_any base g c a b N gf lb f L P Y S x w h hN hN5 ha (by simp at hm; omega) hYs (fun y hy => hlt x (by simp) y hy) (fun z hz => hL z (by simpa using hz)) eg hf
    · by_cases h2 : Y.length = 1
      · obtain ⟨y, rfl⟩ := List.length_eq_one_iff.1 h2
        have hb' : (b : Int) = (m : Int) + 1 := by simp at hb; omega
        have e1 : P ++ X ++ [y] ++ S = P ++ X ++ y :: S := by simp
        rw [e1] at h hN
        rw [hb']
        exact symOneR_any base g c a m N gf lb f L P X S y w h hN hN5 ha hm (by omega) hXs (fun x hx => hlt x hx y (by simp)) (fun z hz => hL z (by rcases List.mem_cons.1 hz with rfl | hz; simp; simp [hz])) eg hf
      · exact symGen base g c N gf lb f L n ih hN5 eg a m b P X Y S w hn h hN ha hm hb (by omega) (by omega) hXs hYs hlt hL hf

/-- what the rounds of insertion keep: runs of 20, then what is to come -/
def InsRuns (f : Int → Int) (bs : Nat) (l cur D T : List Int) : Prop := cur = D ++ T ∧ Srt.Led f bs D ∧ D.Perm (l.take D.length) ∧ T = l.drop D.length
/-- what the rounds of merging keep -/
def MrgRuns (f : Int → Int) (bs : Nat) (l cur D T : List Int) : Prop := cur = D ++ T ∧ Srt.Led f (2 * bs) D ∧ Srt.Runs f bs T ∧ (∀ x ∈ D, ∀ y ∈ T, x < y) ∧ cur.Perm l

theorem take_perm_lt {l D X T : List Int} (hl : l.Pairwise (· < ·)) (hp : D.Perm (l.take D.length)) (hT : X ++ T = l.drop D.length) : (∀ x ∈ D, ∀ y ∈ X ++ T, x < y) ∧ X.Pairwise (· < ·) ∧ ∀ x ∈ X, ∀ y ∈ T, x < y := by
  have h := hl
  rw [← List.take_append_drop D.length l, List.pairwise_append, ← hT] at h
  have h2 := h.2.1
  rw [List.pairwise_append] at h2
  exact ⟨fun x hx y hy => h.2.2 x (hp.mem_iff.1 hx) y hy, h2.1, h2.2.2⟩
theorem InsRuns.next {f : Int → Int} {bs : Nat} {l cur D X T Z : List Int} (h : InsRuns f bs l cur D (X ++ T)) (hl : l.Pairwise (· < ·)) (hX : X.length = bs) (hp : Z.Perm X) (hs : Z.Pairwise (Srt.R f)) : InsRuns f bs l (D ++ Z ++ T) (D ++ Z) T := by
  obtain ⟨rfl, h1, h2, h3⟩ := h
  have hlen : (D ++ Z).length = D.length + X.length := by rw [List.length_append, hp.length_eq]
  have hk := take_perm_lt hl h2 h3
  have ht : l.take (D.length + X.length) = l.take D.length ++ X := by
    rw [List.take_add, ← h3, List.take_left]
  refine ⟨rfl, h1.snoc (by rw [hp.length_eq]; exact hX) hs (fun x hx y hy => hk.1 x hx y (by simp [hp.mem_iff.1 hy])), ?_, ?_⟩
  · rw [hlen, ht]; exact h2.append hp
  · rw [hlen, ← List.drop_drop, ← h3, List.drop_left]
theorem InsRuns.done {f : Int → Int} {bs : Nat} {l cur D T Z : List Int} (h : InsRuns f bs l cur D T) (hl : l.Pairwise (· < ·)) (hT : T.length ≤ bs) (hp : Z.Perm T) (hs : Z.Pairwise (Srt.R f)) : Srt.Runs f bs (D ++ Z) ∧ (D ++ Z).Perm l := by
  obtain ⟨rfl, h1, h2, h3⟩ := h
  have hk := take_perm_lt (X := T) (T := []) hl h2 (by simpa using h3)
  refine ⟨h1 Z (.last Z (by rw [hp.length_eq]; exact hT) hs) (fun x hx y hy => hk.1 x hx y (by simp [hp.mem_iff.1 hy])), ?_⟩
  have := h2.append hp
  rw [h3, List.take_append_drop] at this
  exact this
theorem MrgRuns.parts {f : Int → Int} {bs : Nat} {l cur D T : List Int} (h : MrgRuns f bs l cur D T) (hbs : 0 < bs) (hT : 2 * bs ≤ T.length) :
    ∃ X Y T', T = X ++ Y ++ T' ∧ X.length = bs ∧ Y.length = bs ∧ X.Pairwise (Srt.R f) ∧ Y.Pairwise (Srt.R f) ∧ (∀ x ∈ X, ∀ y ∈ Y, x < y) ∧ ∀ Z, Z.Perm (X ++ Y) → Z.Pairwise (Srt.R f) → MrgRuns f bs l (D ++ Z ++ T') (D ++ Z) T' := by
  obtain ⟨rfl, h1, h2, h3, h4⟩ := h
  obtain ⟨X, T1, rfl, x1, x2, x3, x4⟩ := h2.long (by omega)
  rw [List.length_append] at hT
  obtain ⟨Y, T', rfl, y1, y2, y3, y4⟩ := x3.long (by omega)
  refine ⟨X, Y, T', by simp, x1, y1, x2, y2, fun x hx y hy => x4 x hx y (by simp [hy]), fun Z hp hs => ⟨rfl, ?_, y3, ?_, ?_⟩⟩
  · refine h1.snoc (by rw [hp.length_eq, List.length_append]; omega) hs (fun x hx y hy => h3 x hx y ?_)
    have := hp.mem_iff.1 hy
    rcases List.mem_append.1 this with h | h <;> simp [h]
  · intro x hx y hy
    rcases List.mem_append.1 hx with hx | hx
    · exact h3 x hx y (by simp [hy])
    · rcases List.mem_append.1 (hp.mem_iff.1 hx) with h | h
      · exact x4 x h y (by simp [hy])
      · exact y4 x h y hy
  · refine List.Perm.trans ?_ h4
    have e : D ++ (X ++ (Y ++ T')) = D ++ (X ++ Y) ++ T' := by simp
    rw [e]
    exact (hp.append_left D).append_right T'
theorem MrgRuns.tail {f : Int → Int} {bs : Nat} {l cur D T : List Int} (h : MrgRuns f bs l cur D T) (hT : T.length < 2 * bs) (hT1 : bs < T.length) :
    ∃ X Y, T = X ++ Y ∧ X.length = bs ∧ 0 < Y.length ∧ X.Pairwise (Srt.R f) ∧ Y.Pairwise (Srt.R f) ∧ (∀ x ∈ X, ∀ y ∈ Y, x < y) ∧ ∀ Z, Z.Perm (X ++ Y) → Z.Pairwise (Srt.R f) → Srt.Runs f (2 * bs) (D ++ Z) ∧ (D ++ Z).Perm l := by
  obtain ⟨rfl, h1, h2, h3, h4⟩ := h
  obtain ⟨X, Y, rfl, x1, x2, x3, x4⟩ := h2.long (by omega)
  rw [List.length_append] at hT hT1
  refine ⟨X, Y, rfl, x1, by omega, x2, x3.short (by omega), x4, fun Z hp hs => ⟨h1 Z (.last Z (by rw [hp.length_eq, List.length_append]; omega) hs) (fun x hx y hy => h3 x hx y (hp.mem_iff.1 hy)), ?_⟩⟩
  exact (hp.append_left D).trans h4
theorem MrgRuns.short {f : Int → Int} {bs : Nat} {l cur D T : List Int} (h : MrgRuns f bs l cur D T) (hT : T.length ≤ bs) : Srt.Runs f (2 * bs) (D ++ T) ∧ (D ++ T).Perm l := by
  obtain ⟨rfl, h1, h2, h3, h4⟩ := h
  exact ⟨h1 T (.last T (by omega) (h2.short hT)) h3, h4⟩

set_option maxHeartbeats 3200000 in
set_option maxRecDepth 100000 in
theorem stable_any (base g c N gf : Nat) (lb : Array Value) (f : Int → Int) (l : List Int) (w : World) (h : Own w base 3 (some ⟨g, 0, none⟩) c l) (hN : l.length = N) (hN5 : N ≤ 1000) (hl : l.Pairwise (· < ·))
    (eg : ∀ args w, (callFunc gf args).run Try.prog w = .ok (.enter gf args) w) (hf : CmpQ Try.prog gf lb f l (some g) w) :
    Calls Try.prog 118 #[.slice (some ⟨g, 0, none⟩) N c, .int .i64 N, .func (.func gf) #[] lb] w fun e w' => e = .returned (.tuple #[]) ∧ (∃ Z, Z.Perm l ∧ Z.Pairwise (Srt.R f) ∧ Own w' base 3 (some ⟨g, 0, none⟩) c Z) ∧ w.grownBy w' (some g) := by
  have H := Lib.hid (And.intro h (And.intro hN hl)); clear h hN hl
  have HF := Lib.hid hf; clear hf
  go_enter Try.func118, Try.ntmps118
  go_wp2_with fail
  go_loopg [7, 8] N (fun gk iv jv wr => ∃ (a : Nat) (D T cur : List Int), a ≤ N ∧ gk = N - a ∧ iv = .int .i64 a ∧ jv = .int .i64 ((a : Int) + 20) ∧ Hid (InsRuns f 20 l cur D T ∧ D.length = a ∧ Own wr base 3 (some ⟨g, 0, none⟩) c cur) ∧ w.grownBy wr (some g))
  case atStart => exact ⟨0, [], l, l, Nat.zero_le _, rfl, rfl, rfl, ⟨⟨rfl, Srt.Led.nil_, by simp, by simp⟩, rfl, H.out.1⟩, World.grownBy.refl w _⟩
  case round =>
    obtain ⟨a, D, T, cur, haN, rfl, rfl, rfl, hkeep, hgr⟩ := hrel
    have hlens : D.length + T.length = N := by
      obtain ⟨⟨-, -, -, h3⟩, h4, -⟩ := hkeep.out
      rw [h3, List.length_drop, H.out.2.1]; omega
    by_cases hlt : a + 20 ≤ N
    · have hb : (a : Int) + 20 ≤ (N : Int) := by omega
      have hw1 : IntKind.i64.wrap ((a : Int) + 20 + 20) = (a : Int) + 20 + 20 := IntWalk.i64_in _ (by omega)
      have hDa := hkeep.out.2.1
      obtain ⟨X, T', rfl, hX⟩ := cut_at (l := T) (k := 20) (by omega)
      have hst := hkeep.out.1
      have hcur := hst.1
      have hown := hkeep.out.2.2
      have hll := take_perm_lt H.out.2.2 hst.2.2.1 hst.2.2.2
      have hXl : ∀ x ∈ X, x ∈ l := fun x hx => List.mem_of_mem_drop (by rw [← hst.2.2.2]; simp [hx] : x ∈ l.drop D.length)
      rw [hcur] at hown
      have hc := insertion_any base g c a (a + 20) N gf lb f l D X T' wr (by rw [List.append_assoc]; exact hown) (by simp at hlens ⊢; omega) (by omega) hDa (by omega) hll.2.1 hXl eg (HF.out.grown hgr)
      rw [show ((a + 20 : Nat) : Int) = (a : Int) + 20 by omega] at hc
      have hnx := fun Z hp hs => hst.next (Z := Z) H.out.2.2 hX hp hs
      have HC := Lib.hid (And.intro hc (And.intro hnx (And.intro hDa hX))); clear hc hnx hcur hown hll hXl hst hkeep hDa hlens hX
      go_wp2_with fail
      refine HC.out.1.mono ?_
      rintro e w1 ⟨rfl, ⟨Z, z1, z2, z3⟩, hg1⟩
      have HZ := Lib.hid (And.intro z1 (And.intro z2 z3)); clear z1 z2 z3
      go_wp2_with fail
      go_roundg (N - (a + 20))
      case measure => omega
      case rel => exact ⟨a + 20, D ++ Z, T', _, by omega, rfl, by go_num, by go_num, ⟨HC.out.2.1 Z HZ.out.1 HZ.out.2.1, by have h1 := HC.out.2.2; have h2 := HZ.out.1.length_eq; simp; omega, HZ.out.2.2⟩, hgr.trans hg1⟩
    · have hb : ¬ (a : Int) + 20 ≤ (N : Int) := by omega
      have hDa := hkeep.out.2.1
      have hst := hkeep.out.1
      have hcur := hst.1
      have hown := hkeep.out.2.2
      have hll := take_perm_lt (X := T) (T := []) H.out.2.2 hst.2.2.1 (by simpa using hst.2.2.2)
      have hXl : ∀ x ∈ T, x ∈ l := fun x hx => List.mem_of_mem_drop (by rw [← hst.2.2.2]; exact hx : x ∈ l.drop D.length)
      rw [hcur] at hown
      have hc := insertion_any base g c a N N gf lb f l D T [] wr (by simpa using hown) (by simp at hlens ⊢; omega) (by omega) hDa (by omega) hll.2.1 hXl eg (HF.out.grown hgr)
      have hnx := fun Z hp hs => hst.done (Z := Z) H.out.2.2 (by omega) hp hs
      have HC := Lib.hid (And.intro hc hnx); clear hc hnx hcur hown hll hXl hst hkeep hDa hlens
      have HLT := Lib.hid hlt; clear hlt
      go_wp2_with fail
      refine HC.out.1.mono ?_
      rintro e w1 ⟨rfl, ⟨Z, z1, z2, z3⟩, hg1⟩
      rw [List.append_nil] at z3
      have hgr1 := hgr.trans hg1
      have HZ := Lib.hid (And.intro z1 (And.intro z2 z3)); clear z1 z2 z3
      clear hb hg1 hgr
      go_wp2_with fail
      go_loopg [6, 7, 8, 9] 4000 (fun gk bv av b8 b9 wr => ∃ (bs : Nat) (cur : List Int), 20 ≤ bs ∧ bs ≤ 2000 ∧ gk = 4000 - bs + 20 ∧ bv = .int .i64 bs ∧ Hid (Srt.Runs f bs cur ∧ cur.Perm l ∧ Own wr base 3 (some ⟨g, 0, none⟩) c cur) ∧ w.grownBy wr (some g))
      case atStart => exact ⟨20, D ++ Z, Nat.le_refl _, by omega, rfl, rfl, ⟨(HC.out.2 Z HZ.out.1 HZ.out.2.1).1, (HC.out.2 Z HZ.out.1 HZ.out.2.1).2, HZ.out.2.2⟩, hgr1⟩
      case round =>
        obtain ⟨bs, cur, hb20, hb2k, rfl, rfl, hkeep, hgr⟩ := hrel
        by_cases hbN : bs < N
        · have hwb : IntKind.i64.wrap (2 * (bs : Int)) = 2 * (bs : Int) := IntWalk.i64_in _ (by omega)
          have hwb2 : IntKind.i64.wrap ((bs : Int) * 2) = (bs : Int) * 2 := IntWalk.i64_in _ (by omega)
          go_wp2_with fail
          go_loopg [7, 8] N (fun gk iv jv wr => ∃ (a : Nat) (D T cur : List Int), a ≤ N ∧ gk = N - a ∧ iv = .int .i64 a ∧ jv = .int .i64 ((a : Int) + 2 * bs) ∧ Hid (MrgRuns f bs l cur D T ∧ D.length = a ∧ Own wr base 3 (some ⟨g, 0, none⟩) c cur) ∧ w.grownBy wr (some g))
          case atStart => exact ⟨0, [], cur, cur, Nat.zero_le _, rfl, rfl, by go_num, ⟨⟨rfl, Srt.Led.nil_, hkeep.out.1, by simp, hkeep.out.2.1⟩, rfl, hkeep.out.2.2⟩, hgr⟩
          case round =>
            clear hkeep hgr
            obtain ⟨a, D, T, cur, haN, rfl, rfl, rfl, hkeep, hgr⟩ := hrel
            obtain ⟨hst, hDa, hown⟩ := hkeep.out
            have hlens : D.length + T.length = N := by
              have := hst.2.2.2.2.length_eq
              rw [hst.1, List.length_append, H.out.2.1] at this
              exact this
            have hpl := hst.2.2.2.2
            have hcur := hst.1
            rw [hcur] at hown hpl
            have hmem : ∀ z ∈ T, z ∈ l := fun z hz => hpl.mem_iff.1 (by simp [hz])
            by_cases hlt : a + 2 * bs ≤ N
            · have hlt' : (a : Int) + 2 * (bs : Int) ≤ (N : Int) := by omega
              have hw1 : IntKind.i64.wrap ((a : Int) + (bs : Int)) = ((a + bs : Nat) : Int) := by rw [IntWalk.i64_in _ (by omega)]; omega
              have hw2 : IntKind.i64.wrap ((a : Int) + 2 * (bs : Int) + 2 * (bs : Int)) = (a : Int) + 2 * (bs : Int) + 2 * (bs : Int) := IntWalk.i64_in _ (by omega)
              obtain ⟨X, Y, T', rfl, x1, x2, x3, x4, x5, x6⟩ := hst.parts (by omega) (by omega)
              have hc := symMerge_any base g c N gf lb f l (by omega) eg (X.length + Y.length) a (a + bs) (a + 2 * bs) D X Y T' wr (Nat.le_refl _) (by simpa using hown) (by simp at hlens ⊢; omega) hDa (by omega) (by omega) (by omega) (by omega) x3 x4 x5 (fun z hz => hmem z (by simp at hz ⊢; rcases hz with h | h <;> simp [h])) (HF.out.grown hgr)
              rw [show ((a + 2 * bs : Nat) : Int) = (a : Int) + 2 * (bs : Int) by omega] at hc
              have HC := Lib.hid (And.intro hc (And.intro x6 (And.intro hDa (And.intro x1 x2)))); clear hc x6 hDa x1 x2 x3 x4 x5 hst hown hkeep hlens hpl hcur hmem
              go_wp2_with fail
              refine HC.out.1.mono ?_
              rintro e w2 ⟨rfl, ⟨Z2, z1, z2, z3⟩, hg2⟩
              have HZ2 := Lib.hid (And.intro z1 (And.intro z2 z3)); clear z1 z2 z3
              go_wp2_with fail
              go_roundg (N - (a + 2 * bs))
              case measure => omega
              case rel => exact ⟨a + 2 * bs, D ++ Z2, T', _, by omega, rfl, by go_num, by go_num, ⟨HC.out.2.1 Z2 HZ2.out.1 HZ2.out.2.1, by have h1 := HC.out.2.2; have h2 := HZ2.out.1.length_eq; simp at h2 ⊢; omega, HZ2.out.2.2⟩, hgr.trans hg2⟩
            · have hlt' : ¬ (a : Int) + 2 * (bs : Int) ≤ (N : Int) := by omega
              by_cases hm : a + bs < N
              · have hw1 : IntKind.i64.wrap ((a : Int) + (bs : Int)) = ((a + bs : Nat) : Int) := by rw [IntWalk.i64_in _ (by omega)]; omega
                obtain ⟨X, Y, rfl, x1, x2, x3, x4, x5, x6⟩ := hst.tail (by omega) (by omega)
                have hc := symMerge_any base g c N gf lb f l (by omega) eg (X.length + Y.length) a (a + bs) N D X Y [] wr (Nat.le_refl _) (by simpa using hown) (by simp at hlens ⊢; omega) hDa (by omega) (by simp at hlens; omega) (by omega) (by omega) x3 x4 x5 (fun z hz => hmem z hz) (HF.out.grown hgr)
                have HC := Lib.hid (And.intro hc x6); clear hc x6 hDa x1 x2 x3 x4 x5 hst hown hkeep hlens hpl hcur hmem
                have HLT2 := Lib.hid hlt; clear hlt
                go_wp2_with fail
                refine HC.out.1.mono ?_
                rintro e w2 ⟨rfl, ⟨Z2, z1, z2, z3⟩, hg2⟩
                rw [List.append_nil] at z3
                have HZ2 := Lib.hid (And.intro z1 (And.intro z2 z3)); clear z1 z2 z3
                go_wp2_with fail
                go_roundg (4000 - 2 * bs + 20)
                case measure => omega
                case rel => exact ⟨2 * bs, D ++ Z2, by omega, by omega, rfl, by go_num, ⟨(HC.out.2 Z2 HZ2.out.1 HZ2.out.2.1).1, (HC.out.2 Z2 HZ2.out.1 HZ2.out.2.1).2, HZ2.out.2.2⟩, hgr.trans hg2⟩
              · have hw1 : IntKind.i64.wrap ((a : Int) + (bs : Int)) = (a : Int) + (bs : Int) := IntWalk.i64_in _ (by omega)
                have hm' : ¬ (a : Int) + (bs : Int) < (N : Int) := by omega
                have hsh := hst.short (by omega)
                have HC := Lib.hid (And.intro hsh hown); clear hsh hDa hst hown hkeep hlens hpl hcur hmem
                have HLT2 := Lib.hid (And.intro hlt hm); clear hlt hm
                go_wp2_with fail
                go_roundg (4000 - 2 * bs + 20)
                case measure => omega
                case rel => exact ⟨2 * bs, D ++ T, by omega, by omega, rfl, by go_num, ⟨HC.out.1.1, HC.out.1.2, HC.out.2⟩, hgr⟩
        · have hsh := hkeep.out.1.short (by have := hkeep.out.2.1.length_eq; rw [H.out.2.1] at this; omega)
          have HS := Lib.hid (And.intro hsh hkeep.out.2); clear hsh hkeep
          go_wp2_with fail
          go_end0
          exact ⟨rfl, ⟨cur, HS.out.2.1, HS.out.1, HS.out.2.2⟩, hgr⟩

end Go.Proofs.Ytljdnadejmkaeaa
