/- KT: TopW, TopS. -/
import Derived.Test.YtdlcooplllimeaaGreatDoorKT1
import Derived.Test.YtdlcooplllimeaaGreatDoorKT3
import Derived.Test.YtdlcooplllimeaaGreatDoorKT10
/- A state in words: values that are boxed and read again; what is not reached has no more words. No walk. -/
namespace Go.Proofs.YtdlcooplllimeaaGreatDoor
open Go.RowKit

namespace Top
/-- a value that may stand in a state: its box is one of it alone -/
def rightV (v : Int × Int) : Prop :=
  (v.1 = 0 ∧ v.2 = 0) ∨ (v.1 = 1 ∧ 0 ≤ v.2 ∧ v.2 ≤ 1) ∨ (v.1 = 2 ∧ -2147483648 ≤ v.2 ∧ v.2 ≤ 2147483647) ∨ (v.1 = 3 ∧ I64 v.2 ∧ (spo (v.2 % 18446744073709551616) = false ∨ v.2 = 9221120237041090561)) ∨ (v.1 = 4 ∧ 0 ≤ v.2 ∧ v.2 ≤ 4294967295) ∨ (v.1 = 5 ∧ 0 ≤ v.2 ∧ v.2 ≤ 4294967295) ∨ (v.1 = 6 ∧ 0 ≤ v.2 ∧ v.2 ≤ 15)
theorem rightV_box {v : Int × Int} (h : rightV v) : (boxL v.1 v.2).2 = 0 ∧ unbL (boxL v.1 v.2).1 = some v := by
  obtain ⟨k, n⟩ := v
  unfold rightV at h
  simp only at h ⊢
  by_cases h3 : k = 3
  · subst h3
    obtain ⟨hI, hs⟩ : I64 n ∧ (spo (n % 18446744073709551616) = false ∨ n = 9221120237041090561) := by
      rcases h with h | h | h | h | h | h | h
      · omega
      · omega
      · omega
      · exact h.2
      · omega
      · omega
      · omega
    unfold I64 at hI
    have hb : boxL 3 n = if spo (n % 18446744073709551616) then (9221120237041090561, 0) else (n % 18446744073709551616, 0) := by
      unfold boxL; rw [if_neg (by omega), if_pos rfl]
    by_cases hsp : spo (n % 18446744073709551616) = true
    · have hn : n = 9221120237041090561 := by
        rcases hs with hs | hs
        · rw [hsp] at hs; cases hs
        · exact hs
      subst hn
      rw [hb, if_pos hsp]
      exact ⟨rfl, by unfold unbL; rw [if_pos (by omega), if_neg (by simp)]; rfl⟩
    · have hf : spo (n % 18446744073709551616) = false := by simpa using hsp
      rw [hb, if_neg hsp]
      refine ⟨rfl, ?_⟩
      have hlt : n % 18446744073709551616 / 281474976710656 < 65529 := by
        unfold spo at hf
        simp only [decide_eq_false_iff_not] at hf
        omega
      unfold unbL
      rw [if_pos (.inl hlt), if_neg (by rw [hf]; simp)]
      congr 2
      unfold sgn64
      omega
  · have hr : (boxL k n).2 = 0 := by
      unfold boxL lowk highk
      rw [if_neg (by omega), if_neg h3, if_neg]
      rcases h with h | h | h | h | h | h | h
      · obtain ⟨rfl, rfl⟩ := h; decide
      · obtain ⟨rfl, h1, h2⟩ := h; simp; omega
      · obtain ⟨rfl, h1, h2⟩ := h; simp; omega
      · omega
      · obtain ⟨rfl, h1, h2⟩ := h; simp; omega
      · obtain ⟨rfl, h1, h2⟩ := h; simp; omega
      · obtain ⟨rfl, h1, h2⟩ := h; simp; omega
    obtain ⟨m, h1, h2⟩ := Sto.unbL_box (k := k) (n := n) (x := (boxL k n).1) (Prod.ext rfl hr)
    exact ⟨hr, by rw [h1, h2 h3]⟩
def bxT (v : Int × Int) : Int × Int := boxL v.1 v.2
/-- a cell whose words are read again -/
structure Wok (c : Ce) : Prop where
  small : cellLarge c = false
  vals : ∀ v ∈ c.vals, rightV v
  frames : ∀ f ∈ c.frames, rightV f.self ∧ ∀ v ∈ f.regs, rightV v
theorem errFrom_zero (bx : Int × Int → Int × Int) : ∀ l : List (Int × Int), (∀ v ∈ l, (bx v).2 = 0) → errFrom bx 0 l = 0
  | [], _ => rfl
  | v :: l, h => by
    unfold errFrom
    rw [List.foldl_cons, if_pos rfl, h v (by simp)]
    exact errFrom_zero bx l (fun u hu => h u (by simp [hu]))
theorem Wok.err {c : Ce} (h : Wok c) : cellErr bxT c = 0 := by
  unfold cellErr
  rw [h.small, if_neg (by decide)]
  refine errFrom_zero _ _ fun v hv => ?_
  unfold cellVals at hv
  rcases List.mem_append.1 hv with hv | hv
  · exact (rightV_box (h.vals v hv)).1
  · obtain ⟨f, hf, hv⟩ := List.mem_flatMap.1 hv
    unfold Go.Proofs.YtdlcooplllimeaaGreatDoor.frVals at hv
    rcases List.mem_cons.1 hv with rfl | hv
    · exact (rightV_box (h.frames f hf).1).1
    · exact (rightV_box ((h.frames f hf).2 v hv)).1

/-! ### what is gone -/
/-- the entries whose keys are seen -/
def keepL (seen : List Bool) : List (Int × Int) → List (Int × Int)
  | k :: v :: r => (if seen.getD k.2.toNat false = true then [k, v] else []) ++ keepL seen r
  | _ => []
def goneC (seen : List Bool) (n : Nat) (c : Ce) : Ce := if seen.getD n false = false then ⟨0, 0, [], []⟩ else if c.kind = 7 then { c with vals := keepL seen c.vals } else c
theorem keepL_length (seen : List Bool) : ∀ l, (keepL seen l).length ≤ l.length
  | [] => by simp [keepL]
  | [k] => by simp [keepL]
  | k :: v :: r => by
    unfold keepL
    have := keepL_length seen r
    rw [List.length_append]
    split <;> simp <;> omega
theorem mem_keepL {seen : List Bool} {x : Int × Int} : ∀ {l}, x ∈ keepL seen l → x ∈ l
  | [], h => by simp [keepL] at h
  | [k], h => by simp [keepL] at h
  | k :: v :: r, h => by
    unfold keepL at h
    rcases List.mem_append.1 h with h | h
    · split at h
      · simp at h; rcases h with rfl | rfl <;> simp
      · cases h
    · have := mem_keepL h; simp [this]
theorem cellW_len (bx : Int × Int → Int × Int) (c : Ce) : (cellW bx c).length = 4 + c.vals.length + (c.frames.flatMap (frameW bx)).length := by
  unfold cellW
  simp only [List.length_append, valsW_length, List.length_cons, List.length_nil]
  omega
theorem goneC_len (bx : Int × Int → Int × Int) (seen : List Bool) (n : Nat) (c : Ce) : (cellW bx (goneC seen n c)).length ≤ (cellW bx c).length := by
  rw [cellW_len, cellW_len]
  unfold goneC
  split
  · simp; omega
  · split
    · have := keepL_length seen c.vals
      simp only
      omega
    · omega
theorem Wok.gone {seen : List Bool} {n : Nat} {c : Ce} (h : Wok c) : Wok (goneC seen n c) := by
  unfold goneC
  split
  · exact ⟨by decide, by simp, by simp⟩
  · split
    · rename_i hk
      refine ⟨?_, fun v hv => h.vals v (mem_keepL hv), h.frames⟩
      have h0 := h.small
      unfold cellLarge at h0 ⊢
      simp only [Bool.or_eq_false_iff, decide_eq_false_iff_not] at h0 ⊢
      have := keepL_length seen c.vals
      exact ⟨⟨h0.1.1, by omega⟩, h0.2⟩
    · exact h
end Top
end Go.Proofs.YtdlcooplllimeaaGreatDoor

/- What a state that was found right keeps to; what follows of it for what is reached and for its words. No walk. -/
namespace Go.Proofs.YtdlcooplllimeaaGreatDoor
open Go.RowKit

namespace Top
/-- a value that the program calls right -/
def rightP (v : Int × Int) : Prop :=
  (v.1 = 0 ∧ v.2 = 0) ∨ (v.1 = 1 ∧ 0 ≤ v.2 ∧ v.2 ≤ 1) ∨ (v.1 = 2 ∧ -2147483648 ≤ v.2 ∧ v.2 ≤ 2147483647) ∨ (v.1 = 3 ∧ (spo (v.2 % 18446744073709551616) = false ∨ v.2 = 9221120237041090561)) ∨ (v.1 = 4 ∧ 0 ≤ v.2) ∨ (v.1 = 5 ∧ 0 ≤ v.2) ∨ (v.1 = 6 ∧ 0 ≤ v.2 ∧ v.2 ≤ 15)
/-- a value that may stand in a state with so many texts and cells -/
def fitsV (nt nc : Nat) (v : Int × Int) : Prop := rightP v ∧ (v.1 = 4 → v.2 < nt) ∧ (v.1 = 5 → v.2 < nc)
/-- a frame -/
structure FrOk (nt nc : Nat) (f : Fr) : Prop where
  self : fitsV nt nc f.self
  regs : ∀ v ∈ f.regs, fitsV nt nc v
  many : f.regs.length ≤ 60 ∧ f.tries.length ≤ 20
structure SOk (s : Stt) : Prop where
  many : s.cells.length ≤ 300 ∧ s.texts.length ≤ 300
  vlen : ∀ c ∈ s.cells, c.vals.length ≤ 100 ∨ (c.kind = 7 ∧ c.vals.length ≤ 600)
  vals : ∀ c ∈ s.cells, ∀ v ∈ c.vals, I64 v.1 ∧ I64 v.2 ∧ fitsV s.texts.length s.cells.length v
  frs : ∀ c ∈ s.cells, c.frames.length ≤ 1 ∧ ∀ f ∈ c.frames, FrOk s.texts.length s.cells.length f ∧ f.gen < 0
  i64 : ∀ c ∈ s.cells, ∀ f ∈ c.frames, I64 f.self.2 ∧ ∀ v ∈ f.regs, I64 v.2
  weak : ∀ c ∈ s.cells, c.kind = 7 → (∀ i v, c.vals[2 * i]? = some v → v.1 = 5) ∧ c.vals.length % 2 = 0
  ths : ∀ t ∈ s.threads, (∀ f ∈ t.frames, FrOk s.texts.length s.cells.length f ∧ f.gen < s.cells.length) ∧ fitsV s.texts.length s.cells.length t.val ∧ (t.state = 1 → 0 ≤ t.on ∧ t.on < s.cells.length)
  ends : ∀ e ∈ s.ends, fitsV s.texts.length s.cells.length e.fn
theorem fitsV.ref {nt nc : Nat} {k : Int} (h : fitsV nt nc (5, k)) : ∃ n : Nat, k = (n : Int) ∧ n < nc := by
  obtain ⟨h1, -, h3⟩ := h
  have h3 := h3 rfl
  unfold rightP at h1
  simp only at h1 h3
  exact ⟨k.toNat, by omega, by omega⟩
theorem fitsV.right {nt nc : Nat} {v : Int × Int} (h : fitsV nt nc v) (hI : I64 v.2) (ht : nt ≤ 300) (hc : nc ≤ 300) : rightV v := by
  obtain ⟨h1, h2, h3⟩ := h
  unfold rightP at h1
  unfold rightV
  rcases h1 with h | h | h | h | h | h | h
  · exact .inl h
  · exact .inr (.inl h)
  · exact .inr (.inr (.inl h))
  · exact .inr (.inr (.inr (.inl ⟨h.1, hI, h.2⟩)))
  · have := h2 h.1; exact .inr (.inr (.inr (.inr (.inl ⟨h.1, h.2, by omega⟩))))
  · have := h3 h.1; exact .inr (.inr (.inr (.inr (.inr (.inl ⟨h.1, h.2, by omega⟩)))))
  · exact .inr (.inr (.inr (.inr (.inr (.inr h)))))
theorem mem_frVals {l : List Fr} {v : Int × Int} : v ∈ frVals l ↔ ∃ f ∈ l, v = f.self ∨ v ∈ f.regs := by
  unfold frVals
  rw [List.mem_flatMap]
  simp only [List.mem_cons]
theorem SOk.okr {s : Stt} (h : SOk s) : Okr s := by
  refine ⟨h.many.1, fun k hk => ?_, fun c hc k hk => ?_, h.weak, fun c hc f hf => ((h.frs c hc).2 f hf).2⟩
  · unfold roots at hk
    rcases List.mem_append.1 hk with hk | hk
    · obtain ⟨t, ht, hk⟩ := List.mem_flatMap.1 hk
      obtain ⟨h1, h2, h3⟩ := h.ths t ht
      unfold thRefs at hk
      rcases List.mem_append.1 hk with hk | hk
      · rcases List.mem_append.1 hk with hk | hk
        · rcases List.mem_append.1 (mem_rfs.1 hk) with hk | hk
          · obtain ⟨f, hf, e⟩ := mem_frVals.1 hk
            rcases e with e | e
            · have := (h1 f hf).1.self; rw [← e] at this; exact this.ref
            · exact ((h1 f hf).1.regs _ e).ref
          · simp at hk; rw [← hk] at h2; exact h2.ref
        · split at hk
          · rename_i hs
            simp at hk
            subst hk
            have := h3 hs
            exact ⟨t.on.toNat, by omega, by omega⟩
          · cases hk
      · unfold gens at hk
        obtain ⟨f, hf, rfl⟩ := List.mem_map.1 hk
        obtain ⟨hf, hg⟩ := List.mem_filter.1 hf
        have := (h1 f hf).2
        have hg : 0 ≤ f.gen := by simpa using hg
        exact ⟨f.gen.toNat, by omega, by omega⟩
    · obtain ⟨e, he, hk⟩ := List.mem_flatMap.1 hk
      have hk := mem_rfs.1 hk
      simp at hk
      have := h.ends e he
      rw [← hk] at this
      exact this.ref
  · rcases List.mem_append.1 hk with hk | hk
    · exact (h.vals c hc _ hk).2.2.ref
    · obtain ⟨f, hf, e⟩ := mem_frVals.1 hk
      have := ((h.frs c hc).2 f hf).1
      rcases e with e | e
      · have h2 := this.self; rw [← e] at h2; exact h2.ref
      · exact (this.regs _ e).ref
theorem SOk.wok {s : Stt} (h : SOk s) {c : Ce} (hc : c ∈ s.cells) : Wok c := by
  refine ⟨?_, fun v hv => ?_, fun f hf => ?_⟩
  · unfold cellLarge
    simp only [Bool.or_eq_false_iff, decide_eq_false_iff_not, List.any_eq_false]
    refine ⟨⟨fun f hf => ?_, ?_⟩, ?_⟩
    · have := ((h.frs c hc).2 f hf).1.many
      unfold frLarge
      simp only [Bool.or_eq_true, decide_eq_true_eq]
      omega
    · unfold mostV
      rcases h.vlen c hc with h1 | ⟨h1, h2⟩
      · split <;> omega
      · rw [if_pos h1]; omega
    · have := (h.frs c hc).1; omega
  · have := h.vals c hc v hv
    exact this.2.2.right this.2.1 h.many.2 h.many.1
  · have h1 := ((h.frs c hc).2 f hf).1
    have h2 := h.i64 c hc f hf
    exact ⟨h1.self.right h2.1 h.many.2 h.many.1, fun v hv => (h1.regs v hv).right (h2.2 v hv) h.many.2 h.many.1⟩
end Top
end Go.Proofs.YtdlcooplllimeaaGreatDoor
