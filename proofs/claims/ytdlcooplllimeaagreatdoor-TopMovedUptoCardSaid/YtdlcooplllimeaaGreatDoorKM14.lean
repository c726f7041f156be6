/- KM: TopBulk. -/
import Derived.Test.YtdlcooplllimeaaGreatDoorKM13
import Derived.Test.YtdlcooplllimeaaGreatDoorKT4
/- What a bound on a state's bulk gives. No walk. -/
namespace Go.Proofs.YtdlcooplllimeaaGreatDoor
open Go.RowKit Go.ChangeShapes Go.WideShapes Go.Deep

namespace Top
theorem blk_fr : ∀ x : Fr, 1 ≤ Meas.blk x := fun x => by show 1 ≤ 1 + 1 + 1 + 1 + 1 + 3 + Meas.blk x.regs + Meas.blk x.tries; omega
theorem frVals_blk : ∀ l : List Fr, (frVals l).length ≤ blkSum l
  | [] => Nat.le_refl _
  | f :: l => by
    have h1 := frVals_blk l
    have h2 : Meas.blk f = 1 + 1 + 1 + 1 + 1 + 3 + Meas.blk f.regs + Meas.blk f.tries := rfl
    have h3 : Meas.blk f.regs = blkSum f.regs + 1 := rfl
    have h4 := blk_len blk_pair f.regs
    have e : frVals (f :: l) = (f.self :: f.regs) ++ frVals l := rfl
    rw [e, List.length_append, List.length_cons]
    show _ ≤ Meas.blk f + blkSum l
    omega
theorem blk_th (x : Th) : Meas.blk x = 1 + Meas.blk x.frames + 1 + 1 + 3 := rfl
theorem blk_ce (x : Ce) : Meas.blk x = 1 + 1 + 1 + Meas.blk x.vals + Meas.blk x.frames := rfl
theorem thRefs_blk (t : Th) : (thRefs t).length ≤ 2 * Meas.blk t := by
  have h1 := frVals_blk t.frames
  have h2 := frVals_ge t.frames
  have h3 := rfs_len (frVals t.frames ++ [t.val])
  have h4 := blk_th t
  have h5 : Meas.blk t.frames = blkSum t.frames + 1 := rfl
  have h6 : (gens t.frames).length ≤ t.frames.length := by
    unfold gens; rw [List.length_map]; exact List.length_filter_le _ _
  rw [List.length_append, List.length_singleton] at h3
  unfold thRefs
  rw [List.length_append, List.length_append]
  split <;> simp <;> omega
theorem ths_blk : ∀ l : List Th, (l.flatMap thRefs).length ≤ 2 * blkSum l
  | [] => Nat.le_refl _
  | t :: l => by
    have h1 := ths_blk l
    have h2 := thRefs_blk t
    rw [List.flatMap_cons, List.length_append]
    show _ ≤ 2 * (Meas.blk t + blkSum l)
    omega
theorem ens_len : ∀ l : List En, (l.flatMap fun e => rfs [e.fn]).length ≤ l.length
  | [] => Nat.le_refl _
  | e :: l => by
    have h1 := ens_len l
    have h2 := rfs_len [e.fn]
    rw [List.flatMap_cons, List.length_append, List.length_cons]
    simp at h2
    omega
/-- what a bound on a state's bulk gives -/
theorem st_small {s : Stt} (h : Meas.blk s ≤ 1048576) : (∀ t ∈ s.threads, (frVals t.frames).length + 1 ≤ 1073741824) ∧ (roots s).length ≤ 1073741824 ∧ (s.threads.length ≤ 1073741824 ∧ s.ends.length ≤ 1073741824) ∧ s.cells.length ≤ 1073741824 ∧ ∀ c ∈ s.cells, c.vals.length + (frVals c.frames).length ≤ 1073741824 := by
  have h0 : Meas.blk s = 1 + Meas.blk s.cells + Meas.blk s.shapes + Meas.blk s.texts + Meas.blk s.threads + Meas.blk s.ends + Meas.blk s.said + 1 + 1 := rfl
  have e1 : Meas.blk s.cells = blkSum s.cells + 1 := rfl
  have e2 : Meas.blk s.threads = blkSum s.threads + 1 := rfl
  have e3 : Meas.blk s.ends = blkSum s.ends + 1 := rfl
  have l1 := blk_len (fun x : Ce => by rw [blk_ce]; omega) s.cells
  have l2 := blk_len (fun x : Th => by rw [blk_th]; omega) s.threads
  have l3 := blk_len (fun x : En => by show 1 ≤ 1 + 1 + 3; omega) s.ends
  have hr := ths_blk s.threads
  have he := ens_len s.ends
  refine ⟨fun t ht => ?_, ?_, ⟨by omega, by omega⟩, by omega, fun c hc => ?_⟩
  · have h1 := frVals_blk t.frames
    have h2 := blk_mem ht
    have h3 := blk_th t
    have h4 : Meas.blk t.frames = blkSum t.frames + 1 := rfl
    omega
  · unfold roots
    rw [List.length_append]; omega
  · have h1 := frVals_blk c.frames
    have h2 := blk_mem hc
    have h3 := blk_ce c
    have h4 : Meas.blk c.frames = blkSum c.frames + 1 := rfl
    have h5 : Meas.blk c.vals = blkSum c.vals + 1 := rfl
    have h6 := blk_len blk_pair c.vals
    omega
theorem obs_small {s : Stt} (h : Meas.blk s ≤ 1048576) : (obsT s).flatten.length ≤ 1073741824 := by
  have h0 : Meas.blk s = 1 + Meas.blk s.cells + Meas.blk s.shapes + Meas.blk s.texts + Meas.blk s.threads + Meas.blk s.ends + Meas.blk s.said + 1 + 1 := rfl
  have e1 : Meas.blk s.cells = blkSum s.cells + 1 := rfl
  have key : ∀ l : List Ce, (l.map (objOf (plcs s))).flatten.length ≤ blkSum l := by
    intro l
    induction l with
    | nil => exact Nat.le_refl _
    | cons c l ih =>
      have h1 := frVals_blk c.frames
      have h3 := blk_ce c
      have h4 : Meas.blk c.frames = blkSum c.frames + 1 := rfl
      have h5 : Meas.blk c.vals = blkSum c.vals + 1 := rfl
      have h6 := blk_len blk_pair c.vals
      have h7 : (cHas c).length ≤ c.vals.length + (frVals c.frames).length := by
        unfold cHas
        split
        · simp
        · rw [List.length_append]; omega
      rw [List.map_cons, List.flatten_cons, List.length_append, objOf_length]
      show _ ≤ Meas.blk c + blkSum l
      omega
  have := key s.cells
  unfold obsT
  omega
end Top
end Go.Proofs.YtdlcooplllimeaaGreatDoor
