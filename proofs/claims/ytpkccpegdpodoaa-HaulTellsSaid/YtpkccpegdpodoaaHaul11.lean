/- R.Moved$2: words turned by what was moved. -/
import Derived.Test.YtpkccpegdpodoaaHaul10
namespace Go.Proofs.Ytpkccpegdpodoaa
open Go.RowKit Go.Maps

attribute [local go_sem ↓] Go.wp_at_zero Go.wp_at_succ

def Hau.boxI (t : Int) : U64 := ⟨(boxL 5 t).1⟩
def Hau.turn1 (p : Nat) (w : U64) (m : Int × Int) : U64 := if m.2 = (p : Int) then Hau.boxI m.1 else w
/-- a word, turned by a list of moves -/
def Hau.turnBy (L : List (Int × Int)) (x : U64) : U64 := match Hau.refOf x with | none => x | some p => L.foldl (Hau.turn1 p) x
theorem Hau.turn_none (ws : List U64) (p : Nat) : ∀ (F : List Nat) (a : Nat) (x : U64), p ∉ F → ((Hau.cum ws a F).map fun m => ((m.1 : Int), (m.2 : Int))).foldl (Hau.turn1 p) x = x
  | [], _, _, _ => rfl
  | q :: F, a, x, h => by
    rw [Hau.cum, List.map_cons, List.foldl_cons]
    have hqp : q ≠ p := fun e => h (by rw [e]; simp)
    have hq : ¬ ((q : Int) = (p : Int)) := by omega
    rw [show Hau.turn1 p x (((a, q) : Nat × Nat).1, (((a, q) : Nat × Nat).2 : Int)) = x from if_neg hq]
    exact Hau.turn_none ws p F _ x (fun hm => h (by simp [hm]))
theorem Hau.turn_some (ws : List U64) (p : Nat) : ∀ (F : List Nat) (a : Nat) (x : U64), F.Nodup → p ∈ F → ((Hau.cum ws a F).map fun m => ((m.1 : Int), (m.2 : Int))).foldl (Hau.turn1 p) x = Hau.refW (a + Hau.posOf ws F p)
  | [], _, _, _, h => by cases h
  | q :: F, a, x, hn, h => by
    rw [Hau.cum, List.map_cons, List.foldl_cons]
    by_cases hq : q = p
    · subst hq
      rw [show Hau.turn1 q x ((a : Int), (q : Int)) = Hau.boxI a from if_pos rfl, Hau.turn_none ws q F _ _ (List.nodup_cons.1 hn).1]
      unfold Hau.posOf
      rw [List.takeWhile_cons]
      simp [Hau.boxI, Hau.refW]
    · have hq' : ¬ ((q : Int) = (p : Int)) := by omega
      rw [show Hau.turn1 p x ((a : Int), (q : Int)) = x from if_neg hq']
      have hm : p ∈ F := by
        rcases List.mem_cons.1 h with h | h
        · exact absurd h.symm hq
        · exact h
      rw [Hau.turn_some ws p F _ x (List.nodup_cons.1 hn).2 hm]
      unfold Hau.posOf
      have hb : (q != p) = true := by simpa using hq
      rw [List.takeWhile_cons, hb]
      simp only [if_true, List.map_cons, List.sum_cons]
      rw [Nat.add_assoc]
theorem Hau.turnBy_trn {ws : List U64} {F : List Nat} {x : U64} (hn : F.Nodup) (hk : ∀ r, Hau.refOf x = some r → r ∈ F) : Hau.turnBy (Hau.mv ws F) x = Hau.trn ws F x := by
  unfold Hau.turnBy Hau.trn
  cases hr : Hau.refOf x with
  | none => rfl
  | some p =>
    have := Hau.turn_some ws p F 0 x hn (hk p hr)
    rw [Nat.zero_add] at this
    exact this
theorem Hau.turnBy_map {ws : List U64} {F : List Nat} {l : List U64} (hn : F.Nodup) (hk : Hau.known F l) : l.map (Hau.turnBy (Hau.mv ws F)) = l.map (Hau.trn ws F) := List.map_congr_left fun x hx => Hau.turnBy_trn hn (hk x hx)
theorem Hau.boxI_flat (t : Int) : Flat.ok (Hau.boxI t) := by
  show 0 ≤ (boxL 5 t).1 ∧ (boxL 5 t).1 ≤ 18446744073709551615
  unfold boxL
  rw [if_neg (by omega), if_neg (by omega)]
  split
  · simp
  · have : tagL 5 = 65534 ∨ True := .inr trivial
    simp only [tagL]
    omega
theorem Hau.turn1_flat {p : Nat} {w : U64} {m : Int × Int} (h : Flat.ok w) : Flat.ok (Hau.turn1 p w m) := by
  unfold Hau.turn1; split
  · exact Hau.boxI_flat _
  · exact h
theorem Hau.foldI_snoc {L : List (Int × Int)} {k : Nat} {m : Int × Int} (h : L[k]? = some m) (p : Nat) (x : U64) : (L.take (k + 1)).foldl (Hau.turn1 p) x = Hau.turn1 p ((L.take k).foldl (Hau.turn1 p) x) m := by
  rw [take_snocH L k m h, List.foldl_append]; rfl
theorem At.pairH {w : World} {B : Nat} {A : Option Addr} {l : List (Int × Int)} {k : Nat} {x : Int × Int} (h : At w B A l) (hx : l[k]? = some x) :
    ∃ b o, A = some ⟨b, o, none⟩ ∧ b < B ∧ I64 x.1 ∧ I64 x.2 ∧ w.cell? ⟨b, o + k * 2, none⟩ = some (.int .i64 x.1) ∧ w.cell? ⟨b, o + k * 2 + 1, none⟩ = some (.int .i64 x.2) := by
  obtain ⟨b, o, cs, rfl, hb, hc, rfl, h1, h2⟩ := h k x hx
  have h0 := hc 0 _ rfl
  have h1' := hc 1 _ rfl
  simp only [Enc.sz, Flat.sz, Nat.add_zero] at h0 h1'
  exact ⟨b, o, rfl, hb, h1, h2, h0, h1'⟩

set_option maxHeartbeats 1600000 in
set_option maxRecDepth 100000 in
theorem turned_any (B n c m mc MV : Nat) (A MA : Option Addr) (l : List U64) (L : List (Int × Int)) (w : World) (h : At w B A l) (hn : l.length = n) (hB : B ≤ w.heap.size) (hM : Blk w MV 73 #[.slice MA m mc]) (hm : At w w.heap.size MA L) (hml : L.length = m)
    (hl : n ≤ 2000) (hmm : m ≤ 2000) :
    Calls Try.prog 118 #[.slice A n c, .pointer (some ⟨MV, 0, none⟩)] w fun e w' => ∃ OA oc, e = .returned (.slice OA n oc) ∧ Own w' w.heap.size 24 OA oc (l.map (Hau.turnBy L)) ∧ Below w.heap.size w w' := by
  obtain ⟨j0, hj, hy0, hy1, hy2⟩ := info_partsH infoU64H
  have hMl := hM.lt
  have H := Lib.hid (And.intro h (And.intro hn (And.intro hM (And.intro hm hml)))); clear h hn hM hm hml
  go_enter Try.func118, Try.ntmps118
  go_wp2_with fail
  go_loopg [4, 6, 7, 8, 10, 13] n (fun gk v4 v6 v7 v8 v10 v13 wr => ∃ (k : Nat) (OA : Option Addr) (oc : Nat), k ≤ n ∧ gk = n - k ∧ v13 = .int .i64 k ∧ v4 = .slice OA k oc ∧ Hid (Own wr w.heap.size 24 OA oc ((l.map (Hau.turnBy L)).take k)) ∧ Below w.heap.size w wr)
  case atStart => exact ⟨0, none, 0, by omega, rfl, rfl, rfl, Own.nil_, Below.refl _ _⟩
  case round =>
    obtain ⟨k, OA, oc, hk, rfl, rfl, rfl, hkeep, hbl⟩ := hrel
    have hsz := hbl.size
    by_cases hlt : k < n
    · obtain ⟨b, o, rfl, hbB, hok, g0⟩ := (H.out.1.below (hbl.mono hB)).u64H (show k < l.length by rw [H.out.2.1]; exact hlt)
      have hgx : l[k]? = some (Hau.wat l k) := by unfold Hau.wat; rw [List.getD_eq_getElem?_getD, List.getElem?_eq_getElem (by rw [H.out.2.1]; exact hlt)]; rfl
      obtain ⟨x, hx⟩ : ∃ x, Hau.wat l k = x := ⟨_, rfl⟩
      rw [hx] at hok g0 hgx
      have hlt2 : (k : Int) < (n : Int) := by omega
      have hub := runbox_any x.val wr hok
      have hsn : (l.map (Hau.turnBy L)).take (k + 1) = (l.map (Hau.turnBy L)).take k ++ [Hau.turnBy L x] := take_snocH _ k _ (by rw [List.getElem?_map, hgx]; rfl)
      have hln : ((l.map (Hau.turnBy L)).take k).length = k := by rw [List.length_take, List.length_map, H.out.2.1]; omega
      have HX := Lib.hid (And.intro hub (And.intro hok (And.intro hsn hln))); clear hub hok hgx hx hsn hln
      go_wp2_with fail
      refine HX.out.1.mono ?_
      rintro e w1 ⟨hb1, hr⟩
      have hs1 := hb1.size
      have hbl1 : Below w.heap.size w w1 := hbl.trans (hb1.mono hsz)
      have hb1r := hb1
      rcases hr with ⟨kk, mm, hu, rfl⟩ | ⟨hu, rfl⟩
      · by_cases hk5 : kk = 5
        · subst hk5
          have hm0 := Hau.unb5 HX.out.2.1.1 hu
          have hrf : Hau.refOf x = some mm.toNat := by unfold Hau.refOf; rw [hu]; rfl
          obtain ⟨p, rfl⟩ := Int.eq_ofNat_of_zero_le hm0.1
          have htb : Hau.turnBy L x = L.foldl (Hau.turn1 p) x := by unfold Hau.turnBy; rw [hrf]; rfl
          have HT := Lib.hid htb; clear htb hrf hu
          go_upto_region 7 with fail
          refine wp_world (fun W => Blk W w1.heap.size 23 #[.int .i64 5, .int .i64 (p : Int)] ∧ Below wr.heap.size wr W ∧ Below w.heap.size w W ∧ w1.heap.size < W.heap.size) ⟨Blk.new _ _ _, hb1.alloc hs1 _, hbl1.alloc (by omega) _, by simp⟩ ?_
          rintro W ⟨hV, hbW, hbwW, hsW⟩
          have m0 := (H.out.2.2.1.fresh hbwW).cell 0 (v := .slice MA m mc) rfl
          have HV := Lib.hid (And.intro hV hkeep.out); clear hV hkeep
          go_wp2_with fail
          go_loopg [6, 10, 30] m (fun gk v6 v10 v30 wr => ∃ (t : Nat) (y : U64), t ≤ m ∧ gk = m - t ∧ v30 = .int .i64 t ∧ v6 = .int .u64 y.val ∧ Hid (y = (L.take t).foldl (Hau.turn1 p) x ∧ Flat.ok y) ∧ Below W.heap.size W wr)
          case atStart => exact ⟨0, x, by omega, rfl, rfl, rfl, ⟨rfl, HX.out.2.1⟩, Below.refl _ _⟩
          case round =>
            obtain ⟨t, y, ht, rfl, rfl, rfl, hy, hbt⟩ := hrel
            have hst := hbt.size
            have hbt2 : Below w.heap.size w wr := hbwW.trans (hbt.mono (by omega))
            by_cases htm : t < m
            · obtain ⟨mv, hmv⟩ : ∃ mv, L[t]? = some mv := ⟨_, List.getElem?_eq_getElem (by rw [H.out.2.2.2.2]; exact htm)⟩
              obtain ⟨bm, om, rfl, hbm, i1, i2, q0, q1⟩ := (H.out.2.2.2.1.below hbt2).pairH hmv
              have htm2 : (t : Int) < (m : Int) := by omega
              have hfs := Hau.foldI_snoc hmv p x
              rw [← hy.out.1] at hfs
              obtain ⟨m1, m2⟩ := mv
              simp only at i1 i2 q0 q1
              have v1 := ((HV.out.1.fresh hbt).alloc (.cells #[.int .i64 m1, .int .i64 m2] 82)).cell 1 (v := .int .i64 (p : Int)) rfl
              have hyo := hy.out.2
              by_cases hmp : m2 = (p : Int)
              · have hd : (m2 == (p : Int)) = true := by simpa using hmp
                have hfs : (L.take (t + 1)).foldl (Hau.turn1 p) x = Hau.boxI m1 := by rw [hfs]; exact if_pos hmp
                have HY := Lib.hid (And.intro hfs (Hau.boxI_flat m1)); clear hfs hyo hy hmv hmp
                go_wp2_with fail
                refine (rbox_any 5 m1 _ (by unfold I64; omega) i1).mono ?_
                rintro e w5 ⟨rfl, hb5⟩
                have hbt5 : Below W.heap.size W w5 := (hbt.alloc hst _).trans (hb5.mono (by simp; omega))
                go_wp2_with fail
                go_roundg (m - (t + 1))
                case measure => omega
                case rel => exact ⟨t + 1, Hau.boxI m1, by omega, rfl, by go_num, rfl, ⟨HY.out.1.symm, HY.out.2⟩, hbt5⟩
              · have hd : (m2 == (p : Int)) = false := by simpa using hmp
                have hfs : (L.take (t + 1)).foldl (Hau.turn1 p) x = y := by rw [hfs]; exact if_neg hmp
                have HY := Lib.hid (And.intro hfs hyo); clear hfs hyo hy hmv hmp
                go_wp2_with fail
                go_roundg (m - (t + 1))
                case measure => omega
                case rel => exact ⟨t + 1, y, by omega, rfl, by go_num, rfl, ⟨HY.out.1.symm, HY.out.2⟩, hbt.alloc hst _⟩
            · obtain rfl : t = m := by omega
              have hty : Hau.turnBy L x = y := by rw [HT.out, hy.out.1, List.take_of_length_le (by rw [H.out.2.2.2.2]; exact Nat.le_refl _)]
              have hyo := hy.out.2
              clear hy
              have HW := Lib.hid (And.intro ((HV.out.2.fresh hbW).fresh hbt) (And.intro (hyo) (And.intro (hty) (hbwW.trans (hbt.mono (by omega))))))
              go_wp2_with (at_builtin; go_must (refine wpList_app (α := U64) (n := k) (m := 1) (B := (wr).heap.size + 1) (r := [y]) rfl (.tmp 47) (.tmp 49) _ rfl w.heap.size 24 j0 _ 8 Try.underlying39 hj hy0 hy1 hy2 rfl (by decide) u64_oneH (by rfl) HX.out.2.2.2 (HW.out.1.alloc _) (by rfl) ?_ rfl (by omega) (by simp only [maxLen]; omega) (by have := HW.out.2.2.2.size; simp only [World.size_alloc] at this ⊢; omega) ?_))
              · have hbu := At.built (wr) #[.int .u64 (y).val] 24 [y] rfl (by intro u hu; rw [List.mem_singleton] at hu; rw [hu]; exact HW.out.2.1)
                simpa using hbu
              intro A9 c9 w9 hown9 hgr9 hat9
              have hbl9 : Below w.heap.size w w9 := (HW.out.2.2.2.alloc HW.out.2.2.2.size _).grown hgr9 (by have := HW.out.2.2.2.size; simp only [World.size_alloc] at this ⊢; omega) (fun g hg => (HW.out.1.lt g hg).1)
              have hin9 : List.take k (List.map (Hau.turnBy L) l) ++ [y] = List.take (k + 1) (List.map (Hau.turnBy L) l) := by rw [HX.out.2.2.1, HW.out.2.2.1]
              have hown9' : Own w9 w.heap.size 24 A9 c9 (List.take (k + 1) (List.map (Hau.turnBy L) l)) := by rw [← hin9]; exact hown9
              have HF := Lib.hid hown9'; clear hown9 hown9' hin9 hgr9 hat9 HW
              go_wp2_with fail
              go_roundg (n - (k + 1))
              case measure => omega
              case rel => exact ⟨k + 1, A9, c9, by omega, rfl, by go_num, rfl, HF.out, hbl9⟩
        · have hd : (kk == 5) = false := by simpa using hk5
          have hrf : Hau.refOf x = none := by unfold Hau.refOf; rw [hu]; exact if_neg hk5
          have htb : Hau.turnBy L x = x := by unfold Hau.turnBy; rw [hrf]
          clear hu hrf hk5
          have HW := Lib.hid (And.intro ((hkeep.out.fresh hb1r).alloc (.cells #[.int .i64 kk, .int .i64 mm] 23)) (And.intro (HX.out.2.1) (And.intro (htb) (hbl1.alloc (by omega) (.cells #[.int .i64 kk, .int .i64 mm] 23)))))
          go_wp2_with (at_builtin; go_must (refine wpList_app (α := U64) (n := k) (m := 1) (B := (w1.alloc (.cells #[.int .i64 kk, .int .i64 mm] 23)).heap.size + 1) (r := [x]) rfl (.tmp 47) (.tmp 49) _ rfl w.heap.size 24 j0 _ 8 Try.underlying39 hj hy0 hy1 hy2 rfl (by decide) u64_oneH (by rfl) HX.out.2.2.2 (HW.out.1.alloc _) (by rfl) ?_ rfl (by omega) (by simp only [maxLen]; omega) (by have := HW.out.2.2.2.size; simp only [World.size_alloc] at this ⊢; omega) ?_))
          · have hbu := At.built (w1.alloc (.cells #[.int .i64 kk, .int .i64 mm] 23)) #[.int .u64 (x).val] 24 [x] rfl (by intro u hu; rw [List.mem_singleton] at hu; rw [hu]; exact HW.out.2.1)
            simpa using hbu
          intro A9 c9 w9 hown9 hgr9 hat9
          have hbl9 : Below w.heap.size w w9 := (HW.out.2.2.2.alloc HW.out.2.2.2.size _).grown hgr9 (by have := HW.out.2.2.2.size; simp only [World.size_alloc] at this ⊢; omega) (fun g hg => (HW.out.1.lt g hg).1)
          have hin9 : List.take k (List.map (Hau.turnBy L) l) ++ [x] = List.take (k + 1) (List.map (Hau.turnBy L) l) := by rw [HX.out.2.2.1, HW.out.2.2.1]
          have hown9' : Own w9 w.heap.size 24 A9 c9 (List.take (k + 1) (List.map (Hau.turnBy L) l)) := by rw [← hin9]; exact hown9
          have HF := Lib.hid hown9'; clear hown9 hown9' hin9 hgr9 hat9 HW
          go_wp2_with fail
          go_roundg (n - (k + 1))
          case measure => omega
          case rel => exact ⟨k + 1, A9, c9, by omega, rfl, by go_num, rfl, HF.out, hbl9⟩
      · have hrf : Hau.refOf x = none := by unfold Hau.refOf; rw [hu]
        have htb : Hau.turnBy L x = x := by unfold Hau.turnBy; rw [hrf]
        clear hu hrf
        have HW := Lib.hid (And.intro ((hkeep.out.fresh hb1r).alloc (.cells #[.int .i64 0, .int .i64 0] 23)) (And.intro (HX.out.2.1) (And.intro (htb) (hbl1.alloc (by omega) (.cells #[.int .i64 0, .int .i64 0] 23)))))
        go_wp2_with (at_builtin; go_must (refine wpList_app (α := U64) (n := k) (m := 1) (B := (w1.alloc (.cells #[.int .i64 0, .int .i64 0] 23)).heap.size + 1) (r := [x]) rfl (.tmp 47) (.tmp 49) _ rfl w.heap.size 24 j0 _ 8 Try.underlying39 hj hy0 hy1 hy2 rfl (by decide) u64_oneH (by rfl) HX.out.2.2.2 (HW.out.1.alloc _) (by rfl) ?_ rfl (by omega) (by simp only [maxLen]; omega) (by have := HW.out.2.2.2.size; simp only [World.size_alloc] at this ⊢; omega) ?_))
        · have hbu := At.built (w1.alloc (.cells #[.int .i64 0, .int .i64 0] 23)) #[.int .u64 (x).val] 24 [x] rfl (by intro u hu; rw [List.mem_singleton] at hu; rw [hu]; exact HW.out.2.1)
          simpa using hbu
        intro A9 c9 w9 hown9 hgr9 hat9
        have hbl9 : Below w.heap.size w w9 := (HW.out.2.2.2.alloc HW.out.2.2.2.size _).grown hgr9 (by have := HW.out.2.2.2.size; simp only [World.size_alloc] at this ⊢; omega) (fun g hg => (HW.out.1.lt g hg).1)
        have hin9 : List.take k (List.map (Hau.turnBy L) l) ++ [x] = List.take (k + 1) (List.map (Hau.turnBy L) l) := by rw [HX.out.2.2.1, HW.out.2.2.1]
        have hown9' : Own w9 w.heap.size 24 A9 c9 (List.take (k + 1) (List.map (Hau.turnBy L) l)) := by rw [← hin9]; exact hown9
        have HF := Lib.hid hown9'; clear hown9 hown9' hin9 hgr9 hat9 HW
        go_wp2_with fail
        go_roundg (n - (k + 1))
        case measure => omega
        case rel => exact ⟨k + 1, A9, c9, by omega, rfl, by go_num, rfl, HF.out, hbl9⟩
    · obtain rfl : k = n := by omega
      have hO := hkeep.out
      rw [List.take_of_length_le (by rw [List.length_map, H.out.2.1]; exact Nat.le_refl _)] at hO
      have HO := Lib.hid hO; clear hO hkeep
      go_wp2_with fail
      go_returns
      exact ⟨OA, oc, rfl, HO.out, hbl⟩

end Go.Proofs.Ytpkccpegdpodoaa
