/- May things be named? A marker's and a model's. -/
import Derived.Test.YtpkccpegdpodoaaMkD
namespace Go.Proofs.Ytpkccpegdpodoaa
open Go.RowKit

attribute [local go_sem ↓] Go.wp_at_zero Go.wp_at_succ

set_option maxHeartbeats 1600000 in
set_option maxRecDepth 100000 in
theorem mnamed_any (w : World) (base p B lc n : Nat) (F : Nat → Prop) (kind : Int) (mk : Bool) (s : List It) (LA : Option Addr) (ls : List Int) (h : Mkr w base F p kind mk s) (hf : Fine s) (hl : At w B LA ls) (hB : B ≤ w.heap.size) (hn : ls.length = n) (hn2 : n ≤ 2) :
    Calls Try.prog 177 #[.pointer (some ⟨p, 0, none⟩), .slice LA n lc] w fun e w' => e = .returned (.int .i64 (namedE s ls)) ∧ Below w.heap.size w w' := by
  have HM := Lib.hid h
  obtain ⟨A, c, l, h1, h2, h3, h4, h5⟩ := h
  have hls : s.length = l.length := by rw [← h5, its_length]
  obtain ⟨N, hN⟩ : ∃ N, l.length = N := ⟨_, rfl⟩
  rw [hN] at h1 hls
  have hN100 : N ≤ 100 := by rw [← hls]; exact hf.small
  have c2 := h1.cell 2 (v := .slice A N c) rfl
  have hplt := h1.lt
  have H := Lib.hid (And.intro hl (And.intro hn (And.intro hls hf))); clear hl hn hls hf h1 h2 h3 h5 hN
  go_enter Try.func177, Try.ntmps177
  go_wp2_with fail
  go_loopg [13] n (fun gk iv wr => ∃ (k : Nat), k ≤ n ∧ gk = n - k ∧ iv = .int .i64 k ∧ Hid ((ls.take k).all (inN s.length) = true) ∧ w = wr)
  case atStart => exact ⟨0, Nat.zero_le _, rfl, rfl, by simp [Hid], rfl⟩
  case round =>
    obtain ⟨k, hk, rfl, rfl, hkeep, rfl⟩ := hrel
    by_cases hlt : k < n
    · obtain ⟨b, o, x, rfl, hb, hx, hox, q0⟩ := H.out.1.int_ (k := k) (by have := H.out.2.1; omega)
      have b0 : (0 : Int) ≤ (k : Int) := by omega
      have b1 : (k : Int) < (n : Int) := by omega
      cases hin : inN s.length x with
      | false =>
        have HNM := Lib.hid (namedE_none hx hin)
        by_cases hneg : x < 0
        · have d1 : decide (x < 0) = true := by simpa using hneg
          clear hin hx
          go_wp2_with fail
          go_ret
          exact ⟨by rw [HNM.out]; rfl, Below.refl _ _⟩
        · have hge : (N : Int) ≤ x := by
            have := H.out.2.2.1
            unfold inN at hin
            simp only [Bool.and_eq_false_iff, decide_eq_false_iff_not] at hin
            omega
          clear hin hx
          go_wp2_with fail
          go_ret
          exact ⟨by rw [HNM.out]; rfl, Below.refl _ _⟩
      | true =>
        have hh := inN_iff.1 hin
        have hsn := all_snocM (inN s.length) ls k x hx
        rw [hkeep.out, hin] at hsn
        have hneg : ¬ x < 0 := by omega
        have hge : ¬ (N : Int) ≤ x := by have := H.out.2.2.1; omega
        have HS := Lib.hid hsn; clear hsn hin hx hh
        go_wp2_with fail
        go_roundg (n - (k + 1))
        case measure => omega
        case rel => exact ⟨k + 1, by omega, rfl, by go_num, HS.out, rfl⟩
    · obtain rfl : n = k := by omega
      have hall := hkeep.out
      rw [List.take_of_length_le (by have := H.out.2.1; omega)] at hall
      have HA := Lib.hid hall; clear hall hkeep
      go_wp2_with fail
      refine (mgraph_any w base p F kind mk s HM.out H.out.2.2.2.small H.out.2.2.2.long).mono ?_
      rintro e w1 ⟨GA, RA, gc, rc, m, rfl, g1, g2, g3, hb1⟩
      have hs1 := hb1.size
      have hsn : s.length = N := H.out.2.2.1
      rw [hsn]
      have hm100 : m ≤ 100 := by have := gRoots_len s; omega
      have HG := Lib.hid (And.intro g1 (And.intro g2 g3)); clear g1 g2 g3 hsn c2
      go_wp2_with fail
      refine calls_world (fun W => Below w1.heap.size w1 W ∧ w1.heap.size < W.heap.size) ⟨(Below.refl _ _).alloc (Nat.le_refl _) _, by simp⟩ ?_
      rintro W ⟨hW, hsW⟩
      have hgl : (gHas s).length = N := by rw [gHas_length]; exact H.out.2.2.1
      have hsl : (s.map It.held).length ≤ 1000000 := by rw [List.length_map, H.out.2.2.1]; omega
      refine (fromW_any gc rc N m GA RA (gHas s) (gRoots s) W hgl HG.out.2.2 ((HG.out.1.below hW).more (by omega)) ((HG.out.2.1.fresh hW).at_ (rising_I64 _ hsl)) H.out.2.2.2.right H.out.2.2.2.rightL hN100 (by omega) H.out.2.2.2.glen).mono ?_
      rintro e w2 ⟨S, sc, rfl, ho2, hb2⟩
      have hs2 := hb2.size
      have hb : Below w.heap.size w w2 := hb1.trans ((hW.mono hs1).trans (hb2.mono (by omega)))
      have HO := Lib.hid ho2; clear ho2 hgl hsl
      go_wp2_with fail
      go_loopg [37] n (fun gk iv wr => ∃ (k : Nat), k ≤ n ∧ gk = n - k ∧ iv = .int .i64 k ∧ Hid ((ls.take k).all (fun n => (needed s).getD n.toNat false) = true) ∧ w2 = wr)
      case atStart => exact ⟨0, Nat.zero_le _, rfl, rfl, by simp [Hid], rfl⟩
      case round =>
        obtain ⟨k, hk, rfl, rfl, hkeep, rfl⟩ := hrel
        by_cases hlt : k < n
        · obtain ⟨b, o, x, rfl, hbB, hx, hox, q0⟩ := (H.out.1.below (hb.mono hB)).int_ (k := k) (by have := H.out.2.1; omega)
          have hin := inN_iff.1 (List.all_eq_true.1 HA.out x (List.mem_of_getElem? hx))
          obtain ⟨j, rfl⟩ := Int.eq_ofNat_of_zero_le hin.1
          have hj : j < N := by have := H.out.2.2.1; omega
          obtain ⟨v, hv⟩ : ∃ v, (needed s)[j]? = some v := ⟨_, List.getElem?_eq_getElem (by unfold needed; rw [fromL_length, gHas_length]; have := H.out.2.2.1; omega)⟩
          obtain ⟨g, rfl, hgl, hgr⟩ := HO.out.some_ (by rw [fromL_length, gHas_length]; have := H.out.2.2.1; omega)
          have v0 := HO.out.cell_bool hv
          have hgd : (needed s).getD ((j : Int).toNat) false = v := by rw [Int.toNat_natCast, List.getD_eq_getElem?_getD, hv]; rfl
          have b0 : (0 : Int) ≤ (k : Int) := by omega
          have b1 : (k : Int) < (n : Int) := by omega
          have b2 : (0 : Int) ≤ (j : Int) := by omega
          have b3 : (j : Int) < (N : Int) := by omega
          cases v with
          | false =>
            have HNM := Lib.hid (namedE_state HA.out hx hgd)
            clear hin hx hv hgd
            go_wp2_with fail
            go_ret
            exact ⟨by rw [HNM.out]; rfl, hb⟩
          | true =>
            have hsn := all_snocM (fun n => (needed s).getD n.toNat false) ls k _ hx
            rw [hkeep.out, hgd] at hsn
            have HS := Lib.hid hsn; clear hsn hin hx hv hgd
            go_wp2_with fail
            go_roundg (n - (k + 1))
            case measure => omega
            case rel => exact ⟨k + 1, by omega, rfl, by go_num, HS.out, rfl⟩
        · obtain rfl : n = k := by omega
          have hall := hkeep.out
          rw [List.take_of_length_le (by have := H.out.2.1; omega)] at hall
          have HNM := Lib.hid (namedE_ok HA.out hall); clear hall hkeep
          go_wp2_with fail
          go_ret
          exact ⟨by rw [HNM.out]; rfl, hb⟩
set_option maxHeartbeats 1600000 in
set_option maxRecDepth 100000 in
theorem rnamed_any (w : World) (base p B lc n : Nat) (F : Nat → Prop) (nu kind : Int) (mk : Bool) (s : List It) (LA : Option Addr) (ls : List Int) (h : Mdl w base F p nu kind mk s) (hf : Fine s) (hl : At w B LA ls) (hB : B ≤ w.heap.size) (hn : ls.length = n) (hn2 : n ≤ 2) :
    Calls Try.prog 180 #[.pointer (some ⟨p, 0, none⟩), .slice LA n lc] w fun e w' => e = .returned (.int .i64 (namedE s ls)) ∧ Below w.heap.size w w' := by
  have HM := Lib.hid h
  obtain ⟨A, c, l, h1, h2, h3, h4, h5⟩ := h
  have hls : s.length = l.length := by rw [← h5, its_length]
  obtain ⟨N, hN⟩ : ∃ N, l.length = N := ⟨_, rfl⟩
  rw [hN] at h1 hls
  have hN100 : N ≤ 100 := by rw [← hls]; exact hf.small
  have c2 := h1.cell 0 (v := .slice A N c) rfl
  have hplt := h1.lt
  have H := Lib.hid (And.intro hl (And.intro hn (And.intro hls hf))); clear hl hn hls hf h1 h2 h3 h5 hN
  go_enter Try.func180, Try.ntmps180
  go_wp2_with fail
  go_loopg [13] n (fun gk iv wr => ∃ (k : Nat), k ≤ n ∧ gk = n - k ∧ iv = .int .i64 k ∧ Hid ((ls.take k).all (inN s.length) = true) ∧ w = wr)
  case atStart => exact ⟨0, Nat.zero_le _, rfl, rfl, by simp [Hid], rfl⟩
  case round =>
    obtain ⟨k, hk, rfl, rfl, hkeep, rfl⟩ := hrel
    by_cases hlt : k < n
    · obtain ⟨b, o, x, rfl, hb, hx, hox, q0⟩ := H.out.1.int_ (k := k) (by have := H.out.2.1; omega)
      have b0 : (0 : Int) ≤ (k : Int) := by omega
      have b1 : (k : Int) < (n : Int) := by omega
      cases hin : inN s.length x with
      | false =>
        have HNM := Lib.hid (namedE_none hx hin)
        by_cases hneg : x < 0
        · have d1 : decide (x < 0) = true := by simpa using hneg
          clear hin hx
          go_wp2_with fail
          go_ret
          exact ⟨by rw [HNM.out]; rfl, Below.refl _ _⟩
        · have hge : (N : Int) ≤ x := by
            have := H.out.2.2.1
            unfold inN at hin
            simp only [Bool.and_eq_false_iff, decide_eq_false_iff_not] at hin
            omega
          clear hin hx
          go_wp2_with fail
          go_ret
          exact ⟨by rw [HNM.out]; rfl, Below.refl _ _⟩
      | true =>
        have hh := inN_iff.1 hin
        have hsn := all_snocM (inN s.length) ls k x hx
        rw [hkeep.out, hin] at hsn
        have hneg : ¬ x < 0 := by omega
        have hge : ¬ (N : Int) ≤ x := by have := H.out.2.2.1; omega
        have HS := Lib.hid hsn; clear hsn hin hx hh
        go_wp2_with fail
        go_roundg (n - (k + 1))
        case measure => omega
        case rel => exact ⟨k + 1, by omega, rfl, by go_num, HS.out, rfl⟩
    · obtain rfl : n = k := by omega
      have hall := hkeep.out
      rw [List.take_of_length_le (by have := H.out.2.1; omega)] at hall
      have HA := Lib.hid hall; clear hall hkeep
      go_wp2_with fail
      refine (rgraph_any w base p F nu kind mk s HM.out H.out.2.2.2.small H.out.2.2.2.long H.out.2.2.2.neg).mono ?_
      rintro e w1 ⟨GA, RA, gc, rc, m, rfl, g1, g2, g3, hb1⟩
      have hs1 := hb1.size
      have hsn : s.length = N := H.out.2.2.1
      rw [hsn]
      have hm100 : m ≤ 100 := by have := gRoots_len s; omega
      have HG := Lib.hid (And.intro g1 (And.intro g2 g3)); clear g1 g2 g3 hsn c2
      go_wp2_with fail
      refine calls_world (fun W => Below w1.heap.size w1 W ∧ w1.heap.size < W.heap.size) ⟨(Below.refl _ _).alloc (Nat.le_refl _) _, by simp⟩ ?_
      rintro W ⟨hW, hsW⟩
      have hgl : (gHas s).length = N := by rw [gHas_length]; exact H.out.2.2.1
      have hsl : (s.map It.held).length ≤ 1000000 := by rw [List.length_map, H.out.2.2.1]; omega
      refine (fromR_any gc rc N m GA RA (gHas s) (gRoots s) W hgl HG.out.2.2 ((HG.out.1.below hW).more (by omega)) ((HG.out.2.1.fresh hW).at_ (rising_I64 _ hsl)) H.out.2.2.2.right H.out.2.2.2.rightL hN100 (by omega) H.out.2.2.2.glen).mono ?_
      rintro e w2 ⟨S, sc, rfl, ho2, hb2⟩
      have hs2 := hb2.size
      have hb : Below w.heap.size w w2 := hb1.trans ((hW.mono hs1).trans (hb2.mono (by omega)))
      have HO := Lib.hid ho2; clear ho2 hgl hsl
      go_wp2_with fail
      go_loopg [37] n (fun gk iv wr => ∃ (k : Nat), k ≤ n ∧ gk = n - k ∧ iv = .int .i64 k ∧ Hid ((ls.take k).all (fun n => (needed s).getD n.toNat false) = true) ∧ w2 = wr)
      case atStart => exact ⟨0, Nat.zero_le _, rfl, rfl, by simp [Hid], rfl⟩
      case round =>
        obtain ⟨k, hk, rfl, rfl, hkeep, rfl⟩ := hrel
        by_cases hlt : k < n
        · obtain ⟨b, o, x, rfl, hbB, hx, hox, q0⟩ := (H.out.1.below (hb.mono hB)).int_ (k := k) (by have := H.out.2.1; omega)
          have hin := inN_iff.1 (List.all_eq_true.1 HA.out x (List.mem_of_getElem? hx))
          obtain ⟨j, rfl⟩ := Int.eq_ofNat_of_zero_le hin.1
          have hj : j < N := by have := H.out.2.2.1; omega
          obtain ⟨v, hv⟩ : ∃ v, (needed s)[j]? = some v := ⟨_, List.getElem?_eq_getElem (by unfold needed; rw [fromL_length, gHas_length]; have := H.out.2.2.1; omega)⟩
          obtain ⟨g, rfl, hgl, hgr⟩ := HO.out.some_ (by rw [fromL_length, gHas_length]; have := H.out.2.2.1; omega)
          have v0 := HO.out.cell_bool hv
          have hgd : (needed s).getD ((j : Int).toNat) false = v := by rw [Int.toNat_natCast, List.getD_eq_getElem?_getD, hv]; rfl
          have b0 : (0 : Int) ≤ (k : Int) := by omega
          have b1 : (k : Int) < (n : Int) := by omega
          have b2 : (0 : Int) ≤ (j : Int) := by omega
          have b3 : (j : Int) < (N : Int) := by omega
          cases v with
          | false =>
            have HNM := Lib.hid (namedE_state HA.out hx hgd)
            clear hin hx hv hgd
            go_wp2_with fail
            go_ret
            exact ⟨by rw [HNM.out]; rfl, hb⟩
          | true =>
            have hsn := all_snocM (fun n => (needed s).getD n.toNat false) ls k _ hx
            rw [hkeep.out, hgd] at hsn
            have HS := Lib.hid hsn; clear hsn hin hx hv hgd
            go_wp2_with fail
            go_roundg (n - (k + 1))
            case measure => omega
            case rel => exact ⟨k + 1, by omega, rfl, by go_num, HS.out, rfl⟩
        · obtain rfl : n = k := by omega
          have hall := hkeep.out
          rw [List.take_of_length_le (by have := H.out.2.1; omega)] at hall
          have HNM := Lib.hid (namedE_ok HA.out hall); clear hall hkeep
          go_wp2_with fail
          go_ret
          exact ⟨by rw [HNM.out]; rfl, hb⟩

end Go.Proofs.Ytpkccpegdpodoaa
