/- R.wordFits, R.HeapFault. -/
import Derived.Test.YtpkccpegdpodoaaHaul3
import Derived.Deep.CutRange
namespace Go.Proofs.Ytpkccpegdpodoaa
open Go.RowKit Go.Maps

attribute [local go_sem ↓] Go.wp_at_zero Go.wp_at_succ

set_option maxHeartbeats 800000 in
set_option maxRecDepth 100000 in
theorem wordFits_any (B pc n : Nat) (PA : Option Addr) (pl : List Nat) (x : U64) (w : World) (hx : Flat.ok x) (hn : pl.length = n) (hn1 : n ≤ 100000) (hp : At w B PA (ints pl)) (hB : B ≤ w.heap.size) :
    Calls Try.prog 110 #[.int .u64 x.val, .slice PA n pc] w fun e w' => e = .returned (.bool (Hau.fits pl x)) ∧ Below w.heap.size w w' := by
  obtain ⟨q, hq⟩ : ∃ q, Hau.fits pl x = q := ⟨_, rfl⟩
  rw [hq]
  have H := Lib.hid (And.intro hp (And.intro hn hq)); clear hp hn hq
  go_enter Try.func110, Try.ntmps110
  go_wp2_with fail
  refine (runbox_any x.val _ hx).mono ?_
  rintro e w1 ⟨hb, hr⟩
  have hs := hb.size
  rcases hr with ⟨k, m, hu, rfl⟩ | ⟨hu, rfl⟩
  · have hf : Hau.fits pl x = (decide (k ≠ 5) || pl.contains m.toNat) := by unfold Hau.fits; rw [hu]
    have hm5 : k = 5 → 0 ≤ m := fun h => (Hau.unb5 hx.1 (by rw [hu, h])).1
    rw [H.out.2.2] at hf
    have HF := Lib.hid (And.intro hf hm5); clear hf hm5 hu
    by_cases hk : k = 5
    · have hm0 := HF.out.2 hk
      have hqq : (ints pl).contains m = q := by
        have hc : (ints pl).contains m = pl.contains m.toNat := by
          obtain ⟨mn, rfl⟩ := Int.eq_ofNat_of_zero_le hm0
          rw [ints_contains]; rfl
        rw [hc, HF.out.1]; simp [hk]
      have HH := Lib.hid (And.intro hm0 hqq); clear hqq hm0
      subst hk
      go_wp2_with fail
      refine calls_world (fun W => Below w.heap.size w W) (hb.alloc hs _) ?_
      intro W hW2
      have hh := hasIntH PA pc B n pl m W H.out.2.1 (H.out.1.below (hW2.mono hB)) (by omega)
      rw [HH.out.2] at hh
      refine hh.mono ?_
      rintro e w2 ⟨rfl, rfl⟩
      clear hh
      go_wp2_with fail
      go_returns
      exact ⟨rfl, hW2⟩
    · have hd : (k != 5) = true := by simpa using hk
      have hqq : q = true := by rw [HF.out.1]; simp [hk]
      subst hqq
      have HK := Lib.hid hk; clear hk
      go_wp2_with fail
      go_returns
      exact ⟨rfl, hb.alloc hs _⟩
  · have hf : Hau.fits pl x = false := by unfold Hau.fits; rw [hu]
    rw [H.out.2.2] at hf
    subst hf
    clear hu
    go_wp2_with fail
    go_returns
    exact ⟨rfl, hb.alloc hs _⟩

/-- do words, from some on, fit? -/
def Hau.upto (ws : List U64) (k : Nat) : Prop := ∀ i, i < k → ((Hau.places ws).contains i || Hau.fits (Hau.places ws) (Hau.wat ws i)) = true
theorem Hau.upto_ok {ws : List U64} (h : Hau.upto ws ws.length) : Hau.wordsOk ws = true := by
  unfold Hau.wordsOk
  rw [List.all_eq_true]
  intro i hi
  exact h i (List.mem_range.1 hi)
theorem Hau.upto_no {ws : List U64} {k : Nat} (hk : k < ws.length) (h : ((Hau.places ws).contains k || Hau.fits (Hau.places ws) (Hau.wat ws k)) = false) : Hau.wordsOk ws = false := by
  rw [Bool.eq_false_iff]
  intro hw
  unfold Hau.wordsOk at hw
  have := List.all_eq_true.1 hw k (List.mem_range.2 hk)
  rw [h] at this; cases this
def Hau.rupto (ws roots : List U64) (k : Nat) : Prop := ∀ x ∈ roots.take k, Hau.fits (Hau.places ws) x = true
theorem Hau.rupto_ok {ws roots : List U64} (h : Hau.rupto ws roots roots.length) : Hau.rootsOk ws roots = true := by
  unfold Hau.rootsOk
  rw [List.all_eq_true]
  intro x hx
  exact h x (by rw [List.take_length]; exact hx)
theorem Hau.rupto_no {ws roots : List U64} {k : Nat} (hk : k < roots.length) (h : Hau.fits (Hau.places ws) (Hau.wat roots k) = false) : Hau.rootsOk ws roots = false := by
  rw [Bool.eq_false_iff]
  intro hw
  unfold Hau.rootsOk at hw
  have := List.all_eq_true.1 hw (Hau.wat roots k) (by unfold Hau.wat; rw [List.getD_eq_getElem?_getD, List.getElem?_eq_getElem hk]; exact List.getElem_mem hk)
  rw [h] at this; cases this
theorem Hau.rupto_next {ws roots : List U64} {k : Nat} (hk : k < roots.length) (h : Hau.rupto ws roots k) (hf : Hau.fits (Hau.places ws) (Hau.wat roots k) = true) : Hau.rupto ws roots (k + 1) := by
  intro x hx
  rw [List.take_add_one, List.getElem?_eq_getElem hk, Option.toList_some] at hx
  rcases List.mem_append.1 hx with hx | hx
  · exact h x hx
  · simp at hx
    have : Hau.wat roots k = x := by unfold Hau.wat; rw [List.getD_eq_getElem?_getD, List.getElem?_eq_getElem hk, hx]; rfl
    rw [← this]; exact hf
/-- the places of right words are within -/
theorem Hau.places_lt (ws : List U64) : ∀ q ∈ Hau.places ws, q < ws.length := by
  have key : ∀ f p, ∀ q ∈ Hau.objs ws f p, q < ws.length := by
    intro f
    induction f with
    | zero => intro p q h; cases h
    | succ f ih =>
      intro p q h
      unfold Hau.objs at h
      split at h
      · rcases List.mem_cons.1 h with rfl | h
        · assumption
        · exact ih _ q h
      · cases h
  exact key _ _
theorem Hau.objs_len (ws : List U64) : ∀ f p, (Hau.objs ws f p).length ≤ ws.length - p
  | 0, p => by simp [Hau.objs]
  | f + 1, p => by
    unfold Hau.objs
    split
    · have := Hau.objs_len ws f (p + Hau.sz ws p)
      have := Hau.sz_pos ws p
      rw [List.length_cons]; omega
    · simp
theorem Hau.places_len (ws : List U64) : (Hau.places ws).length ≤ ws.length := by have := Hau.objs_len ws (ws.length + 1) 0; unfold Hau.places; omega

/-- a heap's two lists, as a struct's cells -/
def HpAt (w : World) (B : Nat) (h : Hp) (WA RA : Option Addr) : Prop := At w B WA h.words ∧ At w B RA h.roots

set_option maxHeartbeats 1600000 in
set_option maxRecDepth 100000 in
theorem heapFault_any (B wc rc : Nat) (WA RA : Option Addr) (h : Hp) (w : World) (hh : HpAt w B h WA RA) (hB : B ≤ w.heap.size) :
    Calls Try.prog 37 #[.agg #[.slice WA h.words.length wc, .slice RA h.roots.length rc]] w fun e w' => e = .returned (.int .i64 (Hau.heapErr h)) ∧ Below w.heap.size w w' := by
  obtain ⟨ws, roots⟩ := h
  obtain ⟨hw, hr⟩ := hh
  simp only at hw hr
  obtain ⟨er, her⟩ : ∃ e, Hau.heapErr ⟨ws, roots⟩ = e := ⟨_, rfl⟩
  rw [her]
  unfold Hau.heapErr at her
  simp only at her
  have H := Lib.hid (And.intro hw (And.intro hr her)); clear hw hr her
  by_cases hl1 : 2000 < ws.length
  · have hd : decide ((2000 : Int) < (ws.length : Int)) = true := by simp; omega
    have he : er = 2 := by rw [← H.out.2.2, if_pos (.inl hl1)]
    subst he
    go_enter Try.func37, Try.ntmps37
    go_wp2_with fail
    go_returns
    exact ⟨rfl, (Below.refl _ _).alloc (Nat.le_refl _) _⟩
  have hd : decide ((2000 : Int) < (ws.length : Int)) = false := by simp; omega
  by_cases hl2 : 100 < roots.length
  · have hd2 : decide ((100 : Int) < (roots.length : Int)) = true := by simp; omega
    have he : er = 2 := by rw [← H.out.2.2, if_pos (.inr hl2)]
    subst he
    go_enter Try.func37, Try.ntmps37
    go_wp2_with fail
    go_returns
    exact ⟨rfl, (Below.refl _ _).alloc (Nat.le_refl _) _⟩
  have hd2 : decide ((100 : Int) < (roots.length : Int)) = false := by simp; omega
  have her := H.out.2.2
  rw [if_neg (by omega)] at her
  have HE := Lib.hid her; clear her
  go_enter Try.func37, Try.ntmps37
  go_wp2_with fail
  refine calls_world (fun W => Blk W w.heap.size 70 #[.slice WA ws.length wc, .slice RA roots.length rc] ∧ Below w.heap.size w W ∧ w.heap.size + 1 ≤ W.heap.size) ⟨Blk.new _ _ _, (Below.refl _ _).alloc (Nat.le_refl _) _, by simp⟩ ?_
  rintro W ⟨hG, hb0, hs0⟩
  have hpl := rplaces_any B wc WA ws W (H.out.1.below (hb0.mono hB)) (by omega) (by omega)
  refine hpl.mono ?_
  rintro e w1 ⟨hb1, hp⟩
  have hs1 := hb1.size
  have hb01 : Below w.heap.size w w1 := hb0.trans (hb1.mono (by omega))
  have hG1 := hG.fresh hb1
  clear hpl hG hb0
  rcases hp with ⟨hok, OA, oc, rfl, ho⟩ | ⟨hok, rfl⟩
  · have her := HE.out
    rw [hok, if_neg (by decide)] at her
    have hlen := Hau.places_len ws
    have hplt := Hau.places_lt ws
    obtain ⟨pl, hpl⟩ : ∃ p, Hau.places ws = p := ⟨_, rfl⟩
    rw [hpl] at ho hlen hplt
    have hto : At w1 w1.heap.size OA (ints pl) := ho.at_ (ints_okB hplt (by omega))
    obtain ⟨n, hn⟩ : ∃ n, pl.length = n := ⟨_, rfl⟩
    rw [hpl, hn]
    rw [hn] at hlen
    have g0 := hG1.cell 0 (v := .slice WA ws.length wc) rfl
    have HP := Lib.hid (And.intro hG1 (And.intro hto (And.intro hpl (And.intro hn her)))); clear hG1 hto hpl hn her hok ho hplt
    go_wp2_with fail
    go_loopg [5, 6, 30] ws.length (fun gk v5 v6 v30 wr => ∃ i : Nat, i ≤ ws.length ∧ gk = ws.length - i ∧ v30 = .int .i64 i ∧ Hid (Hau.upto ws i) ∧ Below w1.heap.size w1 wr)
    case atStart => exact ⟨0, by omega, rfl, rfl, (by unfold Hid; intro i hi; omega), Below.refl _ _⟩
    case round =>
      obtain ⟨i, hi, rfl, rfl, hup, hbl⟩ := hrel
      have hsz := hbl.size
      have hb2 : Below w.heap.size w wr := hb01.trans (hbl.mono (by omega))
      by_cases hlt : i < ws.length
      · obtain ⟨b, o, rfl, hb', hok', g1⟩ := (H.out.1.below (hb2.mono hB)).u64H hlt
        have hlt2 : (i : Int) < (ws.length : Int) := by omega
        have hhas := hasIntH OA oc w1.heap.size n pl i wr HP.out.2.2.2.1 (HP.out.2.1.below hbl) (by omega)
        rw [ints_contains] at hhas
        have hstep : (pl.contains i || Hau.fits pl (Hau.wat ws i)) = true → Hau.upto ws (i + 1) := by
          intro h j hj
          by_cases hji : j = i
          · subst hji; rw [HP.out.2.2.1]; exact h
          · exact hup.out j (by omega)
        have hstop : (pl.contains i || Hau.fits pl (Hau.wat ws i)) = false → er = 3 := by
          intro h
          have := Hau.upto_no hlt (by rw [HP.out.2.2.1]; exact h)
          rw [← HP.out.2.2.2.2, if_pos this]
        have hfit := wordFits_any w1.heap.size oc n OA pl (Hau.wat ws i) wr hok' HP.out.2.2.2.1 (by omega) (HP.out.2.1.below hbl) (by omega)
        obtain ⟨x, hx⟩ : ∃ x, Hau.wat ws i = x := ⟨_, rfl⟩
        rw [hx] at g1 hstep hstop hfit
        obtain ⟨r, hr⟩ : ∃ r, pl.contains i = r := ⟨_, rfl⟩
        rw [hr] at hhas hstep hstop
        obtain ⟨u, hu⟩ : ∃ r, Hau.fits pl x = r := ⟨_, rfl⟩
        rw [hu] at hfit hstep hstop
        have HS := Lib.hid (And.intro hhas (And.intro hfit (And.intro hstep hstop))); clear hhas hfit hstep hstop hok' hr hu hx
        cases r
        · go_wp2_with fail
          refine HS.out.1.mono ?_
          rintro e w2 ⟨rfl, rfl⟩
          go_wp2_with fail
          refine HS.out.2.1.mono ?_
          rintro e w3 ⟨rfl, hb3⟩
          have hbl3 : Below w1.heap.size w1 w3 := hbl.trans (hb3.mono (by omega))
          cases u
          · have he := HS.out.2.2.2 rfl
            subst he
            clear HS
            go_wp2_with fail
            go_returns
            exact ⟨rfl, hb01.trans (hbl3.mono (by omega))⟩
          · have hup2 := Lib.hid (HS.out.2.2.1 rfl)
            clear HS
            go_wp2_with fail
            go_roundg (ws.length - (i + 1))
            case measure => omega
            case rel => exact ⟨i + 1, by omega, rfl, by go_num, hup2, hbl3⟩
        · have hup2 := Lib.hid (HS.out.2.2.1 rfl)
          go_wp2_with fail
          refine HS.out.1.mono ?_
          rintro e w2 ⟨rfl, rfl⟩
          clear HS
          go_wp2_with fail
          go_roundg (ws.length - (i + 1))
          case measure => omega
          case rel => exact ⟨i + 1, by omega, rfl, by go_num, hup2, hbl⟩
      · obtain rfl : i = ws.length := by omega
        have hwo := Hau.upto_ok hup.out
        have her := HP.out.2.2.2.2
        rw [hwo, if_neg (by decide)] at her
        have g1 := (HP.out.1.fresh hbl).cell 1 (v := .slice RA roots.length rc) rfl
        have HR := Lib.hid her; clear her hwo hup
        go_wp2_with fail
        have hb3 : Below w.heap.size w wr := hb2
        obtain ⟨wo, rfl⟩ : ∃ x, x = wr := ⟨_, rfl⟩
        go_loopg [8, 49] roots.length (fun gk v8 v49 wr => ∃ i : Nat, i ≤ roots.length ∧ gk = roots.length - i ∧ v49 = .int .i64 i ∧ Hid (Hau.rupto ws roots i) ∧ Below wo.heap.size wo wr)
        case atStart => exact ⟨0, by omega, rfl, rfl, (by unfold Hid; intro x hx; simp at hx), Below.refl _ _⟩
        case round =>
          obtain ⟨i, hi, rfl, rfl, hup, hbm⟩ := hrel
          have hsm := hbm.size
          have hbq : Below w1.heap.size w1 wr := hbl.trans (hbm.mono (by omega))
          have hbq2 : Below w.heap.size w wr := hb01.trans (hbq.mono (by omega))
          by_cases hlt : i < roots.length
          · obtain ⟨b, o, rfl, hb', hok', g2⟩ := (H.out.2.1.below (hbq2.mono hB)).u64H hlt
            have hlt2 : (i : Int) < (roots.length : Int) := by omega
            have hfit := wordFits_any w1.heap.size oc n OA pl (Hau.wat roots i) wr hok' HP.out.2.2.2.1 (by omega) (HP.out.2.1.below hbq) (by omega)
            have hstep : Hau.fits pl (Hau.wat roots i) = true → Hau.rupto ws roots (i + 1) := by
              intro h
              exact Hau.rupto_next hlt hup.out (by rw [HP.out.2.2.1]; exact h)
            have hstop : Hau.fits pl (Hau.wat roots i) = false → er = 3 := by
              intro h
              have := Hau.rupto_no hlt (by rw [HP.out.2.2.1]; exact h)
              rw [← HR.out, if_pos this]
            obtain ⟨x, hx⟩ : ∃ x, Hau.wat roots i = x := ⟨_, rfl⟩
            rw [hx] at g2 hstep hstop hfit
            obtain ⟨u, hu⟩ : ∃ r, Hau.fits pl x = r := ⟨_, rfl⟩
            rw [hu] at hfit hstep hstop
            have HS := Lib.hid (And.intro hfit (And.intro hstep hstop)); clear hfit hstep hstop hok' hu hx
            go_wp2_with fail
            refine HS.out.1.mono ?_
            rintro e w3 ⟨rfl, hb4⟩
            have hbm3 : Below wo.heap.size wo w3 := hbm.trans (hb4.mono (by omega))
            cases u
            · have he := HS.out.2.2 rfl
              subst he
              clear HS
              go_wp2_with fail
              go_returns
              exact ⟨rfl, hb3.trans (hbm3.mono (by omega))⟩
            · have hup2 := Lib.hid (HS.out.2.1 rfl)
              clear HS
              go_wp2_with fail
              go_roundg (roots.length - (i + 1))
              case measure => omega
              case rel => exact ⟨i + 1, by omega, rfl, by go_num, hup2, hbm3⟩
          · obtain rfl : i = roots.length := by omega
            have hro := Hau.rupto_ok hup.out
            have her := HR.out
            rw [hro, if_neg (by decide)] at her
            subst her
            clear hro hup
            go_wp2_with fail
            go_returns
            exact ⟨rfl, hbq2⟩
  · have he : er = 3 := by rw [← HE.out, if_pos hok]
    subst he
    clear hok hG1
    go_wp2_with fail
    go_returns
    exact ⟨rfl, hb01⟩

end Go.Proofs.Ytpkccpegdpodoaa
