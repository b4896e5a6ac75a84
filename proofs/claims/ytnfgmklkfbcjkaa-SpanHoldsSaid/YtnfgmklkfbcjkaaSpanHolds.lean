/-
  The walk of SpanHolds.
-/
import Derived.Test.YtnfgmklkfbcjkaaSpan8
namespace Go.Proofs.Ytnfgmklkfbcjkaa
set_option linter.unusedSimpArgs false
set_option linter.unusedVariables false
set_option linter.unnecessarySimpa false
open Go.RowKit

theorem inside_add {l : List Sp} {s : Sp} (hl : Gd l) (hs : IsSpan s) : InsideP l (addP l s) := by
  intro x hx
  obtain ⟨a1, a2⟩ := add_parts l s hl hs
  obtain ⟨m1, m2⟩ := Mem_lo hl hx
  have hx1 := (hl.1 x hx).1
  -- the member of addP that has x.1 has all of x
  have key : ∀ n : Nat, x.1 + n ≤ x.2 → ∃ t ∈ addP l s, t.1 ≤ x.1 ∧ x.1 + n ≤ t.2 := by
    intro n
    induction n with
    | zero =>
      intro _
      obtain ⟨t, ht, h1, h2⟩ := (a2 x.1).2 (.inl m1)
      exact ⟨t, ht, h1, by omega⟩
    | succ n ih =>
      intro hn
      obtain ⟨t, ht, h1, h2⟩ := ih (by omega)
      obtain ⟨u, hu, h3, h4⟩ := (a2 (x.1 + (n + 1 : Nat))).2 (.inl ⟨x, hx, by omega, by omega⟩)
      by_cases he : x.1 + (n + 1 : Nat) ≤ t.2
      · exact ⟨t, ht, h1, he⟩
      · exfalso
        obtain ⟨i, hi, rfl⟩ := List.getElem_of_mem ht
        obtain ⟨j, hj, rfl⟩ := List.getElem_of_mem hu
        rcases Nat.lt_trichotomy i j with e | e | e
        · have := List.pairwise_iff_getElem.1 a1.2 i j hi hj e
          omega
        · subst e; omega
        · have := List.pairwise_iff_getElem.1 a1.2 j i hj hi e
          have := (a1.1 _ (List.getElem_mem hi)).1
          omega
  obtain ⟨t, ht, h1, h2⟩ := key (x.2 - x.1).toNat (by omega)
  exact ⟨t, ht, h1, by omega⟩
theorem inside_cut {l : List Sp} {s : Sp} (hl : Gd l) (hs : s.1 ≤ s.2) : InsideP (cutP l s) l := by
  intro y hy
  obtain ⟨x, hx, hy⟩ := List.mem_flatMap.1 hy
  have := cut1_in s x hs (hl.1 x hx).1 y hy
  exact ⟨x, hx, this.1, this.2.2⟩

theorem hasP_add {l : List Sp} {s : Sp} (hl : Gd l) (hs : IsSpan s) (n : Int) : hasP (addP l s) n = (hasP l n || (decide (s.1 ≤ n) && decide (n ≤ s.2))) := by
  rw [Bool.eq_iff_iff, hasP_iff, (add_parts l s hl hs).2 n]
  simp [hasP_iff]
theorem hasP_cut {l : List Sp} {s : Sp} (hl : Gd l) (hs : s.1 ≤ s.2) (n : Int) : hasP (cutP l s) n = (hasP l n && !(decide (s.1 ≤ n) && decide (n ≤ s.2))) := by
  rw [Bool.eq_iff_iff, hasP_iff, (cut_parts l s hl hs).2 n]
  simp only [Bool.and_eq_true, hasP_iff, Bool.not_eq_true', Bool.and_eq_false_iff, decide_eq_false_iff_not]
  constructor
  · rintro ⟨h1, h2⟩
    refine ⟨h1, ?_⟩
    omega
  · rintro ⟨h1, h2⟩
    refine ⟨h1, ?_⟩
    omega

set_option maxRecDepth 100000 in
set_option maxHeartbeats 6400000 in
theorem spanHolds_any (A : Option Addr) (n c : Nat) (a : List Int) (lo wd k : Int) (w : World) (ha : Rd w 1 A n c (W16 a)) (hwa : ∀ x ∈ a, 0 ≤ x ∧ x ≤ 65535)
    (hlo : 0 ≤ lo ∧ lo ≤ 255) (hp : 0 ≤ wd ∧ wd ≤ 255) (hk : 0 ≤ k ∧ k ≤ 255) :
    Calls Try.prog 10 #[.slice A n c, .int .u8 lo, .int .u8 wd, .int .u8 k] w fun e w' => e = .returned (.bool true) ∧ Below w.heap.size w w' := by
  have hmax := ha.cap
  have hmax' := ha.max
  unfold maxLen at hmax'
  obtain ⟨l1, l2⟩ := hlo
  obtain ⟨p1, p2⟩ := hp
  obtain ⟨k1, k2⟩ := hk
  by_cases h5 : 200 < n
  · go_enter Try.func10, Try.ntmps10
    go_wp2_with fail
    refine (spanAlive _).mono ?_
    rintro e w1 ⟨rfl, hb1⟩
    go_wp2_with fail
    refine (spanAlive _).mono ?_
    rintro e w2 ⟨rfl, hb2⟩
    go_wp2
    go_ret
    exact ⟨rfl, hb1.trans (hb2.mono hb1.size)⟩
  · have t1 : decide ((200 : Int) < (n : Int)) = false := by simp; omega
    obtain ⟨r, hr, r1, r2⟩ : ∃ r, wd % 20 = r ∧ 0 ≤ r ∧ r < 20 := ⟨_, rfl, by omega, by omega⟩
    obtain ⟨ga1, ga2, ga3⟩ := rowP_ok a
    have ua := ga3.u2 ga1
    have hsp : IsSpan (lo, lo + r) := ⟨by simp only; omega, by simp only [maxPn_eq]; omega⟩
    have ga1' := ga1
    obtain ⟨x1, x2⟩ := add_parts (rowP a) (lo, lo + r) ga1 hsp
    obtain ⟨y1, y2⟩ := cut_parts (rowP a) (lo, lo + r) ga1 hsp.1
    have wx : Within (addP (rowP a) (lo, lo + r)) 1000 := Within.of_mem x1 (fun q hq => by
      rcases (x2 q).1 hq with ⟨s, hs, h1, h2⟩ | h
      · have := ga3 s hs; omega
      · simp only at h; omega)
    have wy : Within (cutP (rowP a) (lo, lo + r)) 1000 := Within.of_mem y1 (fun q hq => by
      obtain ⟨⟨s, hs, h1, h2⟩, _⟩ := (y2 q).1 hq
      have := ga3 s hs; omega)
    have ux := wx.u2 x1
    have uy := wy.u2 y1
    have hX := hasP_add (l := rowP a) ga1 hsp k
    have hY := hasP_cut (l := rowP a) ga1 hsp.1 k
    have hI1 := decide_eq_true (inside_add (l := rowP a) ga1 hsp)
    have hI2 := decide_eq_true (inside_cut (l := rowP a) ga1 hsp.1)
    have hC := count_law (rowP a) (lo, lo + r) ga1 hsp
    obtain ⟨c1, c2⟩ := sumTo_le (addP (rowP a) (lo, lo + r)) x1.good ux.lo _ (Nat.le_refl _)
    obtain ⟨d1, d2⟩ := sumTo_le (cutP (rowP a) (lo, lo + r)) y1.good uy.lo _ (Nat.le_refl _)
    have hCC : sumTo (addP (rowP a) (lo, lo + r)) (addP (rowP a) (lo, lo + r)).length = sumTo (cutP (rowP a) (lo, lo + r)) (cutP (rowP a) (lo, lo + r)).length + r + 1 := by
      rw [sumTo_sz, sumTo_sz, hC]; simp only; omega
    have HX := Lib.hid hX
    have HY := Lib.hid hY
    have HI1 := Lib.hid hI1
    have HI2 := Lib.hid hI2
    have HCC := Lib.hid hCC
    have GA := Lib.hid ga1.good
    have GS := Lib.hid hsp
    have GX := Lib.hid x1.good
    have GY := Lib.hid y1.good
    have GXb := Lib.hid (goodB_true x1.good)
    have GYb := Lib.hid (goodB_true y1.good)
    have LA : Hid ((rowP a).length ≤ 8796093021952) := by show _ ≤ _; omega
    clear hX hY hI1 hI2 hC hCC ga1 ga1' ga2 ga3 hsp x1 x2 y1 y2 wx wy
    go_enter Try.func10, Try.ntmps10
    go_wp2_with fail
    refine (spanAlive _).mono ?_
    rintro e w1 ⟨rfl, b⟩
    have hb1 := b
    clear b
    go_wp2_with fail
    refine (row_any A n c a _ (ha.below hb1) hwa).mono ?_
    rintro e w2 ⟨A2, c2', rfl, R2, b⟩
    have hb2 := hb1.trans (b.mono hb1.size)
    clear b
    generalize rowP a = L at *
    go_wp2_with fail
    have q3 := (Below.refl w2.heap.size w2).alloc (Nat.le_refl _) (.cells #[.int .u64 lo, .int .u64 (lo + r)] 43)
    have HB3 := Lib.hid (heap_alloc_new w2 (.cells #[.int .u64 lo, .int .u64 (lo + r)] 43))
    obtain ⟨g, hg⟩ : ∃ g, g = w2.heap.size := ⟨_, rfl⟩
    rw [← hg] at HB3
    have Hg := Lib.hid hg
    refine (add_yes A2 _ c2' L lo (lo + r) _ (R2.below q3) GA.out GS.out l1 ua LA.out).mono ?_
    rintro e w4 ⟨A4, c4, rfl, R4, b⟩
    have b4 := q3.trans (b.mono (by simp))
    have hb4 := hb2.trans (b4.mono hb2.size)
    have R2 := R2.below b4
    have HB4 := Lib.hid ((b.block g (lt_of_block HB3.out)).trans HB3.out)
    have e1 := cell_of_row w4 g 0 _ _ _ HB4.out
    have e2 := cell_of_row w4 g 1 _ _ _ HB4.out
    rw [Hg.out] at e1 e2
    clear b b4 q3 hg
    go_wp2_with fail
    refine (cut_yes A2 _ c2' L lo (lo + r) _ R2 GA.out GS.out l1 ua LA.out).mono ?_
    rintro e w5 ⟨A5, c5, rfl, R5, b⟩
    have hb5 := hb4.trans (b.mono hb4.size)
    have R2 := R2.below b
    have R4 := R4.below b
    have HB5 := Lib.hid ((b.block g (lt_of_block HB4.out)).trans HB4.out)
    clear e1 e2
    have e1 := cell_of_row w5 g 0 _ _ _ HB5.out
    have e2 := cell_of_row w5 g 1 _ _ _ HB5.out
    rw [Hg.out] at e1 e2
    clear b
    have hin : ∃ I : Bool, Hid (I = (decide (lo ≤ k) && decide (k ≤ lo + r))) := ⟨_, Lib.hid rfl⟩
    obtain ⟨I, HI⟩ := hin
    generalize addP L (lo, lo + r) = X at *
    generalize cutP L (lo, lo + r) = Y at *
    have hcases : (lo ≤ k ∧ k ≤ lo + r) ∨ (lo ≤ k ∧ ¬ k ≤ lo + r) ∨ ¬ lo ≤ k := by omega
    rcases hcases with ⟨v1, v2⟩ | ⟨v1, v2⟩ | v1
    · have hv : (decide (lo ≤ k) && decide (k ≤ lo + r)) = true := by simp [v1]; try omega
      cases hh : hasP L k
      · have EH := Lib.hid hh
        have EX : Hid (hasP X k = true) := by show _ = _; rw [HX.out, hh, hv]; rfl
        have EY : Hid (hasP Y k = false) := by show _ = _; rw [HY.out, hh, hv]; rfl
        clear hh hv
        go_wp2_with fail
        refine (has_yes A2 _ c2' L k _ R2 ua GA.out k1 (by omega)).mono ?_
        rw [EH.out]
        rintro e w6 ⟨rfl, b⟩
        clear e1 e2
        have hb6 := hb5.trans (b.mono hb5.size)
        have R2 := R2.below b
        have R4 := R4.below b
        have R5 := R5.below b
        clear b
        go_wp2_with fail
        refine (good_any A4 _ c4 X _ R4 ux).mono ?_
        rw [GXb.out]
        rintro e w7 ⟨rfl, b⟩
        have hb7 := hb6.trans (b.mono hb6.size)
        have R2 := R2.below b
        have R4 := R4.below b
        have R5 := R5.below b
        clear b
        go_wp2_with fail
        refine (good_any A5 _ c5 Y _ R5 uy).mono ?_
        rw [GYb.out]
        rintro e w8 ⟨rfl, b⟩
        have hb8 := hb7.trans (b.mono hb7.size)
        have R2 := R2.below b
        have R4 := R4.below b
        have R5 := R5.below b
        clear b
        go_wp2_with fail
        refine (has_yes A4 _ c4 X k _ R4 ux GX.out k1 (by omega)).mono ?_
        rw [EX.out]
        rintro e w9 ⟨rfl, b⟩
        have hb9 := hb8.trans (b.mono hb8.size)
        have R2 := R2.below b
        have R4 := R4.below b
        have R5 := R5.below b
        clear b
        go_wp2_with fail
        refine (has_yes A5 _ c5 Y k _ R5 uy GY.out k1 (by omega)).mono ?_
        rw [EY.out]
        rintro e w10 ⟨rfl, b⟩
        have hb10 := hb9.trans (b.mono hb9.size)
        have R2 := R2.below b
        have R4 := R4.below b
        have R5 := R5.below b
        clear b
        go_wp2_with fail
        refine (within_yes A2 A4 _ _ c2' c4 L X _ R2 R4 ua ux GA.out GX.out).mono ?_
        rw [HI1.out]
        rintro e w11 ⟨rfl, b⟩
        have hb11 := hb10.trans (b.mono hb10.size)
        have R2 := R2.below b
        have R4 := R4.below b
        have R5 := R5.below b
        clear b
        go_wp2_with fail
        refine (within_yes A5 A2 _ _ c5 c2' Y L _ R5 R2 uy ua GY.out GA.out).mono ?_
        rw [HI2.out]
        rintro e w12 ⟨rfl, b⟩
        have hb12 := hb11.trans (b.mono hb11.size)
        have R4 := R4.below b
        have R5 := R5.below b
        clear b
        go_wp2_with fail
        refine (count_yes A4 _ c4 X _ R4 ux GX.out).mono ?_
        rintro e w13 ⟨rfl, b⟩
        have hb13 := hb12.trans (b.mono hb12.size)
        have R5 := R5.below b
        clear b
        go_wp2_with fail
        refine (count_yes A5 _ c5 Y _ R5 uy GY.out).mono ?_
        rintro e w14 ⟨rfl, b⟩
        have hb14 := hb13.trans (b.mono hb13.size)
        have hfin : (sumTo X X.length == sumTo Y Y.length + r + 1) = true := by rw [HCC.out]; simp
        generalize sumTo X X.length = SX at *
        generalize sumTo Y Y.length = SY at *
        go_wp2
        go_ret
        exact ⟨rfl, hb14⟩
      · have EH := Lib.hid hh
        have EX : Hid (hasP X k = true) := by show _ = _; rw [HX.out, hh, hv]; rfl
        have EY : Hid (hasP Y k = false) := by show _ = _; rw [HY.out, hh, hv]; rfl
        clear hh hv
        go_wp2_with fail
        refine (has_yes A2 _ c2' L k _ R2 ua GA.out k1 (by omega)).mono ?_
        rw [EH.out]
        rintro e w6 ⟨rfl, b⟩
        clear e1 e2
        have hb6 := hb5.trans (b.mono hb5.size)
        have R2 := R2.below b
        have R4 := R4.below b
        have R5 := R5.below b
        clear b
        go_wp2_with fail
        refine (good_any A4 _ c4 X _ R4 ux).mono ?_
        rw [GXb.out]
        rintro e w7 ⟨rfl, b⟩
        have hb7 := hb6.trans (b.mono hb6.size)
        have R2 := R2.below b
        have R4 := R4.below b
        have R5 := R5.below b
        clear b
        go_wp2_with fail
        refine (good_any A5 _ c5 Y _ R5 uy).mono ?_
        rw [GYb.out]
        rintro e w8 ⟨rfl, b⟩
        have hb8 := hb7.trans (b.mono hb7.size)
        have R2 := R2.below b
        have R4 := R4.below b
        have R5 := R5.below b
        clear b
        go_wp2_with fail
        refine (has_yes A4 _ c4 X k _ R4 ux GX.out k1 (by omega)).mono ?_
        rw [EX.out]
        rintro e w9 ⟨rfl, b⟩
        have hb9 := hb8.trans (b.mono hb8.size)
        have R2 := R2.below b
        have R4 := R4.below b
        have R5 := R5.below b
        clear b
        go_wp2_with fail
        refine (has_yes A5 _ c5 Y k _ R5 uy GY.out k1 (by omega)).mono ?_
        rw [EY.out]
        rintro e w10 ⟨rfl, b⟩
        have hb10 := hb9.trans (b.mono hb9.size)
        have R2 := R2.below b
        have R4 := R4.below b
        have R5 := R5.below b
        clear b
        go_wp2_with fail
        refine (within_yes A2 A4 _ _ c2' c4 L X _ R2 R4 ua ux GA.out GX.out).mono ?_
        rw [HI1.out]
        rintro e w11 ⟨rfl, b⟩
        have hb11 := hb10.trans (b.mono hb10.size)
        have R2 := R2.below b
        have R4 := R4.below b
        have R5 := R5.below b
        clear b
        go_wp2_with fail
        refine (within_yes A5 A2 _ _ c5 c2' Y L _ R5 R2 uy ua GY.out GA.out).mono ?_
        rw [HI2.out]
        rintro e w12 ⟨rfl, b⟩
        have hb12 := hb11.trans (b.mono hb11.size)
        have R4 := R4.below b
        have R5 := R5.below b
        clear b
        go_wp2_with fail
        refine (count_yes A4 _ c4 X _ R4 ux GX.out).mono ?_
        rintro e w13 ⟨rfl, b⟩
        have hb13 := hb12.trans (b.mono hb12.size)
        have R5 := R5.below b
        clear b
        go_wp2_with fail
        refine (count_yes A5 _ c5 Y _ R5 uy GY.out).mono ?_
        rintro e w14 ⟨rfl, b⟩
        have hb14 := hb13.trans (b.mono hb13.size)
        have hfin : (sumTo X X.length == sumTo Y Y.length + r + 1) = true := by rw [HCC.out]; simp
        generalize sumTo X X.length = SX at *
        generalize sumTo Y Y.length = SY at *
        go_wp2
        go_ret
        exact ⟨rfl, hb14⟩
    · have hv : (decide (lo ≤ k) && decide (k ≤ lo + r)) = false := by simp [v1]; try omega
      have t5 : decide (k ≤ lo + r) = false := by simpa using v2
      cases hh : hasP L k
      · have EH := Lib.hid hh
        have EX : Hid (hasP X k = false) := by show _ = _; rw [HX.out, hh, hv]; rfl
        have EY : Hid (hasP Y k = false) := by show _ = _; rw [HY.out, hh, hv]; rfl
        clear hh hv
        go_wp2_with fail
        refine (has_yes A2 _ c2' L k _ R2 ua GA.out k1 (by omega)).mono ?_
        rw [EH.out]
        rintro e w6 ⟨rfl, b⟩
        clear e1 e2
        have hb6 := hb5.trans (b.mono hb5.size)
        have R2 := R2.below b
        have R4 := R4.below b
        have R5 := R5.below b
        clear b
        go_wp2_with fail
        refine (good_any A4 _ c4 X _ R4 ux).mono ?_
        rw [GXb.out]
        rintro e w7 ⟨rfl, b⟩
        have hb7 := hb6.trans (b.mono hb6.size)
        have R2 := R2.below b
        have R4 := R4.below b
        have R5 := R5.below b
        clear b
        go_wp2_with fail
        refine (good_any A5 _ c5 Y _ R5 uy).mono ?_
        rw [GYb.out]
        rintro e w8 ⟨rfl, b⟩
        have hb8 := hb7.trans (b.mono hb7.size)
        have R2 := R2.below b
        have R4 := R4.below b
        have R5 := R5.below b
        clear b
        go_wp2_with fail
        refine (has_yes A4 _ c4 X k _ R4 ux GX.out k1 (by omega)).mono ?_
        rw [EX.out]
        rintro e w9 ⟨rfl, b⟩
        have hb9 := hb8.trans (b.mono hb8.size)
        have R2 := R2.below b
        have R4 := R4.below b
        have R5 := R5.below b
        clear b
        go_wp2_with fail
        refine (has_yes A5 _ c5 Y k _ R5 uy GY.out k1 (by omega)).mono ?_
        rw [EY.out]
        rintro e w10 ⟨rfl, b⟩
        have hb10 := hb9.trans (b.mono hb9.size)
        have R2 := R2.below b
        have R4 := R4.below b
        have R5 := R5.below b
        clear b
        go_wp2_with fail
        refine (within_yes A2 A4 _ _ c2' c4 L X _ R2 R4 ua ux GA.out GX.out).mono ?_
        rw [HI1.out]
        rintro e w11 ⟨rfl, b⟩
        have hb11 := hb10.trans (b.mono hb10.size)
        have R2 := R2.below b
        have R4 := R4.below b
        have R5 := R5.below b
        clear b
        go_wp2_with fail
        refine (within_yes A5 A2 _ _ c5 c2' Y L _ R5 R2 uy ua GY.out GA.out).mono ?_
        rw [HI2.out]
        rintro e w12 ⟨rfl, b⟩
        have hb12 := hb11.trans (b.mono hb11.size)
        have R4 := R4.below b
        have R5 := R5.below b
        clear b
        go_wp2_with fail
        refine (count_yes A4 _ c4 X _ R4 ux GX.out).mono ?_
        rintro e w13 ⟨rfl, b⟩
        have hb13 := hb12.trans (b.mono hb12.size)
        have R5 := R5.below b
        clear b
        go_wp2_with fail
        refine (count_yes A5 _ c5 Y _ R5 uy GY.out).mono ?_
        rintro e w14 ⟨rfl, b⟩
        have hb14 := hb13.trans (b.mono hb13.size)
        have hfin : (sumTo X X.length == sumTo Y Y.length + r + 1) = true := by rw [HCC.out]; simp
        generalize sumTo X X.length = SX at *
        generalize sumTo Y Y.length = SY at *
        go_wp2
        go_ret
        exact ⟨rfl, hb14⟩
      · have EH := Lib.hid hh
        have EX : Hid (hasP X k = true) := by show _ = _; rw [HX.out, hh, hv]; rfl
        have EY : Hid (hasP Y k = true) := by show _ = _; rw [HY.out, hh, hv]; rfl
        clear hh hv
        go_wp2_with fail
        refine (has_yes A2 _ c2' L k _ R2 ua GA.out k1 (by omega)).mono ?_
        rw [EH.out]
        rintro e w6 ⟨rfl, b⟩
        clear e1 e2
        have hb6 := hb5.trans (b.mono hb5.size)
        have R2 := R2.below b
        have R4 := R4.below b
        have R5 := R5.below b
        clear b
        go_wp2_with fail
        refine (good_any A4 _ c4 X _ R4 ux).mono ?_
        rw [GXb.out]
        rintro e w7 ⟨rfl, b⟩
        have hb7 := hb6.trans (b.mono hb6.size)
        have R2 := R2.below b
        have R4 := R4.below b
        have R5 := R5.below b
        clear b
        go_wp2_with fail
        refine (good_any A5 _ c5 Y _ R5 uy).mono ?_
        rw [GYb.out]
        rintro e w8 ⟨rfl, b⟩
        have hb8 := hb7.trans (b.mono hb7.size)
        have R2 := R2.below b
        have R4 := R4.below b
        have R5 := R5.below b
        clear b
        go_wp2_with fail
        refine (has_yes A4 _ c4 X k _ R4 ux GX.out k1 (by omega)).mono ?_
        rw [EX.out]
        rintro e w9 ⟨rfl, b⟩
        have hb9 := hb8.trans (b.mono hb8.size)
        have R2 := R2.below b
        have R4 := R4.below b
        have R5 := R5.below b
        clear b
        go_wp2_with fail
        refine (has_yes A5 _ c5 Y k _ R5 uy GY.out k1 (by omega)).mono ?_
        rw [EY.out]
        rintro e w10 ⟨rfl, b⟩
        have hb10 := hb9.trans (b.mono hb9.size)
        have R2 := R2.below b
        have R4 := R4.below b
        have R5 := R5.below b
        clear b
        go_wp2_with fail
        refine (within_yes A2 A4 _ _ c2' c4 L X _ R2 R4 ua ux GA.out GX.out).mono ?_
        rw [HI1.out]
        rintro e w11 ⟨rfl, b⟩
        have hb11 := hb10.trans (b.mono hb10.size)
        have R2 := R2.below b
        have R4 := R4.below b
        have R5 := R5.below b
        clear b
        go_wp2_with fail
        refine (within_yes A5 A2 _ _ c5 c2' Y L _ R5 R2 uy ua GY.out GA.out).mono ?_
        rw [HI2.out]
        rintro e w12 ⟨rfl, b⟩
        have hb12 := hb11.trans (b.mono hb11.size)
        have R4 := R4.below b
        have R5 := R5.below b
        clear b
        go_wp2_with fail
        refine (count_yes A4 _ c4 X _ R4 ux GX.out).mono ?_
        rintro e w13 ⟨rfl, b⟩
        have hb13 := hb12.trans (b.mono hb12.size)
        have R5 := R5.below b
        clear b
        go_wp2_with fail
        refine (count_yes A5 _ c5 Y _ R5 uy GY.out).mono ?_
        rintro e w14 ⟨rfl, b⟩
        have hb14 := hb13.trans (b.mono hb13.size)
        have hfin : (sumTo X X.length == sumTo Y Y.length + r + 1) = true := by rw [HCC.out]; simp
        generalize sumTo X X.length = SX at *
        generalize sumTo Y Y.length = SY at *
        go_wp2
        go_ret
        exact ⟨rfl, hb14⟩
    · have hv : (decide (lo ≤ k) && decide (k ≤ lo + r)) = false := by simp [v1]; try omega
      cases hh : hasP L k
      · have EH := Lib.hid hh
        have EX : Hid (hasP X k = false) := by show _ = _; rw [HX.out, hh, hv]; rfl
        have EY : Hid (hasP Y k = false) := by show _ = _; rw [HY.out, hh, hv]; rfl
        clear hh hv
        go_wp2_with fail
        refine (has_yes A2 _ c2' L k _ R2 ua GA.out k1 (by omega)).mono ?_
        rw [EH.out]
        rintro e w6 ⟨rfl, b⟩
        clear e1 e2
        have hb6 := hb5.trans (b.mono hb5.size)
        have R2 := R2.below b
        have R4 := R4.below b
        have R5 := R5.below b
        clear b
        go_wp2_with fail
        refine (good_any A4 _ c4 X _ R4 ux).mono ?_
        rw [GXb.out]
        rintro e w7 ⟨rfl, b⟩
        have hb7 := hb6.trans (b.mono hb6.size)
        have R2 := R2.below b
        have R4 := R4.below b
        have R5 := R5.below b
        clear b
        go_wp2_with fail
        refine (good_any A5 _ c5 Y _ R5 uy).mono ?_
        rw [GYb.out]
        rintro e w8 ⟨rfl, b⟩
        have hb8 := hb7.trans (b.mono hb7.size)
        have R2 := R2.below b
        have R4 := R4.below b
        have R5 := R5.below b
        clear b
        go_wp2_with fail
        refine (has_yes A4 _ c4 X k _ R4 ux GX.out k1 (by omega)).mono ?_
        rw [EX.out]
        rintro e w9 ⟨rfl, b⟩
        have hb9 := hb8.trans (b.mono hb8.size)
        have R2 := R2.below b
        have R4 := R4.below b
        have R5 := R5.below b
        clear b
        go_wp2_with fail
        refine (has_yes A5 _ c5 Y k _ R5 uy GY.out k1 (by omega)).mono ?_
        rw [EY.out]
        rintro e w10 ⟨rfl, b⟩
        have hb10 := hb9.trans (b.mono hb9.size)
        have R2 := R2.below b
        have R4 := R4.below b
        have R5 := R5.below b
        clear b
        go_wp2_with fail
        refine (within_yes A2 A4 _ _ c2' c4 L X _ R2 R4 ua ux GA.out GX.out).mono ?_
        rw [HI1.out]
        rintro e w11 ⟨rfl, b⟩
        have hb11 := hb10.trans (b.mono hb10.size)
        have R2 := R2.below b
        have R4 := R4.below b
        have R5 := R5.below b
        clear b
        go_wp2_with fail
        refine (within_yes A5 A2 _ _ c5 c2' Y L _ R5 R2 uy ua GY.out GA.out).mono ?_
        rw [HI2.out]
        rintro e w12 ⟨rfl, b⟩
        have hb12 := hb11.trans (b.mono hb11.size)
        have R4 := R4.below b
        have R5 := R5.below b
        clear b
        go_wp2_with fail
        refine (count_yes A4 _ c4 X _ R4 ux GX.out).mono ?_
        rintro e w13 ⟨rfl, b⟩
        have hb13 := hb12.trans (b.mono hb12.size)
        have R5 := R5.below b
        clear b
        go_wp2_with fail
        refine (count_yes A5 _ c5 Y _ R5 uy GY.out).mono ?_
        rintro e w14 ⟨rfl, b⟩
        have hb14 := hb13.trans (b.mono hb13.size)
        have hfin : (sumTo X X.length == sumTo Y Y.length + r + 1) = true := by rw [HCC.out]; simp
        generalize sumTo X X.length = SX at *
        generalize sumTo Y Y.length = SY at *
        go_wp2
        go_ret
        exact ⟨rfl, hb14⟩
      · have EH := Lib.hid hh
        have EX : Hid (hasP X k = true) := by show _ = _; rw [HX.out, hh, hv]; rfl
        have EY : Hid (hasP Y k = true) := by show _ = _; rw [HY.out, hh, hv]; rfl
        clear hh hv
        go_wp2_with fail
        refine (has_yes A2 _ c2' L k _ R2 ua GA.out k1 (by omega)).mono ?_
        rw [EH.out]
        rintro e w6 ⟨rfl, b⟩
        clear e1 e2
        have hb6 := hb5.trans (b.mono hb5.size)
        have R2 := R2.below b
        have R4 := R4.below b
        have R5 := R5.below b
        clear b
        go_wp2_with fail
        refine (good_any A4 _ c4 X _ R4 ux).mono ?_
        rw [GXb.out]
        rintro e w7 ⟨rfl, b⟩
        have hb7 := hb6.trans (b.mono hb6.size)
        have R2 := R2.below b
        have R4 := R4.below b
        have R5 := R5.below b
        clear b
        go_wp2_with fail
        refine (good_any A5 _ c5 Y _ R5 uy).mono ?_
        rw [GYb.out]
        rintro e w8 ⟨rfl, b⟩
        have hb8 := hb7.trans (b.mono hb7.size)
        have R2 := R2.below b
        have R4 := R4.below b
        have R5 := R5.below b
        clear b
        go_wp2_with fail
        refine (has_yes A4 _ c4 X k _ R4 ux GX.out k1 (by omega)).mono ?_
        rw [EX.out]
        rintro e w9 ⟨rfl, b⟩
        have hb9 := hb8.trans (b.mono hb8.size)
        have R2 := R2.below b
        have R4 := R4.below b
        have R5 := R5.below b
        clear b
        go_wp2_with fail
        refine (has_yes A5 _ c5 Y k _ R5 uy GY.out k1 (by omega)).mono ?_
        rw [EY.out]
        rintro e w10 ⟨rfl, b⟩
        have hb10 := hb9.trans (b.mono hb9.size)
        have R2 := R2.below b
        have R4 := R4.below b
        have R5 := R5.below b
        clear b
        go_wp2_with fail
        refine (within_yes A2 A4 _ _ c2' c4 L X _ R2 R4 ua ux GA.out GX.out).mono ?_
        rw [HI1.out]
        rintro e w11 ⟨rfl, b⟩
        have hb11 := hb10.trans (b.mono hb10.size)
        have R2 := R2.below b
        have R4 := R4.below b
        have R5 := R5.below b
        clear b
        go_wp2_with fail
        refine (within_yes A5 A2 _ _ c5 c2' Y L _ R5 R2 uy ua GY.out GA.out).mono ?_
        rw [HI2.out]
        rintro e w12 ⟨rfl, b⟩
        have hb12 := hb11.trans (b.mono hb11.size)
        have R4 := R4.below b
        have R5 := R5.below b
        clear b
        go_wp2_with fail
        refine (count_yes A4 _ c4 X _ R4 ux GX.out).mono ?_
        rintro e w13 ⟨rfl, b⟩
        have hb13 := hb12.trans (b.mono hb12.size)
        have R5 := R5.below b
        clear b
        go_wp2_with fail
        refine (count_yes A5 _ c5 Y _ R5 uy GY.out).mono ?_
        rintro e w14 ⟨rfl, b⟩
        have hb14 := hb13.trans (b.mono hb13.size)
        have hfin : (sumTo X X.length == sumTo Y Y.length + r + 1) = true := by rw [HCC.out]; simp
        generalize sumTo X X.length = SX at *
        generalize sumTo Y Y.length = SY at *
        go_wp2
        go_ret
        exact ⟨rfl, hb14⟩
end Go.Proofs.Ytnfgmklkfbcjkaa
