/-
  The walk of SpanChanges.
-/
import Derived.Test.YtnfgmklkfbcjkaaSpan4
namespace Go.Proofs.Ytnfgmklkfbcjkaa
set_option linter.unusedSimpArgs false
set_option linter.unusedVariables false
set_option linter.unnecessarySimpa false
open Go.RowKit

set_option maxHeartbeats 3200000 in
theorem spanChanges_any (A : Option Addr) (n c : Nat) (l : List Sp) (lo hi : Int) (w : World) (h : Rd w 2 A n c (Ss l)) (hu : U2s l) (h1 : 0 ≤ lo) (h2 : lo < 18446744073709551616) (h3 : 0 ≤ hi) (h4 : hi < 18446744073709551616) (hn : n ≤ 8796093021952) :
    Calls Try.prog 8 #[.slice A n c, .agg #[.int .u64 lo, .int .u64 hi]] w fun e w' => e = .returned (.bool true) ∧ Below w.heap.size w w' := by
  have hmax := h.cap
  have hmax' := h.max
  unfold maxLen at hmax'
  have hb0 := (Below.refl w.heap.size w).alloc (Nat.le_refl _) (.cells #[.int .u64 lo, .int .u64 hi] 43)
  have HB0 := Lib.hid (heap_alloc_new w (.cells #[.int .u64 lo, .int .u64 hi] 43))
  by_cases hg : Good l ∧ IsSpan (lo, hi)
  · have HG := Lib.hid hg.1
    have HS := Lib.hid hg.2
    have HGb := Lib.hid (goodB_true hg.1)
    have HSb := Lib.hid (show isSpanB (lo, hi) = true from decide_eq_true hg.2)
    clear hg
    go_enter Try.func8, Try.ntmps8
    go_wp2_with fail
    refine (spanAlive _).mono ?_
    rintro e w1 ⟨rfl, b⟩
    have HB1 := Lib.hid ((b.block w.heap.size (lt_of_block HB0.out)).trans HB0.out)
    have al1 := cell_of_row w1 w.heap.size 0 _ _ _ HB1.out
    have ah1 := cell_of_row w1 w.heap.size 1 _ _ _ HB1.out
    have hb1 := hb0.trans (b.mono hb0.size)
    go_wp2_with fail
    refine (add_yes A n c l lo hi _ (h.below hb1) HG.out HS.out h1 hu hn).mono ?_
    rintro e w2 ⟨A2, c2, rfl, R2, b⟩
    clear al1 ah1
    have HB2 := Lib.hid ((b.block w.heap.size (lt_of_block HB1.out)).trans HB1.out)
    have al2 := cell_of_row w2 w.heap.size 0 _ _ _ HB2.out
    have ah2 := cell_of_row w2 w.heap.size 1 _ _ _ HB2.out
    have hb2 := hb1.trans (b.mono hb1.size)
    clear b
    go_wp2_with fail
    refine (cut_yes A n c l lo hi _ (h.below hb2) HG.out HS.out h1 hu hn).mono ?_
    rintro e w3 ⟨A3, c3, rfl, R3, b⟩
    clear al2 ah2
    have R2 := R2.below b
    have HB3 := Lib.hid ((b.block w.heap.size (lt_of_block HB2.out)).trans HB2.out)
    have al3 := cell_of_row w3 w.heap.size 0 _ _ _ HB3.out
    have ah3 := cell_of_row w3 w.heap.size 1 _ _ _ HB3.out
    have hb3 := hb2.trans (b.mono hb2.size)
    clear b
    go_wp2_with fail
    refine (refGood_any A n c l _ (h.below hb3) hu).mono ?_
    rw [HGb.out]
    rintro e w4 ⟨rfl, q⟩
    have b : Below w3.heap.size w3 w4 := q.below
    clear al3 ah3
    have R2 := R2.below b
    have R3 := R3.below b
    have HB4 := Lib.hid ((b.block w.heap.size (lt_of_block HB3.out)).trans HB3.out)
    have al4 := cell_of_row w4 w.heap.size 0 _ _ _ HB4.out
    have ah4 := cell_of_row w4 w.heap.size 1 _ _ _ HB4.out
    have hb4 := hb3.trans (b.mono hb3.size)
    clear b q
    go_wp2_with fail
    refine (isSpan_any lo hi _ h1 h2 h3 h4).mono ?_
    rw [HSb.out]
    rintro e w5 ⟨rfl, b⟩
    clear al4 ah4
    have R2 := R2.below b
    have R3 := R3.below b
    have HB5 := Lib.hid ((b.block w.heap.size (lt_of_block HB4.out)).trans HB4.out)
    have al5 := cell_of_row w5 w.heap.size 0 _ _ _ HB5.out
    have ah5 := cell_of_row w5 w.heap.size 1 _ _ _ HB5.out
    have hb5 := hb4.trans (b.mono hb4.size)
    clear b
    go_wp2_with fail
    refine (addSpan_any A n c l lo hi _ (h.below hb5) HG.out HS.out h1 hu hn).mono ?_
    rintro e w6 ⟨A6, c6, rfl, R6, b⟩
    clear al5 ah5
    have R2 := R2.below b
    have R3 := R3.below b
    have HB6 := Lib.hid ((b.block w.heap.size (lt_of_block HB5.out)).trans HB5.out)
    have al6 := cell_of_row w6 w.heap.size 0 _ _ _ HB6.out
    have ah6 := cell_of_row w6 w.heap.size 1 _ _ _ HB6.out
    have hb6 := hb5.trans (b.mono hb5.size)
    clear b
    go_wp2_with fail
    refine (sameSpans_any A2 A6 _ _ c2 c6 (addP l (lo, hi)) (addP l (lo, hi)) _ R2 R6).mono ?_
    rw [decide_eq_true (rfl : addP l (lo, hi) = addP l (lo, hi))]
    rintro e w7 ⟨rfl, q⟩
    have b : Below w6.heap.size w6 w7 := q.below
    clear al6 ah6 R2 R6
    have R3 := R3.below b
    have HB7 := Lib.hid ((b.block w.heap.size (lt_of_block HB6.out)).trans HB6.out)
    have al7 := cell_of_row w7 w.heap.size 0 _ _ _ HB7.out
    have ah7 := cell_of_row w7 w.heap.size 1 _ _ _ HB7.out
    have hb7 := hb6.trans (b.mono hb6.size)
    clear b q
    go_wp2_with fail
    refine (cutSpan_any A n c l lo hi _ (h.below hb7) HG.out HS.out h1 hu hn).mono ?_
    rintro e w8 ⟨A8, c8, rfl, R8, b⟩
    clear al7 ah7
    have R3 := R3.below b
    have hb8 := hb7.trans (b.mono hb7.size)
    clear b
    go_wp2_with fail
    refine (sameSpans_any A3 A8 _ _ c3 c8 (cutP l (lo, hi)) (cutP l (lo, hi)) _ R3 R8).mono ?_
    rw [decide_eq_true (rfl : cutP l (lo, hi) = cutP l (lo, hi))]
    rintro e w9 ⟨rfl, q⟩
    go_wp2
    go_ret
    exact ⟨rfl, hb8.trans q.below⟩
  · have HN := Lib.hid hg
    have HSb : Hid (isSpanB (lo, hi) = false ∨ goodB l = false) := by
      by_cases h : Good l
      · exact .inl (decide_eq_false (fun h' => hg ⟨h, h'⟩))
      · exact .inr (decide_eq_false h)
    clear hg
    go_enter Try.func8, Try.ntmps8
    go_wp2_with fail
    refine (spanAlive _).mono ?_
    rintro e w1 ⟨rfl, b⟩
    have HB1 := Lib.hid ((b.block w.heap.size (lt_of_block HB0.out)).trans HB0.out)
    have al1 := cell_of_row w1 w.heap.size 0 _ _ _ HB1.out
    have ah1 := cell_of_row w1 w.heap.size 1 _ _ _ HB1.out
    have hb1 := hb0.trans (b.mono hb0.size)
    go_wp2_with fail
    refine (add_no A n c l lo hi _ (h.below hb1) hu h1 h2 h3 h4 HN.out).mono ?_
    rintro e w2 ⟨rfl, b⟩
    clear al1 ah1
    have HB2 := Lib.hid ((b.block w.heap.size (lt_of_block HB1.out)).trans HB1.out)
    have al2 := cell_of_row w2 w.heap.size 0 _ _ _ HB2.out
    have ah2 := cell_of_row w2 w.heap.size 1 _ _ _ HB2.out
    have hb2 := hb1.trans (b.mono hb1.size)
    clear b
    go_wp2_with fail
    refine (cut_no A n c l lo hi _ (h.below hb2) hu h1 h2 h3 h4 HN.out).mono ?_
    rintro e w3 ⟨rfl, b⟩
    clear al2 ah2
    have HB3 := Lib.hid ((b.block w.heap.size (lt_of_block HB2.out)).trans HB2.out)
    have al3 := cell_of_row w3 w.heap.size 0 _ _ _ HB3.out
    have ah3 := cell_of_row w3 w.heap.size 1 _ _ _ HB3.out
    have hb3 := hb2.trans (b.mono hb2.size)
    clear b
    go_wp2_with fail
    refine (refGood_any A n c l _ (h.below hb3) hu).mono ?_
    have Hcase : Hid (goodB l = false ∨ (goodB l = true ∧ isSpanB (lo, hi) = false)) := by
      rcases HSb.out with e | e
      · cases hgb : goodB l
        · exact .inl rfl
        · exact .inr ⟨rfl, e⟩
      · exact .inl e
    rcases Hcase.out with e0 | ⟨e0, e1⟩
    · rw [e0]
      clear e0
      rintro e w4 ⟨rfl, q⟩
      go_wp2
      go_ret
      exact ⟨rfl, hb3.trans q.below⟩
    · rw [e0]
      have E1 := Lib.hid e1
      clear e0 e1
      rintro e w4 ⟨rfl, q⟩
      have b : Below w3.heap.size w3 w4 := q.below
      clear al3 ah3
      have HB4 := Lib.hid ((b.block w.heap.size (lt_of_block HB3.out)).trans HB3.out)
      have al4 := cell_of_row w4 w.heap.size 0 _ _ _ HB4.out
      have ah4 := cell_of_row w4 w.heap.size 1 _ _ _ HB4.out
      have hb4 := hb3.trans (b.mono hb3.size)
      clear b q
      go_wp2_with fail
      refine (isSpan_any lo hi _ h1 h2 h3 h4).mono ?_
      rw [E1.out]
      rintro e w5 ⟨rfl, b⟩
      have hb5 := hb4.trans (b.mono hb4.size)
      go_wp2
      go_ret
      exact ⟨rfl, hb5⟩
end Go.Proofs.Ytnfgmklkfbcjkaa
