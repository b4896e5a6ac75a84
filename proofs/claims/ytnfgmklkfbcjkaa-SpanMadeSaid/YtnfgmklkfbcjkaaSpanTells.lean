/-
  The walk of SpanTells.
-/
import Derived.Test.YtnfgmklkfbcjkaaSpan4
import Derived.Test.YtnfgmklkfbcjkaaSpan7
namespace Go.Proofs.Ytnfgmklkfbcjkaa
set_option linter.unusedSimpArgs false
set_option linter.unusedVariables false
set_option linter.unnecessarySimpa false
open Go.RowKit

set_option maxRecDepth 100000 in
set_option maxHeartbeats 6400000 in
theorem spanTells_any (A B : Option Addr) (n m c d : Nat) (l k : List Sp) (p q : Int) (w : World) (ha : Rd w 2 A n c (Ss l)) (hb : Rd w 2 B m d (Ss k)) (hua : U2s l) (hub : U2s k)
    (hp0 : 0 ≤ p) (hp1 : p < 18446744073709551616) (hq0 : -9223372036854775808 ≤ q) (hq1 : q ≤ 9223372036854775807) (hn : n ≤ 8796093021952) :
    Calls Try.prog 9 #[.slice A n c, .slice B m d, .int .u64 p, .int .i64 q] w fun e w' => e = .returned (.bool true) ∧ Below w.heap.size w w' := by
  have hmax := ha.cap
  have hmax' := ha.max
  unfold maxLen at hmax'
  by_cases hgl : Good l
  · have HG := Lib.hid hgl
    have HGb := Lib.hid (goodB_true hgl)
    clear hgl
    go_enter Try.func9, Try.ntmps9
    go_wp2_with fail
    refine (spanAlive _).mono ?_
    rintro e w1 ⟨rfl, b⟩
    have hb1 := b
    clear b
    go_wp2_with fail
    refine (refGood_any A n c l _ (ha.below hb1) hua).mono ?_
    rw [HGb.out]
    rintro e w2 ⟨rfl, q2⟩
    have hb2 := hb1.trans q2.below
    clear q2
    go_wp2_with fail
    refine (refGood_any B m d k _ (hb.below hb2) hub).mono ?_
    by_cases hgk : Good k
    · have HK := Lib.hid hgk
      have HKb := Lib.hid (goodB_true hgk)
      clear hgk
      rw [HKb.out]
      rintro e w3 ⟨rfl, q3⟩
      have hb3 := hb2.trans q3.below
      clear q3
      go_wp2_with fail
      refine (good_any A n c l _ (ha.below hb3) hua).mono ?_
      rw [HGb.out]
      rintro e w4 ⟨rfl, b⟩
      have hb4 := hb3.trans (b.mono hb3.size)
      clear b
      go_wp2_with fail
      refine (within_yes A B n m c d l k _ (ha.below hb4) (hb.below hb4) hua hub HG.out HK.out).mono ?_
      generalize hI : decide (InsideP l k) = I
      have HI := Lib.hid hI
      clear hI
      rintro e w5 ⟨rfl, b⟩
      have hb5 := hb4.trans (b.mono hb4.size)
      clear b
      go_wp2_with fail
      refine (inside_any A B n m c d l k _ (ha.below hb5) (hb.below hb5) hua hub).mono ?_
      rw [HI.out]
      rintro e w6 ⟨rfl, q6⟩
      have hb6 := hb5.trans q6.below
      clear q6
      cases I
      all_goals
        go_wp2_with fail
        refine (has_yes A n c l p _ (ha.below hb6) hua HG.out hp0 hp1).mono ?_
        rintro e w7 ⟨rfl, b⟩
        have hb7 := hb6.trans (b.mono hb6.size)
        clear b
        go_wp2_with fail
        refine (hasNum_any A n c l p _ (ha.below hb7) hua hp0 hp1).mono ?_
        rintro e w8 ⟨rfl, qq⟩
        have hb8 := hb7.trans qq.below
        clear qq
        generalize hasP l p = X at *
        have tX : (X == X) = true := by simp
        go_wp2_with fail
        refine (count_yes A n c l _ (ha.below hb8) hua HG.out).mono ?_
        rintro e w9 ⟨rfl, b⟩
        have hb9 := hb8.trans (b.mono hb8.size)
        clear b
        go_wp2_with fail
        refine (countNums_any A n c l _ (ha.below hb9) hua HG.out).mono ?_
        rintro e w10 ⟨rfl, qq⟩
        have hb10 := hb9.trans qq.below
        clear qq
        generalize sumTo l l.length = Y at *
        go_wp2_with fail
        refine (last_yes A n c l q _ (ha.below hb10) hua HG.out hq0 hq1 hn).mono ?_
        rintro e w11 ⟨A11, c11, rfl, R11, b⟩
        have hb11 := hb10.trans (b.mono hb10.size)
        clear b
        go_wp2_with fail
        refine (lastSpans_any A n c l q _ (ha.below hb11) hq0 hq1 hn).mono ?_
        rintro e w12 ⟨A12, c12, rfl, R12, b⟩
        have hb12 := hb11.trans (b.mono hb11.size)
        have R11 := R11.below b
        clear b
        generalize lastP l q = Z at *
        go_wp2_with fail
        refine (sameSpans_any A11 A12 _ _ c11 c12 Z Z _ R11 R12).mono ?_
        rw [decide_eq_true (rfl : Z = Z)]
        rintro e w13 ⟨rfl, qq⟩
        have hb13 := hb12.trans qq.below
        clear qq R11 R12
        go_wp2_with fail
        refine (from_yes A n c l p _ (ha.below hb13) hua HG.out hp0 hp1 hn).mono ?_
        rintro e w14 ⟨A14, c14, rfl, R14, b⟩
        have hb14 := hb13.trans (b.mono hb13.size)
        clear b
        go_wp2_with fail
        refine (fromNum_any A n c l p _ (ha.below hb14) hua hp0 hp1 hn).mono ?_
        rintro e w15 ⟨A15, c15, rfl, R15, b⟩
        have hb15 := hb14.trans (b.mono hb14.size)
        have R14 := R14.below b
        clear b
        generalize fromP l p = V at *
        go_wp2_with fail
        refine (sameSpans_any A14 A15 _ _ c14 c15 V V _ R14 R15).mono ?_
        rw [decide_eq_true (rfl : V = V)]
        rintro e w16 ⟨rfl, qq⟩
        go_wp2
        go_ret
        exact ⟨rfl, hb15.trans qq.below⟩
    · have HK := Lib.hid hgk
      have HKb := Lib.hid (show goodB k = false from decide_eq_false hgk)
      clear hgk
      rw [HKb.out]
      rintro e w3 ⟨rfl, q3⟩
      have hb3 := hb2.trans q3.below
      clear q3
      go_wp2_with fail
      refine (good_any A n c l _ (ha.below hb3) hua).mono ?_
      rw [HGb.out]
      rintro e w4 ⟨rfl, b⟩
      have hb4 := hb3.trans (b.mono hb3.size)
      clear b
      go_wp2_with fail
      refine (within_no A B n m c d l k _ (ha.below hb4) (hb.below hb4) hua hub (fun h => HK.out h.2)).mono ?_
      rintro e w6 ⟨rfl, b⟩
      have hb6 := hb4.trans (b.mono hb4.size)
      clear b
      go_wp2_with fail
      refine (has_yes A n c l p _ (ha.below hb6) hua HG.out hp0 hp1).mono ?_
      rintro e w7 ⟨rfl, b⟩
      have hb7 := hb6.trans (b.mono hb6.size)
      clear b
      go_wp2_with fail
      refine (hasNum_any A n c l p _ (ha.below hb7) hua hp0 hp1).mono ?_
      rintro e w8 ⟨rfl, qq⟩
      have hb8 := hb7.trans qq.below
      clear qq
      generalize hasP l p = X at *
      have tX : (X == X) = true := by simp
      go_wp2_with fail
      refine (count_yes A n c l _ (ha.below hb8) hua HG.out).mono ?_
      rintro e w9 ⟨rfl, b⟩
      have hb9 := hb8.trans (b.mono hb8.size)
      clear b
      go_wp2_with fail
      refine (countNums_any A n c l _ (ha.below hb9) hua HG.out).mono ?_
      rintro e w10 ⟨rfl, qq⟩
      have hb10 := hb9.trans qq.below
      clear qq
      generalize sumTo l l.length = Y at *
      go_wp2_with fail
      refine (last_yes A n c l q _ (ha.below hb10) hua HG.out hq0 hq1 hn).mono ?_
      rintro e w11 ⟨A11, c11, rfl, R11, b⟩
      have hb11 := hb10.trans (b.mono hb10.size)
      clear b
      go_wp2_with fail
      refine (lastSpans_any A n c l q _ (ha.below hb11) hq0 hq1 hn).mono ?_
      rintro e w12 ⟨A12, c12, rfl, R12, b⟩
      have hb12 := hb11.trans (b.mono hb11.size)
      have R11 := R11.below b
      clear b
      generalize lastP l q = Z at *
      go_wp2_with fail
      refine (sameSpans_any A11 A12 _ _ c11 c12 Z Z _ R11 R12).mono ?_
      rw [decide_eq_true (rfl : Z = Z)]
      rintro e w13 ⟨rfl, qq⟩
      have hb13 := hb12.trans qq.below
      clear qq R11 R12
      go_wp2_with fail
      refine (from_yes A n c l p _ (ha.below hb13) hua HG.out hp0 hp1 hn).mono ?_
      rintro e w14 ⟨A14, c14, rfl, R14, b⟩
      have hb14 := hb13.trans (b.mono hb13.size)
      clear b
      go_wp2_with fail
      refine (fromNum_any A n c l p _ (ha.below hb14) hua hp0 hp1 hn).mono ?_
      rintro e w15 ⟨A15, c15, rfl, R15, b⟩
      have hb15 := hb14.trans (b.mono hb14.size)
      have R14 := R14.below b
      clear b
      generalize fromP l p = V at *
      go_wp2_with fail
      refine (sameSpans_any A14 A15 _ _ c14 c15 V V _ R14 R15).mono ?_
      rw [decide_eq_true (rfl : V = V)]
      rintro e w16 ⟨rfl, qq⟩
      go_wp2
      go_ret
      exact ⟨rfl, hb15.trans qq.below⟩
  · have HG := Lib.hid hgl
    have HGb := Lib.hid (show goodB l = false from decide_eq_false hgl)
    clear hgl
    go_enter Try.func9, Try.ntmps9
    go_wp2_with fail
    refine (spanAlive _).mono ?_
    rintro e w1 ⟨rfl, b⟩
    have hb1 := b
    clear b
    go_wp2_with fail
    refine (refGood_any A n c l _ (ha.below hb1) hua).mono ?_
    rw [HGb.out]
    rintro e w2 ⟨rfl, q2⟩
    have hb2 := hb1.trans q2.below
    clear q2
    go_wp2_with fail
    refine (refGood_any B m d k _ (hb.below hb2) hub).mono ?_
    rintro e w3 ⟨rfl, q3⟩
    have hb3 := hb2.trans q3.below
    clear q3
    generalize goodB k = gk at *
    go_wp2_with fail
    refine (good_any A n c l _ (ha.below hb3) hua).mono ?_
    rw [HGb.out]
    rintro e w4 ⟨rfl, b⟩
    have hb4 := hb3.trans (b.mono hb3.size)
    clear b
    go_wp2_with fail
    refine (within_no A B n m c d l k _ (ha.below hb4) (hb.below hb4) hua hub (fun h => HG.out h.1)).mono ?_
    rintro e w5 ⟨rfl, b⟩
    have hb5 := hb4.trans (b.mono hb4.size)
    clear b
    go_wp2_with fail
    refine (has_no A n c l p _ (ha.below hb5) hua HG.out).mono ?_
    rintro e w6 ⟨rfl, b⟩
    have hb6 := hb5.trans (b.mono hb5.size)
    clear b
    go_wp2_with fail
    refine (count_no A n c l _ (ha.below hb6) hua HG.out).mono ?_
    rintro e w7 ⟨rfl, b⟩
    have hb7 := hb6.trans (b.mono hb6.size)
    clear b
    go_wp2_with fail
    refine (last_no A n c l q _ (ha.below hb7) hua HG.out).mono ?_
    rintro e w8 ⟨rfl, b⟩
    have hb8 := hb7.trans (b.mono hb7.size)
    clear b
    go_wp2_with fail
    refine (from_no A n c l p _ (ha.below hb8) hua HG.out).mono ?_
    rintro e w9 ⟨rfl, b⟩
    have hb9 := hb8.trans (b.mono hb8.size)
    clear b
    go_wp2
    go_ret
    exact ⟨rfl, hb9⟩
end Go.Proofs.Ytnfgmklkfbcjkaa
