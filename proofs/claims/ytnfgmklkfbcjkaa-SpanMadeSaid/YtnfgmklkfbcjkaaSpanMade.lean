/-
  The walk of SpanMade.
-/
import Derived.Test.YtnfgmklkfbcjkaaSpan8
import Derived.Test.YtnfgmklkfbcjkaaSpanTells
import Derived.Test.YtnfgmklkfbcjkaaSpanChanges
namespace Go.Proofs.Ytnfgmklkfbcjkaa
set_option linter.unusedSimpArgs false
set_option linter.unusedVariables false
set_option linter.unnecessarySimpa false
open Go.RowKit

set_option maxRecDepth 100000 in
set_option maxHeartbeats 3200000 in
theorem spanMade_any (A B : Option Addr) (n m c d : Nat) (a b : List Int) (lo p k : Int) (w : World) (ha : Rd w 1 A n c (W16 a)) (hb : Rd w 1 B m d (W16 b)) (hwa : ∀ x ∈ a, 0 ≤ x ∧ x ≤ 65535) (hwb : ∀ x ∈ b, 0 ≤ x ∧ x ≤ 65535)
    (hlo : 0 ≤ lo ∧ lo ≤ 255) (hp : 0 ≤ p ∧ p ≤ 255) (hk : -128 ≤ k ∧ k ≤ 127) :
    Calls Try.prog 11 #[.slice A n c, .slice B m d, .int .u8 lo, .int .u8 p, .int .i8 k] w fun e w' => e = .returned (.bool true) ∧ Below w.heap.size w w' := by
  have hmax := ha.cap
  have hmax' := ha.max
  have hmaxb := hb.cap
  have hmaxb' := hb.max
  unfold maxLen at hmax' hmaxb'
  obtain ⟨l1, l2⟩ := hlo
  obtain ⟨p1, p2⟩ := hp
  obtain ⟨k1, k2⟩ := hk
  by_cases h5 : 200 < n
  · go_enter Try.func11, Try.ntmps11
    go_wp2_with fail
    refine (spanAlive _).mono ?_
    rintro e w1 ⟨rfl, hb1⟩
    go_wp2_with fail
    refine (spanAlive _).mono ?_
    rintro e w2 ⟨rfl, hb2⟩
    go_wp2
    go_ret
    exact ⟨rfl, hb1.trans (hb2.mono hb1.size)⟩
  · by_cases h6 : 200 < m
    · have t1 : decide ((200 : Int) < (n : Int)) = false := by simp; omega
      go_enter Try.func11, Try.ntmps11
      go_wp2_with fail
      refine (spanAlive _).mono ?_
      rintro e w1 ⟨rfl, hb1⟩
      go_wp2_with fail
      refine (spanAlive _).mono ?_
      rintro e w2 ⟨rfl, hb2⟩
      go_wp2
      go_ret
      exact ⟨rfl, hb1.trans (hb2.mono hb1.size)⟩
    · have t1 : decide ((200 : Int) < (n : Int)) = false := by simp; omega
      have t2 : decide ((200 : Int) < (m : Int)) = false := by simp; omega
      obtain ⟨r, hr, r1, r2⟩ : ∃ r, p % 20 = r ∧ 0 ≤ r ∧ r < 20 := ⟨_, rfl, by omega, by omega⟩
      obtain ⟨ga1, ga2, ga3⟩ := rowP_ok a
      obtain ⟨gb1, gb2, gb3⟩ := rowP_ok b
      obtain ⟨gp1, gp2, gp3, _⟩ := partP_ok (rowP a) (rowP b) ga1 ga3
      have ua := ga3.u2 ga1
      have ub := gb3.u2 gb1
      have up := gp3.u2 gp1
      have GA := Lib.hid ga1
      have LA : Hid ((rowP a).length ≤ 8796093021952) := by show _ ≤ _; omega
      have LP : Hid ((partP (rowP a) (rowP b)).length ≤ 8796093021952) := by show _ ≤ _; omega
      have LA2 := Lib.hid ga2
      have LB2 := Lib.hid gb2
      clear ga1 ga2 ga3 gb1 gb2 gb3 gp1 gp2 gp3
      go_enter Try.func11, Try.ntmps11
      go_wp2_with fail
      refine (spanAlive _).mono ?_
      rintro e w1 ⟨rfl, b⟩
      have hb1 := b
      clear b
      go_wp2_with fail
      refine (row_any A n c a _ (ha.below hb1) hwa).mono ?_
      rintro e w2 ⟨A2, c2, rfl, R2, b⟩
      have hb2 := hb1.trans (b.mono hb1.size)
      clear b
      go_wp2_with fail
      refine (row_any B m d b _ (hb.below hb2) hwb).mono ?_
      rintro e w3 ⟨A3, c3, rfl, R3, b⟩
      have hb3 := hb2.trans (b.mono hb2.size)
      have R2 := R2.below b
      clear b
      generalize rowP a = X at *
      generalize rowP b = Y at *
      go_wp2_with fail
      have q4 := (Below.refl w3.heap.size w3).alloc (Nat.le_refl _) (.cells #[.int .u64 lo, .int .u64 (lo + r)] 43)
      refine (spanChanges_any A2 _ c2 X lo (lo + r) _ (R2.below q4) ua l1 (by omega) (by omega) (by omega) LA.out).mono ?_
      rintro e w4 ⟨rfl, b⟩
      have b4 := q4.trans (b.mono (by simp))
      have hb4 := hb3.trans (b4.mono hb3.size)
      have R2 := R2.below b4
      have R3 := R3.below b4
      clear b b4 q4
      go_wp2_with fail
      refine (spanTells_any A2 A3 _ _ c2 c3 X Y p k _ R2 R3 ua ub p1 (by omega) (by omega) (by omega) LA.out).mono ?_
      rintro e w5 ⟨rfl, b⟩
      have hb5 := hb4.trans (b.mono hb4.size)
      have R2 := R2.below b
      have R3 := R3.below b
      clear b
      go_wp2_with fail
      refine (part_any A2 A3 _ _ c2 c3 X Y _ R2 R3 ua ub GA.out LA2.out LB2.out).mono ?_
      rintro e w6 ⟨A6, c6, rfl, R6, b⟩
      have hb6 := hb5.trans (b.mono hb5.size)
      have R2 := R2.below b
      clear b
      go_wp2_with fail
      refine (spanTells_any A6 A2 _ _ c6 c2 _ X lo k _ R6 R2 up ua l1 (by omega) (by omega) (by omega) LP.out).mono ?_
      rintro e w7 ⟨rfl, b⟩
      have hb7 := hb6.trans (b.mono hb6.size)
      go_wp2
      go_ret
      exact ⟨rfl, hb7⟩
end Go.Proofs.Ytnfgmklkfbcjkaa
