/-
  The walk of FoldTells.
-/
import Derived.Test.YtnfgmklkfbcjkaaFoldA
namespace Go.Proofs.Ytnfgmklkfbcjkaa
set_option linter.unusedSimpArgs false
set_option linter.unusedVariables false
set_option linter.unnecessarySimpa false
open Go.RowKit

set_option maxHeartbeats 1600000 in
theorem foldTells_any (A B : Option Addr) (n m c d : Nat) (l : List Int) (k : List Bool) (w : World) (ha : Rd w 1 A n c (Us l)) (hb : Rd w 1 B m d (Bs k))
    (hn : n ≤ 17592186043904) (hm : m ≤ 140737488351232) :
    Calls Try.prog 3 #[.slice A n c, .slice B m d] w fun e w' => e = .returned (.bool true) ∧ Below w.heap.size w w' := by
  have hkl := hb.len
  simp only [Bs_length, Nat.mul_one] at hkl
  have Hkl := Lib.hid hkl
  clear hkl
  go_enter Try.func3, Try.ntmps3
  go_wp2_with fail
  refine (foldAlive _).mono ?_
  rintro e w1 ⟨rfl, hb1⟩
  go_wp2_with fail
  refine (odds_rd _ m d k _ (hb.below hb1) hm).mono ?_
  rintro e w2 ⟨A2, c2, rfl, R2, b2⟩
  have hb2 : Below w.heap.size w w2 := hb1.trans (b2.mono hb1.size)
  clear b2
  go_wp2_with fail
  refine (refOdds_any _ m d k _ (hb.below hb2) hm).mono ?_
  rintro e w3 ⟨A3, c3, rfl, R3, b3⟩
  have hb3 : Below w.heap.size w w3 := hb2.trans (b3.mono hb2.size)
  have R2' := R2.below b3
  clear b3 R2
  go_wp2
  go_loopw [21] (fun i wr => ∃ j : Nat, j ≤ m + 1 ∧ i = .int .i64 j ∧ Qt w3 wr) (fun i _ => m + 1 - (intOf i).toNat)
  case atStart => exact ⟨0, Nat.zero_le _, rfl, Qt.refl _⟩
  case round =>
    obtain ⟨j, hj, rfl, hq⟩ := hrel
    by_cases hlt : j < m + 1
    · obtain ⟨b1, o1, rfl, hc1⟩ := (R2'.qt hq).bool hlt
      obtain ⟨b2, o2, rfl, hc2⟩ := (R3.qt hq).bool hlt
      rw [scan_get _ _ _ _ _ (by rw [Hkl.out]; omega)] at hc1 hc2
      go_wp2
      go_quiet (fail)
      go_wp2
      go_roundw
      case rel => exact ⟨j + 1, by omega, by go_num, hq.drewN _⟩
      case measure => simp [intOf]; omega
    · have hb4 : Below w.heap.size w wr := hb3.trans hq.below
      go_wp2_with fail
      refine (xors_rd _ n c l _ (ha.below hb4) hn).mono ?_
      rintro e w5 ⟨A5, c5, rfl, R5, b5⟩
      have hb5 : Below w.heap.size w w5 := hb4.trans (b5.mono hb4.size)
      clear b5
      go_wp2_with fail
      refine (refXors_any _ n c l _ (ha.below hb5) hn).mono ?_
      rintro e w6 ⟨A6, c6, rfl, R6, b6⟩
      have hb6 : Below w.heap.size w w6 := hb5.trans (b6.mono hb5.size)
      have R5' := R5.below b6
      clear b6 R5
      go_wp2_with fail
      refine (sameNums_any A5 A6 _ _ c5 c6 _ _ _ R5' R6).mono ?_
      rw [decide_eq_true (rfl : scan xor64 0 l = scan xor64 0 l)]
      rintro e w7 ⟨rfl, hq7⟩
      go_wp2
      go_ret
      exact ⟨rfl, hb6.trans hq7.below⟩
end Go.Proofs.Ytnfgmklkfbcjkaa
