/-
  The examples of chapter 10 (fold) hold.
-/
import Derived.Test.YtnfgmklkfbcjkaaFold
import Derived.Deep.DeepFit
namespace Go.Proofs.Ytnfgmklkfbcjkaa
set_option linter.unusedSimpArgs false
set_option linter.unusedVariables false
set_option linter.unnecessarySimpa false
open Go.RowKit

set_option maxHeartbeats 200000 in
theorem foldAlive (w : World) :
    Calls Try.prog 12 #[] w fun e w' => e = .returned (.bool true) ∧ Below w.heap.size w w' := by
  go_enter Try.func12, Try.ntmps12
  go_wp2_with fail
  refine (xors_rd _ 2 2 [5, 3] _ (Rd.lit _ 1 _ _ 2 _ rfl rfl (by unfold maxLen; omega)) (by omega)).mono ?_
  rintro e w1 ⟨A1, c1, rfl, R1, hb⟩
  have hb1 := (Below.refl w.heap.size w).alloc (Nat.le_refl _) (.cells #[.int .u64 5, .int .u64 3] 29) |>.trans (hb.mono (by simp))
  go_wp2_with fail
  refine (over_any _ 3 3 [0, 5, 6] 1 2 _ (Rd.lit _ 1 _ _ 3 _ rfl rfl (by unfold maxLen; omega))).mono ?_
  rw [show overV [0, 5, 6] 1 2 = .tuple #[.int .u64 3, .bool true] from by kernel_rfl]
  rintro e w2 ⟨rfl, hq⟩
  have hb2 : Below w.heap.size w w2 := (hb1.alloc hb1.size _).trans hq.below
  have hb2' : Below w1.heap.size w1 w2 := ((Below.refl _ w1).alloc (Nat.le_refl _) _).trans hq.below
  have R2 := R1.below hb2'
  clear hq
  go_wp2_with fail
  refine (odd_any _ 2 2 [false, true] 0 1 _ (Rd.lit _ 1 _ _ 2 _ rfl rfl (by unfold maxLen; omega))).mono ?_
  rw [show oddV [false, true] 0 1 = .tuple #[.bool true, .bool true] from by kernel_rfl]
  rintro e w3 ⟨rfl, hq⟩
  have hb3 : Below w.heap.size w w3 := (hb2.alloc hb2.size _).trans hq.below
  have hb3' : Below w2.heap.size w2 w3 := ((Below.refl _ w2).alloc (Nat.le_refl _) _).trans hq.below
  have R3 := R2.below hb3'
  clear hq
  go_wp2_with fail
  refine (sameNums_any A1 _ 3 3 c1 3 (scan xor64 0 [5, 3]) [0, 5, 6] _ (R3.below ((Below.refl _ w3).alloc (Nat.le_refl _) _)) (Rd.lit _ 1 _ _ 3 _ rfl rfl (by unfold maxLen; omega))).mono ?_
  rw [show decide (scan xor64 0 [5, 3] = [0, 5, 6]) = true from by decide]
  rintro e w4 ⟨rfl, hq⟩
  have hb4 : Below w.heap.size w w4 := (hb3.alloc hb3.size _).trans hq.below
  clear hq
  go_wp2_with fail
  refine (odds_rd _ 0 0 [] _ (Rd.nil_ _ 1) (by omega)).mono ?_
  rintro e w5 ⟨A5, c5, rfl, R5, hb⟩
  have hb5 : Below w.heap.size w w5 := hb4.trans (hb.mono hb4.size)
  go_wp2
  go_ret
  exact ⟨rfl, hb5⟩
end Go.Proofs.Ytnfgmklkfbcjkaa
