/-
  The examples of chapter 7 (span) hold.
-/
import Derived.Test.YtnfgmklkfbcjkaaSpan3
namespace Go.Proofs.Ytnfgmklkfbcjkaa
set_option linter.unusedSimpArgs false
set_option linter.unusedVariables false
set_option linter.unnecessarySimpa false
open Go.RowKit

theorem U2s_of {l : List Sp} (h : (l.all fun s => decide (0 ≤ s.1) && decide (s.1 < 18446744073709551616) && decide (0 ≤ s.2) && decide (s.2 < 18446744073709551616)) = true) : U2s l := by
  intro s hs
  have := List.all_eq_true.1 h s hs
  simp only [Bool.and_eq_true, decide_eq_true_eq] at this
  exact ⟨⟨this.1.1.1, this.1.1.2⟩, ⟨this.1.2, this.2⟩⟩

set_option maxHeartbeats 1600000 in
theorem spanAlive (w : World) :
    Calls Try.prog 20 #[] w fun e w' => e = .returned (.bool true) ∧ Below w.heap.size w w' := by
  have mk := fun (w : World) (cs : Array Value) (n : Nat) (l : List Sp) (h1 : cs.toList = Ss l) (h2 : l.length = n) (h3 : n ≤ 4) =>
    Rd.lit w 2 cs 43 n (Ss l) h1 (by simp [h2]) (by unfold maxLen; omega)
  have Mk := Lib.hid mk
  clear mk
  have HG := Lib.hid (show Good [((1 : Int), (3 : Int)), (6, 9)] from by decide)
  have HU := Lib.hid (show U2s [((1 : Int), (3 : Int)), (6, 9)] from U2s_of (by decide))
  have hb0 := (Below.refl w.heap.size w).alloc (Nat.le_refl _) (.cells #[.int .u64 1, .int .u64 3, .int .u64 6, .int .u64 9] 43)
  have R0 := Mk.out w #[.int .u64 1, .int .u64 3, .int .u64 6, .int .u64 9] 2 [(1, 3), (6, 9)] rfl rfl (by omega)
  go_enter Try.func20, Try.ntmps20
  go_wp2_with fail
  refine (add_yes _ 2 2 [(1, 3), (6, 9)] 4 4 _ R0 HG.out (by decide) (by omega) HU.out (by omega)).mono ?_
  rw [show addP [((1 : Int), (3 : Int)), (6, 9)] (4, 4) = [(1, 4), (6, 9)] from by decide]
  rintro e w1 ⟨A1, c1, rfl, R1, b1⟩
  have hb1 := hb0.trans (b1.mono (by simp))
  have R01 := R0.below b1
  clear b1 R0 hb0
  go_wp2_with fail
  refine (add_yes _ 2 2 [(1, 3), (6, 9)] 4 5 _ R01 HG.out (by decide) (by omega) HU.out (by omega)).mono ?_
  rw [show addP [((1 : Int), (3 : Int)), (6, 9)] (4, 5) = [(1, 9)] from by decide]
  rintro e w2 ⟨A2, c2, rfl, R2, b2⟩
  have hb2 := hb1.trans (b2.mono hb1.size)
  have R02 := R01.below b2
  have R12 := R1.below b2
  clear b2 R1 R01
  go_wp2_with fail
  have q2 := (Below.refl w2.heap.size w2).alloc (Nat.le_refl _) (.cells #[.int .u64 1, .int .u64 4, .int .u64 6, .int .u64 9] 43)
  refine (sameSpans_any A1 _ 2 2 c1 2 [(1, 4), (6, 9)] [(1, 4), (6, 9)] _ (R12.below q2) (Mk.out w2 #[.int .u64 1, .int .u64 4, .int .u64 6, .int .u64 9] 2 [(1, 4), (6, 9)] rfl rfl (by omega))).mono ?_
  rw [decide_eq_true (rfl : [((1 : Int), (4 : Int)), (6, 9)] = [(1, 4), (6, 9)])]
  rintro e w3 ⟨rfl, q3⟩
  have b3 := q2.trans q3.below
  have hb3 := hb2.trans (b3.mono hb2.size)
  have R03 := R02.below b3
  have R23 := R2.below b3
  clear q2 q3 b3 R02 R12 R2
  go_wp2_with fail
  have q4 := (Below.refl w3.heap.size w3).alloc (Nat.le_refl _) (.cells #[.int .u64 1, .int .u64 9] 43)
  refine (sameSpans_any A2 _ 1 1 c2 1 [(1, 9)] [(1, 9)] _ (R23.below q4) (Mk.out w3 #[.int .u64 1, .int .u64 9] 1 [(1, 9)] rfl rfl (by omega))).mono ?_
  rw [decide_eq_true (rfl : [((1 : Int), (9 : Int))] = [(1, 9)])]
  rintro e w4 ⟨rfl, q5⟩
  have b4 := q4.trans q5.below
  have hb4 := hb3.trans (b4.mono hb3.size)
  have R04 := R03.below b4
  clear q4 q5 b4 R03 R23
  go_wp2_with fail
  refine (good_any none 0 0 [] _ (Rd.nil_ _ 2) (fun s hs => by cases hs)).mono ?_
  rw [show goodB [] = true from by decide]
  rintro e w5 ⟨rfl, b5⟩
  have hb5 := hb4.trans (b5.mono hb4.size)
  have R05 := R04.below b5
  clear b5 R04
  go_wp2_with fail
  have q6 := (Below.refl w5.heap.size w5).alloc (Nat.le_refl _) (.cells #[.int .u64 1, .int .u64 3, .int .u64 4, .int .u64 5] 43)
  refine (good_any _ 2 2 [(1, 3), (4, 5)] _ (Mk.out w5 #[.int .u64 1, .int .u64 3, .int .u64 4, .int .u64 5] 2 [(1, 3), (4, 5)] rfl rfl (by omega)) (U2s_of (by decide))).mono ?_
  rw [show goodB [((1 : Int), (3 : Int)), (4, 5)] = false from by decide]
  rintro e w6 ⟨rfl, b6⟩
  have b6' := q6.trans (b6.mono (by simp))
  have hb6 := hb5.trans (b6'.mono hb5.size)
  have R06 := R05.below b6'
  clear q6 b6 b6' R05
  go_wp2_with fail
  refine (count_yes _ 2 2 [(1, 3), (6, 9)] _ R06 HU.out HG.out).mono ?_
  rw [show sumTo [((1 : Int), (3 : Int)), (6, 9)] (List.length [((1 : Int), (3 : Int)), (6, 9)]) = 7 from by decide]
  rintro e w7 ⟨rfl, b7⟩
  have hb7 := hb6.trans (b7.mono hb6.size)
  go_wp2
  go_ret
  exact ⟨rfl, hb7⟩
end Go.Proofs.Ytnfgmklkfbcjkaa
