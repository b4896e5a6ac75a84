/-
  The walk of QueueTells.
-/
import Derived.Test.YtilgekmpkoohaaaQueA
namespace Go.Proofs.Ytilgekmpkoohaaa
set_option linter.unusedSimpArgs false
set_option linter.unusedVariables false
set_option linter.unnecessarySimpa false
open Go.RowKit

set_option maxHeartbeats 4000000 in
set_option maxRecDepth 100000 in
theorem queueTells_any (room most : Int) (A : Option Addr) (n c : Nat) (l : List Dd) (w : World) (hr : Rd w 3 A n c (Ds l)) (hok : ∀ d ∈ l, d.ok) (hm : most ≤ 9223372036854775807) :
    Calls Try.prog 3 #[.int .i64 room, .slice A n c, .int .i64 most] w fun e w' => e = .returned (.bool true) ∧ Below w.heap.size w w' := by
  have hm' : most < 9223372036854775808 := by omega
  have M := Lib.hid (makeQ room A n c l w hr hok)
  clear hr hok
  go_enter Try.func3, Try.ntmps3
  go_wp2_with fail
  refine M.out.mono ?_
  rintro e w1 ⟨p, r, s, rfl, hT, b1, -, -⟩
  have eb := box_below w1 (.cells #[.pointer (some ⟨p, 0, none⟩), .pointer (some ⟨r, 0, none⟩)] 26)
  have T := Lib.hid (hT.below QP.stays QR.stays eb)
  have X := Lib.hid (heap_alloc_new w1 (.cells #[.pointer (some ⟨p, 0, none⟩), .pointer (some ⟨r, 0, none⟩)] 26))
  have B := Lib.hid (b1.trans (eb.mono b1.size))
  clear hT b1 eb M
  go_wp2_with fail
  generalize hW : w1.alloc (.cells #[.pointer (some ⟨p, 0, none⟩), .pointer (some ⟨r, 0, none⟩)] 26) = w2 at *
  clear hW
  generalize w1.heap.size = g at *
  refine (queAlive w2).mono ?_
  rintro e w3 ⟨rfl, b3⟩
  have T3 := Lib.hid (T.out.below QP.stays QR.stays b3)
  have X3 := Lib.hid ((b3.block _ (lt_of_block X.out)).trans X.out)
  have B3 := Lib.hid (B.out.trans (b3.mono B.out.size))
  clear b3 T X B
  have t0 := cell_of_row w3 g 0 _ _ _ X3.out
  have t1 := cell_of_row w3 g 1 _ _ _ X3.out
  go_wp2_with fail
  refine (two_sameQ w3 _ p r s most T3.out hm').mono ?_
  rintro e w4 ⟨rfl, b4⟩
  have T4 := Lib.hid (T3.out.below QP.stays QR.stays b4)
  have X4 := Lib.hid ((b4.block _ (lt_of_block X3.out)).trans X3.out)
  have B4 := Lib.hid (B3.out.trans (b4.mono B3.out.size))
  clear b4 T3 X3 B3 t0 t1
  have t0 := cell_of_row w4 g 0 _ _ _ X4.out
  have t1 := cell_of_row w4 g 1 _ _ _ X4.out
  go_wp2_with fail
  refine (two_sameQ w4 _ p r s 0 T4.out (by omega)).mono ?_
  rintro e w5 ⟨rfl, b5⟩
  have T5 := Lib.hid (T4.out.below QP.stays QR.stays b5)
  have X5 := Lib.hid ((b5.block _ (lt_of_block X4.out)).trans X4.out)
  have B5 := Lib.hid (B4.out.trans (b5.mono B4.out.size))
  clear b5 T4 X4 B4 t0 t1
  have t0 := cell_of_row w5 g 0 _ _ _ X5.out
  have t1 := cell_of_row w5 g 1 _ _ _ X5.out
  go_wp2_with fail
  refine (two_sameQ w5 _ p r s 1 T5.out (by omega)).mono ?_
  rintro e w6 ⟨rfl, b6⟩
  have B6 := Lib.hid (B5.out.trans (b6.mono B5.out.size))
  clear b6
  go_wp2
  go_ret
  exact ⟨rfl, B6.out⟩

end Go.Proofs.Ytilgekmpkoohaaa
