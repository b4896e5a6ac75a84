/-
  The walk of ProofSums.
-/
import Derived.Test.YteigflkpopcjkaaPrfA
namespace Go.Proofs.Yteigflkpopcjkaa
set_option linter.unusedSimpArgs false
set_option linter.unusedVariables false
set_option linter.unnecessarySimpa false
open Go.RowKit

set_option maxHeartbeats 8000000 in
set_option maxRecDepth 100000 in
theorem proofSums_any (ring : Int) (A A1 A2 : Option Addr) (n c c1 c2 : Nat) (l : List Dd) (cl mk : List Sp) (w : World) (hr : Rd w 3 A n c (Ds l)) (hok : ∀ d ∈ l, d.ok) (h1 : Rd w 2 A1 cl.length c1 (Ss cl)) (u1 : U2s cl) (h2 : Rd w 2 A2 mk.length c2 (Ss mk)) (u2 : U2s mk) (hring : 0 ≤ ring ∧ ring ≤ 255) :
    Calls Try.prog 16 #[.int .u8 ring, .slice A n c, .slice A1 cl.length c1, .slice A2 mk.length c2] w fun e w' => e = .returned (.bool true) ∧ Below w.heap.size w w' := by
  obtain ⟨r0, r1⟩ := hring
  have HR := Lib.hid hr
  have OK := Lib.hid hok
  have R1 := Lib.hid h1
  have R2 := Lib.hid h2
  have U1 := Lib.hid u1
  have U2 := Lib.hid u2
  clear hr hok h1 h2 u1 u2
  go_enter Try.func16, Try.ntmps16
  go_wp2_with fail
  refine (make_any (ring % 40) 4611686018427387903 A n c l w HR.out OK.out ⟨by omega, by omega⟩).mono ?_
  rintro e w2 ⟨p, r, s, rfl, hT, hb1, hg1, hg2, hg3, hg4, hg5⟩
  have T2 := Lib.hid (TellRel.of hT hb1 hg3)
  clear hT hb1 hg1 hg2 hg4 hg5
  go_wp2_with fail
  generalize hW : (w2.alloc (.cells #[.pointer (some ⟨p, 0, none⟩), .pointer (some ⟨r, 0, none⟩)] 41)) = w3 at *
  clear hW
  generalize w2.heap.size = g at *
  refine (prfAlive w3).mono ?_
  rintro e w4 ⟨rfl, b⟩
  have T4 := Lib.hid (T2.out.below b)
  clear b T2
  have t0 := cell_of_row w4 g 0 _ _ _ T4.out.t
  have t1 := cell_of_row w4 g 1 _ _ _ T4.out.t
  obtain ⟨G4, hL4⟩ := T4.out.led
  go_wp2_with fail
  refine (sum_any w4 G4 p s A1 A2 c1 c2 cl mk hL4 (R1.out.below T4.out.bel) (R2.out.below T4.out.bel) U1.out U2.out).mono ?_
  generalize hs : s.sum cl mk = sm
  have HS := Lib.hid hs
  clear hs
  obtain ⟨X, O, v⟩ := sm
  rintro e w5 ⟨rfl, b⟩
  have T5 := Lib.hid (T4.out.below b)
  clear b T4 t0 t1 hL4
  have t0 := cell_of_row w5 g 0 _ _ _ T5.out.t
  have t1 := cell_of_row w5 g 1 _ _ _ T5.out.t
  obtain ⟨H5, hR5⟩ := T5.out.ledR
  go_wp2_with fail
  refine (sumR_any w5 H5 r s A1 A2 c1 c2 cl mk hR5 (R1.out.below T5.out.bel) (R2.out.below T5.out.bel) U1.out U2.out).mono ?_
  rw [HS.out]
  rintro e w6 ⟨rfl, b⟩
  have T6 := Lib.hid (T5.out.below b)
  clear b T5 t0 t1 hR5
  have t0 := cell_of_row w6 g 0 _ _ _ T6.out.t
  have t1 := cell_of_row w6 g 1 _ _ _ T6.out.t
  cases O
  all_goals
    cases v
    all_goals
      go_wp2_with fail
      refine (two_same _ _ p r s T6.out.two).mono ?_
      rintro e w7 ⟨rfl, b⟩
      have hb := T6.out.bel.trans (b.mono T6.out.bel.size)
      clear b
      go_wp2
      go_ret
      exact ⟨rfl, hb⟩

end Go.Proofs.Yteigflkpopcjkaa
