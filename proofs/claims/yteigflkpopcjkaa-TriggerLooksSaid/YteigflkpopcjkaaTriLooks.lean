/-
  The walk of TriggerLooks.
-/
import Derived.Test.YteigflkpopcjkaaTriA
namespace Go.Proofs.Yteigflkpopcjkaa
set_option linter.unusedSimpArgs false
set_option linter.unusedVariables false
set_option linter.unnecessarySimpa false
open Go.RowKit

set_option maxHeartbeats 8000000 in
set_option maxRecDepth 100000 in
theorem triggerLooks_any (ring : Int) (A : Option Addr) (n c : Nat) (l : List Dd) (a : Ak) (w : World) (hr : Rd w 3 A n c (Ds l)) (hok : ∀ d ∈ l, d.ok) (ha : AkR w a) (hring : 0 ≤ ring ∧ ring ≤ 255) :
    Calls Try.prog 12 #[.int .u8 ring, .slice A n c, a.val] w fun e w' => e = .returned (.bool true) ∧ Below w.heap.size w w' := by
  have P0 := Lib.hid (AkBox.of ha (Below.refl w.heap.size w))
  have hb0 := box_below w (.cells a.cells 71)
  have HR := Lib.hid (hr.below hb0)
  have OK := Lib.hid hok
  obtain ⟨r0, r1⟩ := hring
  clear hr hok ha
  obtain ⟨A', c', B, d, sp, mk, tr, xo, od⟩ := a
  unfold Ak.val
  simp only [Ak.cells] at hb0 P0 HR ⊢
  go_enter Try.func12, Try.ntmps12
  go_wp2_with fail
  generalize hw : w.alloc (.cells #[.slice A' sp.length c', .slice B mk.length d, .int .u64 tr, .int .u64 xo, .bool od] 71) = w1 at *
  clear hw hb0
  generalize hg : w.heap.size = ga at *
  refine (make_any (ring % 40) 4611686018427387903 A n c l w1 HR.out OK.out ⟨by omega, by omega⟩).mono ?_
  rintro e w2 ⟨p, r, s, rfl, hT, hb1, hg1, hg2, hg3, hg4, hg5⟩
  have T2 := Lib.hid (TellRel.of hT hb1 hg3)
  have P2 := Lib.hid ((P0.out.below hb1).below (box_below w2 (.cells #[.pointer (some ⟨p, 0, none⟩), .pointer (some ⟨r, 0, none⟩)] 41)))
  clear hT hb1 hg1 hg2 hg4 hg5 P0
  go_wp2_with fail
  generalize hW : (w2.alloc (.cells #[.pointer (some ⟨p, 0, none⟩), .pointer (some ⟨r, 0, none⟩)] 41)) = w3 at *
  clear hW
  generalize w2.heap.size = g at *
  refine (triAlive w3).mono ?_
  rintro e w4 ⟨rfl, b⟩
  have T4 := Lib.hid (T2.out.below b)
  have P4 := Lib.hid (P2.out.below b)
  clear b T2 P2
  have t0 := cell_of_row w4 g 0 _ _ _ T4.out.t
  have t1 := cell_of_row w4 g 1 _ _ _ T4.out.t
  have v0 := cell_of_row w4 ga 0 _ _ _ P4.out.t
  have v1 := cell_of_row w4 ga 1 _ _ _ P4.out.t
  have v2 := cell_of_row w4 ga 2 _ _ _ P4.out.t
  have v3 := cell_of_row w4 ga 3 _ _ _ P4.out.t
  have v4 := cell_of_row w4 ga 4 _ _ _ P4.out.t
  simp only [Ak.cells] at v0 v1 v2 v3 v4
  obtain ⟨G4, hL4⟩ := T4.out.led
  go_wp2_with fail
  refine (look_any w4 G4 p s ⟨A', c', B, d, sp, mk, tr, xo, od⟩ hL4 P4.out.r).mono ?_
  generalize hpq : Ak.look ⟨A', c', B, d, sp, mk, tr, xo, od⟩ s = pq
  have HPQ := Lib.hid hpq
  clear hpq
  rintro e w5 ⟨rfl, b⟩
  have T5 := Lib.hid (T4.out.below b)
  have P5 := Lib.hid (P4.out.below b)
  clear b T4 P4 t0 t1 v0 v1 v2 v3 v4 hL4
  have t0 := cell_of_row w5 g 0 _ _ _ T5.out.t
  have t1 := cell_of_row w5 g 1 _ _ _ T5.out.t
  have v0 := cell_of_row w5 ga 0 _ _ _ P5.out.t
  have v1 := cell_of_row w5 ga 1 _ _ _ P5.out.t
  have v2 := cell_of_row w5 ga 2 _ _ _ P5.out.t
  have v3 := cell_of_row w5 ga 3 _ _ _ P5.out.t
  have v4 := cell_of_row w5 ga 4 _ _ _ P5.out.t
  simp only [Ak.cells] at v0 v1 v2 v3 v4
  obtain ⟨H5, hR5⟩ := T5.out.ledR
  go_wp2_with fail
  refine (lookR_any w5 H5 r s ⟨A', c', B, d, sp, mk, tr, xo, od⟩ hR5 P5.out.r).mono ?_
  rw [HPQ.out]
  rintro e w6 ⟨rfl, b⟩
  have T6 := Lib.hid (T5.out.below b)
  have P6 := Lib.hid (P5.out.below b)
  clear b T5 P5 t0 t1 v0 v1 v2 v3 v4 hR5
  have t0 := cell_of_row w6 g 0 _ _ _ T6.out.t
  have t1 := cell_of_row w6 g 1 _ _ _ T6.out.t
  go_wp2_with fail
  refine (two_same _ _ p r s T6.out.two).mono ?_
  rintro e w7 ⟨rfl, b⟩
  have hb := P6.out.bel.trans (b.mono P6.out.bel.size)
  clear b
  go_wp2
  go_ret
  exact ⟨rfl, hb⟩

end Go.Proofs.Yteigflkpopcjkaa
