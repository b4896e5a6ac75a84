/-
  The walk of LossTimes.
-/
import Derived.Test.YteigflkpopcjkaaLossFinds
import Derived.Test.YteigflkpopcjkaaLossQ
namespace Go.Proofs.Yteigflkpopcjkaa
set_option linter.unusedSimpArgs false
set_option linter.unusedVariables false
set_option linter.unnecessarySimpa false
open Go.RowKit

theorem kept_times {s : LS} (gd : s.Good) (sm : s.Small) : ∀ x ∈ s.kept, 0 ≤ x.at_ ∧ x.at_ < 5000 := fun x hx => ⟨(gd.keptOk x hx).at_.1, (sm x (List.mem_of_mem_drop hx)).2⟩

set_option maxHeartbeats 8000000 in
set_option maxRecDepth 100000 in
theorem lossTimes_any (ring lg now win : Int) (A : Option Addr) (n c : Nat) (l : List Dd) (w : World) (hr : Rd w 3 A n c (Ds l)) (hok : ∀ d ∈ l, d.ok) (hring : 0 ≤ ring ∧ ring ≤ 255) (h1 : isU64 lg) (h2 : 0 ≤ now ∧ now ≤ 65535) (h3 : 0 ≤ win ∧ win ≤ 65535) :
    Calls Try.prog 9 #[.int .u8 ring, .slice A n c, .int .u64 lg, .int .u16 now, .int .u16 win] w fun e w' => e = .returned (.bool true) ∧ Below w.heap.size w w' := by
  obtain ⟨r0, r1⟩ := hring
  obtain ⟨lg0, lg1⟩ := h1
  have HN := Lib.hid h2
  have HW := Lib.hid h3
  obtain ⟨no0, no1⟩ := h2
  obtain ⟨wi0, wi1⟩ := h3
  have HR := Lib.hid hr
  have OK := Lib.hid hok
  clear hr hok
  go_enter Try.func9, Try.ntmps9
  go_wp2_with fail
  refine (make_any (ring % 40) 4611686018427387903 A n c l w HR.out OK.out ⟨by omega, by omega⟩).mono ?_
  rintro e w1 ⟨p, r, s, rfl, hT, hb1, hg1, hg2, hg3, hg4, hg5⟩
  have P1 := Lib.hid (TellRel.of hT hb1 hg3)
  have KT := Lib.hid (kept_times hT.good hg4)
  clear hT hb1 hg1 hg2 hg4 hg5
  go_wp2_with fail
  generalize hW : (w1.alloc (.cells #[.pointer (some ⟨p, 0, none⟩), .pointer (some ⟨r, 0, none⟩)] 41)) = w2 at *
  clear hW
  generalize w1.heap.size = g at *
  refine (lossAlive w2).mono ?_
  rintro e w3 ⟨rfl, b⟩
  have P3 := Lib.hid (P1.out.below b)
  clear b P1
  have t0 := cell_of_row w3 g 0 _ _ _ P3.out.t
  have t1 := cell_of_row w3 g 1 _ _ _ P3.out.t
  obtain ⟨H3, hR3⟩ := P3.out.ledR
  have e0 := Int.emod_nonneg lg (show (s.all.length : Int) + 5 ≠ 0 by omega)
  have e1 := Int.emod_lt_of_pos lg (show (0 : Int) < (s.all.length : Int) + 5 by omega)
  go_wp2_with fail
  refine (ledR_next w3 H3 r s hR3).mono ?_
  rintro e w4 ⟨rfl, n4, rfl⟩
  have P4 : Hid (TellRel w p r g 80 s (w3.drewN n4)) := P3.out.below (below_drewN (Below.refl _ _) _)
  generalize w3.drewN n4 = w4 at *
  clear t0 t1 hR3 P3
  have t0 := cell_of_row w4 g 0 _ _ _ P4.out.t
  have t1 := cell_of_row w4 g 1 _ _ _ P4.out.t
  obtain ⟨G4, hL4⟩ := P4.out.led
  go_wp2_with fail
  generalize lg % ((s.all.length : Int) + 5) = m at *
  refine (loss_find w4 G4 p s m now win hL4 ⟨e0, by omega⟩ ⟨by omega, by omega⟩ ⟨by omega, by omega⟩).mono ?_
  rintro e w5 ⟨A5, n5, c5, rfl, R5, b⟩
  have hn5 : (Loss.lost m now win s.kept).length = n5 := by have := R5.len; simpa using this
  have hc5 := R5.cap
  have hx5 := R5.max
  unfold maxLen at hx5
  have P5 := Lib.hid (P4.out.below b)
  have RR5 := Lib.hid R5
  have EQ5 := Lib.hid hn5
  clear b P4 t0 t1 R5 hL4 hn5
  have t0 := cell_of_row w5 g 0 _ _ _ P5.out.t
  have t1 := cell_of_row w5 g 1 _ _ _ P5.out.t
  obtain ⟨G5, hL5⟩ := P5.out.led
  by_cases htop : Loss.next m now win s.kept = 18446744073709551615
  · obtain ⟨q1, q2⟩ := Loss.times_top KT.out (by omega) HW.out htop
    have Q1 := Lib.hid q1
    have Q2 := Lib.hid q2
    rw [htop]
    clear q1 q2 htop
    go_wp2_with fail
    refine (loss_find w5 G5 p s m 18446744073709551615 win hL5 ⟨e0, by omega⟩ ⟨by omega, by omega⟩ ⟨by omega, by omega⟩).mono ?_
    rw [Q2.out, ← Q1.out]
    rintro e w6 ⟨A6, n6, c6, rfl, R6, b⟩
    have P6 := Lib.hid (P5.out.below b)
    have RR5' := Lib.hid (RR5.out.below b)
    have RR6 := Lib.hid R6
    clear b P5 t0 t1 R6 hL5 RR5
    go_wp2_with fail
    refine (sameNums_any A5 A6 n5 n6 c5 c6 _ _ _ RR5'.out RR6.out).mono ?_
    rw [decide_eq_true rfl]
    rintro e w7 ⟨rfl, n7, rfl⟩
    have hb : Below w.heap.size w (w6.drewN n7) := below_drewN P6.out.bel n7
    go_wp2
    go_ret
    exact ⟨rfl, hb⟩
  · obtain ⟨q1, q2, q3, q4, q5⟩ := Loss.times_at KT.out HN.out HW.out htop
    have Q4 := Lib.hid q4
    have Q5 := Lib.hid q5
    rw [EQ5.out] at q3
    have Q3 := Lib.hid q3
    clear q4 q5 q3
    generalize Loss.next m now win s.kept = at' at *
    go_wp2_with fail
    refine (loss_find w5 G5 p s m at' win hL5 ⟨e0, by omega⟩ ⟨by omega, by omega⟩ ⟨by omega, by omega⟩).mono ?_
    rintro e w6 ⟨A6, n6, c6, rfl, R6, b⟩
    have hn6 : (Loss.lost m at' win s.kept).length = n6 := by have := R6.len; simpa using this
    have hlen : n5 < n6 := by rw [← hn6]; exact Q3.out
    have hc6 := R6.cap
    have hx6 := R6.max
    unfold maxLen at hx6
    have P6 := Lib.hid (P5.out.below b)
    have RR5' := Lib.hid (RR5.out.below b)
    clear b P5 t0 t1 R6 hL5 RR5 hn6
    have t0 := cell_of_row w6 g 0 _ _ _ P6.out.t
    have t1 := cell_of_row w6 g 1 _ _ _ P6.out.t
    obtain ⟨G6, hL6⟩ := P6.out.led
    go_wp2_with fail
    refine (loss_find w6 G6 p s m (at' - 1) win hL6 ⟨e0, by omega⟩ ⟨by omega, by omega⟩ ⟨by omega, by omega⟩).mono ?_
    rw [Q5.out, ← Q4.out]
    rintro e w7 ⟨A7, n7, c7, rfl, R7, b⟩
    have P7 := Lib.hid (P6.out.below b)
    have RR5'' := Lib.hid (RR5'.out.below b)
    have RR7 := Lib.hid R7
    clear b P6 t0 t1 R7 hL6 RR5'
    go_wp2_with fail
    refine (sameNums_any A5 A7 n5 n7 c5 c7 _ _ _ RR5''.out RR7.out).mono ?_
    rw [decide_eq_true rfl]
    rintro e w8 ⟨rfl, n8, rfl⟩
    have hb : Below w.heap.size w (w7.drewN n8) := below_drewN P7.out.bel n8
    go_wp2
    go_ret
    exact ⟨rfl, hb⟩

end Go.Proofs.Yteigflkpopcjkaa
