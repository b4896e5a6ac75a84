/-
  The walk of LossFinds.
-/
import Derived.Test.YteigflkpopcjkaaLossA
namespace Go.Proofs.Yteigflkpopcjkaa
set_option linter.unusedSimpArgs false
set_option linter.unusedVariables false
set_option linter.unnecessarySimpa false
open Go.RowKit

theorem TellRel.of {w w1 : World} {p r : Nat} {s : LS} (hT : Two w1 (fun j => w.heap.size ≤ j) p r s) (hb : Below w.heap.size w w1) (hl : s.all.length ≤ 80) :
    TellRel w p r w1.heap.size 80 s (w1.alloc (.cells #[.pointer (some ⟨p, 0, none⟩), .pointer (some ⟨r, 0, none⟩)] 41)) := by
  have eb := box_below w1 (.cells #[.pointer (some ⟨p, 0, none⟩), .pointer (some ⟨r, 0, none⟩)] 41)
  refine ⟨?_, heap_alloc_new w1 _, hb.trans (eb.mono hb.size), hl⟩
  obtain ⟨G, H, hP, hF⟩ := hT
  exact ⟨G, H, hP.below eb, fun k hk => ⟨⟨(hF k hk).1, by have := (hF k hk).2; omega⟩, Nat.lt_of_lt_of_le (hF k hk).2 eb.size⟩⟩
theorem TellRel.led {w wr : World} {p r g k : Nat} {s : LS} (h : TellRel w p r g k s wr) : ∃ G, LedP wr G p s := by
  obtain ⟨G, H, hP, _⟩ := h.two
  exact ⟨G, hP.p⟩
theorem TellRel.ledR {w wr : World} {p r g k : Nat} {s : LS} (h : TellRel w p r g k s wr) : ∃ G, LedR wr G r s := by
  obtain ⟨G, H, hP, _⟩ := h.two
  exact ⟨H, hP.r⟩

set_option maxHeartbeats 8000000 in
set_option maxRecDepth 100000 in
theorem lossFinds_any (ring lg now win : Int) (near : Bool) (A : Option Addr) (n c : Nat) (l : List Dd) (w : World) (hr : Rd w 3 A n c (Ds l)) (hok : ∀ d ∈ l, d.ok) (hring : 0 ≤ ring ∧ ring ≤ 255) (h1 : isU64 lg) (h2 : isU64 now) (h3 : isU64 win) :
    Calls Try.prog 8 #[.int .u8 ring, .slice A n c, .int .u64 lg, .int .u64 now, .int .u64 win, .bool near] w fun e w' => e = .returned (.bool true) ∧ Below w.heap.size w w' := by
  obtain ⟨r0, r1⟩ := hring
  have U1 := Lib.hid h1
  have U2 := Lib.hid h2
  have U3 := Lib.hid h3
  obtain ⟨lg0, lg1⟩ := h1
  obtain ⟨no0, no1⟩ := h2
  obtain ⟨wi0, wi1⟩ := h3
  have HR := Lib.hid hr
  have OK := Lib.hid hok
  clear hr hok
  go_enter Try.func8, Try.ntmps8
  go_wp2_with fail
  refine (make_any (ring % 40) 4611686018427387903 A n c l w HR.out OK.out ⟨by omega, by omega⟩).mono ?_
  rintro e w1 ⟨p, r, s, rfl, hT, hb1, hg1, hg2, hg3, hg4, hg5⟩
  have P1 := Lib.hid (TellRel.of hT hb1 hg3)
  clear hT hb1 hg1 hg2 hg4 hg5
  go_wp2_with fail
  generalize hW : (w1.alloc (.cells #[.pointer (some ⟨p, 0, none⟩), .pointer (some ⟨r, 0, none⟩)] 41)) = w2 at *
  clear hW
  generalize w1.heap.size = g at *
  refine (lossAlive w2).mono ?_
  rintro e w3 ⟨rfl, b⟩
  have P3 := Lib.hid (P1.out.below b)
  clear b P1
  have tail : ∀ (lg now win : Int) (wx : World), isU64 lg → isU64 now → isU64 win → TellRel w p r g 80 s wx → True := fun _ _ _ _ _ _ _ _ => trivial
  clear tail
  cases near with
  | true =>
    have t0 := cell_of_row w3 g 0 _ _ _ P3.out.t
    have t1 := cell_of_row w3 g 1 _ _ _ P3.out.t
    obtain ⟨H3, hR3⟩ := P3.out.ledR
    have e0 := Int.emod_nonneg lg (show (s.all.length : Int) + 5 ≠ 0 by omega)
    have e1 := Int.emod_lt_of_pos lg (show (0 : Int) < (s.all.length : Int) + 5 by omega)
    go_wp2_with fail
    refine (ledR_next w3 H3 r s hR3).mono ?_
    rintro e w4 ⟨rfl, n4, rfl⟩
    have P4 : Hid (TellRel w p r g 80 s (w3.drewN n4)) := P3.out.below (below_drewN (Below.refl _ _) _)
    generalize w3.drewN n4 = w4 at *
    clear t0 t1 hR3 P3
    have t0 := cell_of_row w4 g 0 _ _ _ P4.out.t
    have t1 := cell_of_row w4 g 1 _ _ _ P4.out.t
    obtain ⟨G4, hL4⟩ := P4.out.led
    go_wp2_with fail
    refine (loss_find w4 G4 p s _ _ _ hL4 ⟨e0, by omega⟩ ⟨by omega, by omega⟩ ⟨by omega, by omega⟩).mono ?_
    rintro e w5 ⟨A5, n5, c5, rfl, R5, b⟩
    have P5 := Lib.hid (P4.out.below b)
    have RR5 := Lib.hid R5
    clear b P4 t0 t1 R5 hL4
    have t0 := cell_of_row w5 g 0 _ _ _ P5.out.t
    have t1 := cell_of_row w5 g 1 _ _ _ P5.out.t
    obtain ⟨H5, hR5⟩ := P5.out.ledR
    go_wp2_with fail
    refine (lossR_find w5 H5 r s _ _ _ hR5 ⟨e0, by omega⟩ ⟨by omega, by omega⟩ ⟨by omega, by omega⟩).mono ?_
    rintro e w6 ⟨A6, n6, c6, rfl, R6, b⟩
    have P6 := Lib.hid (P5.out.below b)
    have RR5' := Lib.hid (RR5.out.below b)
    have RR6 := Lib.hid R6
    clear b P5 t0 t1 R6 hR5 RR5
    have t0 := cell_of_row w6 g 0 _ _ _ P6.out.t
    have t1 := cell_of_row w6 g 1 _ _ _ P6.out.t
    go_wp2_with fail
    refine (sameNums_any A5 A6 n5 n6 c5 c6 _ _ _ RR5'.out RR6.out).mono ?_
    rw [decide_eq_true rfl]
    rintro e w7 ⟨rfl, n7, rfl⟩
    go_wp2_with fail
    refine (two_same _ _ p r s (P6.out.two.below (below_drewN (Below.refl _ _) n7))).mono ?_
    rintro e w8 ⟨rfl, b⟩
    have hb : Below w.heap.size w w8 := (below_drewN P6.out.bel n7).trans (b.mono (below_drewN P6.out.bel n7).size)
    clear b
    go_wp2
    go_ret
    exact ⟨rfl, hb⟩
  | false =>
    have t0 := cell_of_row w3 g 0 _ _ _ P3.out.t
    have t1 := cell_of_row w3 g 1 _ _ _ P3.out.t
    obtain ⟨G4, hL4⟩ := P3.out.led
    go_wp2_with fail
    refine (loss_find w3 G4 p s lg now win hL4 U1.out U2.out U3.out).mono ?_
    rintro e w5 ⟨A5, n5, c5, rfl, R5, b⟩
    have P5 := Lib.hid (P3.out.below b)
    have RR5 := Lib.hid R5
    clear b P3 t0 t1 R5 hL4
    have t0 := cell_of_row w5 g 0 _ _ _ P5.out.t
    have t1 := cell_of_row w5 g 1 _ _ _ P5.out.t
    obtain ⟨H5, hR5⟩ := P5.out.ledR
    go_wp2_with fail
    refine (lossR_find w5 H5 r s lg now win hR5 U1.out U2.out U3.out).mono ?_
    rintro e w6 ⟨A6, n6, c6, rfl, R6, b⟩
    have P6 := Lib.hid (P5.out.below b)
    have RR5' := Lib.hid (RR5.out.below b)
    have RR6 := Lib.hid R6
    clear b P5 t0 t1 R6 hR5 RR5
    have t0 := cell_of_row w6 g 0 _ _ _ P6.out.t
    have t1 := cell_of_row w6 g 1 _ _ _ P6.out.t
    go_wp2_with fail
    refine (sameNums_any A5 A6 n5 n6 c5 c6 _ _ _ RR5'.out RR6.out).mono ?_
    rw [decide_eq_true rfl]
    rintro e w7 ⟨rfl, n7, rfl⟩
    go_wp2_with fail
    refine (two_same _ _ p r s (P6.out.two.below (below_drewN (Below.refl _ _) n7))).mono ?_
    rintro e w8 ⟨rfl, b⟩
    have hb : Below w.heap.size w w8 := (below_drewN P6.out.bel n7).trans (b.mono (below_drewN P6.out.bel n7).size)
    clear b
    go_wp2
    go_ret
    exact ⟨rfl, hb⟩

end Go.Proofs.Yteigflkpopcjkaa
