/-
  The examples of the chapter on loss.
-/
import Derived.Test.YteigflkpopcjkaaLossR
import Derived.Test.YteigflkpopcjkaaLedTells
namespace Go.Proofs.Yteigflkpopcjkaa
set_option linter.unusedSimpArgs false
set_option linter.unusedVariables false
set_option linter.unnecessarySimpa false
open Go.RowKit

theorem LS.eq_new {s : LS} {ring limit : Int} (h1 : s.ring = (LS.new ring limit).ring) (h2 : s.limit = (LS.new ring limit).limit) (h3 : s.all.length ≤ ([] : List Dd).length) : s = LS.new ring limit := by
  cases s
  simp at h1 h2 h3
  simp [h1, h2, h3, LS.new]

def b1 : LS := ((LS.new 8 99).send ⟨0, 0, 1, 0, 0, false, false, 0⟩).1
def b2 : LS := (b1.send ⟨0, 0, 1, 0, 50, false, false, 0⟩).1
theorem bVals : Loss.lost 9 9 9 (LS.new 8 99).kept = [] ∧ Loss.next 9 9 9 (LS.new 8 99).kept = 18446744073709551615 ∧ Loss.lost 2 100 100 b2.kept = [0] ∧ Loss.next 2 100 100 b2.kept = 150 := by decide +kernel

theorem ok50 : Snt.ok ⟨0, 0, 1, 0, 50, false, false, 0⟩ :=
  ⟨⟨by simp, by simp⟩, ⟨by simp, by simp⟩, ⟨by simp, by simp⟩, ⟨by simp, by simp⟩, ⟨by simp, by simp⟩, ⟨by simp, by simp⟩⟩

/-- As PB, where the ledger may grow. -/
structure PG (w : World) (p r g : Nat) (s : LS) (v : World) : Prop where
  led : LedP v (But w g) p s
  t : v.heap[g]? = some (.cells #[.pointer (some ⟨p, 0, none⟩), .pointer (some ⟨r, 0, none⟩)] 41 (0, 0))
  ge : w.heap.size ≤ g
  bel : Below w.heap.size w v
theorem PG.below {w v v' : World} {p r g : Nat} {s : LS} (h : PG w p r g s v) (b : Below v.heap.size v v') : PG w p r g s v' :=
  ⟨h.led.below b, (b.block _ (lt_of_block h.t)).trans h.t, h.ge, h.bel.trans (b.mono h.bel.size)⟩
theorem PG.step {w v v' : World} {p r g : Nat} {s s' : LS} (h : PG w p r g s v) (hL : LedP v' (Grow (But w g) v) p s') (hC : Chg (But w g) v v') : PG w p r g s' v' := by
  have hg := lt_of_block h.t
  refine ⟨hL.sub (fun j _ hj => ?_), hC.blk h.t (fun e => e.2 rfl), h.ge, h.bel.trans (hC.below h.bel.size (fun k hk e => by have := e.1; omega))⟩
  rcases hj with hj | hj
  · exact hj
  · have := h.bel.size
    exact ⟨by omega, by omega⟩
theorem PG.of {w w1 : World} {p r : Nat} {s : LS} (hT : Two w1 (fun j => w.heap.size ≤ j) p r s) (hb : Below w.heap.size w w1) :
    PG w p r w1.heap.size s (w1.alloc (.cells #[.pointer (some ⟨p, 0, none⟩), .pointer (some ⟨r, 0, none⟩)] 41)) := by
  obtain ⟨G, H, hP, hF⟩ := hT
  have eb := box_below w1 (.cells #[.pointer (some ⟨p, 0, none⟩), .pointer (some ⟨r, 0, none⟩)] 41)
  exact ⟨(hP.p.below eb).sub (fun k hk hg => ⟨(hF k (.inl hg)).1, by have := (hF k (.inl hg)).2; omega⟩), heap_alloc_new w1 _, hb.size, hb.trans (eb.mono hb.size)⟩

set_option maxHeartbeats 4000000 in
set_option maxRecDepth 100000 in
theorem lossAlive (w : World) : Calls Try.prog 41 #[] w fun e w' => e = .returned (.bool true) ∧ Below w.heap.size w w' := by
  obtain ⟨V1, V2, V3, V4⟩ := bVals
  have HV1 := Lib.hid V1
  have HV2 := Lib.hid V2
  have HV3 := Lib.hid V3
  have HV4 := Lib.hid V4
  clear V1 V2 V3 V4
  go_enter Try.func41, Try.ntmps41
  go_wp2_with fail
  refine (make_any 8 99 none 0 0 [] w (Rd.nil_ _ _) (fun d hd => by cases hd) ⟨by omega, by omega⟩).mono ?_
  rintro e w1 ⟨p, r, s, rfl, hT, hb1, hg1, hg2, hg3, hg4, hg5⟩
  obtain rfl := LS.eq_new hg1 hg2 hg5
  have P1 := Lib.hid (PG.of hT hb1)
  clear hT hb1 hg1 hg2 hg3 hg4 hg5
  have t0 := cell_of_row _ w1.heap.size 0 _ _ _ P1.out.t
  have t1 := cell_of_row _ w1.heap.size 1 _ _ _ P1.out.t
  go_wp2_with fail
  generalize hW : (w1.alloc (.cells #[.pointer (some ⟨p, 0, none⟩), .pointer (some ⟨r, 0, none⟩)] 41)) = w2 at *
  clear hW
  generalize w1.heap.size = g at *
  refine (loss_find w2 _ p _ 9 9 9 P1.out.led ⟨by omega, by omega⟩ ⟨by omega, by omega⟩ ⟨by omega, by omega⟩).mono ?_
  rw [HV1.out, HV2.out]
  rintro e w3 ⟨A3, n3, c3, rfl, R3, b⟩
  have hn3 : n3 = 0 := by have := R3.len; simp at this; omega
  subst hn3
  have P3 := Lib.hid (P1.out.below b)
  clear b P1 t0 t1 R3
  have t0 := cell_of_row w3 g 0 _ _ _ P3.out.t
  have t1 := cell_of_row w3 g 1 _ _ _ P3.out.t
  go_wp2_with fail
  refine (led_send w3 _ p _ ⟨0, 0, 1, 0, 0, false, false, 0⟩ P3.out.led (ok0 _ _ ⟨by omega, by omega⟩ ⟨by omega, by omega⟩)).mono ?_
  rintro e w4 ⟨rfl, hL, hC⟩
  have P4 : Hid (PG w p r g b1 w4) := P3.out.step hL hC
  clear hL hC P3 t0 t1
  have t0 := cell_of_row w4 g 0 _ _ _ P4.out.t
  have t1 := cell_of_row w4 g 1 _ _ _ P4.out.t
  go_wp2_with fail
  refine (led_send w4 _ p b1 ⟨0, 0, 1, 0, 50, false, false, 0⟩ P4.out.led ok50).mono ?_
  rintro e w5 ⟨rfl, hL, hC⟩
  have P5 : Hid (PG w p r g b2 w5) := P4.out.step hL hC
  clear hL hC P4 t0 t1
  have t0 := cell_of_row w5 g 0 _ _ _ P5.out.t
  have t1 := cell_of_row w5 g 1 _ _ _ P5.out.t
  go_wp2_with fail
  refine (loss_find w5 _ p b2 2 100 100 P5.out.led ⟨by omega, by omega⟩ ⟨by omega, by omega⟩ ⟨by omega, by omega⟩).mono ?_
  rw [HV3.out, HV4.out]
  rintro e w6 ⟨A6, n6, c6, rfl, R6, b⟩
  have hn6 : n6 = 1 := by have := R6.len; simp at this; omega
  subst hn6
  have P6 := Lib.hid (P5.out.below b)
  clear b P5 t0 t1
  have RL := Lib.hid (Rd.lit_at w6 1 #[.int .u64 0] 25 1 (Us [0]) w6.heap.size rfl rfl rfl (by unfold maxLen; omega))
  have R7 := Lib.hid (R6.below (box_below w6 (.cells #[.int .u64 0] 25)))
  clear R6
  go_wp2_with fail
  refine (sameNums_any A6 (some ⟨w6.heap.size, 0, none⟩) 1 1 c6 1 [0] [0] _ R7.out RL.out).mono ?_
  rw [decide_eq_true (rfl : ([0] : List Int) = [0])]
  rintro e w7 ⟨rfl, q⟩
  have hb : Below w.heap.size w w7 := (P6.out.bel.alloc P6.out.bel.size _).trans q.below
  clear q
  go_wp2
  go_ret
  exact ⟨rfl, hb⟩

end Go.Proofs.Yteigflkpopcjkaa
