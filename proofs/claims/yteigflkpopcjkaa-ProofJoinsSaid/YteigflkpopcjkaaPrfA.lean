/-
  The examples of the proof's laws.
-/
import Derived.Test.YteigflkpopcjkaaCheck
import Derived.Test.YteigflkpopcjkaaTriA
namespace Go.Proofs.Yteigflkpopcjkaa
set_option linter.unusedSimpArgs false
set_option linter.unusedVariables false
set_option linter.unnecessarySimpa false
open Go.RowKit

def pr1 : LS := ((LS.new 4 99).send ⟨0, 0, 1, 6, 0, true, false, 0⟩).1
def pr2 : LS := (pr1.send ⟨0, 0, 1, 5, 0, true, false, 0⟩).1
def pr3 : LS := pr2.skip.1
theorem pVals : pr3.sum [(0, 1)] [] = (3, false, true) ∧ pr3.sum [(0, 2)] [] = (0, false, false) ∧ pr3.sum [] [] = (0, false, true) ∧
    Ak.check ⟨none, 1, none, 0, [(0, 1)], [], 0, 3, false⟩ pr3 = (0, 0) ∧ Ak.check ⟨none, 1, none, 0, [(1, 2)], [], 0, 0, false⟩ pr3 = (5, 2) ∧ Ak.check ⟨none, 1, none, 0, [(1, 9)], [], 0, 0, false⟩ pr3 = (4, 3) := by decide +kernel
theorem okN (n : Int) (c : Bool) (h : isU64 n) : Snt.ok ⟨0, 0, 1, n, 0, c, false, 0⟩ :=
  ⟨⟨by simp, by simp⟩, ⟨by simp, by simp⟩, ⟨by simp, by simp⟩, h, ⟨by simp, by simp⟩, ⟨by simp, by simp⟩⟩
theorem Ak.check_congr {a b : Ak} (h1 : a.sp = b.sp) (h2 : a.mm = b.mm) (h3 : a.xo = b.xo) (h4 : a.od = b.od) (s : LS) : a.check s = b.check s := by
  simp [Ak.check, aheadsP, skipsP, sumsP, Ak.lo, h1, h2, h3, h4]

structure AlvP (w : World) (p r g q : Nat) (W : World) : Prop where
  pg : PG w p r g pr3 W
  rs : Rd W 2 (some ⟨q, 0, none⟩) 1 1 (Ss [(0, 1)])
theorem AlvP.below {w W W' : World} {p r g q : Nat} (h : AlvP w p r g q W) (b : Below W.heap.size W W') : AlvP w p r g q W' := ⟨h.pg.below b, h.rs.below b⟩
theorem rd_span (w : World) (x y : Int) : Rd (w.alloc (.cells #[.int .u64 x, .int .u64 y] 96)) 2 (some ⟨w.heap.size, 0, none⟩) 1 1 (Ss [(x, y)]) :=
  Rd.lit_at w 2 #[.int .u64 x, .int .u64 y] 96 1 (Ss [(x, y)]) w.heap.size rfl rfl rfl (by unfold maxLen; omega)

set_option maxHeartbeats 8000000 in
set_option maxRecDepth 100000 in
theorem prfAlive (w : World) : Calls Try.prog 52 #[] w fun e w' => e = .returned (.bool true) ∧ Below w.heap.size w w' := by
  obtain ⟨V1, V2, V3, V4, V5, V6⟩ := pVals
  have HV1 := Lib.hid V1
  have HV2 := Lib.hid V2
  have HV3 := Lib.hid V3
  have HV4 := Lib.hid V4
  have HV5 := Lib.hid V5
  have HV6 := Lib.hid V6
  clear V1 V2 V3 V4 V5 V6
  go_enter Try.func52, Try.ntmps52
  go_wp2_with fail
  refine (make_any 4 99 none 0 0 [] w (Rd.nil_ _ _) (fun d hd => by cases hd) ⟨by omega, by omega⟩).mono ?_
  rintro e w1 ⟨p, r, s, rfl, hT, hb1, hg1, hg2, hg3, hg4, hg5⟩
  obtain rfl := LS.eq_new hg1 hg2 hg5
  have P1 := Lib.hid (PG.of hT hb1)
  clear hT hb1 hg1 hg2 hg3 hg4 hg5
  have t0 := cell_of_row _ w1.heap.size 0 _ _ _ P1.out.t
  have t1 := cell_of_row _ w1.heap.size 1 _ _ _ P1.out.t
  go_wp2_with fail
  generalize hW : (w1.alloc (.cells #[.pointer (some ⟨p, 0, none⟩), .pointer (some ⟨r, 0, none⟩)] 41)) = w2 at *
  clear hW
  generalize w1.heap.size = g at *
  refine (led_send w2 _ p _ ⟨0, 0, 1, 6, 0, true, false, 0⟩ P1.out.led (okN 6 true ⟨by omega, by omega⟩)).mono ?_
  rintro e w3 ⟨rfl, hL, hC⟩
  have P3 : Hid (PG w p r g pr1 w3) := P1.out.step hL hC
  clear hL hC P1 t0 t1
  have t0 := cell_of_row w3 g 0 _ _ _ P3.out.t
  have t1 := cell_of_row w3 g 1 _ _ _ P3.out.t
  go_wp2_with fail
  refine (led_send w3 _ p _ ⟨0, 0, 1, 5, 0, true, false, 0⟩ P3.out.led (okN 5 true ⟨by omega, by omega⟩)).mono ?_
  rintro e w4 ⟨rfl, hL, hC⟩
  have P4 : Hid (PG w p r g pr2 w4) := P3.out.step hL hC
  clear hL hC P3 t0 t1
  have t0 := cell_of_row w4 g 0 _ _ _ P4.out.t
  have t1 := cell_of_row w4 g 1 _ _ _ P4.out.t
  go_wp2_with fail
  refine (led_skip w4 _ p _ P4.out.led).mono ?_
  rintro e w5 ⟨rfl, hL, hC⟩
  have P5 : Hid (PG w p r g pr3 w5) := P4.out.step hL hC
  clear hL hC P4 t0 t1
  have t0 := cell_of_row w5 g 0 _ _ _ P5.out.t
  have t1 := cell_of_row w5 g 1 _ _ _ P5.out.t
  have gl := lt_of_block P5.out.t
  have A5 : Hid (AlvP w p r g w5.heap.size (w5.alloc (.cells #[.int .u64 0, .int .u64 1] 96))) := ⟨P5.out.below (box_below _ _), rd_span w5 0 1⟩
  clear P5
  go_wp2_with fail
  generalize hW : (w5.alloc (.cells #[.int .u64 0, .int .u64 1] 96)) = w6 at *
  clear hW t0 t1
  generalize w5.heap.size = q at *
  refine (sum_any w6 _ p pr3 (some ⟨q, 0, none⟩) none 1 0 [(0, 1)] [] A5.out.pg.led A5.out.rs (Rd.nil_ _ _) (U2s_of rfl) (U2s_of rfl)).mono ?_
  rw [HV1.out]
  rintro e w7 ⟨rfl, b⟩
  have A7 := Lib.hid (A5.out.below b)
  clear b A5 gl
  have t0 := cell_of_row w7 g 0 _ _ _ A7.out.pg.t
  have t1 := cell_of_row w7 g 1 _ _ _ A7.out.pg.t
  have gl := lt_of_block A7.out.pg.t
  have R8 := Lib.hid (rd_span w7 0 2)
  have A8 := Lib.hid (A7.out.below (box_below w7 (.cells #[.int .u64 0, .int .u64 2] 96)))
  go_wp2_with fail
  generalize hW : (w7.alloc (.cells #[.int .u64 0, .int .u64 2] 96)) = w8 at *
  clear hW t0 t1 A7 gl
  generalize w7.heap.size = q2 at *
  refine (sum_any w8 _ p pr3 (some ⟨q2, 0, none⟩) none 1 0 [(0, 2)] [] A8.out.pg.led R8.out (Rd.nil_ _ _) (U2s_of rfl) (U2s_of rfl)).mono ?_
  rw [HV2.out]
  rintro e w9 ⟨rfl, b⟩
  have A9 := Lib.hid (A8.out.below b)
  clear b A8 R8
  have t0 := cell_of_row w9 g 0 _ _ _ A9.out.pg.t
  have t1 := cell_of_row w9 g 1 _ _ _ A9.out.pg.t
  go_wp2_with fail
  refine (sum_any w9 _ p pr3 none none 0 0 [] [] A9.out.pg.led (Rd.nil_ _ _) (Rd.nil_ _ _) (U2s_of rfl) (U2s_of rfl)).mono ?_
  rw [HV3.out]
  rintro e w10 ⟨rfl, b⟩
  have A10 := Lib.hid (A9.out.below b)
  clear b A9 t0 t1
  have t0 := cell_of_row w10 g 0 _ _ _ A10.out.pg.t
  have t1 := cell_of_row w10 g 1 _ _ _ A10.out.pg.t
  go_wp2_with fail
  refine (check_any w10 _ p pr3 ⟨some ⟨q, 0, none⟩, 1, none, 0, [(0, 1)], [], 0, 3, false⟩ A10.out.pg.led ⟨A10.out.rs, Rd.nil_ _ _, U2s_of rfl, U2s_of rfl, ⟨by simp, by simp⟩, ⟨by simp, by simp⟩⟩).mono ?_
  rw [(Ak.check_congr (a := ⟨some ⟨q, 0, none⟩, 1, none, 0, [(0, 1)], [], 0, 3, false⟩) rfl rfl rfl rfl pr3).trans HV4.out]
  rintro e w11 ⟨rfl, b⟩
  have A11 := Lib.hid (A10.out.below b)
  clear b A10 t0 t1
  have t0 := cell_of_row w11 g 0 _ _ _ A11.out.pg.t
  have t1 := cell_of_row w11 g 1 _ _ _ A11.out.pg.t
  have gl := lt_of_block A11.out.pg.t
  have R12 := Lib.hid (rd_span w11 1 2)
  have A12 := Lib.hid (A11.out.below (box_below w11 (.cells #[.int .u64 1, .int .u64 2] 96)))
  go_wp2_with fail
  generalize hW : (w11.alloc (.cells #[.int .u64 1, .int .u64 2] 96)) = w12 at *
  clear hW t0 t1 A11 gl
  generalize w11.heap.size = q3 at *
  refine (check_any w12 _ p pr3 ⟨some ⟨q3, 0, none⟩, 1, none, 0, [(1, 2)], [], 0, 0, false⟩ A12.out.pg.led ⟨R12.out, Rd.nil_ _ _, U2s_of rfl, U2s_of rfl, ⟨by simp, by simp⟩, ⟨by simp, by simp⟩⟩).mono ?_
  rw [(Ak.check_congr (a := ⟨some ⟨q3, 0, none⟩, 1, none, 0, [(1, 2)], [], 0, 0, false⟩) rfl rfl rfl rfl pr3).trans HV5.out]
  rintro e w13 ⟨rfl, b⟩
  have A13 := Lib.hid (A12.out.below b)
  clear b A12 R12
  have t0 := cell_of_row w13 g 0 _ _ _ A13.out.pg.t
  have t1 := cell_of_row w13 g 1 _ _ _ A13.out.pg.t
  have gl := lt_of_block A13.out.pg.t
  have R14 := Lib.hid (rd_span w13 1 9)
  have A14 := Lib.hid (A13.out.below (box_below w13 (.cells #[.int .u64 1, .int .u64 9] 96)))
  go_wp2_with fail
  generalize hW : (w13.alloc (.cells #[.int .u64 1, .int .u64 9] 96)) = w14 at *
  clear hW t0 t1 A13 gl
  generalize w13.heap.size = q4 at *
  refine (check_any w14 _ p pr3 ⟨some ⟨q4, 0, none⟩, 1, none, 0, [(1, 9)], [], 0, 0, false⟩ A14.out.pg.led ⟨R14.out, Rd.nil_ _ _, U2s_of rfl, U2s_of rfl, ⟨by simp, by simp⟩, ⟨by simp, by simp⟩⟩).mono ?_
  rw [(Ak.check_congr (a := ⟨some ⟨q4, 0, none⟩, 1, none, 0, [(1, 9)], [], 0, 0, false⟩) rfl rfl rfl rfl pr3).trans HV6.out]
  rintro e w15 ⟨rfl, b⟩
  have hb := A14.out.pg.bel.trans (b.mono A14.out.pg.bel.size)
  clear b
  go_wp2
  go_ret
  exact ⟨rfl, hb⟩

end Go.Proofs.Yteigflkpopcjkaa
