/-
  The examples of the trigger's law.
-/
import Derived.Test.YteigflkpopcjkaaLookR
import Derived.Test.YteigflkpopcjkaaPG
namespace Go.Proofs.Yteigflkpopcjkaa
set_option linter.unusedSimpArgs false
set_option linter.unusedVariables false
set_option linter.unnecessarySimpa false
open Go.RowKit

theorem Ak.look1_congr {a b : Ak} (h1 : a.sp = b.sp) (h3 : a.tr = b.tr) (l : List Snt) : a.look1 l = b.look1 l := by
  induction l with
  | nil => rfl
  | cons x r ih => simp [Ak.look1, Ak.named, h1, h3, ih]
theorem Ak.look_congr {a b : Ak} (h1 : a.sp = b.sp) (h2 : a.mm = b.mm) (h3 : a.tr = b.tr) (s : LS) : a.look s = b.look s := by
  simp [Ak.look, Ak.lo, h1, h2, Ak.look1_congr h1 h3]

def s77 : Snt := ⟨0, 0, 1, 77, 0, false, false, 0⟩
def t77 : LS := ((LS.new 4 99).send s77).1
theorem tVals : Ak.look ⟨none, 1, none, 0, [(0, 0)], [], 77, 0, false⟩ t77 = (0, 0) ∧ Ak.look ⟨none, 1, none, 0, [(0, 0)], [], 78, 0, false⟩ t77 = (0, 3) ∧ Ak.look ⟨none, 0, none, 0, [], [], 0, 0, false⟩ t77 = (0, 1) := by decide +kernel
theorem ok77 : s77.ok := ⟨⟨by simp [s77], by simp [s77]⟩, ⟨by simp [s77], by simp [s77]⟩, ⟨by simp [s77], by simp [s77]⟩, ⟨by simp [s77], by simp [s77]⟩, ⟨by simp [s77], by simp [s77]⟩, ⟨by simp [s77], by simp [s77]⟩⟩

structure AlvRel (w : World) (p r g q : Nat) (W : World) : Prop where
  pg : PG w p r g t77 W
  rs : Rd W 2 (some ⟨q, 0, none⟩) 1 1 (Ss [(0, 0)])
  b3 : W.heap[q + 1]? = some (.cells #[.slice (some ⟨q, 0, none⟩) 1 1, .slice none 0 0, .int .u64 77, .int .u64 0, .bool false] 71 (0, 0))
  b4 : W.heap[q + 1 + 1]? = some (.cells #[.slice (some ⟨q, 0, none⟩) 1 1, .slice none 0 0, .int .u64 78, .int .u64 0, .bool false] 71 (0, 0))
theorem AlvRel.below {w W W' : World} {p r g q : Nat} (h : AlvRel w p r g q W) (b : Below W.heap.size W W') : AlvRel w p r g q W' :=
  ⟨h.pg.below b, h.rs.below b, (b.block _ (lt_of_block h.b3)).trans h.b3, (b.block _ (lt_of_block h.b4)).trans h.b4⟩
theorem AlvRel.of {w w3 : World} {p r g : Nat} (h : PG w p r g t77 w3) :
    AlvRel w p r g w3.heap.size (((w3.alloc (.cells #[.int .u64 0, .int .u64 0] 96)).alloc (.cells #[.slice (some ⟨w3.heap.size, 0, none⟩) 1 1, .slice none 0 0, .int .u64 77, .int .u64 0, .bool false] 71)).alloc (.cells #[.slice (some ⟨w3.heap.size, 0, none⟩) 1 1, .slice none 0 0, .int .u64 78, .int .u64 0, .bool false] 71)) := by
  generalize hS : w3.alloc (.cells #[.int .u64 0, .int .u64 0] 96) = wS
  have z1 : wS.heap.size = w3.heap.size + 1 := by subst hS; simp
  have RL : Rd wS 2 (some ⟨w3.heap.size, 0, none⟩) 1 1 (Ss [(0, 0)]) := by subst hS; exact Rd.lit_at w3 2 #[.int .u64 0, .int .u64 0] 96 1 (Ss [(0, 0)]) w3.heap.size rfl rfl rfl (by unfold maxLen; omega)
  have hs : PG w p r g t77 wS := by subst hS; exact h.below (box_below _ _)
  generalize hC : (Obj.cells #[.slice (some ⟨w3.heap.size, 0, none⟩) 1 1, .slice none 0 0, .int .u64 77, .int .u64 0, .bool false] 71) = C
  have e1 := heap_alloc_new wS C
  have q1 := box_below wS C
  generalize hA : wS.alloc C = wA at *
  have z2 : wA.heap.size = w3.heap.size + 1 + 1 := by subst hA; simp [z1]
  generalize hD : (Obj.cells #[.slice (some ⟨w3.heap.size, 0, none⟩) 1 1, .slice none 0 0, .int .u64 78, .int .u64 0, .bool false] 71) = D
  have e2 := heap_alloc_new wA D
  have q2 := box_below wA D
  rw [z1] at e1
  rw [z2] at e2
  subst hC
  subst hD
  exact ⟨(hs.below q1).below q2, (RL.below q1).below q2, (q2.block _ (lt_of_block e1)).trans e1, e2⟩

set_option maxHeartbeats 4000000 in
set_option maxRecDepth 100000 in
theorem triAlive (w : World) : Calls Try.prog 47 #[] w fun e w' => e = .returned (.bool true) ∧ Below w.heap.size w w' := by
  obtain ⟨V1, V2, V3⟩ := tVals
  have HV1 := Lib.hid V1
  have HV2 := Lib.hid V2
  have HV3 := Lib.hid V3
  clear V1 V2 V3
  go_enter Try.func47, Try.ntmps47
  go_wp2_with fail
  refine (make_any 4 99 none 0 0 [] w (Rd.nil_ _ _) (fun d hd => by cases hd) ⟨by omega, by omega⟩).mono ?_
  rintro e w1 ⟨p, r, s, rfl, hT, hb1, hg1, hg2, hg3, hg4, hg5⟩
  obtain rfl := LS.eq_new hg1 hg2 hg5
  have P1 := Lib.hid (PG.of hT hb1)
  clear hT hb1 hg1 hg2 hg3 hg4 hg5
  have t0 := cell_of_row _ w1.heap.size 0 _ _ _ P1.out.t
  have t1 := cell_of_row _ w1.heap.size 1 _ _ _ P1.out.t
  go_wp2_with fail
  generalize hW : (w1.alloc (.cells #[.pointer (some ⟨p, 0, none⟩), .pointer (some ⟨r, 0, none⟩)] 41)) = w2 at *
  clear hW
  generalize w1.heap.size = g at *
  refine (led_send w2 _ p _ ⟨0, 0, 1, 77, 0, false, false, 0⟩ P1.out.led ok77).mono ?_
  rintro e w3 ⟨rfl, hL, hC⟩
  have P3 : Hid (PG w p r g t77 w3) := P1.out.step hL hC
  clear hL hC P1 t0 t1
  have t0 := cell_of_row w3 g 0 _ _ _ P3.out.t
  have t1 := cell_of_row w3 g 1 _ _ _ P3.out.t
  have gl := lt_of_block P3.out.t
  have gl2 : g < w3.heap.size + 1 := by omega
  have gl3 : g < w3.heap.size + 1 + 1 := by omega
  have A3 := Lib.hid (AlvRel.of P3.out)
  clear P3
  go_wp2_with fail
  generalize hW : (((w3.alloc (.cells #[.int .u64 0, .int .u64 0] 96)).alloc (.cells #[.slice (some ⟨w3.heap.size, 0, none⟩) 1 1, .slice none 0 0, .int .u64 77, .int .u64 0, .bool false] 71)).alloc (.cells #[.slice (some ⟨w3.heap.size, 0, none⟩) 1 1, .slice none 0 0, .int .u64 78, .int .u64 0, .bool false] 71)) = w4 at *
  clear hW t0 t1
  generalize w3.heap.size = q at *
  refine (look_any w4 _ p t77 ⟨some ⟨q, 0, none⟩, 1, none, 0, [(0, 0)], [], 77, 0, false⟩ A3.out.pg.led ⟨A3.out.rs, Rd.nil_ _ _, U2s_of rfl, U2s_of rfl, ⟨by simp, by simp⟩, ⟨by simp, by simp⟩⟩).mono ?_
  rw [(Ak.look_congr (a := ⟨some ⟨q, 0, none⟩, 1, none, 0, [(0, 0)], [], 77, 0, false⟩) rfl rfl rfl t77).trans HV1.out]
  rintro e w5 ⟨rfl, b⟩
  have A5 := Lib.hid (A3.out.below b)
  clear b A3 gl gl2 gl3
  have t0 := cell_of_row w5 g 0 _ _ _ A5.out.pg.t
  have t1 := cell_of_row w5 g 1 _ _ _ A5.out.pg.t
  have v0 := cell_of_row w5 (q + 1 + 1) 0 _ _ _ A5.out.b4
  have v1 := cell_of_row w5 (q + 1 + 1) 1 _ _ _ A5.out.b4
  have v2 := cell_of_row w5 (q + 1 + 1) 2 _ _ _ A5.out.b4
  have v3 := cell_of_row w5 (q + 1 + 1) 3 _ _ _ A5.out.b4
  have v4 := cell_of_row w5 (q + 1 + 1) 4 _ _ _ A5.out.b4
  go_wp2_with fail
  refine (look_any w5 _ p t77 ⟨some ⟨q, 0, none⟩, 1, none, 0, [(0, 0)], [], 78, 0, false⟩ A5.out.pg.led ⟨A5.out.rs, Rd.nil_ _ _, U2s_of rfl, U2s_of rfl, ⟨by simp, by simp⟩, ⟨by simp, by simp⟩⟩).mono ?_
  rw [(Ak.look_congr (a := ⟨some ⟨q, 0, none⟩, 1, none, 0, [(0, 0)], [], 78, 0, false⟩) rfl rfl rfl t77).trans HV2.out]
  rintro e w6 ⟨rfl, b⟩
  have A6 := Lib.hid (A5.out.below b)
  clear b A5 t0 t1 v0 v1 v2 v3 v4
  have t0 := cell_of_row w6 g 0 _ _ _ A6.out.pg.t
  have t1 := cell_of_row w6 g 1 _ _ _ A6.out.pg.t
  go_wp2_with fail
  refine (look_any w6 _ p t77 ⟨none, 0, none, 0, [], [], 0, 0, false⟩ A6.out.pg.led ⟨Rd.nil_ _ _, Rd.nil_ _ _, U2s_of rfl, U2s_of rfl, ⟨by simp, by simp⟩, ⟨by simp, by simp⟩⟩).mono ?_
  rw [HV3.out]
  rintro e w7 ⟨rfl, b⟩
  have hb := A6.out.pg.bel.trans (b.mono A6.out.pg.bel.size)
  clear b
  go_wp2
  go_ret
  exact ⟨rfl, hb⟩

end Go.Proofs.Yteigflkpopcjkaa
