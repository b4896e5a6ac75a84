/-
  The law GameLucky, walked.
-/
import Derived.Test.YtpfmhkkglaghgaaGamK
namespace Go.Proofs.Ytpfmhkkglaghgaa
set_option linter.unusedSimpArgs false
set_option linter.unusedVariables false
set_option linter.unnecessarySimpa false
open Go.RowKit

/-- A game in a box. -/
structure GmB (q : Nat) (g : Gm) (A : Option Addr) (c : Nat) (W : World) : Prop where
  t : W.heap[q]? = some (.cells #[.int .i64 g.b, .int .i64 g.n, .int .i64 g.came, .int .i64 g.marked, .slice A g.moves.length c] 26 (0, 0))
  r : Rd W 6 A g.moves.length c (Mvs g.moves)
theorem GmB.below {q : Nat} {g : Gm} {A : Option Addr} {c : Nat} {W W' : World} (h : GmB q g A c W) (b : Below W.heap.size W W') : GmB q g A c W' :=
  ⟨(b.block _ (lt_of_block h.t)).trans h.t, h.r.below b⟩

theorem lucky_num {x y b l : Nat} (h : x * 2 ^ b ≤ y * l) (hy : y ≤ 65536) (hl : l ≤ 8) : IntKind.u64.wrap ((x : Int) * 2 ^ b) ≤ IntKind.u64.wrap ((y : Int) * (l : Int)) := by
  have h1 : y * l ≤ 65536 * 8 := Nat.mul_le_mul hy hl
  have e1 : ((x : Int) * 2 ^ b) = ((x * 2 ^ b : Nat) : Int) := by simp
  have e2 : ((y : Int) * (l : Int)) = ((y * l : Nat) : Int) := by simp
  rw [e1, e2]
  generalize x * 2 ^ b = p at *
  generalize y * l = r at *
  rw [IntWalk.u64_in _ (by omega), IntWalk.u64_in _ (by omega)]
  omega

set_option maxHeartbeats 8000000 in
set_option maxRecDepth 100000 in
theorem gameLucky_any (s : Sk) (A : Option Addr) (c : Nat) (w : World) (hs : s.fit) (hr : Rd w 6 A s.moves.length c (MvsR s.moves)) :
    Calls Try.prog 3 #[skVal s A c] w fun e w' => e = .returned (.bool true) ∧ Below w.heap.size w w' := by
  have b0 := box_below w (.cells #[.int .u8 s.bits, .int .u8 s.packets, .int .u8 s.came, .int .u8 s.marked, .slice A s.moves.length c] 24)
  have n0 := heap_alloc_new w (.cells #[.int .u8 s.bits, .int .u8 s.packets, .int .u8 s.came, .int .u8 s.marked, .slice A s.moves.length c] 24)
  have B0 := Lib.hid b0
  have N0 := Lib.hid n0
  have HR := Lib.hid (hr.below b0)
  have GO := Lib.hid (Sk.ok hs (most := 6) (moves := 4) (by omega) (by omega))
  have HS := Lib.hid hs
  clear b0 n0 hr hs
  unfold skVal
  go_enter Try.func3, Try.ntmps3
  go_upto_region 1 with fail
  generalize (w.alloc (.cells #[.int .u8 s.bits, .int .u8 s.packets, .int .u8 s.came, .int .u8 s.marked, .slice A s.moves.length c] 24)) = w1 at *
  have y0 := cell_of_row w1 w.heap.size 0 _ _ _ N0.out
  have y1 := cell_of_row w1 w.heap.size 1 _ _ _ N0.out
  have y2 := cell_of_row w1 w.heap.size 2 _ _ _ N0.out
  have y3 := cell_of_row w1 w.heap.size 3 _ _ _ N0.out
  have y4 := cell_of_row w1 w.heap.size 4 _ _ _ N0.out
  have K := Lib.hid (sk_game s 6 4 A c w1 HS.out (by omega) (by omega) HR.out)
  unfold skVal at K
  rw [show ((6 : Nat) : Int) = 6 from rfl, show ((4 : Nat) : Int) = 4 from rfl] at K
  go_wp2_with fail
  (with_reducible refine K.out.mono ?_)
  rintro e w2 ⟨B, d, rfl, r2, b2⟩
  have R2 := Lib.hid r2
  have B2 := Lib.hid (B0.out.trans (b2.mono B0.out.size))
  clear K r2 b2 N0 HR B0 HS y0 y1 y2 y3 y4
  generalize s.game 6 4 = g at *
  have G3 : Hid (GmB w2.heap.size g B d (w2.alloc (.cells #[.int .i64 g.b, .int .i64 g.n, .int .i64 g.came, .int .i64 g.marked, .slice B g.moves.length d] 26)) ∧ Below w.heap.size w (w2.alloc (.cells #[.int .i64 g.b, .int .i64 g.n, .int .i64 g.came, .int .i64 g.marked, .slice B g.moves.length d] 26))) :=
    Lib.hid ⟨⟨heap_alloc_new _ _, R2.out.below (box_below _ _)⟩, B2.out.trans ((box_below _ _).mono B2.out.size)⟩
  unfold gmVal
  go_upto_region 2 with fail
  generalize (w2.alloc (.cells #[.int .i64 g.b, .int .i64 g.n, .int .i64 g.came, .int .i64 g.marked, .slice B g.moves.length d] 26)) = w3 at *
  generalize w2.heap.size = q at *
  have K := Lib.hid (gamAlive w3)
  go_wp2_with fail
  (with_reducible refine K.out.mono ?_)
  rintro e w4 ⟨rfl, b4⟩
  have G4 := Lib.hid (G3.out.1.below b4)
  have B4 := Lib.hid (G3.out.2.trans (b4.mono G3.out.2.size))
  clear K b4 G3 B2 R2
  go_upto_region 4 with fail
  have m0 := mixc (v := .int .i64 g.b) (cell_of_row w4 q 0 _ _ _ G4.out.t)
  have m1 := mixc (v := .int .i64 g.n) (cell_of_row w4 q 1 _ _ _ G4.out.t)
  have m2 := mixc (v := .int .i64 g.came) (cell_of_row w4 q 2 _ _ _ G4.out.t)
  have m3 := mixc (v := .int .i64 g.marked) (cell_of_row w4 q 3 _ _ _ G4.out.t)
  have m4 := mixc (v := .slice B g.moves.length d) (cell_of_row w4 q 4 _ _ _ G4.out.t)
  have KL := Lib.hid (fun u => gam_lucky g B d (mix w4 u) GO.out (G4.out.r.mix u))
  have KD := Lib.hid (fun u => gam_drawsG g B d (mix w4 u) GO.out (G4.out.r.mix u))
  unfold gmVal at KL KD
  have hb := GO.out.b6
  have hl := GO.out.len
  have HL := Lib.hid (lucky_le GO.out)
  have hd := gm_draws_lt GO.out
  have hk : luckyN g ≤ g.draws := count_le _ _
  generalize luckyN g = x at *
  generalize g.draws = y at *
  refine wp_region_below (by kernel_rfl) (by kernel_rfl) ?_
  repeat (first | go_big_quiet_step ((first | (go_at_call 8; exact Calls.mix_of (KL.out _)) | (go_at_call 9; exact Calls.mix_of (KD.out _)))) | quiet_step ((first | (go_at_call 8; exact Calls.mix_of (KL.out _)) | (go_at_call 9; exact Calls.mix_of (KD.out _)))))
  refine wpQuiet_nil ?_
  intro w5 b5
  go_wp2
  go_ret
  refine ⟨ret_bool (a := decide (IntKind.u64.wrap ((x : Int) * 2 ^ g.b) ≤ IntKind.u64.wrap ((y : Int) * (g.moves.length : Int)))) (decide_eq_true ?_), B4.out.trans (b5.mono B4.out.size)⟩
  exact lucky_num HL.out hd hl

end Go.Proofs.Ytpfmhkkglaghgaa
