/-
  The law GameHidden, walked.
-/
import Derived.Test.YtpfmhkkglaghgaaGamLu
namespace Go.Proofs.Ytpfmhkkglaghgaa
set_option linter.unusedSimpArgs false
set_option linter.unusedVariables false
set_option linter.unnecessarySimpa false
open Go.RowKit

theorem hidden_num {x y j : Nat} (h : x * 2 ^ j ≤ y) (hy : y ≤ 65536) : ¬ IntKind.u64.wrap ((x : Int) * 2 ^ j) > (y : Int) := by
  have e1 : ((x : Int) * 2 ^ j) = ((x * 2 ^ j : Nat) : Int) := by simp
  rw [e1]
  generalize x * 2 ^ j = p at *
  rw [IntWalk.u64_in _ (by omega)]
  omega

set_option maxHeartbeats 8000000 in
set_option maxRecDepth 100000 in
theorem gameHidden_any (s : Sk) (A : Option Addr) (c : Nat) (w : World) (hs : s.fit) (hr : Rd w 6 A s.moves.length c (MvsR s.moves)) :
    Calls Try.prog 5 #[skVal s A c] w fun e w' => e = .returned (.bool true) ∧ Below w.heap.size w w' := by
  have b0 := box_below w (.cells #[.int .u8 s.bits, .int .u8 s.packets, .int .u8 s.came, .int .u8 s.marked, .slice A s.moves.length c] 24)
  have n0 := heap_alloc_new w (.cells #[.int .u8 s.bits, .int .u8 s.packets, .int .u8 s.came, .int .u8 s.marked, .slice A s.moves.length c] 24)
  have B0 := Lib.hid b0
  have N0 := Lib.hid n0
  have HR := Lib.hid (hr.below b0)
  have GO := Lib.hid (Sk.ok hs (most := 6) (moves := 5) (by omega) (by omega))
  have HS := Lib.hid hs
  clear b0 n0 hr hs
  unfold skVal
  go_enter Try.func5, Try.ntmps5
  go_upto_region 1 with fail
  generalize (w.alloc (.cells #[.int .u8 s.bits, .int .u8 s.packets, .int .u8 s.came, .int .u8 s.marked, .slice A s.moves.length c] 24)) = w1 at *
  have y0 := cell_of_row w1 w.heap.size 0 _ _ _ N0.out
  have y1 := cell_of_row w1 w.heap.size 1 _ _ _ N0.out
  have y2 := cell_of_row w1 w.heap.size 2 _ _ _ N0.out
  have y3 := cell_of_row w1 w.heap.size 3 _ _ _ N0.out
  have y4 := cell_of_row w1 w.heap.size 4 _ _ _ N0.out
  have K := Lib.hid (sk_game s 6 5 A c w1 HS.out (by omega) (by omega) HR.out)
  unfold skVal at K
  rw [show ((6 : Nat) : Int) = 6 from rfl, show ((5 : Nat) : Int) = 5 from rfl] at K
  go_wp2_with fail
  (with_reducible refine K.out.mono ?_)
  rintro e w2 ⟨B, d, rfl, r2, b2⟩
  have R2 := Lib.hid r2
  have B2 := Lib.hid (B0.out.trans (b2.mono B0.out.size))
  clear K r2 b2 N0 HR B0 HS y0 y1 y2 y3 y4
  generalize s.game 6 5 = g at *
  have G3 : Hid (GmB w2.heap.size g B d (w2.alloc (.cells #[.int .i64 g.b, .int .i64 g.n, .int .i64 g.came, .int .i64 g.marked, .slice B g.moves.length d] 26)) ∧ Below w.heap.size w (w2.alloc (.cells #[.int .i64 g.b, .int .i64 g.n, .int .i64 g.came, .int .i64 g.marked, .slice B g.moves.length d] 26))) :=
    Lib.hid ⟨⟨heap_alloc_new _ _, R2.out.below (box_below _ _)⟩, B2.out.trans ((box_below _ _).mono B2.out.size)⟩
  unfold gmVal
  go_upto_region 2 with fail
  generalize (w2.alloc (.cells #[.int .i64 g.b, .int .i64 g.n, .int .i64 g.came, .int .i64 g.marked, .slice B g.moves.length d] 26)) = w3 at *
  generalize w2.heap.size = q at *
  have K := Lib.hid (gamAlive w3)
  go_wp2_with fail
  (with_reducible refine K.out.mono ?_)
  rintro e w4 ⟨rfl, b4⟩
  have G4 := Lib.hid (G3.out.1.below b4)
  have B4 := Lib.hid (G3.out.2.trans (b4.mono G3.out.2.size))
  clear K b4 G3 B2 R2
  go_upto_region 4 with fail
  have y0 := cell_of_row w4 q 0 _ _ _ G4.out.t
  have y1 := cell_of_row w4 q 1 _ _ _ G4.out.t
  have y2 := cell_of_row w4 q 2 _ _ _ G4.out.t
  have y3 := cell_of_row w4 q 3 _ _ _ G4.out.t
  have y4 := cell_of_row w4 q 4 _ _ _ G4.out.t
  have KD := Lib.hid (gam_drawsG g B d w4 GO.out G4.out.r)
  unfold gmVal at KD
  have hl := GO.out.len
  have hd := gm_draws_lt GO.out
  have H0 : Hid (hiddenN g (0 : Nat) ≤ g.draws) := Lib.hid (hidden_zero _)
  have HM := Lib.hid (hidden_mono GO.out)
  have HL := Lib.hid (hidden_le GO.out)
  have HZ := Lib.hid (hidden_none GO.out)
  have hk : ∀ j : Nat, hiddenN g j ≤ g.draws := fun j => count_le _ _
  have HK := Lib.hid hk
  have ED : Hid (∀ W, GmB q g B d W → Calls Try.prog 9 #[.agg #[.int .i64 g.b, .int .i64 g.n, .int .i64 g.came, .int .i64 g.marked, .slice B g.moves.length d]] W fun e w' => e = .returned (.int .u64 g.draws) ∧ Below W.heap.size W w') := Lib.hid (fun W h => gam_drawsG g B d W GO.out h.r)
  clear hk
  generalize g.draws = yy at *
  go_wp2_with fail
  (with_reducible refine KD.out.mono ?_)
  rintro e w5 ⟨rfl, b5⟩
  have G5 := Lib.hid (G4.out.below b5)
  have B5 := Lib.hid (B4.out.trans (b5.mono B4.out.size))
  clear KD b5 G4 B4 y0 y1 y2 y3 y4
  go_wp2_with fail
  go_loopw [4, 5] (fun v4 v5 wr => ∃ (j L : Nat), j ≤ g.moves.length + 1 ∧ v5 = .int .i64 j ∧ v4 = .int .u64 L ∧ L ≤ yy ∧ hiddenN g j ≤ L ∧ Hid (GmB q g B d wr ∧ Below w.heap.size w wr)) (fun _ v5 _ => g.moves.length + 1 - (intOf v5).toNat)
  case atStart => exact ⟨0, yy, by omega, rfl, rfl, Nat.le_refl _, H0.out, Lib.hid ⟨G5.out, B5.out⟩⟩
  case round =>
    obtain ⟨j, L, hj, rfl, rfl, hL, hx, GB⟩ := hrel
    clear G5 B5 H0
    have GR := Lib.hid GB.out.1
    have BR := Lib.hid GB.out.2
    clear GB
    have y0 := cell_of_row wr q 0 _ _ _ GR.out.t
    have y1 := cell_of_row wr q 1 _ _ _ GR.out.t
    have y2 := cell_of_row wr q 2 _ _ _ GR.out.t
    have y3 := cell_of_row wr q 3 _ _ _ GR.out.t
    have y4 := cell_of_row wr q 4 _ _ _ GR.out.t
    by_cases hlt : j ≤ g.moves.length
    · have KH := Lib.hid (gam_hidden g j B d wr GO.out GR.out.r)
      unfold gmVal at KH
      have hP := hidden_num (HL.out j) hd
      have HMj := HM.out j
      have hx2 := HK.out j
      generalize hiddenN g (j : Nat) = x at *
      have f0 : ¬ ((x : Int) > L) := by omega
      have f1 : (0 : Int) ≤ j := by omega
      have f2 : (j : Int) < 64 := by omega
      have wj : IntKind.u64.wrap (j : Int) = (j : Int) := IntWalk.u64_in _ (by omega)
      have tj : ((j : Int)).toNat = j := by omega
      go_wp2_with fail
      (with_reducible refine KH.out.mono ?_)
      rintro e w6 ⟨rfl, b6⟩
      have G6 := Lib.hid (GR.out.below b6)
      have B6 := Lib.hid (BR.out.trans (b6.mono BR.out.size))
      clear KH b6 GR BR y0 y1 y2 y3 y4
      have y0 := cell_of_row w6 q 0 _ _ _ G6.out.t
      have y1 := cell_of_row w6 q 1 _ _ _ G6.out.t
      have y2 := cell_of_row w6 q 2 _ _ _ G6.out.t
      have y3 := cell_of_row w6 q 3 _ _ _ G6.out.t
      have y4 := cell_of_row w6 q 4 _ _ _ G6.out.t
      have KD := Lib.hid (ED.out w6 G6.out)
      go_wp2_with fail
      (with_reducible refine KD.out.mono ?_)
      rintro e w7 ⟨rfl, b7⟩
      have G7 := Lib.hid (G6.out.below b7)
      have B7 := Lib.hid (B6.out.trans (b7.mono B6.out.size))
      clear KD b7 G6 B6 y0 y1 y2 y3 y4
      go_wp2_with fail
      go_roundw
      case rel => exact ⟨j + 1, x, by omega, by go_num, rfl, by omega, HMj, Lib.hid ⟨G7.out, B7.out⟩⟩
      case measure => simp [intOf]; omega
    · obtain rfl : j = g.moves.length + 1 := by omega
      have KH := Lib.hid (gam_hidden g ((g.moves.length + 1 : Nat) : Int) B d wr GO.out GR.out.r)
      rw [HZ.out] at KH
      unfold gmVal at KH
      rw [show ((g.moves.length + 1 : Nat) : Int) = (g.moves.length : Int) + 1 by omega] at KH
      go_wp2_with fail
      (with_reducible refine KH.out.mono ?_)
      rintro e w6 ⟨rfl, b6⟩
      have B6 := Lib.hid (BR.out.trans (b6.mono BR.out.size))
      clear KH b6
      go_wp2_with fail
      go_ret
      exact ⟨rfl, B6.out⟩

end Go.Proofs.Ytpfmhkkglaghgaa
