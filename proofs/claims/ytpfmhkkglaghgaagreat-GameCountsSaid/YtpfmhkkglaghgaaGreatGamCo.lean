/-
  The law GameCounts, walked.
-/
import Derived.Test.YtpfmhkkglaghgaaGreatGrf3
namespace Go.Proofs.YtpfmhkkglaghgaaGreat
set_option linter.unusedSimpArgs false
set_option linter.unusedVariables false
set_option linter.unnecessarySimpa false
open Go.RowKit

set_option maxHeartbeats 8000000 in
set_option maxRecDepth 100000 in
theorem gameCounts_any (s : Sk) (A : Option Addr) (c : Nat) (nn : Int) (w : World) (hnn : isI64 nn) (hs : s.fit) (hr : Rd w 6 A s.moves.length c (MvsR s.moves)) :
    Calls Tryz.prog 4 #[skVal s A c, .int .i64 nn] w fun e w' => e = .returned (.bool true) ∧ Below w.heap.size w w' := by
  have b0 := box_below w (.cells #[.int .u8 s.bits, .int .u8 s.packets, .int .u8 s.came, .int .u8 s.marked, .slice A s.moves.length c] 26)
  have n0 := heap_alloc_new w (.cells #[.int .u8 s.bits, .int .u8 s.packets, .int .u8 s.came, .int .u8 s.marked, .slice A s.moves.length c] 26)
  have B0 := Lib.hid b0
  have N0 := Lib.hid n0
  have HR := Lib.hid (hr.below b0)
  have GO := Lib.hid (Sk.ok hs (most := 5) (moves := 4) (by omega) (by omega))
  have HS := Lib.hid hs
  clear b0 n0 hr hs
  unfold skVal
  go_enter Tryz.func4, Tryz.ntmps4
  go_upto_region 1 with fail
  generalize (w.alloc (.cells #[.int .u8 s.bits, .int .u8 s.packets, .int .u8 s.came, .int .u8 s.marked, .slice A s.moves.length c] 26)) = w1 at *
  have y0 := cell_of_row w1 w.heap.size 0 _ _ _ N0.out
  have y1 := cell_of_row w1 w.heap.size 1 _ _ _ N0.out
  have y2 := cell_of_row w1 w.heap.size 2 _ _ _ N0.out
  have y3 := cell_of_row w1 w.heap.size 3 _ _ _ N0.out
  have y4 := cell_of_row w1 w.heap.size 4 _ _ _ N0.out
  have K := Lib.hid (sk_game s 5 4 A c w1 HS.out (by omega) (by omega) HR.out)
  unfold skVal at K
  rw [show ((5 : Nat) : Int) = 5 from rfl, show ((4 : Nat) : Int) = 4 from rfl] at K
  go_wp2_with fail
  (with_reducible refine K.out.mono ?_)
  rintro e w2 ⟨B, d, rfl, r2, b2⟩
  have R2 := Lib.hid r2
  have B2 := Lib.hid (B0.out.trans (b2.mono B0.out.size))
  clear K r2 b2 N0 HR B0 HS y0 y1 y2 y3 y4
  generalize s.game 5 4 = g at *
  have G3 : Hid (GmB w2.heap.size g B d (w2.alloc (.cells #[.int .i64 g.b, .int .i64 g.n, .int .i64 g.came, .int .i64 g.marked, .slice B g.moves.length d] 24)) ∧ Below w.heap.size w (w2.alloc (.cells #[.int .i64 g.b, .int .i64 g.n, .int .i64 g.came, .int .i64 g.marked, .slice B g.moves.length d] 24))) :=
    Lib.hid ⟨⟨heap_alloc_new _ _, R2.out.below (box_below _ _)⟩, B2.out.trans ((box_below _ _).mono B2.out.size)⟩
  unfold gmVal
  go_upto_region 2 with fail
  generalize (w2.alloc (.cells #[.int .i64 g.b, .int .i64 g.n, .int .i64 g.came, .int .i64 g.marked, .slice B g.moves.length d] 24)) = w3 at *
  generalize w2.heap.size = q at *
  have K := Lib.hid (gamAlive w3)
  go_wp2_with fail
  (with_reducible refine K.out.mono ?_)
  rintro e w4 ⟨rfl, b4⟩
  have G4 := Lib.hid (G3.out.1.below b4)
  have B4 := Lib.hid (G3.out.2.trans (b4.mono G3.out.2.size))
  clear K b4 G3 B2 R2
  go_upto_region 5 with fail
  obtain ⟨n1, n2⟩ := hnn
  go_cut [17] (fun s17 wx => s17 = .bool (decide (nn < -1 ∨ nn > 5)) ∧ wx = w4)
  case first =>
    by_cases h1 : nn < -1
    · have e : decide (nn < -1 ∨ nn > 5) = true := decide_eq_true (.inl h1)
      have E := Lib.hid e
      clear e
      go_wp2_with fail
      go_meet
      exact ⟨by rw [E.out], rfl⟩
    · by_cases h2 : nn > 5
      · have e : decide (nn < -1 ∨ nn > 5) = true := decide_eq_true (.inr h2)
        have E := Lib.hid e
        clear e
        go_wp2_with fail
        go_meet
        exact ⟨by rw [E.out], rfl⟩
      · have e : decide (nn < -1 ∨ nn > 5) = false := decide_eq_false (fun h => h.elim h1 h2)
        have E := Lib.hid e
        clear e
        go_wp2_with fail
        go_meet
        exact ⟨by rw [E.out], rfl⟩
  case rest =>
  obtain ⟨rfl, rfl⟩ := hcut
  generalize decide (nn < -1 ∨ nn > 5) = bx at *
  go_upto_if 17 with fail
  go_cut [6] (fun s6 wx => ∃ k : Int, s6 = .int .i64 k ∧ wx = wc)
  case first =>
    cases bx with
    | false => go_wp2_with fail; go_meet; exact ⟨_, rfl, rfl⟩
    | true => go_wp2_with fail; go_meet; exact ⟨_, rfl, rfl⟩
  case rest =>
  obtain ⟨kk, rfl, rfl⟩ := hcut
  have m0 := mixc (v := .int .i64 g.b) (cell_of_row wc q 0 _ _ _ G4.out.t)
  have m1 := mixc (v := .int .i64 g.n) (cell_of_row wc q 1 _ _ _ G4.out.t)
  have m2 := mixc (v := .int .i64 g.came) (cell_of_row wc q 2 _ _ _ G4.out.t)
  have m3 := mixc (v := .int .i64 g.marked) (cell_of_row wc q 3 _ _ _ G4.out.t)
  have m4 := mixc (v := .slice B g.moves.length d) (cell_of_row wc q 4 _ _ _ G4.out.t)
  have KL := Lib.hid (fun u => gam_lucky g B d (mix wc u) GO.out (G4.out.r.mix u))
  have KM := Lib.hid (fun u => grf_lucky g B d (mix wc u) GO.out (G4.out.r.mix u))
  have KH := Lib.hid (fun u => gam_hidden g kk B d (mix wc u) GO.out (G4.out.r.mix u))
  have KI := Lib.hid (fun u => grf_hidden g kk B d (mix wc u) GO.out (G4.out.r.mix u))
  have KJ := Lib.hid (fun u => gam_hidden g nn B d (mix wc u) GO.out (G4.out.r.mix u))
  have KD := Lib.hid (fun u => gam_drawsG g B d (mix wc u) GO.out (G4.out.r.mix u))
  unfold gmVal at KL KM KH KI KJ KD
  have hz : hiddenN g nn ≤ g.draws := count_le _ _
  generalize hiddenN g nn = x3 at *
  generalize hiddenN g kk = x2 at *
  generalize luckyN g = x1 at *
  generalize g.draws = y at *
  have hzi : (x3 : Int) ≤ (y : Int) := by omega
  go_upto_region 7 with fail
  refine wp_region_below (by kernel_rfl) (by kernel_rfl) ?_
  repeat (first | go_big_quiet_step ((first | (go_at_call 14; (with_reducible exact Calls.mix_of (KL.out _))) | (go_at_call 15; (with_reducible exact Calls.mix_of (KM.out _))) | (go_at_call 16; (with_reducible exact Calls.mix_of (KH.out _))) | (go_at_call 17; (with_reducible exact Calls.mix_of (KI.out _))) | (go_at_call 16; (with_reducible exact Calls.mix_of (KJ.out _))) | (go_at_call 12; (with_reducible exact Calls.mix_of (KD.out _))))) | quiet_step ((first | (go_at_call 14; (with_reducible exact Calls.mix_of (KL.out _))) | (go_at_call 15; (with_reducible exact Calls.mix_of (KM.out _))) | (go_at_call 16; (with_reducible exact Calls.mix_of (KH.out _))) | (go_at_call 17; (with_reducible exact Calls.mix_of (KI.out _))) | (go_at_call 16; (with_reducible exact Calls.mix_of (KJ.out _))) | (go_at_call 12; (with_reducible exact Calls.mix_of (KD.out _))))))
  refine wpQuiet_nil ?_
  intro w5 b5
  go_wp2
  go_ret
  exact ⟨rfl, B4.out.trans (b5.mono B4.out.size)⟩

end Go.Proofs.YtpfmhkkglaghgaaGreat
