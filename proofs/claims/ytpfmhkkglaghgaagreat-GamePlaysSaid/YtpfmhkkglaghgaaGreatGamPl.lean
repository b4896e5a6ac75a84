/-
  The law GamePlays, walked.
-/
import Derived.Test.YtpfmhkkglaghgaaGreatGrf8
namespace Go.Proofs.YtpfmhkkglaghgaaGreat
set_option linter.unusedSimpArgs false
set_option linter.unusedVariables false
set_option linter.unnecessarySimpa false
open Go.RowKit

/-- Raw numbers of a game, in a box. -/
structure RwB (q : Nat) (b n cm mk : Int) (l : List MvR) (A : Option Addr) (c : Nat) (W : World) : Prop where
  t : W.heap[q]? = some (.cells #[.int .i64 b, .int .i64 n, .int .i64 cm, .int .i64 mk, .slice A l.length c] 24 (0, 0))
  r : Rd W 6 A l.length c (MvsR l)
theorem RwB.below {q : Nat} {b n cm mk : Int} {l : List MvR} {A : Option Addr} {c : Nat} {W W' : World} (h : RwB q b n cm mk l A c W) (d : Below W.heap.size W W') : RwB q b n cm mk l A c W' :=
  ⟨(d.block _ (lt_of_block h.t)).trans h.t, h.r.below d⟩

theorem idx0 (a0 a1 a2 a3 a4 b0 b1 b2 b3 b4 : Value) (w : World) : Sem.run Tryz.prog (Instr.index 30 (.agg #[a0, a1, a2, a3, a4, b0, b1, b2, b3, b4]) (.int .i64 0)) w = .ok (.agg #[a0, a1, a2, a3, a4]) w := by kernel_rfl
theorem idx1 (a0 a1 a2 a3 a4 b0 b1 b2 b3 b4 : Value) (w : World) : Sem.run Tryz.prog (Instr.index 30 (.agg #[a0, a1, a2, a3, a4, b0, b1, b2, b3, b4]) (.int .i64 1)) w = .ok (.agg #[b0, b1, b2, b3, b4]) w := by kernel_rfl
set_option maxHeartbeats 4000000 in
set_option maxRecDepth 100000 in
theorem gamePlays_any (b n cm mk : Int) (l : List MvR) (A : Option Addr) (c : Nat) (s : Sk) (A2 : Option Addr) (c2 : Nat) (kv : Int) (w : World) (hok : RawOk b n cm mk l) (hs : s.fit) (hkv : isU64 kv) (hr : Rd w 6 A l.length c (MvsR l)) (hr2 : Rd w 6 A2 s.moves.length c2 (MvsR s.moves)) :
    Calls Tryz.prog 3 #[rawVal b n cm mk A l.length c, skVal s A2 c2, .int .u64 kv] w fun e w' => e = .returned (.bool true) ∧ Below w.heap.size w w' := by
  obtain ⟨k, rfl⟩ : ∃ k : Nat, kv = k := ⟨kv.toNat, by have := hkv.1; omega⟩
  have hk64 : k < 18446744073709551616 := by have := hkv.2; omega
  have g2 := gbox2 w (.cells #[.int .i64 b, .int .i64 n, .int .i64 cm, .int .i64 mk, .slice A l.length c] 24) (.cells #[.int .u8 s.bits, .int .u8 s.packets, .int .u8 s.came, .int .u8 s.marked, .slice A2 s.moves.length c2] 26)
  have N1 := Lib.hid g2.1
  have N2 := Lib.hid g2.2.1
  have B2 := Lib.hid g2.2.2.1
  have R1 := Lib.hid (hr.below g2.2.2.1)
  have R2 := Lib.hid (hr2.below g2.2.2.1)
  have OK1 := Lib.hid hok
  have HS := Lib.hid hs
  have HK := Lib.hid hk64
  clear g2 hr hr2 hok hs hkv hk64
  unfold rawVal skVal
  go_enter Tryz.func3, Tryz.ntmps3
  go_upto_region 1 with fail
  generalize (w.alloc (.cells #[.int .i64 b, .int .i64 n, .int .i64 cm, .int .i64 mk, .slice A l.length c] 24)).alloc (.cells #[.int .u8 s.bits, .int .u8 s.packets, .int .u8 s.came, .int .u8 s.marked, .slice A2 s.moves.length c2] 26) = w2 at *
  have K := Lib.hid (gamAlive w2)
  go_wp2_with fail
  (with_reducible refine K.out.mono ?_)
  rintro e w3 ⟨rfl, b3⟩
  have M1 := Lib.hid ((b3.block _ (lt_of_block N1.out)).trans N1.out)
  have M2 := Lib.hid ((b3.block _ (lt_of_block N2.out)).trans N2.out)
  have B3 := Lib.hid (B2.out.trans (b3.mono B2.out.size))
  have Q1 := Lib.hid (R1.out.below b3)
  have Q2 := Lib.hid (R2.out.below b3)
  clear K b3 N1 N2 B2 R1 R2
  go_upto_region 3 with fail
  have y0 : w3.cell? ⟨w.heap.size, 0, none⟩ = some (.int .i64 b) := cell_of_row w3 w.heap.size 0 _ _ _ M1.out
  have y1 : w3.cell? ⟨w.heap.size, 1, none⟩ = some (.int .i64 n) := cell_of_row w3 w.heap.size 1 _ _ _ M1.out
  have y2 : w3.cell? ⟨w.heap.size, 2, none⟩ = some (.int .i64 cm) := cell_of_row w3 w.heap.size 2 _ _ _ M1.out
  have y3 : w3.cell? ⟨w.heap.size, 3, none⟩ = some (.int .i64 mk) := cell_of_row w3 w.heap.size 3 _ _ _ M1.out
  have y4 : w3.cell? ⟨w.heap.size, 4, none⟩ = some (.slice A l.length c) := cell_of_row w3 w.heap.size 4 _ _ _ M1.out
  have z0 : w3.cell? ⟨w.heap.size + 1, 0, none⟩ = some (.int .u8 s.bits) := cell_of_row w3 (w.heap.size + 1) 0 _ _ _ M2.out
  have z1 : w3.cell? ⟨w.heap.size + 1, 1, none⟩ = some (.int .u8 s.packets) := cell_of_row w3 (w.heap.size + 1) 1 _ _ _ M2.out
  have z2 : w3.cell? ⟨w.heap.size + 1, 2, none⟩ = some (.int .u8 s.came) := cell_of_row w3 (w.heap.size + 1) 2 _ _ _ M2.out
  have z3 : w3.cell? ⟨w.heap.size + 1, 3, none⟩ = some (.int .u8 s.marked) := cell_of_row w3 (w.heap.size + 1) 3 _ _ _ M2.out
  have z4 : w3.cell? ⟨w.heap.size + 1, 4, none⟩ = some (.slice A2 s.moves.length c2) := cell_of_row w3 (w.heap.size + 1) 4 _ _ _ M2.out
  have KS := Lib.hid (sk_gameR s 12 8 A2 c2 w3.drew HS.out (by omega) (by omega) (Q2.out.below (Below.refl _ _).drew))
  unfold skVal rawVal at KS
  rw [show ((12 : Nat) : Int) = 12 from rfl, show ((8 : Nat) : Int) = 8 from rfl] at KS
  have gB := Lib.hid (fun (W : World) (d : Below w3.heap.size w3 W) => (⟨(d.cell (block_lt_of_cell y0)).trans y0, (d.cell (block_lt_of_cell y1)).trans y1, (d.cell (block_lt_of_cell y2)).trans y2, (d.cell (block_lt_of_cell y3)).trans y3, (d.cell (block_lt_of_cell y4)).trans y4, (d.cell (block_lt_of_cell z0)).trans z0, (d.cell (block_lt_of_cell z1)).trans z1, (d.cell (block_lt_of_cell z2)).trans z2, (d.cell (block_lt_of_cell z3)).trans z3, (d.cell (block_lt_of_cell z4)).trans z4⟩ : W.cell? ⟨w.heap.size, 0, none⟩ = some (.int .i64 b) ∧ W.cell? ⟨w.heap.size, 1, none⟩ = some (.int .i64 n) ∧ W.cell? ⟨w.heap.size, 2, none⟩ = some (.int .i64 cm) ∧ W.cell? ⟨w.heap.size, 3, none⟩ = some (.int .i64 mk) ∧ W.cell? ⟨w.heap.size, 4, none⟩ = some (.slice A l.length c) ∧ W.cell? ⟨w.heap.size + 1, 0, none⟩ = some (.int .u8 s.bits) ∧ W.cell? ⟨w.heap.size + 1, 1, none⟩ = some (.int .u8 s.packets) ∧ W.cell? ⟨w.heap.size + 1, 2, none⟩ = some (.int .u8 s.came) ∧ W.cell? ⟨w.heap.size + 1, 3, none⟩ = some (.int .u8 s.marked) ∧ W.cell? ⟨w.heap.size + 1, 4, none⟩ = some (.slice A2 s.moves.length c2)))
  go_cut [20, 21] (fun s20 s21 wx => ∃ (b' n' cm' mk' : Int) (l' : List MvR) (A' : Option Addr) (c' : Nat), s20 = .agg #[.int .i64 b, .int .i64 n, .int .i64 cm, .int .i64 mk, .slice A l.length c, .int .i64 b', .int .i64 n', .int .i64 cm', .int .i64 mk', .slice A' l'.length c'] ∧ s21 = .int .i64 0 ∧ Hid (RawOk b' n' cm' mk' l' ∧ Rd wx 6 A' l'.length c' (MvsR l') ∧ Below w3.heap.size w3 wx))
  case first =>
    go_region_held3 (fun W => W.cell? ⟨w.heap.size, 0, none⟩ = some (.int .i64 b) ∧ W.cell? ⟨w.heap.size, 1, none⟩ = some (.int .i64 n) ∧ W.cell? ⟨w.heap.size, 2, none⟩ = some (.int .i64 cm) ∧ W.cell? ⟨w.heap.size, 3, none⟩ = some (.int .i64 mk) ∧ W.cell? ⟨w.heap.size, 4, none⟩ = some (.slice A l.length c) ∧ W.cell? ⟨w.heap.size + 1, 0, none⟩ = some (.int .u8 s.bits) ∧ W.cell? ⟨w.heap.size + 1, 1, none⟩ = some (.int .u8 s.packets) ∧ W.cell? ⟨w.heap.size + 1, 2, none⟩ = some (.int .u8 s.came) ∧ W.cell? ⟨w.heap.size + 1, 3, none⟩ = some (.int .u8 s.marked) ∧ W.cell? ⟨w.heap.size + 1, 4, none⟩ = some (.slice A2 s.moves.length c2))
      (first | exact gB.out _ ((Below.refl _ _).drew.trans b8) | exact gB.out _ (Below.refl _ _).drew | exact gB.out _ (Below.refl _ _))
      (first | (go_at_call 6; (with_reducible refine Calls.mono KS.out ?_); rintro e w8 ⟨b', n', cm', mk', l', A', c', rfl, ok8, r8, b8⟩))
    all_goals
      go_wp2_with fail
      go_meet
      exact ⟨b', n', cm', mk', l', A', c', rfl, rfl, Lib.hid ⟨ok8, r8, (Below.refl _ _).drew.trans b8⟩⟩
  case rest =>
  obtain ⟨b', n', cm', mk', l', A', c', rfl, rfl, HX⟩ := hcut
  have OK2 := Lib.hid HX.out.1
  have P1 := Lib.hid (Q1.out.below HX.out.2.2)
  have P2 := Lib.hid HX.out.2.1
  have B4 := Lib.hid (B3.out.trans (HX.out.2.2.mono B3.out.size))
  clear HX KS gB y0 y1 y2 y3 y4 z0 z1 z2 z3 z4 M1 M2 Q1 Q2 B3 HS
  generalize wc = w5 at *
  go_wp2_with fail
  go_loopw [21] (fun iv wr => ∃ j : Nat, j ≤ 2 ∧ iv = .int .i64 j ∧ Hid (Below w5.heap.size w5 wr)) (fun iv _ => 2 - (intOf iv).toNat)
  case atStart => exact ⟨0, by omega, rfl, Lib.hid (Below.refl _ _)⟩
  case round =>
    obtain ⟨j, hj, rfl, BR⟩ := hrel
    rcases (show j = 0 ∨ j = 1 ∨ j = 2 by omega) with rfl | rfl | rfl
    · clear hj
      have I0 := idx0 (.int .i64 b) (.int .i64 n) (.int .i64 cm) (.int .i64 mk) (.slice A l.length c) (.int .i64 b') (.int .i64 n') (.int .i64 cm') (.int .i64 mk') (.slice A' l'.length c')
      have HZ := Lib.hid (heap_alloc_new wr (.cells #[.int .i64 b, .int .i64 n, .int .i64 cm, .int .i64 mk, .slice A l.length c] 24))
      have bz := box_below wr (.cells #[.int .i64 b, .int .i64 n, .int .i64 cm, .int .i64 mk, .slice A l.length c] 24)
      have RX : Hid (RwB wr.heap.size b n cm mk l A c (wr.alloc (.cells #[.int .i64 b, .int .i64 n, .int .i64 cm, .int .i64 mk, .slice A l.length c] 24))) := Lib.hid ⟨HZ.out, (P1.out.below BR.out).below bz⟩
      have BZ := Lib.hid (BR.out.trans (bz.mono BR.out.size))
      clear bz HZ BR
      go_upto_region 6 with fail
      clear I0
      generalize (wr.alloc (.cells #[.int .i64 b, .int .i64 n, .int .i64 cm, .int .i64 mk, .slice A l.length c] 24)) = wa at *
      generalize wr.heap.size = q at *
      have y0 := cell_of_row wa q 0 _ _ _ RX.out.t
      have y1 := cell_of_row wa q 1 _ _ _ RX.out.t
      have y2 := cell_of_row wa q 2 _ _ _ RX.out.t
      have y3 := cell_of_row wa q 3 _ _ _ RX.out.t
      have y4 := cell_of_row wa q 4 _ _ _ RX.out.t
      obtain ⟨D, hD, hD2⟩ := rawDraws_le b n cm mk l OK1.out.c OK1.out.m OK1.out.f
      have HD := Lib.hid hD
      have K := Lib.hid (grf_draws b n cm mk l A c wa OK1.out.b OK1.out.n RX.out.r)
      unfold rawVal at K
      rw [hD] at K
      clear hD
      go_wp2_with fail
      (with_reducible refine K.out.mono ?_)
      rintro e wb ⟨rfl, bb⟩
      have RB := Lib.hid (RX.out.below bb)
      have BB := Lib.hid (BZ.out.trans (bb.mono BZ.out.size))
      clear K bb RX BZ y0 y1 y2 y3 y4
      go_upto_region 8 with fail
      go_cut [33] (fun s33 wx => s33 = .bool (decide (0 < D ∧ 0 < k % 3)) ∧ wx = wb)
      case first =>
        by_cases h1 : 0 < D
        · have g1 : (0 : Int) < (D : Int) := by omega
          by_cases h2 : 0 < k % 3
          · have g2 : (0 : Int) < (k : Int) % 3 := by omega
            have E := Lib.hid (decide_eq_true (And.intro h1 h2))
            clear h2
            go_wp2_with fail
            go_meet
            exact ⟨by rw [E.out], rfl⟩
          · have g2 : ¬ (0 : Int) < (k : Int) % 3 := by omega
            have E : Hid (decide (0 < D ∧ 0 < k % 3) = false) := Lib.hid (decide_eq_false (fun h => h2 h.2))
            clear h2
            go_wp2_with fail
            go_meet
            exact ⟨by rw [E.out], rfl⟩
        · have g1 : ¬ (0 : Int) < (D : Int) := by omega
          have E : Hid (decide (0 < D ∧ 0 < k % 3) = false) := Lib.hid (decide_eq_false (fun h => h1 h.1))
          go_wp2_with fail
          go_meet
          exact ⟨by rw [E.out], rfl⟩
      case rest =>
      obtain ⟨rfl, rfl⟩ := hcut
      obtain ⟨bx, hbx⟩ : ∃ bx, bx = decide (0 < D ∧ 0 < k % 3) := ⟨_, rfl⟩
      rw [← hbx]
      have HBX := Lib.hid hbx
      clear hbx
      go_upto_if 33 with fail
      go_cut [10] (fun s10 wx => ∃ kk : Nat, s10 = .int .u64 kk ∧ Hid (kk < 18446744073709551616) ∧ wx = wc)
      case first =>
        cases bx with
        | false =>
          go_wp2_with fail
          go_meet
          exact ⟨k, rfl, HK, rfl⟩
        | true =>
          have h1 := (of_decide_eq_true HBX.out.symm).1
          have h2 : ¬ D = 0 := by omega
          have h3 : (1 : Int) ≤ (D : Int) := by omega
          have e1 : (k : Int) / 3 = ((k / 3 : Nat) : Int) := by simp
          have e2 : ((k / 3 : Nat) : Int) % (D : Int) = ((k / 3 % D : Nat) : Int) := by simp
          have hlt : Hid (k / 3 % D < 18446744073709551616) := Lib.hid (by have := Nat.mod_lt (k / 3) h1; omega)
          have wk : IntKind.u64.wrap ((k / 3 : Nat) : Int) = ((k / 3 : Nat) : Int) := IntWalk.u64_in _ (by have := HK.out; omega)
          have e3 : Int.tmod ((k / 3 : Nat) : Int) (D : Int) = ((k / 3 % D : Nat) : Int) := by rw [Int.tmod_eq_emod_of_nonneg (by omega)]; exact e2
          generalize k / 3 % D = kk at *
          generalize k / 3 = k3 at *
          go_wp2_with fail
          go_meet
          exact ⟨kk, rfl, hlt, rfl⟩
      case rest =>
      obtain ⟨kk, rfl, HKK, rfl⟩ := hcut
      obtain ⟨ok, hok⟩ : ∃ ok, ok = decide ((kk : Int) < (D : Int)) := ⟨_, rfl⟩
      have HOK := Lib.hid hok
      clear hok
      clear HBX
      have y0 := cell_of_row wc q 0 _ _ _ RB.out.t
      have y1 := cell_of_row wc q 1 _ _ _ RB.out.t
      have y2 := cell_of_row wc q 2 _ _ _ RB.out.t
      have y3 := cell_of_row wc q 3 _ _ _ RB.out.t
      have y4 := cell_of_row wc q 4 _ _ _ RB.out.t
      have K := Lib.hid (gam_playR b n cm mk l kk A c wc OK1.out.b OK1.out.n OK1.out.c OK1.out.m OK1.out.f HKK.out RB.out.r)
      unfold rawVal at K
      rw [HD.out, ← HOK.out] at K
      go_wp2_with fail
      (with_reducible refine K.out.mono ?_)
      rintro e wp ⟨VA, vc, rfl, rv, bp⟩
      have RP := Lib.hid (RB.out.below bp)
      have BP := Lib.hid (BB.out.trans (bp.mono BB.out.size))
      have RV := Lib.hid rv
      clear K bp rv RB BB y0 y1 y2 y3 y4
      have y0 := cell_of_row wp q 0 _ _ _ RP.out.t
      have y1 := cell_of_row wp q 1 _ _ _ RP.out.t
      have y2 := cell_of_row wp q 2 _ _ _ RP.out.t
      have y3 := cell_of_row wp q 3 _ _ _ RP.out.t
      have y4 := cell_of_row wp q 4 _ _ _ RP.out.t
      have K := Lib.hid (grf_playR b n cm mk l kk A c wp OK1.out.b OK1.out.n OK1.out.c OK1.out.m OK1.out.f HKK.out RP.out.r)
      unfold rawVal at K
      rw [HD.out, ← HOK.out] at K
      go_wp2_with fail
      (with_reducible refine K.out.mono ?_)
      rintro e wq ⟨UA, uc, rfl, ru, bq⟩
      have RQ := Lib.hid (RP.out.below bq)
      have BQ := Lib.hid (BP.out.trans (bq.mono BP.out.size))
      have RV2 := Lib.hid (RV.out.below bq)
      have RU := Lib.hid ru
      clear K bq ru RP BP RV y0 y1 y2 y3 y4
      have KA := Lib.hid (fun u => gam_may b n cm mk l A c (mix wq u) OK1.out.b OK1.out.n (RQ.out.r.mix u))
      have KB := Lib.hid (fun u => grf_may b n cm mk l A c (mix wq u) OK1.out.b OK1.out.n (RQ.out.r.mix u))
      have KD := Lib.hid (fun u => gam_draws b n cm mk l A c (mix wq u) OK1.out.b OK1.out.n (RQ.out.r.mix u))
      have KV := Lib.hid (fun u => sameVd_yes (mix wq u) VA UA vc uc (rawL b n cm mk l kk) (RV2.out.below (mix_below wq u)) (RU.out.below (mix_below wq u)))
      unfold rawVal at KA KB KD
      simp only [HD.out] at KD
      generalize rawL b n cm mk l kk = L at *
      generalize rawB b n cm mk l = rb at *
      have m0 := mixc (v := .int .i64 b) (cell_of_row wq q 0 _ _ _ RQ.out.t)
      have m1 := mixc (v := .int .i64 n) (cell_of_row wq q 1 _ _ _ RQ.out.t)
      have m2 := mixc (v := .int .i64 cm) (cell_of_row wq q 2 _ _ _ RQ.out.t)
      have m3 := mixc (v := .int .i64 mk) (cell_of_row wq q 3 _ _ _ RQ.out.t)
      have m4 := mixc (v := .slice A l.length c) (cell_of_row wq q 4 _ _ _ RQ.out.t)
      go_upto_region 12 with fail
      refine wp_region_below (by kernel_rfl) (by kernel_rfl) ?_
      repeat (first | go_big_quiet_step ((first | (go_at_call 10; (with_reducible exact Calls.mix_of (KA.out _))) | (go_at_call 11; (with_reducible exact Calls.mix_of (KB.out _))) | (go_at_call 12; (with_reducible exact Calls.mix_of (KD.out _))) | (go_at_call 13; (with_reducible exact Calls.mix_qt (KV.out _))))) | quiet_step ((first | (go_at_call 10; (with_reducible exact Calls.mix_of (KA.out _))) | (go_at_call 11; (with_reducible exact Calls.mix_of (KB.out _))) | (go_at_call 12; (with_reducible exact Calls.mix_of (KD.out _))) | (go_at_call 13; (with_reducible exact Calls.mix_qt (KV.out _))))))
      refine wpQuiet_nil ?_
      intro w7 b7
      have B7 := Lib.hid (BQ.out.trans (b7.mono BQ.out.size))
      clear b7 KA KB KD KV m0 m1 m2 m3 m4
      go_wp2_with fail
      go_roundw
      case rel => exact ⟨1, by omega, by go_num, B7⟩
      case measure => simp [intOf]
    · clear hj
      have I0 := idx1 (.int .i64 b) (.int .i64 n) (.int .i64 cm) (.int .i64 mk) (.slice A l.length c) (.int .i64 b') (.int .i64 n') (.int .i64 cm') (.int .i64 mk') (.slice A' l'.length c')
      have HZ := Lib.hid (heap_alloc_new wr (.cells #[.int .i64 b', .int .i64 n', .int .i64 cm', .int .i64 mk', .slice A' l'.length c'] 24))
      have bz := box_below wr (.cells #[.int .i64 b', .int .i64 n', .int .i64 cm', .int .i64 mk', .slice A' l'.length c'] 24)
      have RX : Hid (RwB wr.heap.size b' n' cm' mk' l' A' c' (wr.alloc (.cells #[.int .i64 b', .int .i64 n', .int .i64 cm', .int .i64 mk', .slice A' l'.length c'] 24))) := Lib.hid ⟨HZ.out, (P2.out.below BR.out).below bz⟩
      have BZ := Lib.hid (BR.out.trans (bz.mono BR.out.size))
      clear bz HZ BR
      go_upto_region 6 with fail
      clear I0
      generalize (wr.alloc (.cells #[.int .i64 b', .int .i64 n', .int .i64 cm', .int .i64 mk', .slice A' l'.length c'] 24)) = wa at *
      generalize wr.heap.size = q at *
      have y0 := cell_of_row wa q 0 _ _ _ RX.out.t
      have y1 := cell_of_row wa q 1 _ _ _ RX.out.t
      have y2 := cell_of_row wa q 2 _ _ _ RX.out.t
      have y3 := cell_of_row wa q 3 _ _ _ RX.out.t
      have y4 := cell_of_row wa q 4 _ _ _ RX.out.t
      obtain ⟨D, hD, hD2⟩ := rawDraws_le b' n' cm' mk' l' OK2.out.c OK2.out.m OK2.out.f
      have HD := Lib.hid hD
      have K := Lib.hid (grf_draws b' n' cm' mk' l' A' c' wa OK2.out.b OK2.out.n RX.out.r)
      unfold rawVal at K
      rw [hD] at K
      clear hD
      go_wp2_with fail
      (with_reducible refine K.out.mono ?_)
      rintro e wb ⟨rfl, bb⟩
      have RB := Lib.hid (RX.out.below bb)
      have BB := Lib.hid (BZ.out.trans (bb.mono BZ.out.size))
      clear K bb RX BZ y0 y1 y2 y3 y4
      go_upto_region 8 with fail
      go_cut [33] (fun s33 wx => s33 = .bool (decide (0 < D ∧ 0 < k % 3)) ∧ wx = wb)
      case first =>
        by_cases h1 : 0 < D
        · have g1 : (0 : Int) < (D : Int) := by omega
          by_cases h2 : 0 < k % 3
          · have g2 : (0 : Int) < (k : Int) % 3 := by omega
            have E := Lib.hid (decide_eq_true (And.intro h1 h2))
            clear h2
            go_wp2_with fail
            go_meet
            exact ⟨by rw [E.out], rfl⟩
          · have g2 : ¬ (0 : Int) < (k : Int) % 3 := by omega
            have E : Hid (decide (0 < D ∧ 0 < k % 3) = false) := Lib.hid (decide_eq_false (fun h => h2 h.2))
            clear h2
            go_wp2_with fail
            go_meet
            exact ⟨by rw [E.out], rfl⟩
        · have g1 : ¬ (0 : Int) < (D : Int) := by omega
          have E : Hid (decide (0 < D ∧ 0 < k % 3) = false) := Lib.hid (decide_eq_false (fun h => h1 h.1))
          go_wp2_with fail
          go_meet
          exact ⟨by rw [E.out], rfl⟩
      case rest =>
      obtain ⟨rfl, rfl⟩ := hcut
      obtain ⟨bx, hbx⟩ : ∃ bx, bx = decide (0 < D ∧ 0 < k % 3) := ⟨_, rfl⟩
      rw [← hbx]
      have HBX := Lib.hid hbx
      clear hbx
      go_upto_if 33 with fail
      go_cut [10] (fun s10 wx => ∃ kk : Nat, s10 = .int .u64 kk ∧ Hid (kk < 18446744073709551616) ∧ wx = wc)
      case first =>
        cases bx with
        | false =>
          go_wp2_with fail
          go_meet
          exact ⟨k, rfl, HK, rfl⟩
        | true =>
          have h1 := (of_decide_eq_true HBX.out.symm).1
          have h2 : ¬ D = 0 := by omega
          have h3 : (1 : Int) ≤ (D : Int) := by omega
          have e1 : (k : Int) / 3 = ((k / 3 : Nat) : Int) := by simp
          have e2 : ((k / 3 : Nat) : Int) % (D : Int) = ((k / 3 % D : Nat) : Int) := by simp
          have hlt : Hid (k / 3 % D < 18446744073709551616) := Lib.hid (by have := Nat.mod_lt (k / 3) h1; omega)
          have wk : IntKind.u64.wrap ((k / 3 : Nat) : Int) = ((k / 3 : Nat) : Int) := IntWalk.u64_in _ (by have := HK.out; omega)
          have e3 : Int.tmod ((k / 3 : Nat) : Int) (D : Int) = ((k / 3 % D : Nat) : Int) := by rw [Int.tmod_eq_emod_of_nonneg (by omega)]; exact e2
          generalize k / 3 % D = kk at *
          generalize k / 3 = k3 at *
          go_wp2_with fail
          go_meet
          exact ⟨kk, rfl, hlt, rfl⟩
      case rest =>
      obtain ⟨kk, rfl, HKK, rfl⟩ := hcut
      obtain ⟨ok, hok⟩ : ∃ ok, ok = decide ((kk : Int) < (D : Int)) := ⟨_, rfl⟩
      have HOK := Lib.hid hok
      clear hok
      clear HBX
      have y0 := cell_of_row wc q 0 _ _ _ RB.out.t
      have y1 := cell_of_row wc q 1 _ _ _ RB.out.t
      have y2 := cell_of_row wc q 2 _ _ _ RB.out.t
      have y3 := cell_of_row wc q 3 _ _ _ RB.out.t
      have y4 := cell_of_row wc q 4 _ _ _ RB.out.t
      have K := Lib.hid (gam_playR b' n' cm' mk' l' kk A' c' wc OK2.out.b OK2.out.n OK2.out.c OK2.out.m OK2.out.f HKK.out RB.out.r)
      unfold rawVal at K
      rw [HD.out, ← HOK.out] at K
      go_wp2_with fail
      (with_reducible refine K.out.mono ?_)
      rintro e wp ⟨VA, vc, rfl, rv, bp⟩
      have RP := Lib.hid (RB.out.below bp)
      have BP := Lib.hid (BB.out.trans (bp.mono BB.out.size))
      have RV := Lib.hid rv
      clear K bp rv RB BB y0 y1 y2 y3 y4
      have y0 := cell_of_row wp q 0 _ _ _ RP.out.t
      have y1 := cell_of_row wp q 1 _ _ _ RP.out.t
      have y2 := cell_of_row wp q 2 _ _ _ RP.out.t
      have y3 := cell_of_row wp q 3 _ _ _ RP.out.t
      have y4 := cell_of_row wp q 4 _ _ _ RP.out.t
      have K := Lib.hid (grf_playR b' n' cm' mk' l' kk A' c' wp OK2.out.b OK2.out.n OK2.out.c OK2.out.m OK2.out.f HKK.out RP.out.r)
      unfold rawVal at K
      rw [HD.out, ← HOK.out] at K
      go_wp2_with fail
      (with_reducible refine K.out.mono ?_)
      rintro e wq ⟨UA, uc, rfl, ru, bq⟩
      have RQ := Lib.hid (RP.out.below bq)
      have BQ := Lib.hid (BP.out.trans (bq.mono BP.out.size))
      have RV2 := Lib.hid (RV.out.below bq)
      have RU := Lib.hid ru
      clear K bq ru RP BP RV y0 y1 y2 y3 y4
      have KA := Lib.hid (fun u => gam_may b' n' cm' mk' l' A' c' (mix wq u) OK2.out.b OK2.out.n (RQ.out.r.mix u))
      have KB := Lib.hid (fun u => grf_may b' n' cm' mk' l' A' c' (mix wq u) OK2.out.b OK2.out.n (RQ.out.r.mix u))
      have KD := Lib.hid (fun u => gam_draws b' n' cm' mk' l' A' c' (mix wq u) OK2.out.b OK2.out.n (RQ.out.r.mix u))
      have KV := Lib.hid (fun u => sameVd_yes (mix wq u) VA UA vc uc (rawL b' n' cm' mk' l' kk) (RV2.out.below (mix_below wq u)) (RU.out.below (mix_below wq u)))
      unfold rawVal at KA KB KD
      simp only [HD.out] at KD
      generalize rawL b' n' cm' mk' l' kk = L at *
      generalize rawB b' n' cm' mk' l' = rb at *
      have m0 := mixc (v := .int .i64 b') (cell_of_row wq q 0 _ _ _ RQ.out.t)
      have m1 := mixc (v := .int .i64 n') (cell_of_row wq q 1 _ _ _ RQ.out.t)
      have m2 := mixc (v := .int .i64 cm') (cell_of_row wq q 2 _ _ _ RQ.out.t)
      have m3 := mixc (v := .int .i64 mk') (cell_of_row wq q 3 _ _ _ RQ.out.t)
      have m4 := mixc (v := .slice A' l'.length c') (cell_of_row wq q 4 _ _ _ RQ.out.t)
      go_upto_region 12 with fail
      refine wp_region_below (by kernel_rfl) (by kernel_rfl) ?_
      repeat (first | go_big_quiet_step ((first | (go_at_call 10; (with_reducible exact Calls.mix_of (KA.out _))) | (go_at_call 11; (with_reducible exact Calls.mix_of (KB.out _))) | (go_at_call 12; (with_reducible exact Calls.mix_of (KD.out _))) | (go_at_call 13; (with_reducible exact Calls.mix_qt (KV.out _))))) | quiet_step ((first | (go_at_call 10; (with_reducible exact Calls.mix_of (KA.out _))) | (go_at_call 11; (with_reducible exact Calls.mix_of (KB.out _))) | (go_at_call 12; (with_reducible exact Calls.mix_of (KD.out _))) | (go_at_call 13; (with_reducible exact Calls.mix_qt (KV.out _))))))
      refine wpQuiet_nil ?_
      intro w7 b7
      have B7 := Lib.hid (BQ.out.trans (b7.mono BQ.out.size))
      clear b7 KA KB KD KV m0 m1 m2 m3 m4
      go_wp2_with fail
      go_roundw
      case rel => exact ⟨2, by omega, by go_num, B7⟩
      case measure => simp [intOf]
    · go_wp2_with fail
      go_ret
      exact ⟨rfl, B4.out.trans (BR.out.mono B4.out.size)⟩

end Go.Proofs.YtpfmhkkglaghgaaGreat
