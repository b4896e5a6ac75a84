/-
  Part of the proof of EngineRanges.
-/
import Derived.Test.YtpkbimmhimgamaaPAE
import Derived.Test.YtpkbimmhimgamaaPAC
import Derived.Deep.DeepCutAuto
import Derived.Deep.CutBlock
import Derived.Test.YtpkbimmhimgamaaPAB
import Derived.OwnWalk
namespace Go.Proofs.Ytpkbimmhimgamaa
set_option linter.unusedSimpArgs false
set_option linter.unusedVariables false
set_option linter.unnecessarySimpa false
open Go.RowKit
set_option maxHeartbeats 8000000 in
set_option maxRecDepth 100000 in
theorem bits_Div64 (hi lo y : Nat) (hh : hi < y) (hl : lo < 18446744073709551616) (hy : y < 18446744073709551616) (w : World) :
    Calls Try.prog 88 #[.int .u64 (hi : Int), .int .u64 (lo : Int), .int .u64 (y : Int)] w fun e w' => e = .returned (.tuple #[.int .u64 (((hi * 18446744073709551616 + lo) / y : Nat) : Int), .int .u64 (((hi * 18446744073709551616 + lo) % y : Nat) : Int)]) ∧ Qt w w' := by
  have y0 : ((y : Int) == 0) = false := by simp; omega
  have y1 : decide ((y : Int) ≤ (hi : Int)) = false := decide_eq_false (by omega)
  have y2 : decide (y ≤ hi) = false := decide_eq_false (by omega)
  have yz : ((y : Int) != 0) = true := by simp; omega
  by_cases hz : hi = 0
  · subst hz
    have HV := Lib.hid (show ((0 * 18446744073709551616 + lo) / y = lo / y ∧ (0 * 18446744073709551616 + lo) % y = lo % y) by simp)
    have w1 : IntKind.u64.wrap (Int.tdiv (lo : Int) (y : Int)) = ((lo / y : Nat) : Int) := by
      rw [Int.tdiv_eq_ediv_of_nonneg (by omega), ← Int.natCast_ediv]
      exact Dv.wrapS _ (Nat.lt_of_le_of_lt (Nat.div_le_self _ _) hl)
    have w1' : IntKind.u64.wrap ((lo : Int) / (y : Int)) = ((lo / y : Nat) : Int) := by
      rw [← Int.natCast_ediv]
      exact Dv.wrapS _ (Nat.lt_of_le_of_lt (Nat.div_le_self _ _) hl)
    have w2 : Int.tmod (lo : Int) (y : Int) = ((lo % y : Nat) : Int) := by
      rw [Int.tmod_eq_emod_of_nonneg (by omega), ← Int.natCast_emod]
    go_enter Try.func88, Try.ntmps88
    go_upto_region 6 with fail
    refine wp_region_qt (by kernel_rfl) (by kernel_rfl) ?_
    repeat (go_big_quiet_step (fail))
    refine wpQuiet_nil ?_
    intro w1 q1
    go_wp2
    go_ret2
    refine ⟨?_, q1⟩
    rw [HV.out.1, HV.out.2]
    first | rfl | simp
  · have z0 : ((hi : Int) == 0) = false := by simp; omega
    have KL := Lib.hid (Try.bits_LeadingZeros64 (y : Int) w (by omega) (by omega))
    obtain ⟨s, a, b, u, u1, u0, Y, H, Lw, T, S⟩ := Dv.setup hi lo y hh hl hy
    have SS := Lib.hid S
    have ty : (y : Int).toNat = y := Int.toNat_natCast y
    have hs := S.sL
    have s63 := S.s63
    have wY := S.wY
    have wa := S.wa
    have wb := S.wb
    have wH := S.wH
    have wL := S.wL
    have wu := S.wu
    have wT := S.wT
    have w1 := S.w1
    have w0 := S.w0
    have ha := S.inn.ha
    have hu := S.u64
    have az : ((a : Int) != 0) = true := by simp; omega
    have IN := Lib.hid S.inn
    obtain ⟨qa, hqa⟩ : ∃ q, q = u / a := ⟨_, rfl⟩
    obtain ⟨ra, hra⟩ : ∃ r, r = u % a := ⟨_, rfl⟩
    obtain ⟨ma, hma⟩ : ∃ m, m = qa * a := ⟨_, rfl⟩
    have F0 := Dv.At.first IN.out
    rw [← hqa, ← hra] at F0
    have F := Lib.hid F0
    have hmr : ma + ra = u := by
      have h2 := Nat.div_add_mod u a
      rw [← hqa, ← hra, Nat.mul_comm, ← hma] at h2
      exact h2
    have wQQ : IntKind.u64.wrap ((u : Int) / (a : Int)) = (qa : Int) := by
      rw [← Int.natCast_ediv, ← hqa]
      exact Dv.wrapS _ (by rw [hqa]; exact Nat.lt_of_le_of_lt (Nat.div_le_self _ _) hu)
    have wQ : IntKind.u64.wrap (Int.tdiv (u : Int) (a : Int)) = (qa : Int) := by
      rw [Int.tdiv_eq_ediv_of_nonneg (by omega)]
      exact wQQ
    have wM : IntKind.u64.wrap ((qa : Int) * (a : Int)) = (ma : Int) := by
      rw [← Int.natCast_mul, ← hma]
      exact Dv.wrapS _ (by omega)
    have wR : IntKind.u64.wrap ((u : Int) - (ma : Int)) = (ra : Int) := by
      rw [show (u : Int) - (ma : Int) = (ra : Int) by omega]
      exact Dv.wrapS _ (by omega)
    clear F0 hqa hra hma hmr
    clear S
    go_enter Try.func88, Try.ntmps88
    go_wp2_with fail
    refine KL.out.mono ?_
    rw [ty, hs]
    rintro e w1 ⟨rfl, rfl⟩
    go_upto_block 0 with fail
    obtain ⟨w0', hw0'⟩ : ∃ w0', w0' = w1 := ⟨_, rfl⟩
    go_cut [15, 16] (fun qv rv wx => qv = .int .u64 (((u * 4294967296 + u1) / (a * 4294967296 + b) : Nat) : Int) ∧ Qt w1 wx)
    case first =>
      go_wp2_with fail
      go_loopw [15, 16] (fun qv rv wr => ∃ q r : Nat, qv = .int .u64 (q : Int) ∧ rv = .int .u64 (r : Int) ∧ Hid (Dv.At u u1 a b q r) ∧ r < 4294967296 ∧ Qt w1 wr) (fun qv rv _ => (intOf qv).toNat)
      case atStart => exact ⟨qa, ra, rfl, rfl, Lib.hid F.out.1, F.out.2, Qt.refl _⟩
      case round =>
        obtain ⟨q, r, rfl, rfl, HA, hr, hq⟩ := hrel
        by_cases c1 : 4294967296 ≤ q
        · have d1 : decide ((4294967296 : Int) ≤ (q : Int)) = true := decide_eq_true (by omega)
          have d1' : decide (4294967296 ≤ q) = true := decide_eq_true c1
          obtain ⟨h1, hA'⟩ := HA.out.step IN.out (.inl c1)
          have HA' := Lib.hid hA'
          have hle := HA.out.le
          have wq1 : IntKind.u64.wrap ((q : Int) - 1) = ((q - 1 : Nat) : Int) := by
            rw [show (q : Int) - 1 = ((q - 1 : Nat) : Int) by omega]
            exact Dv.wrapS _ (by omega)
          have wra : IntKind.u64.wrap ((r : Int) + (a : Int)) = ((r + a : Nat) : Int) := by
            rw [← Int.natCast_add]
            exact Dv.wrapS _ (by omega)
          clear hA'
          by_cases c3 : 4294967296 ≤ r + a
          · have d3 : decide ((4294967296 : Int) ≤ ((r + a : Nat) : Int)) = true := decide_eq_true (by omega)
            have d3' : decide (4294967296 ≤ r + a) = true := decide_eq_true c3
            have d3'' : decide ((4294967296 : Int) ≤ (r : Int) + (a : Int)) = true := decide_eq_true (by omega)
            have RES := Lib.hid (HA'.out.last IN.out (by omega) (.inl c3))
            go_wp2_with fail
            go_meet
            exact ⟨by rw [RES.out], hq⟩
          · have d3 : decide ((4294967296 : Int) ≤ ((r + a : Nat) : Int)) = false := decide_eq_false (by omega)
            have d3' : decide (4294967296 ≤ r + a) = false := decide_eq_false c3
            have d3'' : decide ((4294967296 : Int) ≤ (r : Int) + (a : Int)) = false := decide_eq_false (by omega)
            go_wp2_with fail
            go_roundw
            case rel => exact ⟨q - 1, r + a, by first | rfl | simp, by first | rfl | simp, HA', by omega, hq⟩
            case measure => simp [intOf]; omega
        · have d1 : decide ((4294967296 : Int) ≤ (q : Int)) = false := decide_eq_false (by omega)
          have d1' : decide (4294967296 ≤ q) = false := decide_eq_false c1
          have hqb : q * b ≤ 4294967295 * 4294967295 := Nat.mul_le_mul (by omega) (by have := IN.out.hb; omega)
          have hdl := IN.out.hu
          have wqb : IntKind.u64.wrap ((q : Int) * (b : Int)) = ((q * b : Nat) : Int) := by
            rw [← Int.natCast_mul]
            exact Dv.wrapS _ (by omega)
          have wr1 : IntKind.u64.wrap (4294967296 * (r : Int)) = ((4294967296 * r : Nat) : Int) := by
            rw [show 4294967296 * (r : Int) = ((4294967296 * r : Nat) : Int) by omega]
            exact Dv.wrapS _ (by omega)
          have wr2 : IntKind.u64.wrap (((4294967296 * r : Nat) : Int) + (u1 : Int)) = ((4294967296 * r + u1 : Nat) : Int) := by
            rw [← Int.natCast_add]
            exact Dv.wrapS _ (by omega)
          have wr2' : IntKind.u64.wrap (4294967296 * (r : Int) + (u1 : Int)) = ((4294967296 * r + u1 : Nat) : Int) := by
            rw [show 4294967296 * (r : Int) + (u1 : Int) = ((4294967296 * r + u1 : Nat) : Int) by omega]
            exact Dv.wrapS _ (by omega)
          by_cases c2 : 4294967296 * r + u1 < q * b
          · have d2 : decide (((4294967296 * r + u1 : Nat) : Int) < ((q * b : Nat) : Int)) = true := decide_eq_true (by omega)
            have d2' : decide (4294967296 * r + u1 < q * b) = true := decide_eq_true c2
            have d2'' : decide (4294967296 * (r : Int) + (u1 : Int) < (q : Int) * (b : Int)) = true := decide_eq_true (by rw [← Int.natCast_mul]; omega)
            obtain ⟨h1, hA'⟩ := HA.out.step IN.out (.inr c2)
            have HA' := Lib.hid hA'
            have hle := HA.out.le
            have wq1 : IntKind.u64.wrap ((q : Int) - 1) = ((q - 1 : Nat) : Int) := by
              rw [show (q : Int) - 1 = ((q - 1 : Nat) : Int) by omega]
              exact Dv.wrapS _ (by omega)
            have wra : IntKind.u64.wrap ((r : Int) + (a : Int)) = ((r + a : Nat) : Int) := by
              rw [← Int.natCast_add]
              exact Dv.wrapS _ (by omega)
            clear hA'
            by_cases c3 : 4294967296 ≤ r + a
            · have d3 : decide ((4294967296 : Int) ≤ ((r + a : Nat) : Int)) = true := decide_eq_true (by omega)
              have d3' : decide (4294967296 ≤ r + a) = true := decide_eq_true c3
              have d3'' : decide ((4294967296 : Int) ≤ (r : Int) + (a : Int)) = true := decide_eq_true (by omega)
              have RES := Lib.hid (HA'.out.last IN.out (by omega) (.inl c3))
              go_wp2_with fail
              go_meet
              exact ⟨by rw [RES.out], hq⟩
            · have d3 : decide ((4294967296 : Int) ≤ ((r + a : Nat) : Int)) = false := decide_eq_false (by omega)
              have d3' : decide (4294967296 ≤ r + a) = false := decide_eq_false c3
              have d3'' : decide ((4294967296 : Int) ≤ (r : Int) + (a : Int)) = false := decide_eq_false (by omega)
              go_wp2_with fail
              go_roundw
              case rel => exact ⟨q - 1, r + a, by first | rfl | simp, by first | rfl | simp, HA', by omega, hq⟩
              case measure => simp [intOf]; omega
          · have d2 : decide (((4294967296 * r + u1 : Nat) : Int) < ((q * b : Nat) : Int)) = false := decide_eq_false (by omega)
            have d2' : decide (4294967296 * r + u1 < q * b) = false := decide_eq_false c2
            have d2'' : decide (4294967296 * (r : Int) + (u1 : Int) < (q : Int) * (b : Int)) = false := decide_eq_false (by rw [← Int.natCast_mul]; omega)
            have RES := Lib.hid (HA.out.last IN.out (by omega) (.inr ⟨by omega, c2⟩))
            go_wp2_with fail
            go_meet
            exact ⟨by rw [RES.out], hq⟩
    case rest =>
      obtain ⟨rfl, hq1⟩ := hcut
      rename World => w2
      have HQ1 := Lib.hid hq1
      clear hq1 wQ wQQ wM wR F hw0'
      have hY := SS.out.hY
      have hYY : a * 4294967296 + b = Y := hY.2.1.symm
      rw [hYY]
      have hdm := Nat.div_add_mod (u * 4294967296 + u1) Y
      have hrl := Nat.mod_lt (u * 4294967296 + u1) (show 0 < Y by omega)
      have hdg := IN.out.digit
      rw [hYY] at hdg
      obtain ⟨Q1, hQ1⟩ : ∃ Q1, Q1 = (u * 4294967296 + u1) / Y := ⟨_, rfl⟩
      obtain ⟨R1, hR1⟩ : ∃ R1, R1 = (u * 4294967296 + u1) % Y := ⟨_, rfl⟩
      rw [← hQ1, ← hR1] at hdm
      rw [← hR1] at hrl
      rw [← hQ1] at hdg
      rw [← hQ1]
      have HQR := Lib.hid (And.intro hQ1 hR1)
      clear hQ1 hR1
      obtain ⟨P1, hP1⟩ : ∃ P1, P1 = Q1 * Y := ⟨_, rfl⟩
      have hdm' : P1 + R1 = u * 4294967296 + u1 := by rw [hP1, Nat.mul_comm]; exact hdm
      obtain ⟨X1, hX1⟩ : ∃ x, x = u * 4294967296 % 18446744073709551616 := ⟨_, rfl⟩
      obtain ⟨X2, hX2⟩ : ∃ x, x = (u * 4294967296 + u1) % 18446744073709551616 := ⟨_, rfl⟩
      obtain ⟨X3, hX3⟩ : ∃ x, x = P1 % 18446744073709551616 := ⟨_, rfl⟩
      have x1 : IntKind.u64.wrap ((u : Int) * 4294967296) = (X1 : Int) := by
        rw [show (u : Int) * 4294967296 = ((u * 4294967296 : Nat) : Int) by omega, hX1]
        exact Dv.wrapT _
      have x2 : IntKind.u64.wrap ((X1 : Int) + (u1 : Int)) = (X2 : Int) := by
        rw [← Int.natCast_add, Dv.wrapT]
        congr 1
        omega
      have x3 : IntKind.u64.wrap ((Q1 : Int) * (Y : Int)) = (X3 : Int) := by
        rw [← Int.natCast_mul, ← hP1, hX3]
        exact Dv.wrapT _
      have x4 : IntKind.u64.wrap ((X2 : Int) - (X3 : Int)) = (R1 : Int) := by
        rw [IntKind.wrap_u64]
        omega
      clear hX1 hX2 hX3
      have hu2 : R1 < 18446744073709551616 := by omega
      have IN2 : Hid (Dv.In R1 u0 a b) := Lib.hid ⟨ha, IN.out.hb, SS.out.l0, by omega⟩
      have IN := IN2
      have HYY := Lib.hid hYY
      have HY1 := Lib.hid hY.1
      have HDG := Lib.hid hdg
      have HYP := Lib.hid (show 0 < Y by omega)
      have HYM := Lib.hid (show Y < 18446744073709551616 from hY.2.2)
      clear hdm hdm' hP1 hY hYY hdg hrl
      obtain ⟨qa2, hqa2⟩ : ∃ q, q = R1 / a := ⟨_, rfl⟩
      obtain ⟨ra2, hra2⟩ : ∃ r, r = R1 % a := ⟨_, rfl⟩
      obtain ⟨ma2, hma2⟩ : ∃ m, m = qa2 * a := ⟨_, rfl⟩
      have F02 := Dv.At.first IN2.out
      rw [← hqa2, ← hra2] at F02
      have F2 := Lib.hid F02
      have hmr2 : ma2 + ra2 = R1 := by
        have h2 := Nat.div_add_mod R1 a
        rw [← hqa2, ← hra2, Nat.mul_comm, ← hma2] at h2
        exact h2
      have wQQ2 : IntKind.u64.wrap ((R1 : Int) / (a : Int)) = (qa2 : Int) := by
        rw [← Int.natCast_ediv, ← hqa2]
        exact Dv.wrapS _ (by rw [hqa2]; exact Nat.lt_of_le_of_lt (Nat.div_le_self _ _) hu2)
      have wQ2 : IntKind.u64.wrap (Int.tdiv (R1 : Int) (a : Int)) = (qa2 : Int) := by
        rw [Int.tdiv_eq_ediv_of_nonneg (by omega)]
        exact wQQ2
      have wM2 : IntKind.u64.wrap ((qa2 : Int) * (a : Int)) = (ma2 : Int) := by
        rw [← Int.natCast_mul, ← hma2]
        exact Dv.wrapS _ (by omega)
      have wR2 : IntKind.u64.wrap ((R1 : Int) - (ma2 : Int)) = (ra2 : Int) := by
        rw [show (R1 : Int) - (ma2 : Int) = (ra2 : Int) by omega]
        exact Dv.wrapS _ (by omega)
      clear F02 hqa2 hra2 hma2 hmr2
      go_upto_block 2 with fail
      go_cut [16, 18] (fun rv qv wx => qv = .int .u64 (((R1 * 4294967296 + u0) / (a * 4294967296 + b) : Nat) : Int) ∧ Qt w2 wx)
      case first =>
        go_wp2_with fail
        go_loopw [16, 18] (fun rv qv wr => ∃ q r : Nat, qv = .int .u64 (q : Int) ∧ rv = .int .u64 (r : Int) ∧ Hid (Dv.At R1 u0 a b q r) ∧ r < 4294967296 ∧ Qt w2 wr) (fun rv qv _ => (intOf qv).toNat)
        case atStart => exact ⟨qa2, ra2, rfl, rfl, Lib.hid F2.out.1, F2.out.2, Qt.refl _⟩
        case round =>
          obtain ⟨q, r, rfl, rfl, HA, hr, hq⟩ := hrel
          by_cases c1 : 4294967296 ≤ q
          · have d1 : decide ((4294967296 : Int) ≤ (q : Int)) = true := decide_eq_true (by omega)
            have d1' : decide (4294967296 ≤ q) = true := decide_eq_true c1
            obtain ⟨h1, hA'⟩ := HA.out.step IN.out (.inl c1)
            have HA' := Lib.hid hA'
            have hle := HA.out.le
            have wq1 : IntKind.u64.wrap ((q : Int) - 1) = ((q - 1 : Nat) : Int) := by
              rw [show (q : Int) - 1 = ((q - 1 : Nat) : Int) by omega]
              exact Dv.wrapS _ (by omega)
            have wra : IntKind.u64.wrap ((r : Int) + (a : Int)) = ((r + a : Nat) : Int) := by
              rw [← Int.natCast_add]
              exact Dv.wrapS _ (by omega)
            clear hA'
            by_cases c3 : 4294967296 ≤ r + a
            · have d3 : decide ((4294967296 : Int) ≤ ((r + a : Nat) : Int)) = true := decide_eq_true (by omega)
              have d3' : decide (4294967296 ≤ r + a) = true := decide_eq_true c3
              have d3'' : decide ((4294967296 : Int) ≤ (r : Int) + (a : Int)) = true := decide_eq_true (by omega)
              have RES := Lib.hid (HA'.out.last IN.out (by omega) (.inl c3))
              go_wp2_with fail
              go_meet
              exact ⟨by rw [RES.out], hq⟩
            · have d3 : decide ((4294967296 : Int) ≤ ((r + a : Nat) : Int)) = false := decide_eq_false (by omega)
              have d3' : decide (4294967296 ≤ r + a) = false := decide_eq_false c3
              have d3'' : decide ((4294967296 : Int) ≤ (r : Int) + (a : Int)) = false := decide_eq_false (by omega)
              go_wp2_with fail
              go_roundw
              case rel => exact ⟨q - 1, r + a, by first | rfl | simp, by first | rfl | simp, HA', by omega, hq⟩
              case measure => simp [intOf]; omega
          · have d1 : decide ((4294967296 : Int) ≤ (q : Int)) = false := decide_eq_false (by omega)
            have d1' : decide (4294967296 ≤ q) = false := decide_eq_false c1
            have hqb : q * b ≤ 4294967295 * 4294967295 := Nat.mul_le_mul (by omega) (by have := IN.out.hb; omega)
            have hdl := IN.out.hu
            have wqb : IntKind.u64.wrap ((q : Int) * (b : Int)) = ((q * b : Nat) : Int) := by
              rw [← Int.natCast_mul]
              exact Dv.wrapS _ (by omega)
            have wr1 : IntKind.u64.wrap (4294967296 * (r : Int)) = ((4294967296 * r : Nat) : Int) := by
              rw [show 4294967296 * (r : Int) = ((4294967296 * r : Nat) : Int) by omega]
              exact Dv.wrapS _ (by omega)
            have wr2 : IntKind.u64.wrap (((4294967296 * r : Nat) : Int) + (u0 : Int)) = ((4294967296 * r + u0 : Nat) : Int) := by
              rw [← Int.natCast_add]
              exact Dv.wrapS _ (by omega)
            have wr2' : IntKind.u64.wrap (4294967296 * (r : Int) + (u0 : Int)) = ((4294967296 * r + u0 : Nat) : Int) := by
              rw [show 4294967296 * (r : Int) + (u0 : Int) = ((4294967296 * r + u0 : Nat) : Int) by omega]
              exact Dv.wrapS _ (by omega)
            by_cases c2 : 4294967296 * r + u0 < q * b
            · have d2 : decide (((4294967296 * r + u0 : Nat) : Int) < ((q * b : Nat) : Int)) = true := decide_eq_true (by omega)
              have d2' : decide (4294967296 * r + u0 < q * b) = true := decide_eq_true c2
              have d2'' : decide (4294967296 * (r : Int) + (u0 : Int) < (q : Int) * (b : Int)) = true := decide_eq_true (by rw [← Int.natCast_mul]; omega)
              obtain ⟨h1, hA'⟩ := HA.out.step IN.out (.inr c2)
              have HA' := Lib.hid hA'
              have hle := HA.out.le
              have wq1 : IntKind.u64.wrap ((q : Int) - 1) = ((q - 1 : Nat) : Int) := by
                rw [show (q : Int) - 1 = ((q - 1 : Nat) : Int) by omega]
                exact Dv.wrapS _ (by omega)
              have wra : IntKind.u64.wrap ((r : Int) + (a : Int)) = ((r + a : Nat) : Int) := by
                rw [← Int.natCast_add]
                exact Dv.wrapS _ (by omega)
              clear hA'
              by_cases c3 : 4294967296 ≤ r + a
              · have d3 : decide ((4294967296 : Int) ≤ ((r + a : Nat) : Int)) = true := decide_eq_true (by omega)
                have d3' : decide (4294967296 ≤ r + a) = true := decide_eq_true c3
                have d3'' : decide ((4294967296 : Int) ≤ (r : Int) + (a : Int)) = true := decide_eq_true (by omega)
                have RES := Lib.hid (HA'.out.last IN.out (by omega) (.inl c3))
                go_wp2_with fail
                go_meet
                exact ⟨by rw [RES.out], hq⟩
              · have d3 : decide ((4294967296 : Int) ≤ ((r + a : Nat) : Int)) = false := decide_eq_false (by omega)
                have d3' : decide (4294967296 ≤ r + a) = false := decide_eq_false c3
                have d3'' : decide ((4294967296 : Int) ≤ (r : Int) + (a : Int)) = false := decide_eq_false (by omega)
                go_wp2_with fail
                go_roundw
                case rel => exact ⟨q - 1, r + a, by first | rfl | simp, by first | rfl | simp, HA', by omega, hq⟩
                case measure => simp [intOf]; omega
            · have d2 : decide (((4294967296 * r + u0 : Nat) : Int) < ((q * b : Nat) : Int)) = false := decide_eq_false (by omega)
              have d2' : decide (4294967296 * r + u0 < q * b) = false := decide_eq_false c2
              have d2'' : decide (4294967296 * (r : Int) + (u0 : Int) < (q : Int) * (b : Int)) = false := decide_eq_false (by rw [← Int.natCast_mul]; omega)
              have RES := Lib.hid (HA.out.last IN.out (by omega) (.inr ⟨by omega, c2⟩))
              go_wp2_with fail
              go_meet
              exact ⟨by rw [RES.out], hq⟩
      case rest =>
        obtain ⟨rfl, hq2⟩ := hcut
        have hYY := HYY.out
        have hYP := HYP.out
        have hYM := HYM.out
        have hdg := HDG.out
        rw [hYY]
        have hdm2 := Nat.div_add_mod (R1 * 4294967296 + u0) Y
        have hrl2 := Nat.mod_lt (R1 * 4294967296 + u0) hYP
        have hdg2 := IN.out.digit
        rw [hYY] at hdg2
        have WH := Dv.whole 4294967296 (hi * 18446744073709551616 + lo) y (2 ^ s) u u1 u0 (by omega) (Nat.two_pow_pos s) SS.out.hX
        rw [HY1.out, ← HQR.out.1, ← HQR.out.2] at WH
        obtain ⟨Q0, hQ0⟩ : ∃ Q0, Q0 = (R1 * 4294967296 + u0) / Y := ⟨_, rfl⟩
        obtain ⟨R0, hR0⟩ : ∃ R0, R0 = (R1 * 4294967296 + u0) % Y := ⟨_, rfl⟩
        rw [← hQ0, ← hR0] at hdm2 WH
        rw [← hR0] at hrl2
        rw [← hQ0] at hdg2
        rw [← hQ0]
        have WHH := Lib.hid WH
        clear hQ0 hR0 WH
        obtain ⟨P0, hP0⟩ : ∃ P0, P0 = Q0 * Y := ⟨_, rfl⟩
        have hdm3 : P0 + R0 = R1 * 4294967296 + u0 := by rw [hP0, Nat.mul_comm]; exact hdm2
        have l0 := SS.out.l0
        obtain ⟨C1, hC1⟩ : ∃ x, x = Q1 * 4294967296 := ⟨_, rfl⟩
        obtain ⟨C2, hC2⟩ : ∃ x, x = Q1 * 4294967296 + Q0 := ⟨_, rfl⟩
        obtain ⟨C3, hC3⟩ : ∃ x, x = R1 * 4294967296 % 18446744073709551616 := ⟨_, rfl⟩
        obtain ⟨C4, hC4⟩ : ∃ x, x = (R1 * 4294967296 + u0) % 18446744073709551616 := ⟨_, rfl⟩
        obtain ⟨C5, hC5⟩ : ∃ x, x = P0 % 18446744073709551616 := ⟨_, rfl⟩
        have v1 : IntKind.u64.wrap ((Q1 : Int) * 4294967296) = (C1 : Int) := by
          rw [show (Q1 : Int) * 4294967296 = (C1 : Int) by omega]
          exact Dv.wrapS _ (by omega)
        have v2 : IntKind.u64.wrap ((C1 : Int) + (Q0 : Int)) = (C2 : Int) := by
          rw [← Int.natCast_add, show C1 + Q0 = C2 by omega]
          exact Dv.wrapS _ (by omega)
        have v3 : IntKind.u64.wrap ((R1 : Int) * 4294967296) = (C3 : Int) := by
          rw [show (R1 : Int) * 4294967296 = ((R1 * 4294967296 : Nat) : Int) by omega, hC3]
          exact Dv.wrapT _
        have v4 : IntKind.u64.wrap ((C3 : Int) + (u0 : Int)) = (C4 : Int) := by
          rw [← Int.natCast_add, Dv.wrapT]
          congr 1
          omega
        have v5 : IntKind.u64.wrap ((Q0 : Int) * (Y : Int)) = (C5 : Int) := by
          rw [← Int.natCast_mul, ← hP0, hC5]
          exact Dv.wrapT _
        have v6 : IntKind.u64.wrap ((C4 : Int) - (C5 : Int)) = (R0 : Int) := by
          rw [IntKind.wrap_u64]
          omega
        obtain ⟨D0, hD0⟩ : ∃ x, x = R0 / 2 ^ s := ⟨_, rfl⟩
        have HCD := Lib.hid (And.intro hC2 hD0)
        clear hC1 hC2 hC3 hC4 hC5
        have v7 : (R0 : Int) / 2 ^ s = (D0 : Int) := by rw [Dv.dw R0 s, ← hD0]
        clear hD0
        have Hq := Lib.hid hq2
        clear hdm2 hdm3 hP0 hq2 hYY hYP hYM wQ2 wQQ2 wM2 wR2 x1 x2 x3 x4 hdg hdg2 hrl2
        go_wp2
        go_ret2
        rw [← WHH.out.1, ← WHH.out.2, ← HCD.out.1, ← HCD.out.2]
        exact ⟨rfl, HQ1.out.trans Hq.out⟩
end Go.Proofs.Ytpkbimmhimgamaa
namespace Go.Proofs.Ytpkbimmhimgamaa
set_option linter.unusedSimpArgs false
set_option linter.unusedVariables false
set_option linter.unnecessarySimpa false
open Go.RowKit
attribute [local go_sem ↓] run_min_int run_max_int
def mulS (a b : Int) : Int := min (a * b) 18446744073709551615
def diffS (a b : Int) : Int := max a b - min a b
def clampS (x lo hi : Int) : Int := if hi < x then hi else if x < lo then lo else x
def downS (a b d : Int) : Int := if d = 0 then 18446744073709551615 else min (a * b / d) 18446744073709551615
def shlS (a n : Int) : Int := if a = 0 ∨ n ≤ 0 then a else min (a * 2 ^ n.toNat) 18446744073709551615
theorem mulS_u {a b : Int} (ha : isU64 a) (hb : isU64 b) : isU64 (mulS a b) := by
  have := Int.mul_nonneg ha.1 hb.1
  unfold mulS isU64
  omega
theorem downS_u {a b d : Int} (ha : isU64 a) (hb : isU64 b) (hd : isU64 d) : isU64 (downS a b d) := by
  have h1 := Int.mul_nonneg ha.1 hb.1
  have h2 := Int.ediv_nonneg h1 hd.1
  unfold downS isU64
  split <;> omega
theorem bits_mul (a b : Int) (w : World) (ha : isU64 a) (hb : isU64 b) :
    Calls Try.prog 78 #[.int .u64 a, .int .u64 b] w fun e w' => e = .returned (.tuple #[.int .u64 (a * b / 18446744073709551616), .int .u64 (a * b % 18446744073709551616)]) ∧ w' = w := by
  obtain ⟨x, rfl⟩ := Int.eq_ofNat_of_zero_le ha.1
  obtain ⟨y, rfl⟩ := Int.eq_ofNat_of_zero_le hb.1
  refine (Try.bits_Mul64 x y (by have := ha.2; omega) (by have := hb.2; omega) w).mono ?_
  rintro e w' ⟨h1, h2⟩
  refine ⟨?_, h2⟩
  rw [h1, Int.natCast_ediv, Int.natCast_emod, Int.natCast_mul]
  rfl
theorem mul_hi {a b : Int} (ha : isU64 a) (hb : isU64 b) : isU64 (a * b / 18446744073709551616) ∧ isU64 (a * b % 18446744073709551616) := by
  obtain ⟨x, rfl⟩ := Int.eq_ofNat_of_zero_le ha.1
  obtain ⟨y, rfl⟩ := Int.eq_ofNat_of_zero_le hb.1
  have hx : x ≤ 18446744073709551615 := by have := ha.2; omega
  have hy : y ≤ 18446744073709551615 := by have := hb.2; omega
  have h1 : x * y ≤ 18446744073709551615 * 18446744073709551615 := Nat.mul_le_mul hx hy
  have e : (x : Int) * (y : Int) = ((x * y : Nat) : Int) := (Int.natCast_mul x y).symm
  rw [e]
  generalize x * y = p at *
  unfold isU64
  omega
theorem sat_mul (a b : Int) (w : World) (ha : isU64 a) (hb : isU64 b) :
    Calls Try.prog 58 #[.int .u64 a, .int .u64 b] w fun e w' => e = .returned (.int .u64 (mulS a b)) ∧ Qt w w' := by
  have K := Lib.hid (bits_mul a b w ha hb)
  have hp := Int.mul_nonneg ha.1 hb.1
  have HM : Hid (mulS a b = min (a * b) 18446744073709551615) := Lib.hid rfl
  generalize a * b = p at *
  by_cases hc : p < 18446744073709551616
  · have h1 : p / 18446744073709551616 = 0 := by omega
    have h2 : p % 18446744073709551616 = p := by omega
    rw [h1, h2] at K
    have HM2 : Hid (mulS a b = p) := Lib.hid (by rw [HM.out]; omega)
    clear h1 h2 hc
    go_enter Try.func58, Try.ntmps58
    go_wp2_with fail
    refine K.out.mono ?_
    rintro e w1 ⟨rfl, rfl⟩
    go_wp2
    go_ret
    exact ⟨ret_int HM2.out.symm, Qt.refl _⟩
  · obtain ⟨x, hx⟩ : ∃ x, x = p / 18446744073709551616 := ⟨_, rfl⟩
    rw [← hx] at K
    have h1 : (x != 0) = true := bne_iff_ne.2 (by omega)
    have HM2 : Hid (mulS a b = 18446744073709551615) := Lib.hid (by rw [HM.out]; omega)
    generalize p % 18446744073709551616 = y at *
    clear hx hc
    go_enter Try.func58, Try.ntmps58
    go_wp2_with fail
    refine K.out.mono ?_
    rintro e w1 ⟨rfl, rfl⟩
    go_wp2
    go_ret
    exact ⟨ret_int HM2.out.symm, Qt.refl _⟩
/-- A quotient of two words by one. -/
theorem wide_div (hi lo d : Int) (w : World) (hh : isU64 hi) (hl : isU64 lo) (hd : isU64 d) :
    Calls Try.prog 79 #[.int .u64 hi, .int .u64 lo, .int .u64 d] w fun e w' => e = .returned (.tuple #[.int .u64 (if hi < d then (hi * 18446744073709551616 + lo) / d else 0), .int .u64 (if hi < d then (hi * 18446744073709551616 + lo) % d else 0), .bool (decide (hi < d))]) ∧ Qt w w' := by
  by_cases hc : hi < d
  · rw [if_pos hc, if_pos hc, decide_eq_true hc]
    obtain ⟨x, rfl⟩ := Int.eq_ofNat_of_zero_le hh.1
    obtain ⟨y, rfl⟩ := Int.eq_ofNat_of_zero_le hl.1
    obtain ⟨z, rfl⟩ := Int.eq_ofNat_of_zero_le hd.1
    have K := Lib.hid (bits_Div64 x y z (by omega) (by have := hl.2; omega) (by have := hd.2; omega) w)
    have e1 : (((x * 18446744073709551616 + y) / z : Nat) : Int) = ((x : Int) * 18446744073709551616 + y) / z := by rw [Int.natCast_ediv, Int.natCast_add, Int.natCast_mul]; rfl
    have e2 : (((x * 18446744073709551616 + y) % z : Nat) : Int) = ((x : Int) * 18446744073709551616 + y) % z := by rw [Int.natCast_emod, Int.natCast_add, Int.natCast_mul]; rfl
    rw [← e1, ← e2]
    generalize (x * 18446744073709551616 + y) / z = q at *
    generalize (x * 18446744073709551616 + y) % z = r at *
    have d1 : decide ((z : Int) ≤ (x : Int)) = false := decide_eq_false (by omega)
    have d2 : decide (z ≤ x) = false := decide_eq_false (by omega)
    clear hc hh hl hd e1 e2
    go_enter Try.func79, Try.ntmps79
    go_wp2_with fail
    refine K.out.mono ?_
    rintro e w1 ⟨rfl, q1⟩
    go_wp2
    go_ret3
    exact ⟨rfl, q1⟩
  · rw [if_neg hc, if_neg hc, decide_eq_false hc]
    have d1 : decide (d ≤ hi) = true := decide_eq_true (by omega)
    clear hc
    go_enter Try.func79, Try.ntmps79
    go_wp2
    go_ret3
    exact ⟨rfl, Qt.refl _⟩
theorem down_eq {a b d : Int} (ha : isU64 a) (hb : isU64 b) (hd : isU64 d) : downS a b d = if a * b / 18446744073709551616 < d then (a * b / 18446744073709551616 * 18446744073709551616 + a * b % 18446744073709551616) / d else 18446744073709551615 := by
  have hp := Int.mul_nonneg ha.1 hb.1
  unfold downS
  generalize a * b = p at *
  have e : p / 18446744073709551616 * 18446744073709551616 + p % 18446744073709551616 = p := by omega
  rw [e]
  by_cases h0 : d = 0
  · rw [if_pos h0, if_neg (by have := Int.ediv_nonneg hp (show (0 : Int) ≤ 18446744073709551616 by omega); omega)]
  · have hd0 : 0 < d := by have := hd.1; omega
    rw [if_neg h0]
    split
    · rename_i h1
      have h2 : p / d < 18446744073709551616 := by
        refine Int.ediv_lt_of_lt_mul hd0 ?_
        rw [Int.mul_comm]
        have : p < (p / 18446744073709551616 + 1) * 18446744073709551616 := by omega
        have h3 : (p / 18446744073709551616 + 1) * 18446744073709551616 ≤ d * 18446744073709551616 := Int.mul_le_mul_of_nonneg_right (by omega) (by omega)
        omega
      omega
    · rename_i h1
      have h2 : 18446744073709551616 ≤ p / d := by
        refine (Int.le_ediv_iff_mul_le hd0).2 ?_
        rw [Int.mul_comm]
        have h3 : d * 18446744073709551616 ≤ p / 18446744073709551616 * 18446744073709551616 := Int.mul_le_mul_of_nonneg_right (by omega) (by omega)
        omega
      omega
theorem wide_down (a b d : Int) (w : World) (ha : isU64 a) (hb : isU64 b) (hd : isU64 d) :
    Calls Try.prog 59 #[.int .u64 a, .int .u64 b, .int .u64 d] w fun e w' => e = .returned (.int .u64 (downS a b d)) ∧ Qt w w' := by
  have K := Lib.hid (bits_mul a b w ha hb)
  have HH := mul_hi ha hb
  have K2 := Lib.hid (wide_div (a * b / 18446744073709551616) (a * b % 18446744073709551616) d w HH.1 HH.2 hd)
  have HD := Lib.hid (down_eq ha hb hd)
  generalize a * b / 18446744073709551616 = x at *
  generalize a * b % 18446744073709551616 = y at *
  by_cases hc : x < d
  · rw [if_pos hc, if_pos hc, decide_eq_true hc] at K2
    rw [if_pos hc] at HD
    generalize (x * 18446744073709551616 + y) / d = q at *
    generalize (x * 18446744073709551616 + y) % d = r at *
    clear hc HH
    go_enter Try.func59, Try.ntmps59
    go_wp2_with fail
    refine K.out.mono ?_
    rintro e w1 ⟨rfl, rfl⟩
    go_wp2_with fail
    refine K2.out.mono ?_
    rintro e w2 ⟨rfl, q2⟩
    go_wp2
    go_ret
    exact ⟨ret_int HD.out.symm, q2⟩
  · rw [if_neg hc, if_neg hc, decide_eq_false hc] at K2
    rw [if_neg hc] at HD
    clear hc HH
    go_enter Try.func59, Try.ntmps59
    go_wp2_with fail
    refine K.out.mono ?_
    rintro e w1 ⟨rfl, rfl⟩
    go_wp2_with fail
    refine K2.out.mono ?_
    rintro e w2 ⟨rfl, q2⟩
    go_wp2
    go_ret
    exact ⟨ret_int HD.out.symm, q2⟩
end Go.Proofs.Ytpkbimmhimgamaa
