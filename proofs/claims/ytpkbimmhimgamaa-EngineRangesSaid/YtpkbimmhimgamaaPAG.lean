/-
  Part of the proof of EngineRanges.
-/
import Derived.Test.YtpkbimmhimgamaaPAF
import Derived.Test.YtpkbimmhimgamaaPAA
import Derived.Test.YtpkbimmhimgamaaPAE
namespace Go.Proofs.Ytpkbimmhimgamaa
set_option linter.unusedSimpArgs false
set_option linter.unusedVariables false
set_option linter.unnecessarySimpa false
open Go.RowKit
attribute [local go_sem ↓] run_min_int run_max_int
namespace Bw
/-- One bit more. -/
theorem step (N d bit : Nat) (hd : 0 < d) (hb : bit ≤ 1) : (2 * N + bit) / d = 2 * (N / d) + (if d ≤ 2 * (N % d) + bit then 1 else 0) ∧ (2 * N + bit) % d = 2 * (N % d) + bit - (if d ≤ 2 * (N % d) + bit then d else 0) := by
  have e1 := Nat.div_add_mod N d
  have e2 := Nat.mod_lt N hd
  generalize N / d = q at *
  generalize N % d = r at *
  have e3 : 2 * N + bit = d * (2 * q) + (2 * r + bit) := by
    rw [← e1, Nat.mul_add, Nat.mul_left_comm, Nat.add_assoc]
  split
  · rename_i h
    have e4 : d * (2 * q) + (2 * r + bit) = d * (2 * q + 1) + (2 * r + bit - d) := by rw [Nat.mul_add]; omega
    rw [e3, e4]
    have h4 : 2 * r + bit - d < d := by omega
    exact ⟨by rw [Nat.mul_add_div hd, Nat.div_eq_of_lt h4], by rw [Nat.mul_add_mod, Nat.mod_eq_of_lt h4]⟩
  · rename_i h
    have h4 : 2 * r + bit < d := by omega
    rw [e3]
    exact ⟨by rw [Nat.mul_add_div hd, Nat.div_eq_of_lt h4], by rw [Nat.mul_add_mod, Nat.mod_eq_of_lt h4]; omega⟩
theorem bits_next (lo m : Nat) : lo / 2 ^ m = 2 * (lo / 2 ^ (m + 1)) + lo / 2 ^ m % 2 := by
  rw [Nat.pow_succ, ← Nat.div_div_eq_div_mul]
  omega
def N (hi lo k : Nat) : Nat := hi * 2 ^ (64 - k) + lo / 2 ^ k
theorem N_all (hi lo : Nat) : N hi lo 0 = hi * 18446744073709551616 + lo := by simp [N]
theorem N_none (hi lo : Nat) (h : lo < 18446744073709551616) : N hi lo 64 = hi := by
  have : lo / 2 ^ 64 = 0 := Nat.div_eq_of_lt (by simpa using h)
  simp [N, this]
theorem N_next (hi lo m : Nat) (h : m < 64) : N hi lo m = 2 * N hi lo (m + 1) + lo / 2 ^ m % 2 := by
  unfold N
  have e : 2 ^ (64 - m) = 2 ^ (64 - (m + 1)) * 2 := by rw [← Nat.pow_succ]; congr 1; omega
  have b := bits_next lo m
  rw [e, ← Nat.mul_assoc]
  generalize hi * 2 ^ (64 - (m + 1)) = P at *
  generalize lo / 2 ^ (m + 1) = Q at *
  generalize lo / 2 ^ m = R at *
  omega
theorem N_le (hi lo k : Nat) (hk : k ≤ 64) : N hi lo k ≤ hi * 18446744073709551616 + lo := by
  unfold N
  have h1 : 2 ^ (64 - k) ≤ 2 ^ 64 := Nat.pow_le_pow_right (by omega) (by omega)
  have h2 := Nat.mul_le_mul_left hi h1
  have h3 := Nat.div_le_self lo (2 ^ k)
  have e64 : (2 : Nat) ^ 64 = 18446744073709551616 := by decide
  rw [e64] at h2
  omega
theorem N_q (hi lo d k : Nat) (hh : hi < d) (hl : lo < 18446744073709551616) (hk : k ≤ 64) : N hi lo k / d < 18446744073709551616 := by
  have h1 := N_le hi lo k hk
  rw [Nat.div_lt_iff_lt_mul (by omega)]
  have h3 : (hi + 1) * 18446744073709551616 ≤ d * 18446744073709551616 := Nat.mul_le_mul_right _ hh
  rw [Nat.mul_comm]
  omega
end Bw
set_option maxHeartbeats 4000000 in
set_option maxRecDepth 100000 in
theorem ref_div (hi lo d : Nat) (w : World) (hh : hi < d) (hl : lo < 18446744073709551616) (hd : d < 18446744073709551616) :
    Calls Try.prog 56 #[.int .u64 (hi : Int), .int .u64 (lo : Int), .int .u64 (d : Int)] w fun e w' => e = .returned (.tuple #[.int .u64 (((hi * 18446744073709551616 + lo) / d : Nat) : Int), .int .u64 (((hi * 18446744073709551616 + lo) % d : Nat) : Int), .bool true]) ∧ Qt w w' := by
  have d1 : decide ((d : Int) ≤ (hi : Int)) = false := decide_eq_false (by omega)
  have d1' : decide (d ≤ hi) = false := decide_eq_false (by omega)
  have HH := Lib.hid hh
  have HL := Lib.hid hl
  go_enter Try.func56, Try.ntmps56
  go_wp2_with fail
  go_loopw [9, 10, 11] (fun qv rv iv wr => ∃ k q r : Nat, k ≤ 64 ∧ iv = .int .i64 ((k : Int) - 1) ∧ qv = .int .u64 (q : Int) ∧ rv = .int .u64 (r : Int) ∧ Hid (q = Bw.N hi lo k / d) ∧ Hid (r = Bw.N hi lo k % d) ∧ Qt w wr) (fun _ _ iv _ => (intOf iv + 1).toNat)
  case atStart => exact ⟨64, 0, hi, by omega, rfl, rfl, rfl, Lib.hid (by rw [Bw.N_none hi lo HL.out, Nat.div_eq_of_lt HH.out]), Lib.hid (by rw [Bw.N_none hi lo HL.out, Nat.mod_eq_of_lt HH.out]), Qt.refl _⟩
  case round =>
    obtain ⟨k, q, r, hk, rfl, rfl, rfl, HQ, HR, hq⟩ := hrel
    cases k with
    | zero =>
      have e0 : decide ((0 : Int) ≤ ((0 : Nat) : Int) - 1) = false := by decide
      have HX := Lib.hid (Bw.N_all hi lo)
      rw [HX.out] at HQ HR
      go_wp2
      go_ret3
      rw [← HQ.out, ← HR.out]
      exact ⟨rfl, hq⟩
    | succ m =>
      rw [show ((m + 1 : Nat) : Int) - 1 = (m : Int) by omega]
      have e0 : decide ((0 : Int) ≤ (m : Int)) = true := decide_eq_true (by omega)
      have wm : IntKind.u64.wrap (m : Int) = (m : Int) := IntWalk.u64_in _ (by omega)
      obtain ⟨b, hb⟩ : ∃ b, b = lo / 2 ^ m := ⟨_, rfl⟩
      have wb : (lo : Int) / 2 ^ m = (b : Int) := by rw [Dv.dw, ← hb]
      obtain ⟨b1, hb1⟩ : ∃ x, x = b % 2 := ⟨_, rfl⟩
      have hbb : b1 ≤ 1 := by omega
      have hbl : b < 18446744073709551616 := by rw [hb]; exact Nat.lt_of_le_of_lt (Nat.div_le_self _ _) HL.out
      have NX := Bw.N_next hi lo m (by omega)
      rw [← hb, ← hb1] at NX
      have ST := Bw.step (Bw.N hi lo (m + 1)) d b1 (by omega) hbb
      rw [← NX, ← HQ.out, ← HR.out] at ST
      have hrd : r < d := by rw [HR.out]; exact Nat.mod_lt _ (by omega)
      have hqn := Bw.N_q hi lo d m HH.out HL.out (by omega)
      have wand : bits .and .u64 (b : Int) 1 = (b1 : Int) := by
        have h := bits_and_u64_nat b 1 hbl (by omega)
        rw [Nat.and_one_is_mod, ← hb1] at h
        exact h
      have hq2 : q * 2 < 18446744073709551616 := by
        have h := ST.1
        split at h <;> omega
      obtain ⟨q2, hq2'⟩ : ∃ x, x = q * 2 := ⟨_, rfl⟩
      have wq : IntKind.u64.wrap ((q : Int) * 2) = (q2 : Int) := by
        rw [show (q : Int) * 2 = (q2 : Int) by omega]
        exact Dv.wrapS _ (by omega)
      have wqo : bits .or .u64 (q2 : Int) 1 = ((q2 + 1 : Nat) : Int) := by
        have h := bits_or_u64_nat q2 1 (by omega) (by omega)
        have e : q2 ||| 1 = q2 + 1 := by
          have := Nat.shiftLeft_add_eq_or_of_lt (show 1 < 2 ^ 1 by decide) q
          rw [Nat.shiftLeft_eq] at this
          rw [hq2']
          exact this.symm
        rw [e] at h
        exact h
      obtain ⟨r2, hr2⟩ : ∃ x, x = r * 2 % 18446744073709551616 := ⟨_, rfl⟩
      have wr2 : IntKind.u64.wrap ((r : Int) * 2) = (r2 : Int) := by
        rw [show (r : Int) * 2 = ((r * 2 : Nat) : Int) by omega, hr2]
        exact Dv.wrapT _
      obtain ⟨r1, hr1⟩ : ∃ x, x = r2 + b1 := ⟨_, rfl⟩
      have wro : bits .or .u64 (r2 : Int) (b1 : Int) = (r1 : Int) := by
        have h := bits_or_u64_nat r2 b1 (by omega) (by omega)
        have e : r2 ||| b1 = r2 + b1 := by
          have := Nat.shiftLeft_add_eq_or_of_lt (show b1 < 2 ^ 1 by omega) (r2 / 2)
          rw [Nat.shiftLeft_eq, show r2 / 2 * 2 ^ 1 = r2 by omega] at this
          exact this.symm
        rw [e, ← hr1] at h
        exact h
      by_cases hov : 9223372036854775808 ≤ r
      · have o1 : ((r : Int) / 9223372036854775808 == 1) = true := by rw [show (r : Int) / 9223372036854775808 = 1 by omega]; rfl
        have hT : d ≤ 2 * r + b1 := by omega
        rw [if_pos hT, if_pos hT] at ST
        obtain ⟨rn, hrn⟩ : ∃ x, x = 2 * r + b1 - d := ⟨_, rfl⟩
        have ws : IntKind.u64.wrap ((r1 : Int) - (d : Int)) = (rn : Int) := by
          rw [IntKind.wrap_u64]
          omega
        have NQ : Hid (q2 + 1 = Bw.N hi lo m / d) := Lib.hid (by rw [ST.1]; omega)
        have NR : Hid (rn = Bw.N hi lo m % d) := Lib.hid (by rw [ST.2]; omega)
        clear ST NX HQ HR hb hb1 hr2 hr1 hrn hq2' hov hT
        go_wp2_with fail
        go_roundw
        case rel => exact ⟨m, q2 + 1, rn, by omega, by first | rfl | (simp; done), by first | rfl | (simp; done), by first | rfl | (simp; done), NQ, NR, hq⟩
        case measure => simp [intOf] <;> omega
      · have o1 : ((r : Int) / 9223372036854775808 == 1) = false := by rw [show (r : Int) / 9223372036854775808 = 0 by omega]; rfl
        have hr12 : r1 = 2 * r + b1 := by omega
        by_cases hT : d ≤ 2 * r + b1
        · rw [if_pos hT, if_pos hT] at ST
          have t1 : decide ((d : Int) ≤ (r1 : Int)) = true := decide_eq_true (by omega)
          have t2 : decide (d ≤ r1) = true := decide_eq_true (by omega)
          obtain ⟨rn, hrn⟩ : ∃ x, x = 2 * r + b1 - d := ⟨_, rfl⟩
          have ws : IntKind.u64.wrap ((r1 : Int) - (d : Int)) = (rn : Int) := by
            rw [IntKind.wrap_u64]
            omega
          have NQ : Hid (q2 + 1 = Bw.N hi lo m / d) := Lib.hid (by rw [ST.1]; omega)
          have NR : Hid (rn = Bw.N hi lo m % d) := Lib.hid (by rw [ST.2]; omega)
          clear ST NX HQ HR hb hb1 hr2 hr1 hrn hq2' hov hT hr12
          go_wp2_with fail
          go_roundw
          case rel => exact ⟨m, q2 + 1, rn, by omega, by first | rfl | (simp; done), by first | rfl | (simp; done), by first | rfl | (simp; done), NQ, NR, hq⟩
          case measure => simp [intOf] <;> omega
        · rw [if_neg hT, if_neg hT] at ST
          have t1 : decide ((d : Int) ≤ (r1 : Int)) = false := decide_eq_false (by omega)
          have t2 : decide (d ≤ r1) = false := decide_eq_false (by omega)
          have NQ : Hid (q2 = Bw.N hi lo m / d) := Lib.hid (by rw [ST.1]; omega)
          have NR : Hid (r1 = Bw.N hi lo m % d) := Lib.hid (by rw [ST.2]; omega)
          clear ST NX HQ HR hb hb1 hr2 hr1 hq2' hov hT hr12
          go_wp2_with fail
          go_roundw
          case rel => exact ⟨m, q2, r1, by omega, by first | rfl | (simp; done), by first | rfl | (simp; done), by first | rfl | (simp; done), NQ, NR, hq⟩
          case measure => simp [intOf] <;> omega
theorem infoWide : (Try.prog.info? 135).map (·.size) = some 2 := by kernel_rfl
/-- Where the walk of Times stands. -/
structure TmS (w : World) (H L : Nat) (W : World) : Prop where
  z : W.heap[w.heap.size]? = some (.cells #[.int .u64 0, .int .u64 0] 135 (0, 0))
  t : W.heap[w.heap.size + 1]? = some (.cells #[.int .u64 (H : Int), .int .u64 (L : Int)] 135 (0, 0))
  bel : Below w.heap.size w W
theorem TmS.hi {w W : World} {H L : Nat} (h : TmS w H L W) (x : Nat) : TmS w x L (W.setCell ⟨w.heap.size + 1, 0, none⟩ (.int .u64 (x : Int))) := by
  have hC : Chg (fun j => j = w.heap.size + 1) W (W.setCell ⟨w.heap.size + 1, 0, none⟩ (.int .u64 (x : Int))) := (Chg.refl (fun j => j = w.heap.size + 1) W).setCell (p := ⟨w.heap.size + 1, 0, none⟩) (.inl rfl) _
  exact ⟨hC.blk h.z (by omega), heap_setCell_same W (w.heap.size + 1) 0 _ _ (.int .u64 (x : Int)) h.t, h.bel.trans (hC.below h.bel.size (fun k hk e => by omega))⟩
theorem TmS.lo {w W : World} {H L : Nat} (h : TmS w H L W) (x : Nat) : TmS w H x (W.setCell ⟨w.heap.size + 1, 1, none⟩ (.int .u64 (x : Int))) := by
  have hC : Chg (fun j => j = w.heap.size + 1) W (W.setCell ⟨w.heap.size + 1, 1, none⟩ (.int .u64 (x : Int))) := (Chg.refl (fun j => j = w.heap.size + 1) W).setCell (p := ⟨w.heap.size + 1, 1, none⟩) (.inl rfl) _
  exact ⟨hC.blk h.z (by omega), heap_setCell_same W (w.heap.size + 1) 1 _ _ (.int .u64 (x : Int)) h.t, h.bel.trans (hC.below h.bel.size (fun k hk e => by omega))⟩

set_option maxHeartbeats 4000000 in
set_option maxRecDepth 100000 in
theorem ref_times (a b : Nat) (w : World) (ha : a < 18446744073709551616) (hb : b < 18446744073709551616) :
    Calls Try.prog 55 #[.int .u64 (a : Int), .int .u64 (b : Int)] w fun e w' => e = .returned (.agg #[.int .u64 ((a * b / 18446744073709551616 : Nat) : Int), .int .u64 ((a * b % 18446744073709551616 : Nat) : Int)]) ∧ Below w.heap.size w w' := by
  have n1 := heap_alloc_new w (.cells #[.int .u64 0, .int .u64 0] 135)
  have e1 := box_below w (.cells #[.int .u64 0, .int .u64 0] 135)
  have n2 := heap_alloc_new (w.alloc (.cells #[.int .u64 0, .int .u64 0] 135)) (.cells #[.int .u64 0, .int .u64 0] 135)
  have e2 := box_below (w.alloc (.cells #[.int .u64 0, .int .u64 0] 135)) (.cells #[.int .u64 0, .int .u64 0] 135)
  have s1 : (w.alloc (.cells #[.int .u64 0, .int .u64 0] 135)).heap.size = w.heap.size + 1 := by rw [World.size_alloc]
  rw [s1] at n2 e2
  have T0 : Hid (TmS w 0 0 ((w.alloc (.cells #[.int .u64 0, .int .u64 0] 135)).alloc (.cells #[.int .u64 0, .int .u64 0] 135))) := Lib.hid ⟨(e2.block _ (by omega)).trans n1, n2, e1.trans (e2.mono (by omega))⟩
  clear n1 e1 n2 e2 s1
  have hb0 : b / 2 ^ 64 = 0 := Nat.div_eq_of_lt (by simpa using hb)
  have HB0 := Lib.hid hb0
  clear hb0
  go_enter Try.func55, Try.ntmps55
  go_wp2_with fail
  go_loopw [6] (fun iv wr => ∃ k H L : Nat, k ≤ 64 ∧ iv = .int .i64 ((k : Int) - 1) ∧ Hid (a * (b / 2 ^ k) = H * 18446744073709551616 + L ∧ L < 18446744073709551616) ∧ Hid (TmS w H L wr)) (fun iv _ => (intOf iv + 1).toNat)
  case atStart => exact ⟨64, 0, 0, by omega, rfl, Lib.hid ⟨by rw [HB0.out]; rfl, by omega⟩, T0⟩
  case round =>
    obtain ⟨k, H, L, hk, rfl, HE, S⟩ := hrel
    clear T0
    have st := S.out.t
    have c0 : wr.cell? ⟨w.heap.size + 1, 0, none⟩ = some (.int .u64 (H : Int)) := cell_of_row wr (w.heap.size + 1) 0 _ _ _ st
    have c1 : wr.cell? ⟨w.heap.size + 1, 1, none⟩ = some (.int .u64 (L : Int)) := cell_of_row wr (w.heap.size + 1) 1 _ _ _ st
    have f0 := frozen_of_row wr (w.heap.size + 1) 0 _ _ st
    have f1 := frozen_of_row wr (w.heap.size + 1) 1 _ _ st
    clear st
    cases k with
    | zero =>
      have e0 : decide ((0 : Int) ≤ ((0 : Nat) : Int) - 1) = false := by decide
      have HF : Hid (a * b / 18446744073709551616 = H ∧ a * b % 18446744073709551616 = L) := Lib.hid (by
        have h1 := HE.out.1
        have h2 := HE.out.2
        rw [Nat.pow_zero, Nat.div_one] at h1
        rw [h1]
        omega)
      have zz := S.out.z
      have z0 := cell_of_row wr w.heap.size 0 _ _ _ zz
      have z1 := cell_of_row wr w.heap.size 1 _ _ _ zz
      have fz0 := frozen_of_row wr w.heap.size 0 _ _ zz
      have fz1 := frozen_of_row wr w.heap.size 1 _ _ zz
      have E2 : Hid (((wr.setCell ⟨w.heap.size, 0, none⟩ (.int .u64 (H : Int))).setCell ⟨w.heap.size, 1, none⟩ (.int .u64 (L : Int))).heap[w.heap.size]? = some (.cells #[.int .u64 (H : Int), .int .u64 (L : Int)] 135 (0, 0))) := Lib.hid (heap_setCell_same _ w.heap.size 1 _ _ (.int .u64 (L : Int)) (heap_setCell_same wr w.heap.size 0 _ _ (.int .u64 (H : Int)) zz))
      have CC : Hid (Chg (fun j => j = w.heap.size) wr ((wr.setCell ⟨w.heap.size, 0, none⟩ (.int .u64 (H : Int))).setCell ⟨w.heap.size, 1, none⟩ (.int .u64 (L : Int)))) := Lib.hid (((Chg.refl (fun j => j = w.heap.size) wr).setCell (p := ⟨w.heap.size, 0, none⟩) (.inl rfl) _).setCell (p := ⟨w.heap.size, 1, none⟩) (.inl rfl) _)
      clear zz
      go_wp2
      (try simp only [Exit.inBlock, Exit.then])
      rw [HF.out.1, HF.out.2]
      exact bodyPost_ret (results_cell_row rfl _ _ w.heap.size _ _ _ _ rfl E2.out Try.underlying135 rfl infoWide) rfl ⟨rfl, S.out.bel.trans (CC.out.below S.out.bel.size (fun j hj e => by omega))⟩
    | succ m =>
      rw [show ((m + 1 : Nat) : Int) - 1 = (m : Int) by omega]
      have e0 : decide ((0 : Int) ≤ (m : Int)) = true := decide_eq_true (by omega)
      have wm : IntKind.u64.wrap (m : Int) = (m : Int) := IntWalk.u64_in _ (by omega)
      obtain ⟨B, hB⟩ : ∃ x, x = b / 2 ^ m := ⟨_, rfl⟩
      have wb : (b : Int) / 2 ^ m = (B : Int) := by rw [Dv.dw, ← hB]
      obtain ⟨b1, hb1⟩ : ∃ x, x = B % 2 := ⟨_, rfl⟩
      have hbl : B < 18446744073709551616 := by rw [hB]; exact Nat.lt_of_le_of_lt (Nat.div_le_self _ _) hb
      have NX := Bw.bits_next b m
      rw [← hB, ← hb1] at NX
      have hT := HE.out.1
      have hL := HE.out.2
      have hTB : a * (b / 2 ^ (m + 1)) ≤ 18446744073709551615 * 9223372036854775807 := Nat.mul_le_mul (by omega) (by omega)
      have hT2 : a * B = 2 * (a * (b / 2 ^ (m + 1))) + a * b1 := by rw [NX, Nat.mul_add, Nat.mul_left_comm]
      rw [hT] at hTB hT2
      have wand : bits .and .u64 (B : Int) 1 = (b1 : Int) := by
        have h := bits_and_u64_nat B 1 hbl (by omega)
        rw [Nat.and_one_is_mod, ← hb1] at h
        exact h
      obtain ⟨H0, hH0⟩ : ∃ x, x = H * 2 := ⟨_, rfl⟩
      obtain ⟨L63, hL63⟩ : ∃ x, x = L / 9223372036854775808 := ⟨_, rfl⟩
      obtain ⟨H2, hH2⟩ : ∃ x, x = H0 + L63 := ⟨_, rfl⟩
      obtain ⟨L2, hL2⟩ : ∃ x, x = L * 2 % 18446744073709551616 := ⟨_, rfl⟩
      have wH : IntKind.u64.wrap ((H : Int) * 2) = (H0 : Int) := by
        rw [show (H : Int) * 2 = (H0 : Int) by omega]
        exact Dv.wrapS _ (by omega)
      have wL63 : (L : Int) / 9223372036854775808 = (L63 : Int) := by omega
      have wor : bits .or .u64 (H0 : Int) (L63 : Int) = (H2 : Int) := by
        have h := bits_or_u64_nat H0 L63 (by omega) (by omega)
        have e : H0 ||| L63 = H0 + L63 := by
          have := Nat.shiftLeft_add_eq_or_of_lt (show L63 < 2 ^ 1 by omega) H
          rw [Nat.shiftLeft_eq, show H * 2 ^ 1 = H0 by omega] at this
          exact this.symm
        rw [e, ← hH2] at h
        exact h
      have wL2 : IntKind.u64.wrap ((L : Int) * 2) = (L2 : Int) := by
        rw [show (L : Int) * 2 = ((L * 2 : Nat) : Int) by omega, hL2]
        exact Dv.wrapT _
      have S1 := Lib.hid (S.out.hi H2)
      have S2 := Lib.hid (S1.out.lo L2)
      have hb01 : b1 = 0 ∨ b1 = 1 := by omega
      rcases hb01 with hb0 | hb0
      · rw [hb0] at wand hT2
        have HN : Hid (a * (b / 2 ^ m) = H2 * 18446744073709551616 + L2 ∧ L2 < 18446744073709551616) := Lib.hid (by rw [← hB, hT2]; omega)
        clear hb0 hT hT2 NX hB hb1 hH0 hL63 hH2 hL2 hTB HE
        go_wp2_with fail
        go_roundw
        case rel => exact ⟨m, H2, L2, by omega, by first | rfl | (simp; done), HN, S2⟩
        case measure => simp [intOf] <;> omega
      · rw [hb0] at wand hT2
        obtain ⟨L3, hL3⟩ : ∃ x, x = (L2 + a) % 18446744073709551616 := ⟨_, rfl⟩
        have wL3 : IntKind.u64.wrap ((L2 : Int) + (a : Int)) = (L3 : Int) := by
          rw [← Int.natCast_add, hL3]
          exact Dv.wrapT _
        have S3 := Lib.hid (S2.out.lo L3)
        have v0 := cell_of_row _ (w.heap.size + 1) 0 _ _ _ S3.out.t
        have v1 := cell_of_row _ (w.heap.size + 1) 1 _ _ _ S3.out.t
        have g0 := frozen_of_row _ (w.heap.size + 1) 0 _ _ S3.out.t
        by_cases hc : L3 < a
        · have dc : decide ((L3 : Int) < (a : Int)) = true := decide_eq_true (by omega)
          have dc' : decide (L3 < a) = true := decide_eq_true hc
          obtain ⟨H3, hH3⟩ : ∃ x, x = H2 + 1 := ⟨_, rfl⟩
          have wH3 : IntKind.u64.wrap ((H2 : Int) + 1) = (H3 : Int) := by
            rw [show (H2 : Int) + 1 = (H3 : Int) by omega]
            exact Dv.wrapS _ (by omega)
          have S4 := Lib.hid (S3.out.hi H3)
          have HN : Hid (a * (b / 2 ^ m) = H3 * 18446744073709551616 + L3 ∧ L3 < 18446744073709551616) := Lib.hid (by rw [← hB, hT2]; omega)
          clear hb0 hT hT2 NX hB hb1 hH0 hL63 hH2 hL2 hTB HE hL3 hH3 hc
          go_wp2_with fail
          go_roundw
          case rel => exact ⟨m, H3, L3, by omega, by first | rfl | (simp; done), HN, by first | exact S4 | (simpa using S4)⟩
          case measure => simp [intOf] <;> omega
        · have dc : decide ((L3 : Int) < (a : Int)) = false := decide_eq_false (by omega)
          have dc' : decide (L3 < a) = false := decide_eq_false hc
          have HN : Hid (a * (b / 2 ^ m) = H2 * 18446744073709551616 + L3 ∧ L3 < 18446744073709551616) := Lib.hid (by rw [← hB, hT2]; omega)
          clear hb0 hT hT2 NX hB hb1 hH0 hL63 hH2 hL2 hTB HE hL3 hc
          go_wp2_with fail
          go_roundw
          case rel => exact ⟨m, H2, L3, by omega, by first | rfl | (simp; done), HN, by first | exact S3 | (simpa using S3)⟩
          case measure => simp [intOf] <;> omega
end Go.Proofs.Ytpkbimmhimgamaa
namespace Go.Proofs.Ytpkbimmhimgamaa
set_option linter.unusedSimpArgs false
set_option linter.unusedVariables false
set_option linter.unnecessarySimpa false
open Go.RowKit
attribute [local go_sem ↓] run_min_int run_max_int
theorem ref_timesI (a b : Int) (w : World) (ha : isU64 a) (hb : isU64 b) :
    Calls Try.prog 55 #[.int .u64 a, .int .u64 b] w fun e w' => e = .returned (.agg #[.int .u64 (a * b / 18446744073709551616), .int .u64 (a * b % 18446744073709551616)]) ∧ Below w.heap.size w w' := by
  obtain ⟨x, rfl⟩ := Int.eq_ofNat_of_zero_le ha.1
  obtain ⟨y, rfl⟩ := Int.eq_ofNat_of_zero_le hb.1
  refine (ref_times x y w (by have := ha.2; omega) (by have := hb.2; omega)).mono ?_
  rintro e w' ⟨h1, h2⟩
  refine ⟨?_, h2⟩
  rw [h1, Int.natCast_ediv, Int.natCast_emod, Int.natCast_mul]
  rfl
theorem ref_divI (hi lo d : Int) (w : World) (hh : isU64 hi) (hl : isU64 lo) (hd : isU64 d) :
    Calls Try.prog 56 #[.int .u64 hi, .int .u64 lo, .int .u64 d] w fun e w' => e = .returned (.tuple #[.int .u64 (if hi < d then (hi * 18446744073709551616 + lo) / d else 0), .int .u64 (if hi < d then (hi * 18446744073709551616 + lo) % d else 0), .bool (decide (hi < d))]) ∧ Qt w w' := by
  by_cases hc : hi < d
  · rw [if_pos hc, if_pos hc, decide_eq_true hc]
    obtain ⟨x, rfl⟩ := Int.eq_ofNat_of_zero_le hh.1
    obtain ⟨y, rfl⟩ := Int.eq_ofNat_of_zero_le hl.1
    obtain ⟨z, rfl⟩ := Int.eq_ofNat_of_zero_le hd.1
    refine (ref_div x y z w (by omega) (by have := hl.2; omega) (by have := hd.2; omega)).mono ?_
    rintro e w' ⟨h1, h2⟩
    refine ⟨?_, h2⟩
    rw [h1, Int.natCast_ediv, Int.natCast_emod, Int.natCast_add, Int.natCast_mul]
    rfl
  · rw [if_neg hc, if_neg hc, decide_eq_false hc]
    have d1 : decide (d ≤ hi) = true := decide_eq_true (by omega)
    clear hc
    go_enter Try.func56, Try.ntmps56
    go_wp2
    go_ret3
    exact ⟨rfl, Qt.refl _⟩
set_option maxHeartbeats 1000000 in
theorem ref_down (a b d : Int) (w : World) (ha : isU64 a) (hb : isU64 b) (hd : isU64 d) :
    Calls Try.prog 32 #[.int .u64 a, .int .u64 b, .int .u64 d] w fun e w' => e = .returned (.int .u64 (downS a b d)) ∧ Below w.heap.size w w' := by
  have K := Lib.hid (ref_timesI a b w ha hb)
  have HH := mul_hi ha hb
  have K2 := Lib.hid (fun w => ref_divI (a * b / 18446744073709551616) (a * b % 18446744073709551616) d w HH.1 HH.2 hd)
  have HD := Lib.hid (down_eq ha hb hd)
  generalize a * b / 18446744073709551616 = x at *
  generalize a * b % 18446744073709551616 = y at *
  by_cases hc : x < d
  · simp only [if_pos hc, decide_eq_true hc] at K2
    rw [if_pos hc] at HD
    generalize (x * 18446744073709551616 + y) / d = q at *
    generalize (x * 18446744073709551616 + y) % d = r at *
    clear hc HH
    go_enter Try.func32, Try.ntmps32
    go_wp2_with fail
    refine K.out.mono ?_
    rintro e w1 ⟨rfl, b1⟩
    have s1 := b1.size
    have e1 := box_below w1 (.cells #[.int .u64 x, .int .u64 y] 135)
    go_wp2_with fail
    refine (K2.out _).mono ?_
    rintro e w2 ⟨rfl, q2⟩
    go_wp2
    go_ret
    exact ⟨ret_int HD.out.symm, b1.trans ((e1.trans (q2.below.mono e1.size)).mono s1)⟩
  · simp only [if_neg hc, decide_eq_false hc] at K2
    rw [if_neg hc] at HD
    clear hc HH
    go_enter Try.func32, Try.ntmps32
    go_wp2_with fail
    refine K.out.mono ?_
    rintro e w1 ⟨rfl, b1⟩
    have s1 := b1.size
    have e1 := box_below w1 (.cells #[.int .u64 x, .int .u64 y] 135)
    go_wp2_with fail
    refine (K2.out _).mono ?_
    rintro e w2 ⟨rfl, q2⟩
    go_wp2
    go_ret
    exact ⟨ret_int HD.out.symm, b1.trans ((e1.trans (q2.below.mono e1.size)).mono s1)⟩
theorem ref_mul (a b : Int) (w : World) (ha : isU64 a) (hb : isU64 b) :
    Calls Try.prog 21 #[.int .u64 a, .int .u64 b] w fun e w' => e = .returned (.int .u64 (mulS a b)) ∧ Qt w w' := by
  have HM : Hid (mulS a b = min (a * b) 18446744073709551615) := Lib.hid rfl
  by_cases h0 : a = 0
  · subst h0
    have HM2 : Hid (mulS 0 b = 0) := Lib.hid (by rw [HM.out, Int.zero_mul]; omega)
    have n0 : ((0 : Int) != 0) = false := by decide
    go_enter Try.func21, Try.ntmps21
    go_wp2
    go_ret
    exact ⟨ret_int (by rw [HM2.out]), Qt.refl _⟩
  · have n0 : (a != 0) = true := bne_iff_ne.2 h0
    have hpos : 0 < a := by have := ha.1; omega
    have hp := Int.mul_nonneg ha.1 hb.1
    have hq : b ≤ 18446744073709551615 / a ↔ a * b ≤ 18446744073709551615 := by
      rw [Int.le_ediv_iff_mul_le hpos, Int.mul_comm]
    have td : Int.tdiv 18446744073709551615 a = 18446744073709551615 / a := Int.tdiv_eq_ediv_of_nonneg (by omega)
    have hx0 : 0 ≤ 18446744073709551615 / a := Int.ediv_nonneg (by omega) (by omega)
    have hx1 : 18446744073709551615 / a ≤ 18446744073709551615 := Int.ediv_le_self _ (by omega)
    obtain ⟨x, hx⟩ : ∃ x, x = (18446744073709551615 : Int) / a := ⟨_, rfl⟩
    rw [← hx] at hq td hx0 hx1
    have ex : (18446744073709551615 : Int) / a = x := hx.symm
    have wx : IntKind.u64.wrap x = x := IntWalk.u64_in _ (by omega)
    by_cases hc : x < b
    · have d1 : decide (x < b) = true := decide_eq_true hc
      have HM2 : Hid (mulS a b = 18446744073709551615) := Lib.hid (by rw [HM.out]; omega)
      clear hc hq hx hx0 hx1 hp
      go_enter Try.func21, Try.ntmps21
      go_wp2
      go_ret
      exact ⟨ret_int HM2.out.symm, Qt.refl _⟩
    · have d1 : decide (x < b) = false := decide_eq_false hc
      have HM2 : Hid (mulS a b = a * b) := Lib.hid (by rw [HM.out]; omega)
      have wp : IntKind.u64.wrap (a * b) = a * b := IntWalk.u64_in _ (by omega)
      clear hc hq hx hx0 hx1 hp
      go_enter Try.func21, Try.ntmps21
      go_wp2
      go_ret
      exact ⟨ret_int HM2.out.symm, Qt.refl _⟩
end Go.Proofs.Ytpkbimmhimgamaa
namespace Go.Proofs.Ytpkbimmhimgamaa
set_option linter.unusedSimpArgs false
set_option linter.unusedVariables false
set_option linter.unnecessarySimpa false
open Go.RowKit
attribute [local go_sem ↓] run_min_int run_max_int
theorem shlS_none {a n : Int} (h : a = 0 ∨ n ≤ 0) : shlS a n = a := by unfold shlS; rw [if_pos h]
theorem shlS_some {a n : Int} (h : a ≠ 0) (hn : 0 < n) : shlS a n = min (a * 2 ^ n.toNat) 18446744073709551615 := by
  unfold shlS; rw [if_neg (by omega)]
theorem pow_ge1 (k : Nat) : (1 : Int) ≤ 2 ^ k := by
  have h : 0 < 2 ^ k := Nat.two_pow_pos k
  have e : ((2 ^ k : Nat) : Int) = (2 : Int) ^ k := by rw [Int.natCast_pow]; rfl
  omega
theorem shlS_u {a n : Int} (ha : isU64 a) : isU64 (shlS a n) := by
  unfold shlS
  split
  · exact ha
  · have := Int.mul_nonneg ha.1 (show (0 : Int) ≤ 2 ^ n.toNat by have := pow_ge1 n.toNat; omega)
    unfold isU64
    omega
theorem shl_big (a s : Nat) (h0 : 0 < a) (ha : a < 18446744073709551616) (h : 65 - Lib.bitLen a ≤ s) (hL : Lib.bitLen a ≤ 64) : 18446744073709551616 ≤ a * 2 ^ s := by
  obtain ⟨b1, b2, b3⟩ := Lib.bitLenAux_bounds 64 a (by simpa using ha) (by omega)
  have b0 : Lib.bitLen a = Lib.bitLenAux 64 a := rfl
  rw [← b0] at b1 b2 b3
  have h1 : 2 ^ (Lib.bitLen a - 1) * 2 ^ s ≤ a * 2 ^ s := Nat.mul_le_mul_right _ b2
  have h2 : 2 ^ 64 ≤ 2 ^ (Lib.bitLen a - 1) * 2 ^ s := by
    rw [← Nat.pow_add]
    exact Nat.pow_le_pow_right (by omega) (by omega)
  have e64 : (2 : Nat) ^ 64 = 18446744073709551616 := by decide
  omega
theorem shl_small (a s : Nat) (h0 : 0 < a) (ha : a < 18446744073709551616) (h : s ≤ 64 - Lib.bitLen a) (hL : Lib.bitLen a ≤ 64) : a * 2 ^ s < 18446744073709551616 := by
  obtain ⟨b1, b2, b3⟩ := Lib.bitLenAux_bounds 64 a (by simpa using ha) (by omega)
  have b0 : Lib.bitLen a = Lib.bitLenAux 64 a := rfl
  rw [← b0] at b1 b2 b3
  have h1 : a * 2 ^ s < 2 ^ Lib.bitLen a * 2 ^ s := (Nat.mul_lt_mul_right (Nat.two_pow_pos s)).2 b3
  have h2 : 2 ^ Lib.bitLen a * 2 ^ s ≤ 2 ^ 64 := by
    rw [← Nat.pow_add]
    exact Nat.pow_le_pow_right (by omega) (by omega)
  have e64 : (2 : Nat) ^ 64 = 18446744073709551616 := by decide
  omega

set_option maxHeartbeats 1000000 in
theorem sat_shl (a n : Int) (w : World) (ha : isU64 a) (hn : n ≤ 9223372036854775807) :
    Calls Try.prog 87 #[.int .u64 a, .int .i64 n] w fun e w' => e = .returned (.int .u64 (shlS a n)) ∧ Qt w w' := by
  by_cases h0 : a = 0
  · have HS : Hid (shlS a n = a) := Lib.hid (shlS_none (.inl h0))
    have d0 : (a == 0) = true := beq_iff_eq.2 h0
    clear h0
    go_enter Try.func87, Try.ntmps87
    go_wp2
    go_ret
    exact ⟨ret_int HS.out.symm, Qt.refl _⟩
  · have d0 : (a == 0) = false := beq_false_of_ne h0
    by_cases h1 : n ≤ 0
    · have HS : Hid (shlS a n = a) := Lib.hid (shlS_none (.inr h1))
      have d1 : decide (n ≤ 0) = true := decide_eq_true h1
      clear h0 h1
      go_enter Try.func87, Try.ntmps87
      go_wp2
      go_ret
      exact ⟨ret_int HS.out.symm, Qt.refl _⟩
    · have d1 : decide (n ≤ 0) = false := decide_eq_false h1
      obtain ⟨x, hx⟩ := Int.eq_ofNat_of_zero_le ha.1
      obtain ⟨s, hs⟩ : ∃ s : Nat, n = (s : Int) := ⟨n.toNat, by omega⟩
      have hxa := ha.2
      have es : n.toNat = s := by omega
      have ex : a.toNat = x := by omega
      have hL : Lib.bitLen x ≤ 64 := Lib.bitLen_le x 64 (Nat.le_refl _) (by have : x < 18446744073709551616 := by omega
                                                                            simpa using this)
      have KL := Lib.hid (Try.bits_LeadingZeros64 a w (by omega) (by omega))
      rw [ex] at KL
      have HS := shlS_some (a := a) (n := n) (by omega) (by omega)
      have PW : a * 2 ^ s = ((x * 2 ^ s : Nat) : Int) := by rw [hx]; exact Dv.pw x s
      rw [es, PW] at HS
      have B1 := shl_big x s (by omega) (by omega)
      have B2 := shl_small x s (by omega) (by omega)
      obtain ⟨z, hz⟩ : ∃ z : Int, z = 64 - (Lib.bitLen x : Int) := ⟨_, rfl⟩
      rw [← hz] at KL
      obtain ⟨z1, hz1⟩ : ∃ z1 : Int, z1 = z + 1 := ⟨_, rfl⟩
      have wz : IntKind.i64.wrap (z + 1) = z1 := by rw [hz1]; exact IntWalk.i64_in _ (by omega)
      by_cases hc : z1 ≤ n
      · have d2 : decide (z1 ≤ n) = true := decide_eq_true hc
        have HS2 : Hid (shlS a n = 18446744073709551615) := Lib.hid (by rw [HS]; have := B1 (by omega) hL; omega)
        clear B1 B2 HS hz h0 h1 hc hL PW hx hs es ex hz1 hxa
        go_enter Try.func87, Try.ntmps87
        go_wp2_with fail
        refine KL.out.mono ?_
        rintro e w1 ⟨rfl, rfl⟩
        go_wp2
        go_ret
        exact ⟨ret_int HS2.out.symm, Qt.refl _⟩
      · have d2 : decide (z1 ≤ n) = false := decide_eq_false hc
        have b2 := B2 (by omega) hL
        obtain ⟨Y, hY⟩ : ∃ Y : Int, Y = ((x * 2 ^ s : Nat) : Int) := ⟨_, rfl⟩
        have HS2 : Hid (shlS a n = Y) := Lib.hid (by rw [HS]; omega)
        have wY : IntKind.u64.wrap (a * 2 ^ n.toNat) = Y := by rw [es, PW, hY]; exact Dv.wrapS _ b2
        have hs64 : n ≤ 64 := by omega
        have hn0 : 0 ≤ n := by omega
        have wn : IntKind.u64.wrap n = n := IntWalk.u64_in _ (by omega)
        clear B1 B2 HS hz h0 h1 hc hL b2 PW hx hs es ex hz1 hxa hY
        go_enter Try.func87, Try.ntmps87
        go_wp2_with fail
        refine KL.out.mono ?_
        rintro e w1 ⟨rfl, rfl⟩
        go_wp2
        go_ret
        exact ⟨ret_int HS2.out.symm, Qt.refl _⟩

def backS (a n most : Int) : Int := min (shlS a n) most
theorem backS_u {a n m : Int} (ha : isU64 a) (hm : isU64 m) : isU64 (backS a n m) := by
  have := shlS_u (n := n) ha
  unfold backS isU64 at *
  omega
theorem clk_backoff (a n m : Int) (w : World) (ha : isU64 a) (hn : n ≤ 9223372036854775807) :
    Calls Try.prog 77 #[.int .u64 a, .int .i64 n, .int .u64 m] w fun e w' => e = .returned (.int .u64 (backS a n m)) ∧ Qt w w' := by
  have K := Lib.hid (sat_shl a n w ha hn)
  have HB : Hid (backS a n m = min (shlS a n) m) := Lib.hid rfl
  generalize shlS a n = x at *
  go_enter Try.func77, Try.ntmps77
  go_wp2_with fail
  refine K.out.mono ?_
  rintro e w1 ⟨rfl, q1⟩
  go_wp2
  go_ret
  exact ⟨ret_int HB.out.symm, q1⟩
end Go.Proofs.Ytpkbimmhimgamaa
namespace Go.Proofs.Ytpkbimmhimgamaa
set_option linter.unusedSimpArgs false
set_option linter.unusedVariables false
set_option linter.unnecessarySimpa false
open Go.RowKit
attribute [local go_sem ↓] run_min_int run_max_int
def undB (c hi lo : Int) : Bool := decide (c * c * c ≤ hi * 18446744073709551616 + lo)
def cub (hi lo : Int) : Nat → Nat → Nat
  | 0, c => c
  | k + 1, c => cub hi lo k (if undB ((c ||| 2 ^ k : Nat) : Int) hi lo = true then c ||| 2 ^ k else c)
def cubS (hi lo : Int) : Int := (cub hi lo 43 0 : Nat)
theorem cub_lt (hi lo : Int) (k c n : Nat) (hk : k ≤ n) (hc : c < 2 ^ n) : cub hi lo k c < 2 ^ n := by
  induction k generalizing c with
  | zero => exact hc
  | succ k ih =>
    rw [cub]
    split
    · exact ih _ (by omega) (Nat.or_lt_two_pow hc (Nat.pow_lt_pow_right (by omega) (by omega)))
    · exact ih _ (by omega) hc
theorem cubS_u (hi lo : Int) : isU64 (cubS hi lo) := by
  have h := cub_lt hi lo 43 0 43 (by omega) (by decide)
  unfold cubS isU64
  omega
end Go.Proofs.Ytpkbimmhimgamaa
namespace Go.Proofs.Ytpkbimmhimgamaa
set_option linter.unusedSimpArgs false
set_option linter.unusedVariables false
set_option linter.unnecessarySimpa false
open Go.RowKit
attribute [local go_sem ↓] run_min_int run_max_int
theorem box2 (w : World) (o : Obj) (cs : Array Value) (t : TypeId) : ((w.alloc o).alloc (.cells cs t)).heap[w.heap.size + 1]? = some (.cells cs t (0, 0)) := by
  have := heap_alloc_new (w.alloc o) (.cells cs t)
  rwa [World.size_alloc] at this
theorem box2_below (w : World) (o p : Obj) : Below w.heap.size w ((w.alloc o).alloc p) := (box_below _ _).trans ((box_below _ _).mono (by simp))
theorem infoPb : (Try.prog.info? 58).map (·.size) = some 2 := by kernel_rfl
def pbv (c f : Int) : Value := .agg #[.int .i64 c, .int .u64 f]
theorem pb_sent (c f now : Int) (w : World) :
    Calls Try.prog 70 #[pbv c f, .int .u64 now] w fun e w' => e = .returned (pbv c now) ∧ Below w.heap.size w w' := by
  unfold pbv
  go_enter Try.func70, Try.ntmps70
  go_wp2
  (try simp only [Exit.inBlock, Exit.then])
  exact bodyPost_ret (results_cell_row rfl _ _ (w.heap.size + 1) _ _ _ _ rfl (box2 w _ _ _) Try.underlying58 rfl infoPb) rfl ⟨rfl, box2_below _ _ _⟩
def deadS (c f : Int) (fl : Bool) (tm most : Int) : Int := if fl then sadd f (backS tm c most) else 18446744073709551615
theorem deadS_u {c f tm most : Int} {fl : Bool} (hf : isU64 f) (ht : isU64 tm) (hm : isU64 most) : isU64 (deadS c f fl tm most) := by
  unfold deadS
  split
  · exact u64_sadd hf (backS_u ht hm)
  · exact ⟨by omega, by omega⟩
theorem pb_deadline (c f tm most : Int) (fl : Bool) (w : World) (hf : isU64 f) (hc : c ≤ 9223372036854775807) (ht : isU64 tm) (hm : isU64 most) :
    Calls Try.prog 53 #[pbv c f, .bool fl, .int .u64 tm, .int .u64 most] w fun e w' => e = .returned (.int .u64 (deadS c f fl tm most)) ∧ Below w.heap.size w w' := by
  have HB := Lib.hid (box_below w (.cells #[.int .i64 c, .int .u64 f] 58))
  unfold pbv
  cases fl with
  | false =>
    have H : Hid (deadS c f false tm most = 18446744073709551615) := Lib.hid rfl
    go_enter Try.func53, Try.ntmps53
    go_wp2
    go_ret
    exact ⟨ret_int H.out.symm, HB.out⟩
  | true =>
    have H : Hid (deadS c f true tm most = sadd f (backS tm c most)) := Lib.hid rfl
    have K1 := Lib.hid (fun w => clk_backoff tm c most w ht hc)
    have K2 := Lib.hid (fun w => clk_after f (backS tm c most) w hf (backS_u ht hm))
    generalize backS tm c most = b at *
    go_enter Try.func53, Try.ntmps53
    go_wp2_with fail
    refine wp_region_qt (by kernel_rfl) (by kernel_rfl) ?_
    repeat (first | go_big_quiet_step ((first | (go_at_call 77; exact Qt.callN (K1.out _)) | (go_at_call 76; exact Qt.callN (K2.out _)))) | quiet_step ((first | (go_at_call 77; exact Qt.callN (K1.out _)) | (go_at_call 76; exact Qt.callN (K2.out _)))))
    refine wpQuiet_nil ?_
    intro w1 q1
    have HE := HB.out.trans (q1.below.mono HB.out.size)
    clear q1
    go_wp2
    go_ret
    exact ⟨ret_int H.out.symm, HE⟩
def beginS (a b pn next : Int) : Int × Int × Bool := if a ≤ pn then (if next ≤ pn then sadd pn 1 else next, sadd b 1, true) else (a, b, false)
theorem set2 {W : World} {g : Nat} {t : TypeId} {a b x y : Value} (h : W.heap[g]? = some (.cells #[a, b] t (0, 0))) : ((W.setCell ⟨g, 0, none⟩ x).setCell ⟨g, 1, none⟩ y).heap[g]? = some (.cells #[x, y] t (0, 0)) :=
  heap_setCell_same _ g 1 _ _ y (heap_setCell_same W g 0 _ _ x h)
theorem set2_chg (W : World) (g : Nat) (x y : Value) : Chg (fun j => j = g) W ((W.setCell ⟨g, 0, none⟩ x).setCell ⟨g, 1, none⟩ y) :=
  ((Chg.refl (fun j => j = g) W).setCell (p := ⟨g, 0, none⟩) (.inl rfl) _).setCell (p := ⟨g, 1, none⟩) (.inl rfl) _
end Go.Proofs.Ytpkbimmhimgamaa
namespace Go.Proofs.Ytpkbimmhimgamaa
set_option linter.unusedSimpArgs false
set_option linter.unusedVariables false
set_option linter.unnecessarySimpa false
open Go.RowKit
attribute [local go_sem ↓] run_min_int run_max_int
theorem sat_addS (a b : Int) (w : World) (ha : isU64 a) (hb : isU64 b) :
    Calls Try.prog 50 #[.int .u64 a, .int .u64 b] w fun e w' => e = .returned (.int .u64 (sadd a b)) ∧ Qt w w' := sat_add a b w ha hb

def mixS (k a b : Int) : Int := (k * a + b) / (k + 1)
def timeS (has : Bool) (sm vr first grain : Int) : Int := if has then sadd sm (max (mulS 4 vr) grain) else sadd first (max (mulS 2 first) grain)
def windS (has : Bool) (lt sm first grain : Int) : Int := max (downS (if has then max sm lt else first) 9 8) grain
def rtv (has : Bool) (lt sm vr ls : Int) : Value := .agg #[.bool has, .int .u64 lt, .int .u64 sm, .int .u64 vr, .int .u64 ls]
theorem rtt_timeout (has : Bool) (lt sm vr ls first grain : Int) (w : World) (hs : isU64 sm) (hv : isU64 vr) (hf : isU64 first) (hg : isU64 grain) :
    Calls Try.prog 54 #[rtv has lt sm vr ls, .int .u64 first, .int .u64 grain] w fun e w' => e = .returned (.int .u64 (timeS has sm vr first grain)) ∧ Below w.heap.size w w' := by
  have HB := Lib.hid (box_below w (.cells #[.bool has, .int .u64 lt, .int .u64 sm, .int .u64 vr, .int .u64 ls] 56))
  have u2 : isU64 (2 : Int) := ⟨by omega, by omega⟩
  have u4 : isU64 (4 : Int) := ⟨by omega, by omega⟩
  unfold rtv
  cases has with
  | false =>
    have K1 := Lib.hid (fun w => sat_mul 2 first w u2 hf)
    have hm := mulS_u u2 hf
    have H : Hid (timeS false sm vr first grain = sadd first (max (mulS 2 first) grain)) := Lib.hid rfl
    have hx : isU64 (max (mulS 2 first) grain) := by unfold isU64 at hm hg ⊢; omega
    have K2 := Lib.hid (fun w => sat_addS first (max (mulS 2 first) grain) w hf hx)
    generalize mulS 2 first = y at *
    clear hm hx
    go_enter Try.func54, Try.ntmps54
    go_wp2_with fail
    refine (K1.out _).mono ?_
    rintro e w1 ⟨rfl, q1⟩
    go_wp2_with fail
    refine (K2.out _).mono ?_
    rintro e w2 ⟨rfl, q2⟩
    have HE := HB.out.trans ((q1.trans q2).below.mono HB.out.size)
    clear q1
    go_wp2
    go_ret
    exact ⟨ret_int H.out.symm, HE⟩
  | true =>
    have K1 := Lib.hid (fun w => sat_mul 4 vr w u4 hv)
    have hm := mulS_u u4 hv
    have H : Hid (timeS true sm vr first grain = sadd sm (max (mulS 4 vr) grain)) := Lib.hid rfl
    have hx : isU64 (max (mulS 4 vr) grain) := by unfold isU64 at hm hg ⊢; omega
    have K2 := Lib.hid (fun w => sat_addS sm (max (mulS 4 vr) grain) w hs hx)
    generalize mulS 4 vr = y at *
    clear hm hx
    go_enter Try.func54, Try.ntmps54
    go_wp2_with fail
    refine wp_region_qt (by kernel_rfl) (by kernel_rfl) ?_
    repeat (first | go_big_quiet_step ((first | (go_at_call 58; exact Qt.callN (K1.out _)) | (go_at_call 50; exact Qt.callN (K2.out _)))) | quiet_step ((first | (go_at_call 58; exact Qt.callN (K1.out _)) | (go_at_call 50; exact Qt.callN (K2.out _)))))
    refine wpQuiet_nil ?_
    intro w1 q1
    have HE := HB.out.trans (q1.below.mono HB.out.size)
    clear q1
    go_wp2
    go_ret
    exact ⟨ret_int H.out.symm, HE⟩
end Go.Proofs.Ytpkbimmhimgamaa
