/-
  Walks of the game: sets, words, rows.
-/
import Derived.Test.YtpfmhkkglaghgaaGreatGamP
import Derived.Test.YtpfmhkkglaghgaaGreatSpanN
import Derived.Test.YtpfmhkkglaghgaaGreatEnc
namespace Go.Proofs.YtpfmhkkglaghgaaGreat
set_option linter.unusedSimpArgs false
set_option linter.unusedVariables false
set_option linter.unnecessarySimpa false
open Go.RowKit

theorem bit_i64 : ∀ s, s < 16 → ∀ i, i < 4 → (bits .and .i64 ((s : Nat) / 2 ^ i : Int) 1 == 1) = s.testBit i := by decide +kernel
theorem and_i64 : ∀ a, a < 16 → ∀ b, b < 16 → bits .and .i64 (a : Nat) (b : Nat) = ((a &&& b : Nat) : Int) := by decide +kernel
theorem or_i64 : ∀ a, a < 16 → ∀ b, b < 16 → bits .or .i64 (a : Nat) (b : Nat) = ((a ||| b : Nat) : Int) := by decide +kernel
theorem andNot_i64 : ∀ a, a < 16 → ∀ b, b < 16 → bits .andNot .i64 (a : Nat) (b : Nat) = ((a &&& (15 - b) : Nat) : Int) := by decide +kernel
theorem and_lt16 : ∀ a, a < 16 → ∀ b, b < 16 → a &&& b < 16 := by decide +kernel
theorem or_lt16 : ∀ a, a < 16 → ∀ b, b < 16 → a ||| b < 16 := by decide +kernel

theorem gam_has (s i : Nat) (w : World) (hs : s < 16) (hi : i < 4) :
    Calls Tryz.prog 41 #[.int .i64 s, .int .i64 i] w fun e w' => e = .returned (.bool (s.testBit i)) ∧ w = w' := by
  have hb := bit_i64 s hs i hi
  have wi : IntKind.u64.wrap (i : Int) = (i : Int) := IntWalk.u64_in _ (by omega)
  have hn : ((i : Int)).toNat = i := by omega
  go_enter Tryz.func41, Tryz.ntmps41
  go_wp2
  go_ret
  exact ⟨ret_bool (by simpa using hb), rfl⟩

theorem draw_mix (k : Int) (w : World) (hk : isU64 k) :
    Calls Tryz.prog 48 #[.int .u64 k] w fun e w' => e = .returned (.int .u64 (mixZ k)) ∧ w = w' := by
  have HK := Lib.hid hk
  clear hk
  have e : mixZ k = mixZ k := rfl
  go_enter Tryz.func48, Tryz.ntmps48
  go_wp2
  go_ret
  exact ⟨by unfold mixZ; rfl, rfl⟩

theorem low_bits : ∀ b, 1 ≤ b → b ≤ 6 → ∀ x : Int, isU64 x → bits .and .u64 x (2 ^ b - 1) = ((x.toNat % 2 ^ b : Nat) : Int) := by
  intro b h1 h6 x hx
  have hp : (2 : Nat) ^ b ≤ 2 ^ 6 := Nat.pow_le_pow_right (by decide) h6
  have hq : 1 ≤ (2 : Nat) ^ b := Nat.one_le_two_pow
  obtain ⟨n, rfl⟩ : ∃ n : Nat, x = n := ⟨x.toNat, by have := hx.1; omega⟩
  have e : ((2 : Int) ^ b - 1) = ((2 ^ b - 1 : Nat) : Int) := by
    have : ((2 : Int) ^ b) = ((2 ^ b : Nat) : Int) := by simp
    omega
  rw [e, u64_and_nat n (2 ^ b - 1) (by have := hx.2; omega) (by omega), Nat.and_two_pow_sub_one_eq_mod]
  simp
theorem draw_low (x : Int) (b : Nat) (w : World) (hx : isU64 x) (h1 : 1 ≤ b) (h6 : b ≤ 6) :
    Calls Tryz.prog 40 #[.int .u64 x, .int .i64 b] w fun e w' => e = .returned (.int .u64 ((x.toNat % 2 ^ b : Nat) : Int)) ∧ w = w' := by
  have hb := low_bits b h1 h6 x hx
  have wi : IntKind.u64.wrap (b : Int) = (b : Int) := IntWalk.u64_in _ (by omega)
  have hn : ((b : Int)).toNat = b := by omega
  have hp : (2 : Int) ^ b ≤ 64 := by
    have : (2 : Nat) ^ b ≤ 2 ^ 6 := Nat.pow_le_pow_right (by decide) h6
    have e : ((2 : Int) ^ b) = ((2 ^ b : Nat) : Int) := by simp
    omega
  have hp1 : (1 : Int) ≤ 2 ^ b := by
    have : 1 ≤ (2 : Nat) ^ b := Nat.one_le_two_pow
    have e : ((2 : Int) ^ b) = ((2 ^ b : Nat) : Int) := by simp
    omega
  have w1 : Hid (IntKind.u64.wrap (IntKind.u64.wrap ((2 : Int) ^ b) - 1) = 2 ^ b - 1) := Lib.hid (by rw [IntWalk.u64_in ((2 : Int) ^ b) (by omega)]; exact IntWalk.u64_in _ (by omega))
  have HB := Lib.hid hb
  have HX := Lib.hid hx
  have b1 : (1 : Int) ≤ b := by omega
  have b2 : (b : Int) < 64 := by omega
  clear hx hb hp hp1 hn
  go_enter Tryz.func40, Tryz.ntmps40
  go_wp2
  go_ret
  exact ⟨ret_int (by rw [w1.out]; exact HB.out), rfl⟩

theorem good_gd {l : List Sp} (h : Good l) : Gd l := by
  refine ⟨fun x hx => ?_, ?_⟩
  · obtain ⟨i, hi, rfl⟩ := List.getElem_of_mem hx
    exact (h i hi).1
  · have step : ∀ i j, (hj : j < l.length) → (hij : i < j) → (l[i]'(by omega)).2 + 1 < l[j].1 := by
      intro i j
      induction j with
      | zero => intro _ h; omega
      | succ j ih =>
        intro hj hij
        have h1 := (h (j + 1) hj).2 (by omega)
        simp only [Nat.add_sub_cancel] at h1
        rcases Nat.lt_or_ge i j with h2 | h2
        · have h3 := ih (by omega) h2
          have h4 := (h j (by omega)).1.1
          omega
        · obtain rfl : i = j := by omega
          exact h1
    exact List.pairwise_iff_getElem.2 fun i j hi hj hij => step i j hj hij

set_option maxHeartbeats 2000000 in
set_option maxRecDepth 100000 in
theorem gam_row (s n : Nat) (w : World) (hs : s < 16) (hn : n ≤ 4) :
    Calls Tryz.prog 47 #[.int .i64 s, .int .i64 n] w fun e w' => ∃ A c, e = .returned (.slice A (rowS s n).length c) ∧ RdN w' w.heap.size A (rowS s n).length c (Ss (rowS s n)) ∧ Below w.heap.size w w' := by
  have K : Hid (∀ k, k ≤ 4 → Good (rowS s k) ∧ (∀ x ∈ rowS s k, 0 ≤ x.1 ∧ x.2 < 4) ∧ (rowS s k).length ≤ k ∧ U2s (rowS s k)) := Lib.hid (fun k hk => rowS_ok hs hk)
  go_enter Tryz.func47, Tryz.ntmps47
  go_wp2
  go_loopw [5, 8] (fun a iv wr => ∃ (j : Nat) (A : Option Addr) (c : Nat), j ≤ n ∧ iv = .int .i64 j ∧ a = .slice A (rowS s j).length c ∧ Hid (RdN wr w.heap.size A (rowS s j).length c (Ss (rowS s j))) ∧ Hid (Below w.heap.size w wr)) (fun _ i _ => n - (intOf i).toNat)
  case atStart => exact ⟨0, none, 0, Nat.zero_le _, rfl, rfl, Lib.hid ⟨Rd.nil_ _ _, fun b off e => by cases e⟩, Lib.hid (Below.refl _ _)⟩
  case round =>
    obtain ⟨j, A, c, hj, rfl, rfl, R, B⟩ := hrel
    by_cases hlt : j < n
    · have H := Lib.hid (gam_has s j wr hs (by omega))
      have wj : IntKind.u64.wrap (j : Int) = (j : Int) := IntWalk.u64_in _ (by omega)
      have hl := (K.out j (by omega)).2.2.1
      cases hb : s.testBit j with
      | false =>
        rw [hb] at H
        have e : Hid (rowS s (j + 1) = rowS s j) := Lib.hid (by show (if s.testBit j then _ else _) = _; rw [hb]; rfl)
        clear hb
        go_wp2_with fail
        refine H.out.mono ?_
        rintro e w1 ⟨rfl, rfl⟩
        go_wp2
        go_roundw
        case rel => exact ⟨j + 1, A, c, by omega, by go_num, by rw [e.out], by rw [e.out]; exact R, B⟩
        case measure => simp [intOf]; omega
      | true =>
        rw [hb] at H
        have e : Hid (rowS s (j + 1) = addP (rowS s j) ((j : Int), (j : Int))) := Lib.hid (by show (if s.testBit j then _ else _) = _; rw [hb]; rfl)
        clear hb
        have C1 := Lib.hid (add_yes A (rowS s j).length c (rowS s j) (j : Int) (j : Int) wr R.out.rd (K.out j (by omega)).1 ⟨Int.le_refl _, by unfold maxPn; omega⟩ (by omega) (K.out j (by omega)).2.2.2 (by omega))
        rw [← e.out] at C1
        go_wp2_with fail
        refine H.out.mono ?_
        rintro e w1 ⟨rfl, rfl⟩
        go_wp2_with fail
        refine C1.out.mono ?_
        rintro e w1 ⟨A', c', rfl, r1, b1⟩
        have R1 : Hid (RdN w1 w.heap.size A' (rowS s (j + 1)).length c' (Ss (rowS s (j + 1)))) := Lib.hid ⟨r1.rd, fun b off e hn => Nat.le_trans B.out.size (r1.nw b off e hn)⟩
        have B1 := Lib.hid (B.out.trans (b1.mono B.out.size))
        clear C1 r1 b1
        go_wp2
        go_roundw
        case rel => exact ⟨j + 1, A', c', by omega, by go_num, rfl, R1, B1⟩
        case measure => simp [intOf]; omega
    · obtain rfl : j = n := by omega
      go_wp2
      go_ret
      exact ⟨A, c, rfl, R.out, B.out⟩

end Go.Proofs.YtpfmhkkglaghgaaGreat
