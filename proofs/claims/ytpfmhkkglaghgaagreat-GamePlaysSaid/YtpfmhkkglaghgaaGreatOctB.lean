/-
  Bits of bytes and words, as sums.
-/
import Derived.Test.YtpfmhkkglaghgaaGreatOctP
import Derived.Laws.BitsAllLaws
import Derived.Laws.BitsLemmas
namespace Go.Proofs.YtpfmhkkglaghgaaGreat
set_option linter.unusedSimpArgs false
set_option linter.unusedVariables false
set_option linter.unnecessarySimpa false
open Go.RowKit

theorem or_nat (a c : Nat) (k : Nat) (hc : c < 2 ^ k) : (a * 2 ^ k) ||| c = a * 2 ^ k + c := by
  rw [Nat.mul_comm a]
  exact (Nat.two_pow_add_eq_or_of_lt hc a).symm
theorem or_acc (a c : Int) (h0 : 0 ≤ a) (h1 : a * 256 + c < 18446744073709551616) (h2 : 0 ≤ c) (h3 : c ≤ 255) : bits .or .u64 (a * 256) c = a * 256 + c := by
  rw [u64_or _ _ (by omega) (by omega) h2 (by omega)]
  obtain ⟨n, rfl⟩ : ∃ n : Nat, a = n := ⟨a.toNat, by omega⟩
  obtain ⟨m, rfl⟩ : ∃ m : Nat, c = m := ⟨c.toNat, by omega⟩
  have e : ((n : Int) * 256).toNat = n * 2 ^ 8 := by omega
  rw [e, Int.toNat_natCast, or_nat n m 8 (by omega)]
  omega
theorem and_nat (b k : Nat) : b &&& (2 ^ k - 1) = b % 2 ^ k := Nat.and_two_pow_sub_one_eq_mod b k
theorem and63 (b : Int) (h0 : 0 ≤ b) (h1 : b ≤ 255) : bits .and .u8 b 63 = b % 64 := by
  rw [u8_and _ _ h0 (by omega) (by omega) (by omega)]
  obtain ⟨n, rfl⟩ : ∃ n : Nat, b = n := ⟨b.toNat, by omega⟩
  have := and_nat n 6
  simp only [Int.toNat_natCast]
  have e : (63 : Int).toNat = 2 ^ 6 - 1 := rfl
  rw [e, this]
  omega
theorem and255 (b : Int) (h : isU64 b) : bits .and .u64 b 255 = b % 256 := by
  obtain ⟨h0, h1⟩ := h
  rw [u64_and _ _ h0 h1 (by omega) (by omega)]
  obtain ⟨n, rfl⟩ : ∃ n : Nat, b = n := ⟨b.toNat, by omega⟩
  have := and_nat n 8
  simp only [Int.toNat_natCast]
  have e : (255 : Int).toNat = 2 ^ 8 - 1 := rfl
  rw [e, this]
  omega
theorem or_code (b : Int) (a : Nat) (ha : a ≤ 3) (h0 : 0 ≤ b) (h1 : b < 64) : bits .or .u8 b ((a : Int) * 64) = b + a * 64 := by
  rw [u8_or _ _ h0 (by omega) (by omega) (by omega)]
  obtain ⟨n, rfl⟩ : ∃ n : Nat, b = n := ⟨b.toNat, by omega⟩
  have e : ((a : Int) * 64).toNat = a * 2 ^ 6 := by omega
  rw [e, Int.toNat_natCast, Nat.or_comm, or_nat a n 6 (by omega)]
  omega
theorem or64 (b : Int) (h0 : 0 ≤ b) (h1 : b < 64) : bits .or .u8 b 64 = b + 64 := or_code b 1 (by omega) h0 h1
theorem or128 (b : Int) (h0 : 0 ≤ b) (h1 : b < 64) : bits .or .u8 b 128 = b + 128 := or_code b 2 (by omega) h0 h1
theorem or192 (b : Int) (h0 : 0 ≤ b) (h1 : b < 64) : bits .or .u8 b 192 = b + 192 := or_code b 3 (by omega) h0 h1
theorem byteN_u8 (n : Int) (i : Nat) : IntKind.u8.wrap (n / 2 ^ (8 * i)) = byteN n i := by
  rw [IntKind.wrap_u8]; rfl
/-- The highest byte of a number that fits is below 64. -/
theorem top_lt (n : Int) (h0 : 0 ≤ n) (k : Nat) (hk : sizeN n = k) (h1 : 1 ≤ k) : 0 ≤ byteN n (k - 1) ∧ byteN n (k - 1) < 64 := by
  have hr := byteN_rng n (k - 1)
  refine ⟨hr.1, ?_⟩
  unfold byteN
  rcases sizeN_cases n with ⟨e, h⟩ | ⟨e, h, h'⟩ | ⟨e, h, h'⟩ | ⟨e, h, h'⟩ | ⟨e, h⟩ <;> rw [e] at hk <;> subst hk
  · simp only [Nat.sub_self, Nat.mul_zero, Int.pow_zero, Int.ediv_one]; omega
  · show n / 256 % 256 < 64; omega
  · show n / 16777216 % 256 < 64; omega
  · show n / 72057594037927936 % 256 < 64; omega
  · omega
end Go.Proofs.YtpfmhkkglaghgaaGreat
