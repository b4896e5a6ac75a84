/-
  Part of the proof of EngineNumbers.
-/
import Derived.Test.YtpkbimmhimgamaaGreatPAJ
import Derived.Test.YtpkbimmhimgamaaGreatPAK
import Derived.Test.YtpkbimmhimgamaaGreatPAE
import Derived.Test.YtpkbimmhimgamaaGreatPAD
namespace Go.Proofs.YtpkbimmhimgamaaGreat
set_option linter.unusedSimpArgs false
set_option linter.unusedVariables false
set_option linter.unnecessarySimpa false
open Go.RowKit
theorem pow256 (k : Nat) : (2 : Int) ^ (8 * k) = 256 ^ k := by
  rw [Int.pow_mul]; rfl
theorem mod_mul (n P : Int) (hp : 0 < P) : n % (P * 256) = n % P + P * (n / P % 256) := by
  have h1 := Int.mul_ediv_add_emod n P
  have h2 := Int.mul_ediv_add_emod (n / P) 256
  have h3 := Int.emod_nonneg n (show P ≠ 0 by omega)
  have h4 := Int.emod_lt_of_pos n hp
  have h5 := Int.emod_nonneg (n / P) (show (256 : Int) ≠ 0 by decide)
  have h6 := Int.emod_lt_of_pos (n / P) (show (0 : Int) < 256 by decide)
  generalize hq : n / P = q at *
  have e : n = (n % P + P * (q % 256)) + (P * 256) * (q / 256) := by
    have : P * q = P * (256 * (q / 256)) + P * (q % 256) := by rw [← Int.mul_add, h2]
    rw [Int.mul_assoc]
    omega
  have h7 : P * (q % 256) ≤ P * 255 := Int.mul_le_mul_of_nonneg_left (by omega) (by omega)
  have h8 : 0 ≤ P * (q % 256) := Int.mul_nonneg (by omega) h5
  have h9 : (n % P + P * (q % 256)) % (P * 256) = n % P + P * (q % 256) := Int.emod_eq_of_lt (by omega) (by omega)
  rw [← h9]
  conv => lhs; rw [e]
  rw [Int.add_mul_emod_self_left]
theorem bytesN_succ (k : Nat) (n : Int) : bytesN (k + 1) n = byteN n k :: bytesN k n := by
  unfold bytesN
  rw [List.range_succ_eq_map, List.map_cons, List.map_map]
  simp only [Nat.add_sub_cancel, Nat.sub_zero]
  congr 1
  apply List.map_congr_left
  intro j hj
  have := List.mem_range.1 hj
  simp only [Function.comp]
  congr 1
  omega
theorem accN_bytes (k : Nat) (n : Int) : ∀ a, accN a (bytesN k n) = a * 256 ^ k + n % 256 ^ k := by
  induction k with
  | zero => intro a; simp [bytesN]
  | succ k ih =>
    intro a
    rw [bytesN_succ, accN_cons, ih]
    unfold byteN
    rw [pow256]
    have e : (256 : Int) ^ (k + 1) = 256 ^ k * 256 := Int.pow_succ ..
    rw [e]
    have hp : (0 : Int) < 256 ^ k := Int.pow_pos (by decide)
    generalize (256 : Int) ^ k = P at *
    have h1 : n % (P * 256) = n % P + P * (n / P % 256) := mod_mul n P hp
    rw [h1]
    have h2 : (a * 256 + n / P % 256) * P = a * (P * 256) + P * (n / P % 256) := by
      rw [Int.add_mul, Int.mul_assoc, Int.mul_comm 256 P, Int.mul_comm (n / P % 256) P]
    rw [h2]
    omega
theorem bytesN_u8 (k : Nat) (n : Int) : ∀ x ∈ bytesN k n, 0 ≤ x ∧ x ≤ 255 := by
  intro x hx
  obtain ⟨j, -, rfl⟩ := List.mem_map.1 hx
  exact byteN_rng n _
theorem size_pow (n : Int) (h0 : 0 ≤ n) (h1 : n ≤ 4611686018427387903) : n < 256 ^ sizeN n ∧ 1 ≤ sizeN n := by
  rcases sizeN_cases n with ⟨e, h⟩ | ⟨e, h, h'⟩ | ⟨e, h, h'⟩ | ⟨e, h, h'⟩ | ⟨e, h⟩ <;> rw [e]
  · exact ⟨by show n < 256; omega, by omega⟩
  · exact ⟨by show n < 65536; omega, by omega⟩
  · exact ⟨by show n < 4294967296; omega, by omega⟩
  · exact ⟨by show n < 18446744073709551616; omega, by omega⟩
  · omega
theorem putN_len (n : Int) (h0 : 0 ≤ n) (h1 : n ≤ 4611686018427387903) : (putN n).length = sizeN n := by
  have h := size_pow n h0 h1
  unfold putN
  obtain ⟨k, hk⟩ : ∃ k, sizeN n = k + 1 := ⟨sizeN n - 1, by omega⟩
  rw [hk, bytesN_succ]
  simp
theorem putN_u8 (n : Int) (h0 : 0 ≤ n) (h1 : n ≤ 4611686018427387903) : ∀ x ∈ putN n, 0 ≤ x ∧ x ≤ 255 := by
  have h := size_pow n h0 h1
  have ht := top_lt n h0 (sizeN n) rfl h.2
  intro x hx
  unfold putN at hx
  obtain ⟨k, hk⟩ : ∃ k, sizeN n = k + 1 := ⟨sizeN n - 1, by omega⟩
  rw [hk] at hx ht
  rw [bytesN_succ] at hx
  simp only [List.mem_cons, Nat.add_sub_cancel] at hx ht
  rcases hx with rfl | hx
  · unfold codeN
    split
    · omega
    · split
      · omega
      · split <;> omega
  · exact bytesN_u8 k n x hx
theorem numP_putN (n : Int) (r : List Int) (h0 : 0 ≤ n) (h1 : n ≤ 4611686018427387903) : numP (putN n ++ r) = .ok (n, sizeN n) := by
  have h := size_pow n h0 h1
  have ht := top_lt n h0 (sizeN n) rfl h.2
  have hc := sizeN_cases n
  unfold putN
  obtain ⟨k, hk⟩ : ∃ k, sizeN n = k + 1 := ⟨sizeN n - 1, by omega⟩
  have ha := accN_bytes (k + 1) n 0
  rw [bytesN_succ, accN_cons] at ha
  rw [hk] at h ht
  simp only [Nat.add_sub_cancel] at ht
  rw [hk, bytesN_succ]
  simp only [List.cons_append]
  have hkn : kN (byteN n k + codeN (k + 1)) = k + 1 := by
    rw [hk] at hc
    unfold kN codeN
    rcases hc with ⟨e, -⟩ | ⟨e, -⟩ | ⟨e, -⟩ | ⟨e, -⟩ | ⟨e, -⟩
    · obtain rfl : k = 0 := by omega
      simp only [Nat.zero_add, if_pos (show byteN n 0 + 0 < 64 by omega), show ¬ (1 = 2) by omega, show ¬ (1 = 4) by omega, show ¬ (1 = 8) by omega, if_false]
    · obtain rfl : k = 1 := by omega
      rw [if_neg (by simp; omega), if_pos (by simp; omega)]
    · obtain rfl : k = 3 := by omega
      rw [if_neg (by simp; omega), if_neg (by simp; omega), if_pos (by simp; omega)]
    · obtain rfl : k = 7 := by omega
      rw [if_neg (by simp; omega), if_neg (by simp; omega), if_neg (by simp; omega)]
    · omega
  have hm : (byteN n k + codeN (k + 1)) % 64 = byteN n k := by
    have : codeN (k + 1) % 64 = 0 := by
      unfold codeN
      split
      · rfl
      · split
        · rfl
        · split <;> rfl
    omega
  unfold numP
  simp only
  rw [hkn, if_neg (by simp), hm]
  have ht2 : ((bytesN k n ++ r).take (k + 1 - 1)) = bytesN k n := by
    rw [Nat.add_sub_cancel, List.take_append_of_le_length (by simp), List.take_of_length_le (by simp)]
  rw [ht2]
  have hv : accN (byteN n k) (bytesN k n) = n := by
    have e2 : (0 : Int) * 256 + byteN n k = byteN n k := by omega
    rw [e2] at ha
    rw [ha, Int.emod_eq_of_lt h0 h.1]
    omega
  rw [hv, hk]
  simp
theorem wordP_eight (w : Int) (r : List Int) (h : isU64 w) : wordP (eightN w ++ r) = .ok w := by
  unfold wordP eightN
  rw [if_neg (by simp), List.take_append_of_le_length (by simp), List.take_of_length_le (by simp), accN_bytes]
  have e : (256 : Int) ^ 8 = 18446744073709551616 := rfl
  rw [e, Int.emod_eq_of_lt h.1 h.2]
  simp

end Go.Proofs.YtpkbimmhimgamaaGreat
namespace Go.Proofs.YtpkbimmhimgamaaGreat
set_option linter.unusedSimpArgs false
set_option linter.unusedVariables false
set_option linter.unnecessarySimpa false
open Go.RowKit
theorem eightN_get (x : Int) {j : Nat} (h : j < 8) : (eightN x)[j]? = some (byteN x (7 - j)) := by
  unfold eightN bytesN
  rw [List.getElem?_map, List.getElem?_range h]
  rfl
theorem take_snoc8 {α : Type} {l : List α} {j : Nat} {x : α} (h : l[j]? = some x) : l.take (j + 1) = l.take j ++ [x] := by
  rw [List.take_add_one, h]; rfl
end Go.Proofs.YtpkbimmhimgamaaGreat
namespace Go.Proofs.YtpkbimmhimgamaaGreat
set_option linter.unusedSimpArgs false
set_option linter.unusedVariables false
set_option linter.unnecessarySimpa false
open Go.RowKit
theorem putN_le (n : Int) (h0 : 0 ≤ n) (h1 : n ≤ 4611686018427387903) : (putN n).length ≤ 8 := by
  rw [putN_len n h0 h1]
  have := sizeN_cases n
  omega
end Go.Proofs.YtpkbimmhimgamaaGreat
