/-
  What was put as bytes is read again. · Numbers put as bytes: the reference's Eight and Put. · An acknowledgment put as bytes: the reference's putRow and PutAck.
-/
import Derived.Test.YtpfmhkkglaghgaaOctB
import Derived.Test.YtpfmhkkglaghgaaOct1
import Derived.Test.YtpfmhkkglaghgaaAck
import Derived.Test.YtpfmhkkglaghgaaSeq
namespace Go.Proofs.Ytpfmhkkglaghgaa
set_option linter.unusedSimpArgs false
set_option linter.unusedVariables false
set_option linter.unnecessarySimpa false
open Go.RowKit

theorem pow256 (k : Nat) : (2 : Int) ^ (8 * k) = 256 ^ k := by
  rw [Int.pow_mul]; rfl
theorem mod_mul (n P : Int) (hp : 0 < P) : n % (P * 256) = n % P + P * (n / P % 256) := by
  have h1 := Int.mul_ediv_add_emod n P
  have h2 := Int.mul_ediv_add_emod (n / P) 256
  have h3 := Int.emod_nonneg n (show P ≠ 0 by omega)
  have h4 := Int.emod_lt_of_pos n hp
  have h5 := Int.emod_nonneg (n / P) (show (256 : Int) ≠ 0 by decide)
  have h6 := Int.emod_lt_of_pos (n / P) (show (0 : Int) < 256 by decide)
  generalize hq : n / P = q at *
  have e : n = (n % P + P * (q % 256)) + (P * 256) * (q / 256) := by
    have : P * q = P * (256 * (q / 256)) + P * (q % 256) := by rw [← Int.mul_add, h2]
    rw [Int.mul_assoc]
    omega
  have h7 : P * (q % 256) ≤ P * 255 := Int.mul_le_mul_of_nonneg_left (by omega) (by omega)
  have h8 : 0 ≤ P * (q % 256) := Int.mul_nonneg (by omega) h5
  have h9 : (n % P + P * (q % 256)) % (P * 256) = n % P + P * (q % 256) := Int.emod_eq_of_lt (by omega) (by omega)
  rw [← h9]
  conv => lhs; rw [e]
  rw [Int.add_mul_emod_self_left]
theorem bytesN_succ (k : Nat) (n : Int) : bytesN (k + 1) n = byteN n k :: bytesN k n := by
  unfold bytesN
  rw [List.range_succ_eq_map, List.map_cons, List.map_map]
  simp only [Nat.add_sub_cancel, Nat.sub_zero]
  congr 1
  apply List.map_congr_left
  intro j hj
  have := List.mem_range.1 hj
  simp only [Function.comp]
  congr 1
  omega
theorem accN_bytes (k : Nat) (n : Int) : ∀ a, accN a (bytesN k n) = a * 256 ^ k + n % 256 ^ k := by
  induction k with
  | zero => intro a; simp [bytesN]
  | succ k ih =>
    intro a
    rw [bytesN_succ, accN_cons, ih]
    unfold byteN
    rw [pow256]
    have e : (256 : Int) ^ (k + 1) = 256 ^ k * 256 := Int.pow_succ ..
    rw [e]
    have hp : (0 : Int) < 256 ^ k := Int.pow_pos (by decide)
    generalize (256 : Int) ^ k = P at *
    have h1 : n % (P * 256) = n % P + P * (n / P % 256) := mod_mul n P hp
    rw [h1]
    have h2 : (a * 256 + n / P % 256) * P = a * (P * 256) + P * (n / P % 256) := by
      rw [Int.add_mul, Int.mul_assoc, Int.mul_comm 256 P, Int.mul_comm (n / P % 256) P]
    rw [h2]
    omega
theorem bytesN_u8 (k : Nat) (n : Int) : ∀ x ∈ bytesN k n, 0 ≤ x ∧ x ≤ 255 := by
  intro x hx
  obtain ⟨j, -, rfl⟩ := List.mem_map.1 hx
  exact byteN_rng n _
theorem size_pow (n : Int) (h0 : 0 ≤ n) (h1 : n ≤ 4611686018427387903) : n < 256 ^ sizeN n ∧ 1 ≤ sizeN n := by
  rcases sizeN_cases n with ⟨e, h⟩ | ⟨e, h, h'⟩ | ⟨e, h, h'⟩ | ⟨e, h, h'⟩ | ⟨e, h⟩ <;> rw [e]
  · exact ⟨by show n < 256; omega, by omega⟩
  · exact ⟨by show n < 65536; omega, by omega⟩
  · exact ⟨by show n < 4294967296; omega, by omega⟩
  · exact ⟨by show n < 18446744073709551616; omega, by omega⟩
  · omega
theorem putN_len (n : Int) (h0 : 0 ≤ n) (h1 : n ≤ 4611686018427387903) : (putN n).length = sizeN n := by
  have h := size_pow n h0 h1
  unfold putN
  obtain ⟨k, hk⟩ : ∃ k, sizeN n = k + 1 := ⟨sizeN n - 1, by omega⟩
  rw [hk, bytesN_succ]
  simp
theorem putN_u8 (n : Int) (h0 : 0 ≤ n) (h1 : n ≤ 4611686018427387903) : ∀ x ∈ putN n, 0 ≤ x ∧ x ≤ 255 := by
  have h := size_pow n h0 h1
  have ht := top_lt n h0 (sizeN n) rfl h.2
  intro x hx
  unfold putN at hx
  obtain ⟨k, hk⟩ : ∃ k, sizeN n = k + 1 := ⟨sizeN n - 1, by omega⟩
  rw [hk] at hx ht
  rw [bytesN_succ] at hx
  simp only [List.mem_cons, Nat.add_sub_cancel] at hx ht
  rcases hx with rfl | hx
  · unfold codeN
    split
    · omega
    · split
      · omega
      · split <;> omega
  · exact bytesN_u8 k n x hx
theorem numP_putN (n : Int) (r : List Int) (h0 : 0 ≤ n) (h1 : n ≤ 4611686018427387903) : numP (putN n ++ r) = .ok (n, sizeN n) := by
  have h := size_pow n h0 h1
  have ht := top_lt n h0 (sizeN n) rfl h.2
  have hc := sizeN_cases n
  unfold putN
  obtain ⟨k, hk⟩ : ∃ k, sizeN n = k + 1 := ⟨sizeN n - 1, by omega⟩
  have ha := accN_bytes (k + 1) n 0
  rw [bytesN_succ, accN_cons] at ha
  rw [hk] at h ht
  simp only [Nat.add_sub_cancel] at ht
  rw [hk, bytesN_succ]
  simp only [List.cons_append]
  have hkn : kN (byteN n k + codeN (k + 1)) = k + 1 := by
    rw [hk] at hc
    unfold kN codeN
    rcases hc with ⟨e, -⟩ | ⟨e, -⟩ | ⟨e, -⟩ | ⟨e, -⟩ | ⟨e, -⟩
    · obtain rfl : k = 0 := by omega
      simp only [Nat.zero_add, if_pos (show byteN n 0 + 0 < 64 by omega), show ¬ (1 = 2) by omega, show ¬ (1 = 4) by omega, show ¬ (1 = 8) by omega, if_false]
    · obtain rfl : k = 1 := by omega
      rw [if_neg (by simp; omega), if_pos (by simp; omega)]
    · obtain rfl : k = 3 := by omega
      rw [if_neg (by simp; omega), if_neg (by simp; omega), if_pos (by simp; omega)]
    · obtain rfl : k = 7 := by omega
      rw [if_neg (by simp; omega), if_neg (by simp; omega), if_neg (by simp; omega)]
    · omega
  have hm : (byteN n k + codeN (k + 1)) % 64 = byteN n k := by
    have : codeN (k + 1) % 64 = 0 := by
      unfold codeN
      split
      · rfl
      · split
        · rfl
        · split <;> rfl
    omega
  unfold numP
  simp only
  rw [hkn, if_neg (by simp), hm]
  have ht2 : ((bytesN k n ++ r).take (k + 1 - 1)) = bytesN k n := by
    rw [Nat.add_sub_cancel, List.take_append_of_le_length (by simp), List.take_of_length_le (by simp)]
  rw [ht2]
  have hv : accN (byteN n k) (bytesN k n) = n := by
    have e2 : (0 : Int) * 256 + byteN n k = byteN n k := by omega
    rw [e2] at ha
    rw [ha, Int.emod_eq_of_lt h0 h.1]
    omega
  rw [hv, hk]
  simp
theorem wordP_eight (w : Int) (r : List Int) (h : isU64 w) : wordP (eightN w ++ r) = .ok w := by
  unfold wordP eightN
  rw [if_neg (by simp), List.take_append_of_le_length (by simp), List.take_of_length_le (by simp), accN_bytes]
  have e : (256 : Int) ^ 8 = 18446744073709551616 := rfl
  rw [e, Int.emod_eq_of_lt h.1 h.2]
  simp

def rowGo : Int → List Sp → List Int
  | _, [] => []
  | low, s :: l => putN (s.1 - low) ++ (putN (s.2 - s.1) ++ rowGo (s.2 + 2) l)
def rowBytes (l : List Sp) : List Int := (l.length : Int) :: rowGo 0 l
def putAckP (a : AckD) : List Int := 2 :: (rowBytes a.sp ++ (rowBytes a.mm ++ (eightN a.tr ++ (eightN a.xo ++ [if a.od then 1 else 0]))))
theorem rowGo_read : ∀ (l : List Sp) (low : Int) (r : List Int) (acc : List Sp), 0 ≤ low → Gd l → (∀ s ∈ l, low ≤ s.1) → spansGo l.length low (rowGo low l ++ r) acc = .ok (acc ++ l, r) := by
  intro l
  induction l with
  | nil => intro low r acc _ _ _; simp [rowGo, spansGo]
  | cons s l ih =>
    intro low r acc h0 hg hl
    have hs := hg.1 s (List.mem_cons_self ..)
    have hlo := hl s (List.mem_cons_self ..)
    have hs2 : s.2 ≤ 4611686018427387903 := hs.2
    have hs1 := hs.1
    simp only [rowGo, List.length_cons, List.append_assoc]
    unfold spansGo
    rw [numP_putN (s.1 - low) _ (by omega) (by omega)]
    simp only
    rw [if_neg (by omega)]
    have hd : (putN (s.1 - low) ++ (putN (s.2 - s.1) ++ (rowGo (s.2 + 2) l ++ r))).drop (sizeN (s.1 - low)) = putN (s.2 - s.1) ++ (rowGo (s.2 + 2) l ++ r) := by
      rw [← putN_len (s.1 - low) (by omega) (by omega), List.drop_left]
    rw [hd, numP_putN (s.2 - s.1) _ (by omega) (by omega)]
    simp only
    rw [if_neg (by omega)]
    have hd2 : (putN (s.2 - s.1) ++ (rowGo (s.2 + 2) l ++ r)).drop (sizeN (s.2 - s.1)) = rowGo (s.2 + 2) l ++ r := by
      rw [← putN_len (s.2 - s.1) (by omega) (by omega), List.drop_left]
    rw [hd2]
    have e1 : low + (s.1 - low) = s.1 := by omega
    have e2 : s.1 + (s.2 - s.1) = s.2 := by omega
    rw [e1, e2, ih (s.2 + 2) r _ (by omega) hg.tail (fun x hx => by
      have := (List.pairwise_cons.1 hg.2).1 x hx
      omega)]
    simp
theorem spansP_row (l : List Sp) (r : List Int) (least : Int) (hg : Gd l) (h0 : ∀ s ∈ l, 0 ≤ s.1) (h1 : least ≤ l.length) (h2 : l.length ≤ 32) : spansP least (rowBytes l ++ r) = .ok (l, r) := by
  unfold spansP rowBytes
  simp only [List.cons_append]
  rw [if_neg (by omega), Int.toNat_natCast, rowGo_read l 0 r [] (Int.le_refl _) hg h0]
  rfl
theorem ackP_put (a : AckD) (h1 : Gd a.sp) (h2 : Gd a.mm) (p1 : ∀ s ∈ a.sp, 0 ≤ s.1) (p2 : ∀ s ∈ a.mm, 0 ≤ s.1) (l1 : 1 ≤ a.sp.length) (l2 : a.sp.length ≤ 32) (l3 : a.mm.length ≤ 32) (hi : insideB a.mm a.sp = true) (ht : isU64 a.tr) (hx : isU64 a.xo) : ackP (putAckP a) = .ok a := by
  unfold ackP putAckP
  simp only
  rw [if_neg (by decide), spansP_row a.sp _ 1 h1 p1 (by omega) l2]
  simp only
  rw [spansP_row a.mm _ 0 h2 p2 (by omega) l3]
  simp only
  unfold ackTail
  rw [wordP_eight a.tr _ ht]
  simp only
  have d1 : (eightN a.tr ++ (eightN a.xo ++ [if a.od then (1 : Int) else 0])).drop 8 = eightN a.xo ++ [if a.od then (1 : Int) else 0] := by
    rw [show (8 : Nat) = (eightN a.tr).length by simp [eightN], List.drop_left]
  rw [d1, wordP_eight a.xo _ hx]
  simp only
  have d2 : (eightN a.xo ++ [if a.od then (1 : Int) else 0]).drop 8 = [if a.od then (1 : Int) else 0] := by
    rw [show (8 : Nat) = (eightN a.xo).length by simp [eightN], List.drop_left]
  rw [d2]
  simp only
  rw [if_neg (by split <;> omega), if_neg (by simp), if_neg (by rw [hi]; simp)]
  cases a with
  | mk sp mm tr xo od => cases od <;> simp
end Go.Proofs.Ytpfmhkkglaghgaa

namespace Go.Proofs.Ytpfmhkkglaghgaa
set_option linter.unusedSimpArgs false
set_option linter.unusedVariables false
set_option linter.unnecessarySimpa false
open Go.RowKit

theorem eightN_get (x : Int) {j : Nat} (h : j < 8) : (eightN x)[j]? = some (byteN x (7 - j)) := by
  unfold eightN bytesN
  rw [List.getElem?_map, List.getElem?_range h]
  rfl
theorem take_snoc8 {α : Type} {l : List α} {j : Nat} {x : α} (h : l[j]? = some x) : l.take (j + 1) = l.take j ++ [x] := by
  rw [List.take_add_one, h]; rfl
theorem byteN_and (x : Int) (k : Nat) (hx : isU64 x) : bits .and .u64 (x / 2 ^ (8 * k)) 255 = byteN x k ∧ IntKind.u8.wrap (byteN x k) = byteN x k := by
  obtain ⟨h0, h1⟩ := hx
  have h2 : 0 ≤ x / 2 ^ (8 * k) := Int.ediv_nonneg h0 (Int.le_of_lt (Int.pow_pos (by decide)))
  have h3 : x / 2 ^ (8 * k) ≤ x := Int.ediv_le_self _ h0
  have h4 := byteN_rng x k
  refine ⟨and255 _ ⟨h2, by omega⟩, IntWalk.u8_in _ (by omega)⟩

theorem codeN_pow {k c : Nat} (h : 2 ^ c = k) (hc : c ≤ 3) : codeN k = (c : Int) * 64 := by
  have : c = 0 ∨ c = 1 ∨ c = 2 ∨ c = 3 := by omega
  rcases this with rfl | rfl | rfl | rfl <;> subst h <;> rfl
theorem putN_get0 {n : Int} {k : Nat} (hk : sizeN n = k) (h1 : 1 ≤ k) : (putN n)[0]? = some (byteN n (k - 1) + codeN k) := by
  unfold putN
  rw [hk]
  obtain ⟨k', rfl⟩ : ∃ k', k = k' + 1 := ⟨k - 1, by omega⟩
  rw [bytesN_succ]
  simp
theorem putN_get {n : Int} {k j : Nat} (hk : sizeN n = k) (h1 : j + 1 < k) : (putN n)[j + 1]? = some (byteN n (k - 1 - (j + 1))) := by
  unfold putN
  rw [hk]
  obtain ⟨k', rfl⟩ : ∃ k', k = k' + 1 := ⟨k - 1, by omega⟩
  rw [bytesN_succ]
  simp only [List.getElem?_cons_succ]
  unfold bytesN
  rw [List.getElem?_map, List.getElem?_range (by omega)]
  simp only [Option.map_some]
  congr 2
  omega

end Go.Proofs.Ytpfmhkkglaghgaa

namespace Go.Proofs.Ytpfmhkkglaghgaa
set_option linter.unusedSimpArgs false
set_option linter.unusedVariables false
set_option linter.unnecessarySimpa false
open Go.RowKit

theorem chg_base {B : Nat} {w w' : World} (h : Below B w w') : Chg (fun k => B ≤ k) w w' := ⟨h.os, h.tape, h.output, h.size, fun k _ hn => h.block k (by omega)⟩
theorem rowGo_drop {l : List Sp} {j : Nat} (hj : j < l.length) (low : Int) : rowGo low (l.drop j) = putN (l[j].1 - low) ++ (putN (l[j].2 - l[j].1) ++ rowGo (l[j].2 + 2) (l.drop (j + 1))) := by
  rw [List.drop_eq_getElem_cons hj]; rfl
theorem gd_drop {l : List Sp} (h : Gd l) {j : Nat} (hj : j < l.length) : ∀ s ∈ l.drop (j + 1), l[j].2 + 2 ≤ s.1 := by
  intro s hs
  obtain ⟨i, hi, e⟩ := List.mem_drop_iff_getElem.1 hs
  have := List.pairwise_iff_getElem.1 h.2 j (j + 1 + i) hj (by omega) (by omega)
  rw [← e]
  omega
theorem putN_le (n : Int) (h0 : 0 ≤ n) (h1 : n ≤ 4611686018427387903) : (putN n).length ≤ 8 := by
  rw [putN_len n h0 h1]
  have := sizeN_cases n
  omega
theorem rowGo_le : ∀ (l : List Sp) (low : Int), 0 ≤ low → Gd l → (∀ s ∈ l, low ≤ s.1) → (rowGo low l).length ≤ 16 * l.length
  | [], _, _, _, _ => by simp [rowGo]
  | s :: l, low, h0, hg, hl => by
    have hs := hg.1 s (List.mem_cons_self ..)
    have h1 := hs.1
    have h2 : s.2 ≤ 4611686018427387903 := hs.2
    have h3 := hl s (List.mem_cons_self ..)
    have := rowGo_le l (s.2 + 2) (by omega) hg.tail (fun x hx => by
      have := (List.pairwise_cons.1 hg.2).1 x hx
      omega)
    have L1 := putN_le (s.1 - low) (by omega) (by omega)
    have L2 := putN_le (s.2 - s.1) (by omega) (by omega)
    simp only [rowGo, List.length_append, List.length_cons]
    omega
theorem rowBytes_le {l : List Sp} (hg : Gd l) (h0 : ∀ s ∈ l, 0 ≤ s.1) (hl : l.length ≤ 32) : (rowBytes l).length ≤ 600 := by
  have := rowGo_le l 0 (Int.le_refl _) hg h0
  simp only [rowBytes, List.length_cons]
  omega

end Go.Proofs.Ytpfmhkkglaghgaa
