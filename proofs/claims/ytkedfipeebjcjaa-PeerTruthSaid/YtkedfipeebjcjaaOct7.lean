/-
  What was put as bytes is read again. · Numbers put as bytes: the reference's Eight and Put. · An acknowledgment put as bytes: the reference's putRow and PutAck.
-/
import Derived.Test.YtkedfipeebjcjaaOctP
import Derived.Test.YtkedfipeebjcjaaOct1
import Derived.Test.YtkedfipeebjcjaaAck
import Derived.Test.YtkedfipeebjcjaaSeq
namespace Go.Proofs.Ytkedfipeebjcjaa
set_option linter.unusedSimpArgs false
set_option linter.unusedVariables false
set_option linter.unnecessarySimpa false
open Go.RowKit

theorem pow256 (k : Nat) : (2 : Int) ^ (8 * k) = 256 ^ k := by
  rw [Int.pow_mul]; rfl
theorem mod_mul (n P : Int) (hp : 0 < P) : n % (P * 256) = n % P + P * (n / P % 256) := by
  have h1 := Int.mul_ediv_add_emod n P
  have h2 := Int.mul_ediv_add_emod (n / P) 256
  have h3 := Int.emod_nonneg n (show P ≠ 0 by omega)
  have h4 := Int.emod_lt_of_pos n hp
  have h5 := Int.emod_nonneg (n / P) (show (256 : Int) ≠ 0 by decide)
  have h6 := Int.emod_lt_of_pos (n / P) (show (0 : Int) < 256 by decide)
  generalize hq : n / P = q at *
  have e : n = (n % P + P * (q % 256)) + (P * 256) * (q / 256) := by
    have : P * q = P * (256 * (q / 256)) + P * (q % 256) := by rw [← Int.mul_add, h2]
    rw [Int.mul_assoc]
    omega
  have h7 : P * (q % 256) ≤ P * 255 := Int.mul_le_mul_of_nonneg_left (by omega) (by omega)
  have h8 : 0 ≤ P * (q % 256) := Int.mul_nonneg (by omega) h5
  have h9 : (n % P + P * (q % 256)) % (P * 256) = n % P + P * (q % 256) := Int.emod_eq_of_lt (by omega) (by omega)
  rw [← h9]
  conv => lhs; rw [e]
  rw [Int.add_mul_emod_self_left]
theorem bytesN_succ (k : Nat) (n : Int) : bytesN (k + 1) n = byteN n k :: bytesN k n := by
  unfold bytesN
  rw [List.range_succ_eq_map, List.map_cons, List.map_map]
  simp only [Nat.add_sub_cancel, Nat.sub_zero]
  congr 1
  apply List.map_congr_left
  intro j hj
  have := List.mem_range.1 hj
  simp only [Function.comp]
  congr 1
  omega
theorem accN_bytes (k : Nat) (n : Int) : ∀ a, accN a (bytesN k n) = a * 256 ^ k + n % 256 ^ k := by
  induction k with
  | zero => intro a; simp [bytesN]
  | succ k ih =>
    intro a
    rw [bytesN_succ, accN_cons, ih]
    unfold byteN
    rw [pow256]
    have e : (256 : Int) ^ (k + 1) = 256 ^ k * 256 := Int.pow_succ ..
    rw [e]
    have hp : (0 : Int) < 256 ^ k := Int.pow_pos (by decide)
    generalize (256 : Int) ^ k = P at *
    have h1 : n % (P * 256) = n % P + P * (n / P % 256) := mod_mul n P hp
    rw [h1]
    have h2 : (a * 256 + n / P % 256) * P = a * (P * 256) + P * (n / P % 256) := by
      rw [Int.add_mul, Int.mul_assoc, Int.mul_comm 256 P, Int.mul_comm (n / P % 256) P]
    rw [h2]
    omega
theorem bytesN_u8 (k : Nat) (n : Int) : ∀ x ∈ bytesN k n, 0 ≤ x ∧ x ≤ 255 := by
  intro x hx
  obtain ⟨j, -, rfl⟩ := List.mem_map.1 hx
  exact byteN_rng n _
theorem size_pow (n : Int) (h0 : 0 ≤ n) (h1 : n ≤ 4611686018427387903) : n < 256 ^ sizeN n ∧ 1 ≤ sizeN n := by
  rcases sizeN_cases n with ⟨e, h⟩ | ⟨e, h, h'⟩ | ⟨e, h, h'⟩ | ⟨e, h, h'⟩ | ⟨e, h⟩ <;> rw [e]
  · exact ⟨by show n < 256; omega, by omega⟩
  · exact ⟨by show n < 65536; omega, by omega⟩
  · exact ⟨by show n < 4294967296; omega, by omega⟩
  · exact ⟨by show n < 18446744073709551616; omega, by omega⟩
  · omega
theorem putN_len (n : Int) (h0 : 0 ≤ n) (h1 : n ≤ 4611686018427387903) : (putN n).length = sizeN n := by
  have h := size_pow n h0 h1
  unfold putN
  obtain ⟨k, hk⟩ : ∃ k, sizeN n = k + 1 := ⟨sizeN n - 1, by omega⟩
  rw [hk, bytesN_succ]
  simp
theorem putN_u8 (n : Int) (h0 : 0 ≤ n) (h1 : n ≤ 4611686018427387903) : ∀ x ∈ putN n, 0 ≤ x ∧ x ≤ 255 := by
  have h := size_pow n h0 h1
  have ht := top_lt n h0 (sizeN n) rfl h.2
  intro x hx
  unfold putN at hx
  obtain ⟨k, hk⟩ : ∃ k, sizeN n = k + 1 := ⟨sizeN n - 1, by omega⟩
  rw [hk] at hx ht
  rw [bytesN_succ] at hx
  simp only [List.mem_cons, Nat.add_sub_cancel] at hx ht
  rcases hx with rfl | hx
  · unfold codeN
    split
    · omega
    · split
      · omega
      · split <;> omega
  · exact bytesN_u8 k n x hx
theorem numP_putN (n : Int) (r : List Int) (h0 : 0 ≤ n) (h1 : n ≤ 4611686018427387903) : numP (putN n ++ r) = .ok (n, sizeN n) := by
  have h := size_pow n h0 h1
  have ht := top_lt n h0 (sizeN n) rfl h.2
  have hc := sizeN_cases n
  unfold putN
  obtain ⟨k, hk⟩ : ∃ k, sizeN n = k + 1 := ⟨sizeN n - 1, by omega⟩
  have ha := accN_bytes (k + 1) n 0
  rw [bytesN_succ, accN_cons] at ha
  rw [hk] at h ht
  simp only [Nat.add_sub_cancel] at ht
  rw [hk, bytesN_succ]
  simp only [List.cons_append]
  have hkn : kN (byteN n k + codeN (k + 1)) = k + 1 := by
    rw [hk] at hc
    unfold kN codeN
    rcases hc with ⟨e, -⟩ | ⟨e, -⟩ | ⟨e, -⟩ | ⟨e, -⟩ | ⟨e, -⟩
    · obtain rfl : k = 0 := by omega
      simp only [Nat.zero_add, if_pos (show byteN n 0 + 0 < 64 by omega), show ¬ (1 = 2) by omega, show ¬ (1 = 4) by omega, show ¬ (1 = 8) by omega, if_false]
    · obtain rfl : k = 1 := by omega
      rw [if_neg (by simp; omega), if_pos (by simp; omega)]
    · obtain rfl : k = 3 := by omega
      rw [if_neg (by simp; omega), if_neg (by simp; omega), if_pos (by simp; omega)]
    · obtain rfl : k = 7 := by omega
      rw [if_neg (by simp; omega), if_neg (by simp; omega), if_neg (by simp; omega)]
    · omega
  have hm : (byteN n k + codeN (k + 1)) % 64 = byteN n k := by
    have : codeN (k + 1) % 64 = 0 := by
      unfold codeN
      split
      · rfl
      · split
        · rfl
        · split <;> rfl
    omega
  unfold numP
  simp only
  rw [hkn, if_neg (by simp), hm]
  have ht2 : ((bytesN k n ++ r).take (k + 1 - 1)) = bytesN k n := by
    rw [Nat.add_sub_cancel, List.take_append_of_le_length (by simp), List.take_of_length_le (by simp)]
  rw [ht2]
  have hv : accN (byteN n k) (bytesN k n) = n := by
    have e2 : (0 : Int) * 256 + byteN n k = byteN n k := by omega
    rw [e2] at ha
    rw [ha, Int.emod_eq_of_lt h0 h.1]
    omega
  rw [hv, hk]
  simp
theorem wordP_eight (w : Int) (r : List Int) (h : isU64 w) : wordP (eightN w ++ r) = .ok w := by
  unfold wordP eightN
  rw [if_neg (by simp), List.take_append_of_le_length (by simp), List.take_of_length_le (by simp), accN_bytes]
  have e : (256 : Int) ^ 8 = 18446744073709551616 := rfl
  rw [e, Int.emod_eq_of_lt h.1 h.2]
  simp

def rowGo : Int → List Sp → List Int
  | _, [] => []
  | low, s :: l => putN (s.1 - low) ++ (putN (s.2 - s.1) ++ rowGo (s.2 + 2) l)
def rowBytes (l : List Sp) : List Int := (l.length : Int) :: rowGo 0 l
def putAckP (a : AckD) : List Int := 2 :: (rowBytes a.sp ++ (rowBytes a.mm ++ (eightN a.tr ++ (eightN a.xo ++ [if a.od then 1 else 0]))))
theorem rowGo_read : ∀ (l : List Sp) (low : Int) (r : List Int) (acc : List Sp), 0 ≤ low → Gd l → (∀ s ∈ l, low ≤ s.1) → spansGo l.length low (rowGo low l ++ r) acc = .ok (acc ++ l, r) := by
  intro l
  induction l with
  | nil => intro low r acc _ _ _; simp [rowGo, spansGo]
  | cons s l ih =>
    intro low r acc h0 hg hl
    have hs := hg.1 s (List.mem_cons_self ..)
    have hlo := hl s (List.mem_cons_self ..)
    have hs2 : s.2 ≤ 4611686018427387903 := hs.2
    have hs1 := hs.1
    simp only [rowGo, List.length_cons, List.append_assoc]
    unfold spansGo
    rw [numP_putN (s.1 - low) _ (by omega) (by omega)]
    simp only
    rw [if_neg (by omega)]
    have hd : (putN (s.1 - low) ++ (putN (s.2 - s.1) ++ (rowGo (s.2 + 2) l ++ r))).drop (sizeN (s.1 - low)) = putN (s.2 - s.1) ++ (rowGo (s.2 + 2) l ++ r) := by
      rw [← putN_len (s.1 - low) (by omega) (by omega), List.drop_left]
    rw [hd, numP_putN (s.2 - s.1) _ (by omega) (by omega)]
    simp only
    rw [if_neg (by omega)]
    have hd2 : (putN (s.2 - s.1) ++ (rowGo (s.2 + 2) l ++ r)).drop (sizeN (s.2 - s.1)) = rowGo (s.2 + 2) l ++ r := by
      rw [← putN_len (s.2 - s.1) (by omega) (by omega), List.drop_left]
    rw [hd2]
    have e1 : low + (s.1 - low) = s.1 := by omega
    have e2 : s.1 + (s.2 - s.1) = s.2 := by omega
    rw [e1, e2, ih (s.2 + 2) r _ (by omega) hg.tail (fun x hx => by
      have := (List.pairwise_cons.1 hg.2).1 x hx
      omega)]
    simp
theorem spansP_row (l : List Sp) (r : List Int) (least : Int) (hg : Gd l) (h0 : ∀ s ∈ l, 0 ≤ s.1) (h1 : least ≤ l.length) (h2 : l.length ≤ 32) : spansP least (rowBytes l ++ r) = .ok (l, r) := by
  unfold spansP rowBytes
  simp only [List.cons_append]
  rw [if_neg (by omega), Int.toNat_natCast, rowGo_read l 0 r [] (Int.le_refl _) hg h0]
  rfl
theorem ackP_put (a : AckD) (h1 : Gd a.sp) (h2 : Gd a.mm) (p1 : ∀ s ∈ a.sp, 0 ≤ s.1) (p2 : ∀ s ∈ a.mm, 0 ≤ s.1) (l1 : 1 ≤ a.sp.length) (l2 : a.sp.length ≤ 32) (l3 : a.mm.length ≤ 32) (hi : insideB a.mm a.sp = true) (ht : isU64 a.tr) (hx : isU64 a.xo) : ackP (putAckP a) = .ok a := by
  unfold ackP putAckP
  simp only
  rw [if_neg (by decide), spansP_row a.sp _ 1 h1 p1 (by omega) l2]
  simp only
  rw [spansP_row a.mm _ 0 h2 p2 (by omega) l3]
  simp only
  unfold ackTail
  rw [wordP_eight a.tr _ ht]
  simp only
  have d1 : (eightN a.tr ++ (eightN a.xo ++ [if a.od then (1 : Int) else 0])).drop 8 = eightN a.xo ++ [if a.od then (1 : Int) else 0] := by
    rw [show (8 : Nat) = (eightN a.tr).length by simp [eightN], List.drop_left]
  rw [d1, wordP_eight a.xo _ hx]
  simp only
  have d2 : (eightN a.xo ++ [if a.od then (1 : Int) else 0]).drop 8 = [if a.od then (1 : Int) else 0] := by
    rw [show (8 : Nat) = (eightN a.xo).length by simp [eightN], List.drop_left]
  rw [d2]
  simp only
  rw [if_neg (by split <;> omega), if_neg (by simp), if_neg (by rw [hi]; simp)]
  cases a with
  | mk sp mm tr xo od => cases od <;> simp
end Go.Proofs.Ytkedfipeebjcjaa

namespace Go.Proofs.Ytkedfipeebjcjaa
set_option linter.unusedSimpArgs false
set_option linter.unusedVariables false
set_option linter.unnecessarySimpa false
open Go.RowKit

theorem eightN_get (x : Int) {j : Nat} (h : j < 8) : (eightN x)[j]? = some (byteN x (7 - j)) := by
  unfold eightN bytesN
  rw [List.getElem?_map, List.getElem?_range h]
  rfl
theorem take_snoc8 {α : Type} {l : List α} {j : Nat} {x : α} (h : l[j]? = some x) : l.take (j + 1) = l.take j ++ [x] := by
  rw [List.take_add_one, h]; rfl
theorem byteN_and (x : Int) (k : Nat) (hx : isU64 x) : bits .and .u64 (x / 2 ^ (8 * k)) 255 = byteN x k ∧ IntKind.u8.wrap (byteN x k) = byteN x k := by
  obtain ⟨h0, h1⟩ := hx
  have h2 : 0 ≤ x / 2 ^ (8 * k) := Int.ediv_nonneg h0 (Int.le_of_lt (Int.pow_pos (by decide)))
  have h3 : x / 2 ^ (8 * k) ≤ x := Int.ediv_le_self _ h0
  have h4 := byteN_rng x k
  refine ⟨and255 _ ⟨h2, by omega⟩, IntWalk.u8_in _ (by omega)⟩

set_option maxHeartbeats 1000000 in
set_option maxRecDepth 100000 in
theorem ref_eight (w : World) (base : Nat) (v : Value) (l : List Int) (x : Int) (h : w.ownsRow base 5 1 v l.length (U8 l)) (hb : base ≤ w.heap.size) (hl : l.length ≤ 1000000) (hx : isU64 x) :
    Calls Try.prog 37 #[v, .int .u64 x] w fun e w' => ∃ v', e = .returned v' ∧ w'.ownsRow base 5 1 v' (l ++ eightN x).length (U8 (l ++ eightN x)) ∧ Below base w w' := by
  obtain ⟨i0, hi0, hz0, hz1, hz2⟩ := info_parts infoByte
  have B0 : Hid (Below base w w) := Lib.hid (Below.refl _ _)
  have O0 : Hid (w.ownsRow base 5 1 v (l ++ (eightN x).take 0).length (U8 (l ++ (eightN x).take 0))) := Lib.hid (by simpa using h)
  have HX := Lib.hid hx
  clear h hx
  go_enter Try.func37, Try.ntmps37
  go_wp2_with fail
  go_loopw [0, 5] (fun a i wr => ∃ j : Nat, j ≤ 8 ∧ i = .int .i64 (7 - (j : Int)) ∧ base ≤ wr.heap.size ∧ Hid (Below base w wr) ∧ Hid (wr.ownsRow base 5 1 a (l ++ (eightN x).take j).length (U8 (l ++ (eightN x).take j)))) (fun _ i _ => (intOf i + 1).toNat)
  case atStart => exact ⟨0, by omega, by simp, hb, B0, O0⟩
  case round =>
    obtain ⟨j, hj, rfl, hgs, B, O⟩ := hrel
    by_cases hlt : j < 8
    · obtain ⟨m, hm⟩ : ∃ m : Nat, m = 7 - j := ⟨_, rfl⟩
      have hmi : (7 : Int) - (j : Int) = m := by omega
      rw [hmi]
      obtain ⟨hand, hwr⟩ := byteN_and x m HX.out
      have hts : (eightN x).take (j + 1) = (eightN x).take j ++ [byteN x m] := take_snoc8 (by rw [eightN_get x hlt, hm])
      have hlen : (l ++ (eightN x).take j).length = l.length + j := by simp [eightN]; omega
      have HT := Lib.hid hts
      clear hts
      have ht8 : (8 * (m : Int)).toNat = 8 * m := by omega
      have w8 : IntKind.u64.wrap (8 * (m : Int)) = 8 * (m : Int) := IntWalk.u64_in _ (by omega)
      have hm7 : m ≤ 7 := by omega
      have x0 := HX.out.1
      have x1 := HX.out.2
      generalize hy : byteN x m = y at *
      clear hm
      go_wp2_with (
        at_builtin
        refine wpList_app1 _ rfl (.tmp 10) (.tmp 18) 22 rfl (base) 5 i0 (.int .u8 0) 1 1 Try.underlying22 hi0 hz0 hz1 hz2 rfl (by decide) u0 ((l ++ (eightN x).take j).length) (U8 (l ++ (eightN x).take j)) rfl O.out #[.int .u8 y] _ rfl (by simp) rfl (by simp [Value.oneCell']) (by unfold maxLen; omega) (by omega) (by have := hgs; simp; omega) ?_
        intro v4 w4 ho4 hg4 hk4
        have B4 : Hid (Below base w w4) := Lib.hid (B.out.grown hg4 hgs (fun g hg => (O.out.lt g hg).1))
        have O4 : Hid (w4.ownsRow base 5 1 v4 (l ++ (eightN x).take (j + 1)).length (U8 (l ++ (eightN x).take (j + 1)))) := Lib.hid (by rw [HT.out, ← List.append_assoc, U8_append, List.length_append]; exact ho4)
        have hgs4 : base ≤ w4.heap.size := Nat.le_trans hgs hg4.size
        clear ho4 hg4 hk4)
      go_roundw
      case rel => exact ⟨j + 1, by omega, by go_num, hgs4, B4, O4⟩
      case measure => simp [intOf] <;> omega
    · obtain rfl : j = 8 := by omega
      have hall : (eightN x).take 8 = eightN x := List.take_of_length_le (by simp [eightN])
      have O9 := O.out
      rw [hall] at O9
      have O9 := Lib.hid O9
      go_wp2
      go_ret
      exact ⟨_, rfl, O9.out, B.out⟩

theorem codeN_pow {k c : Nat} (h : 2 ^ c = k) (hc : c ≤ 3) : codeN k = (c : Int) * 64 := by
  have : c = 0 ∨ c = 1 ∨ c = 2 ∨ c = 3 := by omega
  rcases this with rfl | rfl | rfl | rfl <;> subst h <;> rfl
theorem putN_get0 {n : Int} {k : Nat} (hk : sizeN n = k) (h1 : 1 ≤ k) : (putN n)[0]? = some (byteN n (k - 1) + codeN k) := by
  unfold putN
  rw [hk]
  obtain ⟨k', rfl⟩ : ∃ k', k = k' + 1 := ⟨k - 1, by omega⟩
  rw [bytesN_succ]
  simp
theorem putN_get {n : Int} {k j : Nat} (hk : sizeN n = k) (h1 : j + 1 < k) : (putN n)[j + 1]? = some (byteN n (k - 1 - (j + 1))) := by
  unfold putN
  rw [hk]
  obtain ⟨k', rfl⟩ : ∃ k', k = k' + 1 := ⟨k - 1, by omega⟩
  rw [bytesN_succ]
  simp only [List.getElem?_cons_succ]
  unfold bytesN
  rw [List.getElem?_map, List.getElem?_range (by omega)]
  simp only [Option.map_some]
  congr 2
  omega

set_option maxHeartbeats 2000000 in
set_option maxRecDepth 100000 in
theorem ref_put (w : World) (base : Nat) (v : Value) (l : List Int) (n : Int) (h : w.ownsRow base 5 1 v l.length (U8 l)) (hb : base ≤ w.heap.size) (hl : l.length ≤ 1000000) (h0 : 0 ≤ n) (h1 : n ≤ 4611686018427387903) :
    Calls Try.prog 36 #[v, .int .u64 n] w fun e w' => ∃ v', e = .returned v' ∧ w'.ownsRow base 5 1 v' (l ++ putN n).length (U8 (l ++ putN n)) ∧ Below base w w' := by
  obtain ⟨i0, hi0, hz0, hz1, hz2⟩ := info_parts infoByte
  have B0 : Hid (Below base w w) := Lib.hid (Below.refl _ _)
  have O0 : Hid (w.ownsRow base 5 1 v (l ++ (putN n).take 0).length (U8 (l ++ (putN n).take 0))) := Lib.hid (by simpa using h)
  have hn : isU64 n := ⟨h0, by omega⟩
  have C0 := Lib.hid (refSize_any n w hn)
  have hlen := putN_len n h0 h1
  have htop := top_lt n h0 (sizeN n) rfl (size_pow n h0 h1).2
  obtain ⟨k, hk⟩ : ∃ k, k = sizeN n := ⟨_, rfl⟩
  have hk' : k = 1 ∨ k = 2 ∨ k = 4 ∨ k = 8 := by have := sizeN_cases n; omega
  rw [← hk] at hlen htop C0
  have HK := Lib.hid hk
  have HL := Lib.hid hlen
  have HP := Lib.hid htop
  clear h hk hlen htop
  go_enter Try.func36, Try.ntmps36
  go_wp2_with fail
  refine C0.out.mono ?_
  rintro e w1 ⟨rfl, rfl⟩
  clear C0
  go_wp2_with fail
  go_loop [6, 7] (fun cv iv => ∃ c i : Nat, cv = .int .i64 c ∧ iv = .int .i64 i ∧ c ≤ 3 ∧ i * 2 ^ c = k ∧ (i = 1 ∨ i = 2 ∨ i = 4 ∨ i = 8)) (fun _ iv => (intOf iv).toNat)
  case atStart => exact ⟨0, k, rfl, rfl, by omega, by simp, hk'⟩
  case round =>
    obtain ⟨c, i, rfl, rfl, hc3, hik, hi⟩ := hrel
    by_cases hi1 : i = 1
    · subst hi1
      have hck : 2 ^ c = k := by omega
      have hcode := codeN_pow hck hc3
      have HC := Lib.hid hcode
      have w64 : IntKind.i64.wrap ((c : Int) * 64) = (c : Int) * 64 := IntWalk.i64_in _ (by omega)
      have w8c : IntKind.u8.wrap ((c : Int) * 64) = (c : Int) * 64 := IntWalk.u8_in _ (by omega)
      clear hi hik hcode
      have hk8 : k ≤ 8 ∧ 1 ≤ k := by omega
      go_wp2_with fail
      go_loopw [0, 8] (fun a i wr => ∃ j : Nat, j ≤ k ∧ i = .int .i64 ((k : Int) - 1 - (j : Int)) ∧ base ≤ wr.heap.size ∧ Hid (Below base w wr) ∧ Hid (wr.ownsRow base 5 1 a (l ++ (putN n).take j).length (U8 (l ++ (putN n).take j)))) (fun _ i _ => (intOf i + 1).toNat)
      case atStart => exact ⟨0, by omega, by simp, hb, B0, O0⟩
      case round =>
        obtain ⟨j, hj, rfl, hgs, B, O⟩ := hrel
        by_cases hlt : j < k
        · obtain ⟨m, hm⟩ : ∃ m : Nat, m = k - 1 - j := ⟨_, rfl⟩
          have hmi : (k : Int) - 1 - (j : Int) = m := by omega
          rw [hmi]
          obtain ⟨hand, hwr⟩ := byteN_and n m hn
          have hlen : (l ++ (putN n).take j).length = l.length + j := by have := HL.out; simp; omega
          have ht8 : (8 * (m : Int)).toNat = 8 * m := by omega
          have w8 : IntKind.u64.wrap (8 * (m : Int)) = 8 * (m : Int) := IntWalk.u64_in _ (by omega)
          have hm7 : m ≤ 7 := by omega
          have hr := byteN_rng n m
          by_cases hj0 : j = 0
          · subst hj0
            have hmk : (m : Int) = (k : Int) - 1 := by omega
            have hme : decide ((m : Int) = (k : Int) - 1) = true := decide_eq_true hmk
            have hme2 : ((m : Int) == (k : Int) - 1) = true := beq_iff_eq.2 hmk
            clear hmk
            have htp : byteN n m < 64 := by have := HP.out.2; rw [hm]; exact this
            have hor := or_code (byteN n m) c hc3 hr.1 htp
            have HT : Hid ((putN n).take (0 + 1) = (putN n).take 0 ++ [byteN n m + (c : Int) * 64]) := Lib.hid (take_snoc8 (by rw [putN_get0 HK.out.symm (by omega), HC.out, hm]; rfl))
            generalize hy : byteN n m = y at *
            clear hm
            go_wp2_with (
              at_builtin
              refine wpList_app1 _ rfl (.tmp 41) (.tmp 43) 22 rfl (base) 5 i0 (.int .u8 0) 1 1 Try.underlying22 hi0 hz0 hz1 hz2 rfl (by decide) u0 ((l ++ (putN n).take 0).length) (U8 (l ++ (putN n).take 0)) rfl O.out #[.int .u8 (y + (c : Int) * 64)] _ rfl (by simp) rfl (by simp [Value.oneCell']) (by unfold maxLen; omega) (by omega) (by have := hgs; simp; omega) ?_
              intro v4 w4 ho4 hg4 hk4
              have B4 : Hid (Below base w w4) := Lib.hid (B.out.grown hg4 hgs (fun g hg => (O.out.lt g hg).1))
              have O4 : Hid (w4.ownsRow base 5 1 v4 (l ++ (putN n).take (0 + 1)).length (U8 (l ++ (putN n).take (0 + 1)))) := Lib.hid (by rw [HT.out, ← List.append_assoc, U8_append, List.length_append]; exact ho4)
              have hgs4 : base ≤ w4.heap.size := Nat.le_trans hgs hg4.size
              clear ho4 hg4 hk4)
            go_roundw
            case rel => exact ⟨1, by omega, by go_num, hgs4, B4, O4⟩
            case measure => simp [intOf] <;> omega
          · have hmk : ¬ (m : Int) = (k : Int) - 1 := by omega
            have hme : decide ((m : Int) = (k : Int) - 1) = false := decide_eq_false hmk
            have hme2 : ((m : Int) == (k : Int) - 1) = false := beq_eq_false_iff_ne.2 hmk
            clear hmk
            have HT : Hid ((putN n).take (j + 1) = (putN n).take j ++ [byteN n m]) := Lib.hid (take_snoc8 (by
              obtain ⟨j', rfl⟩ : ∃ j', j = j' + 1 := ⟨j - 1, by omega⟩
              rw [putN_get HK.out.symm (by omega), hm]))
            generalize hy : byteN n m = y at *
            clear hm
            go_wp2_with (
              at_builtin
              refine wpList_app1 _ rfl (.tmp 41) (.tmp 43) 22 rfl (base) 5 i0 (.int .u8 0) 1 1 Try.underlying22 hi0 hz0 hz1 hz2 rfl (by decide) u0 ((l ++ (putN n).take j).length) (U8 (l ++ (putN n).take j)) rfl O.out #[.int .u8 y] _ rfl (by simp) rfl (by simp [Value.oneCell']) (by unfold maxLen; omega) (by omega) (by have := hgs; simp; omega) ?_
              intro v4 w4 ho4 hg4 hk4
              have B4 : Hid (Below base w w4) := Lib.hid (B.out.grown hg4 hgs (fun g hg => (O.out.lt g hg).1))
              have O4 : Hid (w4.ownsRow base 5 1 v4 (l ++ (putN n).take (j + 1)).length (U8 (l ++ (putN n).take (j + 1)))) := Lib.hid (by rw [HT.out, ← List.append_assoc, U8_append, List.length_append]; exact ho4)
              have hgs4 : base ≤ w4.heap.size := Nat.le_trans hgs hg4.size
              clear ho4 hg4 hk4)
            go_roundw
            case rel => exact ⟨j + 1, by omega, by go_num, hgs4, B4, O4⟩
            case measure => simp [intOf] <;> omega
        · obtain rfl : j = k := by omega
          have hall : (putN n).take j = putN n := List.take_of_length_le (by have := HL.out; omega)
          have O9 := O.out
          rw [hall] at O9
          have O9 := Lib.hid O9
          go_wp2
          go_ret
          exact ⟨_, rfl, O9.out, B.out⟩
    · have h2 : ∃ i' : Nat, i = 2 * i' ∧ (i' = 1 ∨ i' = 2 ∨ i' = 4) ∧ c + 1 ≤ 3 := by
        have hcc : c = 0 ∨ c = 1 ∨ c = 2 ∨ c = 3 := by omega
        rcases hi with rfl | rfl | rfl | rfl
        · omega
        · exact ⟨1, by omega, by omega, by rcases hcc with rfl | rfl | rfl | rfl <;> simp at hik <;> omega⟩
        · exact ⟨2, by omega, by omega, by rcases hcc with rfl | rfl | rfl | rfl <;> simp at hik <;> omega⟩
        · exact ⟨4, by omega, by omega, by rcases hcc with rfl | rfl | rfl | rfl <;> simp at hik <;> omega⟩
      obtain ⟨i', rfl, hi', hc1⟩ := h2
      have hik' : i' * 2 ^ (c + 1) = k := by rw [Nat.pow_succ, Nat.mul_comm (2 ^ c) 2, ← Nat.mul_assoc, Nat.mul_comm i' 2]; exact hik
      have hq : ((2 * i' : Nat) : Int) / 2 = i' := by omega
      have hq2 : Int.tdiv ((2 * i' : Nat) : Int) 2 = i' := by rw [Int.tdiv_eq_ediv_of_nonneg (by omega)]; exact hq
      have hgt : decide ((1 : Int) < ((2 * i' : Nat) : Int)) = true := decide_eq_true (by omega)
      go_wp2
      go_round
      case rel => exact ⟨c + 1, i', by go_num, by go_num, hc1, hik', by omega⟩
      case measure => simp [intOf] <;> omega

end Go.Proofs.Ytkedfipeebjcjaa

namespace Go.Proofs.Ytkedfipeebjcjaa
set_option linter.unusedSimpArgs false
set_option linter.unusedVariables false
set_option linter.unnecessarySimpa false
open Go.RowKit

theorem chg_base {B : Nat} {w w' : World} (h : Below B w w') : Chg (fun k => B ≤ k) w w' := ⟨h.os, h.tape, h.output, h.size, fun k _ hn => h.block k (by omega)⟩
theorem rowGo_drop {l : List Sp} {j : Nat} (hj : j < l.length) (low : Int) : rowGo low (l.drop j) = putN (l[j].1 - low) ++ (putN (l[j].2 - l[j].1) ++ rowGo (l[j].2 + 2) (l.drop (j + 1))) := by
  rw [List.drop_eq_getElem_cons hj]; rfl
theorem gd_drop {l : List Sp} (h : Gd l) {j : Nat} (hj : j < l.length) : ∀ s ∈ l.drop (j + 1), l[j].2 + 2 ≤ s.1 := by
  intro s hs
  obtain ⟨i, hi, e⟩ := List.mem_drop_iff_getElem.1 hs
  have := List.pairwise_iff_getElem.1 h.2 j (j + 1 + i) hj (by omega) (by omega)
  rw [← e]
  omega
theorem putN_le (n : Int) (h0 : 0 ≤ n) (h1 : n ≤ 4611686018427387903) : (putN n).length ≤ 8 := by
  rw [putN_len n h0 h1]
  have := sizeN_cases n
  omega
theorem rowGo_le : ∀ (l : List Sp) (low : Int), 0 ≤ low → Gd l → (∀ s ∈ l, low ≤ s.1) → (rowGo low l).length ≤ 16 * l.length
  | [], _, _, _, _ => by simp [rowGo]
  | s :: l, low, h0, hg, hl => by
    have hs := hg.1 s (List.mem_cons_self ..)
    have h1 := hs.1
    have h2 : s.2 ≤ 4611686018427387903 := hs.2
    have h3 := hl s (List.mem_cons_self ..)
    have := rowGo_le l (s.2 + 2) (by omega) hg.tail (fun x hx => by
      have := (List.pairwise_cons.1 hg.2).1 x hx
      omega)
    have L1 := putN_le (s.1 - low) (by omega) (by omega)
    have L2 := putN_le (s.2 - s.1) (by omega) (by omega)
    simp only [rowGo, List.length_append, List.length_cons]
    omega
theorem rowBytes_le {l : List Sp} (hg : Gd l) (h0 : ∀ s ∈ l, 0 ≤ s.1) (hl : l.length ≤ 32) : (rowBytes l).length ≤ 600 := by
  have := rowGo_le l 0 (Int.le_refl _) hg h0
  simp only [rowBytes, List.length_cons]
  omega

set_option maxHeartbeats 2000000 in
set_option maxRecDepth 100000 in
theorem ref_putRow (w : World) (base : Nat) (v : Value) (l0 : List Int) (A : Option Addr) (c : Nat) (l : List Sp) (h : w.ownsRow base 5 1 v l0.length (U8 l0)) (hb : base ≤ w.heap.size) (hl0 : l0.length ≤ 900000)
    (hr : Rd w 2 A l.length c (Ss l)) (hA : ∀ b off, A = some ⟨b, off, none⟩ → 0 < l.length → b < base) (hg : Gd l) (h0 : ∀ s ∈ l, 0 ≤ s.1) (hl : l.length ≤ 32) :
    Calls Try.prog 89 #[v, .slice A l.length c] w fun e w' => ∃ v', e = .returned v' ∧ w'.ownsRow base 5 1 v' (l0 ++ rowBytes l).length (U8 (l0 ++ rowBytes l)) ∧ Below base w w' := by
  obtain ⟨i0, hi0, hz0, hz1, hz2⟩ := info_parts infoByte
  have O := Lib.hid h
  have HR := Lib.hid hr
  have HA := Lib.hid hA
  have HG := Lib.hid hg
  have H0 := Lib.hid h0
  have hgs : base ≤ w.heap.size := hb
  have w8 : IntKind.u8.wrap (l.length : Int) = (l.length : Int) := IntWalk.u8_in _ (by omega)
  clear h hr hA hg h0
  go_enter Try.func89, Try.ntmps89
  go_wp2_with (
    at_builtin
    refine wpList_app1 _ rfl (.tmp 7) (.tmp 11) 22 rfl (base) 5 i0 (.int .u8 0) 1 1 Try.underlying22 hi0 hz0 hz1 hz2 rfl (by decide) v (l0.length) (U8 l0) rfl O.out #[.int .u8 l.length] _ rfl (by simp) rfl (by simp [Value.oneCell']) (by unfold maxLen; omega) (by omega) (by have := hgs; simp; omega) ?_
    intro v4 w4 ho4 hg4 hk4
    have B4 : Hid (Below base w w4) := Lib.hid ((Below.refl base w).grown hg4 hgs (fun g hg => (O.out.lt g hg).1))
    have O4 : Hid (w4.ownsRow base 5 1 v4 (l0 ++ [(l.length : Int)]).length (U8 (l0 ++ [(l.length : Int)]))) := Lib.hid (by rw [U8_append, List.length_append]; exact ho4)
    have hgs4 : base ≤ w4.heap.size := Nat.le_trans hgs hg4.size
    clear ho4 hg4 hk4)
  go_loopw [0, 5, 6] (fun a lv iv wr => ∃ (j : Nat) (low : Int) (D : List Int), j ≤ l.length ∧ iv = .int .i64 j ∧ lv = .int .u64 low ∧ 0 ≤ low ∧ low ≤ 4611686018427387905 ∧ Hid (∀ s ∈ l.drop j, low ≤ s.1) ∧ Hid (D ++ rowGo low (l.drop j) = l0 ++ rowBytes l) ∧ D.length ≤ l0.length + 1 + 16 * j ∧ base ≤ wr.heap.size ∧ Hid (Below base w wr) ∧ Hid (wr.ownsRow base 5 1 a D.length (U8 D))) (fun _ _ i _ => l.length - (intOf i).toNat)
  case atStart => exact ⟨0, 0, l0 ++ [(l.length : Int)], by omega, by rfl, by rfl, by omega, by omega, Lib.hid (fun s hs => H0.out s (by simpa using hs)), Lib.hid (by simp [rowBytes]), by simp, hgs4, B4, O4⟩
  case round =>
    obtain ⟨j, low, D, hj, rfl, rfl, hlow, hlow2, hlo, hD, hDl, hgsr, B, O⟩ := hrel
    by_cases hlt : j < l.length
    · obtain ⟨bb, off, eA, d0, d1⟩ := HR.out.span hlt
      have hbb := HA.out bb off eA (by omega)
      subst eA
      have d0r := (chg_base B.out).cell d0 (by show ¬ base ≤ bb; omega)
      have d1r := (chg_base B.out).cell d1 (by show ¬ base ≤ bb; omega)
      have hs := HG.out.1 l[j] (List.getElem_mem hlt)
      have hs0 : 0 ≤ l[j].1 := H0.out _ (List.getElem_mem hlt)
      have hs1 : l[j].1 ≤ l[j].2 := hs.1
      have hs2 : l[j].2 ≤ 4611686018427387903 := hs.2
      have hs3 : low ≤ l[j].1 := hlo.out _ (by rw [List.drop_eq_getElem_cons hlt]; exact List.mem_cons_self ..)
      have HD' : Hid ((D ++ putN (l[j].1 - low)) ++ putN (l[j].2 - l[j].1) ++ rowGo (l[j].2 + 2) (l.drop (j + 1)) = l0 ++ rowBytes l) := Lib.hid (by rw [← hD.out, rowGo_drop hlt low]; simp)
      have HN := Lib.hid (gd_drop HG.out hlt)
      clear hs d0 d1 hlo hD
      generalize hx : l[j].1 = x at *
      generalize hy : l[j].2 = y at *
      clear hx hy
      have wx : IntKind.u64.wrap (x - low) = x - low := IntWalk.u64_in _ (by omega)
      have wy : IntKind.u64.wrap (y - x) = y - x := IntWalk.u64_in _ (by omega)
      have wz : IntKind.u64.wrap (y + 2) = y + 2 := IntWalk.u64_in _ (by omega)
      have L1 := putN_le (x - low) (by omega) (by omega)
      have L2 := putN_le (y - x) (by omega) (by omega)
      have C1 := Lib.hid (ref_put wr base u0 D (x - low) O.out hgsr (by omega) (by omega) (by omega))
      go_wp2_with fail
      refine C1.out.mono ?_
      rintro e w5 ⟨v5, rfl, ho5, hb5⟩
      have hgs5 : base ≤ w5.heap.size := Nat.le_trans hgsr hb5.size
      have B5 := Lib.hid (B.out.trans hb5)
      have d0s := (chg_base hb5).cell d0r (by show ¬ base ≤ bb; omega)
      have d1s := (chg_base hb5).cell d1r (by show ¬ base ≤ bb; omega)
      have C2 := Lib.hid (ref_put w5.drew base v5 (D ++ putN (x - low)) (y - x) ho5.drew (by simpa using hgs5) (by simp; omega) (by omega) (by omega))
      clear C1 B O ho5 hb5 d0r d1r
      go_wp2_with fail
      have M0 := mixF_cell (F := fun k => base ≤ k) d0s (by show ¬ base ≤ bb; omega)
      have M1 := mixF_cell (F := fun k => base ≤ k) d1s (by show ¬ base ≤ bb; omega)
      refine wp_region_chg (fun k => base ≤ k) (by kernel_rfl) (by kernel_rfl) ?_
      repeat (refine wpMix_seg 1 _ _ rfl ?_; simp only [List.take_succ_cons, List.take_zero, List.drop_succ_cons, List.drop_zero]; go_big_quiet_step (fail); refine wpQuiet_nil ?_)
      refine wpMix_bar rfl (by rfl) ?_
      go_wp2_with fail
      refine C2.out.mono ?_
      rintro e w6 ⟨v6, rfl, ho6, hb6⟩
      have hb6' : Below base w5 w6 := (Below.refl base w5).drew.trans hb6
      have hgs6 : base ≤ w6.heap.size := Nat.le_trans hgs5 hb6'.size
      have B6 := Lib.hid (B5.out.trans hb6')
      have d1t := (chg_base hb6').cell d1s (by show ¬ base ≤ bb; omega)
      have O6 := Lib.hid ho6
      go_wp2
      refine ⟨chg_mixF (chg_base hb6'), ?_⟩
      repeat (refine wpMix_seg 1 _ _ rfl ?_; simp only [List.take_succ_cons, List.take_zero, List.drop_succ_cons, List.drop_zero]; go_big_quiet_step (fail); refine wpQuiet_nil ?_)
      refine wpMix_nil ?_
      clear M0 M1 C2 d0s d1s ho6 hb6 hb6'
      go_wp2
      go_roundw
      case rel => exact ⟨j + 1, y + 2, _, by omega, by go_num, rfl, by omega, by omega, HN, HD', by simp; omega, hgs6, B6, O6⟩
      case measure => simp [intOf] <;> omega
    · obtain rfl : j = l.length := by omega
      have O9 : Hid (wr.ownsRow base 5 1 u0 (l0 ++ rowBytes l).length (U8 (l0 ++ rowBytes l))) := Lib.hid (by
        have := hD.out
        rw [List.drop_length] at this
        simp only [rowGo, List.append_nil] at this
        rw [← this]
        exact O.out)
      clear hD
      go_wp2
      go_ret
      exact ⟨_, rfl, O9.out, B.out⟩

set_option maxHeartbeats 2000000 in
set_option maxRecDepth 100000 in
theorem ref_putAck (w : World) (a : Ak) (h : AkR w a) (g1 : Gd a.sp) (g2 : Gd a.mm) (p1 : ∀ s ∈ a.sp, 0 ≤ s.1) (p2 : ∀ s ∈ a.mm, 0 ≤ s.1) (l1 : a.sp.length ≤ 32) (l2 : a.mm.length ≤ 32) :
    Calls Try.prog 74 #[a.val] w fun e w' => ∃ A c, e = .returned (.slice A (putAckP ⟨a.sp, a.mm, a.tr, a.xo, a.od⟩).length c) ∧ Rd w' 1 A (putAckP ⟨a.sp, a.mm, a.tr, a.xo, a.od⟩).length c (U8 (putAckP ⟨a.sp, a.mm, a.tr, a.xo, a.od⟩)) ∧ Below w.heap.size w w' ∧ (∀ b off, A = some ⟨b, off, none⟩ → w.heap.size ≤ b) := by
  obtain ⟨i0, hi0, hz0, hz1, hz2⟩ := info_parts infoByte
  have P0 := Lib.hid (AkBox.of h (Below.refl w.heap.size w))
  obtain ⟨A, c, B, d, sp, mk, tr, xo, od⟩ := a
  unfold Ak.val
  simp only [Ak.cells] at h P0 g1 g2 p1 p2 l1 l2 ⊢
  have H := Lib.hid h
  have G1 := Lib.hid g1
  have G2 := Lib.hid g2
  have Q1 := Lib.hid p1
  have Q2 := Lib.hid p2
  have hb1 : ∀ b off, A = some ⟨b, off, none⟩ → 0 < sp.length → b < w.heap.size := fun b off e hn => H.out.rs.lt (by omega) hn b off e
  have hb2 : ∀ b off, B = some ⟨b, off, none⟩ → 0 < mk.length → b < w.heap.size := fun b off e hn => H.out.rm.lt (by omega) hn b off e
  have HB1 := Lib.hid hb1
  have HB2 := Lib.hid hb2
  clear h g1 g2 p1 p2 hb1 hb2
  go_enter Try.func74, Try.ntmps74
  go_upto_region 1 with fail
  generalize hw : w.alloc (.cells #[.slice A sp.length c, .slice B mk.length d, .int .u64 tr, .int .u64 xo, .bool od] 48) = w1 at *
  have hs1 : w1.heap.size = w.heap.size + 1 := by rw [← hw]; simp
  clear hw
  have eb := box_below w1 (.cells #[.int .u8 2] 5)
  have O2 := Lib.hid (World.ownsRow_lit (base := w.heap.size + 1) (e := 5) (size := 1) w1 #[.int .u8 2] 1 (by omega) (by unfold maxLen; omega) (by simp))
  have P2 := Lib.hid (P0.out.below eb)
  have hw2 : (w1.alloc (.cells #[.int .u8 2] 5)).heap.size = w.heap.size + 2 := by simp; omega
  have R1 := Lib.hid (ref_putRow (w1.alloc (.cells #[.int .u8 2] 5)) (w.heap.size + 1) (.slice (some ⟨w1.heap.size, 0, none⟩) 1 1) [2] A c sp O2.out (by omega) (by simp) P2.out.r.rs (fun b off e hn => by have := HB1.out b off e hn; omega) G1.out Q1.out l1)
  have B2 : Hid (Below (w.heap.size + 1) w1 (w1.alloc (.cells #[.int .u8 2] 5))) := Lib.hid ((Below.refl _ _).alloc (by omega) _)
  have t1 := P0.out.t
  have hlt1 : w.heap.size < w1.heap.size := by omega
  have hne1 : w.heap.size ≠ w1.heap.size := by omega
  clear hs1
  have y0 := cell_of_row w1 w.heap.size 0 _ _ _ t1
  have fy0 := frozen_of_row w1 w.heap.size 0 _ _ t1
  have y1 := cell_of_row w1 w.heap.size 1 _ _ _ t1
  have fy1 := frozen_of_row w1 w.heap.size 1 _ _ t1
  have y2 := cell_of_row w1 w.heap.size 2 _ _ _ t1
  have fy2 := frozen_of_row w1 w.heap.size 2 _ _ t1
  have y3 := cell_of_row w1 w.heap.size 3 _ _ _ t1
  have fy3 := frozen_of_row w1 w.heap.size 3 _ _ t1
  have y4 := cell_of_row w1 w.heap.size 4 _ _ _ t1
  have fy4 := frozen_of_row w1 w.heap.size 4 _ _ t1
  have y5 : (w1.alloc (.cells #[.int .u8 2] 5)).cell? ⟨w.heap.size, 0, none⟩ = some (.slice A sp.length c) := cell_of_row _ w.heap.size 0 _ _ _ P2.out.t
  clear eb t1
  go_wp2_with fail
  refine R1.out.mono ?_
  rintro e w3 ⟨v3, rfl, ho3, hb3⟩
  have B3 := Lib.hid (B2.out.trans hb3)
  have O3 := Lib.hid ho3
  have hs1 : w.heap.size + 1 ≤ w1.heap.size := hlt1
  have hs3 : w.heap.size + 1 ≤ w3.heap.size := Nat.le_trans (by omega) B3.out.size
  have T3 : Hid (w3.heap[w.heap.size]? = some (.cells #[.slice A sp.length c, .slice B mk.length d, .int .u64 tr, .int .u64 xo, .bool od] 48 (0, 0))) := Lib.hid ((B3.out.block _ (by omega)).trans P0.out.t)
  have M3 : Hid (Rd w3 2 B mk.length d (Ss mk)) := Lib.hid (P0.out.r.rm.chg (chg_base B3.out) (fun b off e hn => by have := HB2.out b off e hn; omega))
  have t3 := T3.out
  clear ho3 hb3 R1 B2 O2 P2 hw2 y0 y1 y2 y3 y4 fy0 fy1 fy2 fy3 fy4
  have y0 := cell_of_row w3 w.heap.size 0 _ _ _ t3
  have fy0 := frozen_of_row w3 w.heap.size 0 _ _ t3
  have y1 := cell_of_row w3 w.heap.size 1 _ _ _ t3
  have fy1 := frozen_of_row w3 w.heap.size 1 _ _ t3
  have y2 := cell_of_row w3 w.heap.size 2 _ _ _ t3
  have fy2 := frozen_of_row w3 w.heap.size 2 _ _ t3
  have y3 := cell_of_row w3 w.heap.size 3 _ _ _ t3
  have fy3 := frozen_of_row w3 w.heap.size 3 _ _ t3
  have y4 := cell_of_row w3 w.heap.size 4 _ _ _ t3
  have fy4 := frozen_of_row w3 w.heap.size 4 _ _ t3
  have hln3 : ([2] ++ rowBytes sp).length ≤ 900000 := by
    have hle : (rowBytes sp).length ≤ 600 := rowBytes_le G1.out Q1.out l1
    simp; omega
  have R2 := Lib.hid (ref_putRow w3 (w.heap.size + 1) v3 ([2] ++ rowBytes sp) B d mk O3.out hs3 hln3 M3.out (fun b off e hn => by have := HB2.out b off e hn; omega) G2.out Q2.out l2)
  clear t3 hln3
  go_wp2_with fail
  refine R2.out.mono ?_
  rintro e w4 ⟨v4, rfl, ho4, hb4⟩
  have B4 := Lib.hid (B3.out.trans hb4)
  have O4 := Lib.hid ho4
  have hs4 : w.heap.size + 1 ≤ w4.heap.size := Nat.le_trans (by omega) B4.out.size
  have t4 : w4.heap[w.heap.size]? = some (.cells #[.slice A sp.length c, .slice B mk.length d, .int .u64 tr, .int .u64 xo, .bool od] 48 (0, 0)) := (B4.out.block _ (by omega)).trans P0.out.t
  clear ho4 hb4 R2 O3 T3 M3 y0 y1 y2 y3 y4 fy0 fy1 fy2 fy3 fy4
  have y0 := cell_of_row w4 w.heap.size 0 _ _ _ t4
  have fy0 := frozen_of_row w4 w.heap.size 0 _ _ t4
  have y1 := cell_of_row w4 w.heap.size 1 _ _ _ t4
  have fy1 := frozen_of_row w4 w.heap.size 1 _ _ t4
  have y2 := cell_of_row w4 w.heap.size 2 _ _ _ t4
  have fy2 := frozen_of_row w4 w.heap.size 2 _ _ t4
  have y3 := cell_of_row w4 w.heap.size 3 _ _ _ t4
  have fy3 := frozen_of_row w4 w.heap.size 3 _ _ t4
  have y4 := cell_of_row w4 w.heap.size 4 _ _ _ t4
  have fy4 := frozen_of_row w4 w.heap.size 4 _ _ t4
  have L4 : Hid (([2] ++ rowBytes sp ++ rowBytes mk).length ≤ 900000) := Lib.hid (by
    have h1 : (rowBytes sp).length ≤ 600 := rowBytes_le G1.out Q1.out l1
    have h2 : (rowBytes mk).length ≤ 600 := rowBytes_le G2.out Q2.out l2
    simp; omega)
  generalize hD : [2] ++ rowBytes sp ++ rowBytes mk = D at *
  have HD := Lib.hid hD
  clear hD t4
  have E1 := Lib.hid (ref_eight w4 (w.heap.size + 1) v4 D tr O4.out hs4 (by have := L4.out; omega) H.out.ut)
  go_wp2_with fail
  refine E1.out.mono ?_
  rintro e w5 ⟨v5, rfl, ho5, hb5⟩
  have B5 := Lib.hid (B4.out.trans hb5)
  have O5 := Lib.hid ho5
  have hs5 : w.heap.size + 1 ≤ w5.heap.size := Nat.le_trans (by omega) B5.out.size
  have t5 : w5.heap[w.heap.size]? = some (.cells #[.slice A sp.length c, .slice B mk.length d, .int .u64 tr, .int .u64 xo, .bool od] 48 (0, 0)) := (B5.out.block _ (by omega)).trans P0.out.t
  clear ho5 hb5 E1 O4 y0 y1 y2 y3 y4 fy0 fy1 fy2 fy3 fy4
  have y0 := cell_of_row w5 w.heap.size 0 _ _ _ t5
  have fy0 := frozen_of_row w5 w.heap.size 0 _ _ t5
  have y1 := cell_of_row w5 w.heap.size 1 _ _ _ t5
  have fy1 := frozen_of_row w5 w.heap.size 1 _ _ t5
  have y2 := cell_of_row w5 w.heap.size 2 _ _ _ t5
  have fy2 := frozen_of_row w5 w.heap.size 2 _ _ t5
  have y3 := cell_of_row w5 w.heap.size 3 _ _ _ t5
  have fy3 := frozen_of_row w5 w.heap.size 3 _ _ t5
  have y4 := cell_of_row w5 w.heap.size 4 _ _ _ t5
  have fy4 := frozen_of_row w5 w.heap.size 4 _ _ t5
  clear t5
  have E2 := Lib.hid (ref_eight w5 (w.heap.size + 1) v5 (D ++ eightN tr) xo O5.out hs5 (by have := L4.out; simp [eightN]; omega) H.out.ux)
  go_wp2_with fail
  refine E2.out.mono ?_
  rintro e w6 ⟨v6, rfl, ho6, hb6⟩
  have B6 := Lib.hid (B5.out.trans hb6)
  have O6 := Lib.hid ho6
  have hgs : w.heap.size + 1 ≤ w6.heap.size := Nat.le_trans (by omega) B6.out.size
  have t6 : w6.heap[w.heap.size]? = some (.cells #[.slice A sp.length c, .slice B mk.length d, .int .u64 tr, .int .u64 xo, .bool od] 48 (0, 0)) := (B6.out.block _ (by omega)).trans P0.out.t
  clear ho6 hb6 E2 O5 y0 y1 y2 y3 y4 fy0 fy1 fy2 fy3 fy4
  have y0 := cell_of_row w6 w.heap.size 0 _ _ _ t6
  have fy0 := frozen_of_row w6 w.heap.size 0 _ _ t6
  have y1 := cell_of_row w6 w.heap.size 1 _ _ _ t6
  have fy1 := frozen_of_row w6 w.heap.size 1 _ _ t6
  have y2 := cell_of_row w6 w.heap.size 2 _ _ _ t6
  have fy2 := frozen_of_row w6 w.heap.size 2 _ _ t6
  have y3 := cell_of_row w6 w.heap.size 3 _ _ _ t6
  have fy3 := frozen_of_row w6 w.heap.size 3 _ _ t6
  have y4 := cell_of_row w6 w.heap.size 4 _ _ _ t6
  have fy4 := frozen_of_row w6 w.heap.size 4 _ _ t6
  clear t6
  have hln : (D ++ eightN tr ++ eightN xo).length ≤ 900016 := by have := L4.out; simp [eightN]; omega
  have HF : ∀ x : Int, Hid (D ++ eightN tr ++ eightN xo ++ [x] = 2 :: (rowBytes sp ++ (rowBytes mk ++ (eightN tr ++ (eightN xo ++ [x]))))) := fun x => Lib.hid (by rw [← HD.out]; simp)
  have BB : Hid (Below w.heap.size w w1) := Lib.hid P0.out.bel
  cases od
  · have HF0 := HF 0
    clear HF
    go_wp2_with (
      at_builtin
      refine wpList_app1 _ rfl (.tmp 25) (.tmp 26) 22 rfl (w.heap.size + 1) 5 i0 (.int .u8 0) 1 1 Try.underlying22 hi0 hz0 hz1 hz2 rfl (by decide) v6 ((D ++ eightN tr ++ eightN xo).length) (U8 (D ++ eightN tr ++ eightN xo)) rfl O6.out #[.int .u8 0] _ rfl (by simp) rfl (by simp [Value.oneCell']) (by unfold maxLen; omega) (by omega) (by have := hgs; simp; omega) ?_
      intro v7 w7 ho7 hg7 hk7
      have B7 : Hid (Below (w.heap.size + 1) w1 w7) := Lib.hid (B6.out.grown hg7 hgs (fun g hg => (O6.out.lt g hg).1))
      have O7 : Hid (w7.ownsRow (w.heap.size + 1) 5 1 v7 (D ++ eightN tr ++ eightN xo ++ [0]).length (U8 (D ++ eightN tr ++ eightN xo ++ [0]))) := Lib.hid (by rw [U8_append, List.length_append]; exact ho7)
      clear ho7 hg7 hk7)
    have O8 : Hid (w7.ownsRow (w.heap.size + 1) 5 1 v7 (putAckP ⟨sp, mk, tr, xo, false⟩).length (U8 (putAckP ⟨sp, mk, tr, xo, false⟩))) := Lib.hid (by have := O7.out; rw [HF0.out] at this; exact this)
    obtain ⟨A9, c9, ev9, hA9⟩ := own_slice O8.out
    subst ev9
    go_ret
    exact ⟨A9, c9, rfl, Rd.of_own O8.out, BB.out.trans (B7.out.mono (by omega)), fun b off e => by have := own_base2 O8.out b off e (by simp [putAckP]); omega⟩
  · have HF0 := HF 1
    clear HF
    go_wp2_with (
      at_builtin
      refine wpList_app1 _ rfl (.tmp 22) (.tmp 23) 22 rfl (w.heap.size + 1) 5 i0 (.int .u8 0) 1 1 Try.underlying22 hi0 hz0 hz1 hz2 rfl (by decide) v6 ((D ++ eightN tr ++ eightN xo).length) (U8 (D ++ eightN tr ++ eightN xo)) rfl O6.out #[.int .u8 1] _ rfl (by simp) rfl (by simp [Value.oneCell']) (by unfold maxLen; omega) (by omega) (by have := hgs; simp; omega) ?_
      intro v7 w7 ho7 hg7 hk7
      have B7 : Hid (Below (w.heap.size + 1) w1 w7) := Lib.hid (B6.out.grown hg7 hgs (fun g hg => (O6.out.lt g hg).1))
      have O7 : Hid (w7.ownsRow (w.heap.size + 1) 5 1 v7 (D ++ eightN tr ++ eightN xo ++ [1]).length (U8 (D ++ eightN tr ++ eightN xo ++ [1]))) := Lib.hid (by rw [U8_append, List.length_append]; exact ho7)
      clear ho7 hg7 hk7)
    have O8 : Hid (w7.ownsRow (w.heap.size + 1) 5 1 v7 (putAckP ⟨sp, mk, tr, xo, true⟩).length (U8 (putAckP ⟨sp, mk, tr, xo, true⟩))) := Lib.hid (by have := O7.out; rw [HF0.out] at this; exact this)
    obtain ⟨A9, c9, ev9, hA9⟩ := own_slice O8.out
    subst ev9
    go_ret
    exact ⟨A9, c9, rfl, Rd.of_own O8.out, BB.out.trans (B7.out.mono (by omega)), fun b off e => by have := own_base2 O8.out b off e (by simp [putAckP]); omega⟩

end Go.Proofs.Ytkedfipeebjcjaa
