/-
  Numbers, rows, acknowledgments and packets as bytes, plainly. · Bits of bytes and words, as sums.
-/
import Derived.Test.YtkedfipeebjcjaaSpan
import Derived.Laws.BitsAllLaws
import Derived.Laws.BitsLemmas
namespace Go.Proofs.Ytkedfipeebjcjaa
set_option linter.unusedSimpArgs false
set_option linter.unusedVariables false
set_option linter.unnecessarySimpa false
open Go.RowKit

/-- How many bytes a number takes; 0 above the greatest. -/
def sizeN (n : Int) : Nat := if n < 64 then 1 else if n < 16384 then 2 else if n < 1073741824 then 4 else if n ≤ 4611686018427387903 then 8 else 0
theorem sizeN_cases (n : Int) : (sizeN n = 1 ∧ n < 64) ∨ (sizeN n = 2 ∧ 64 ≤ n ∧ n < 16384) ∨ (sizeN n = 4 ∧ 16384 ≤ n ∧ n < 1073741824) ∨ (sizeN n = 8 ∧ 1073741824 ≤ n ∧ n ≤ 4611686018427387903) ∨ (sizeN n = 0 ∧ 4611686018427387903 < n) := by
  unfold sizeN
  split
  · omega
  · split
    · omega
    · split
      · omega
      · split <;> omega
/-- The i-th byte from the end. -/
def byteN (n : Int) (i : Nat) : Int := n / 2 ^ (8 * i) % 256
theorem byteN_rng (n : Int) (i : Nat) : 0 ≤ byteN n i ∧ byteN n i ≤ 255 := by
  unfold byteN
  have h1 := Int.emod_nonneg (n / 2 ^ (8 * i)) (show (256 : Int) ≠ 0 by decide)
  have h2 := Int.emod_lt_of_pos (n / 2 ^ (8 * i)) (show (0 : Int) < 256 by decide)
  omega
/-- k bytes, the highest first. -/
def bytesN (k : Nat) (n : Int) : List Int := (List.range k).map fun j => byteN n (k - 1 - j)
@[simp] theorem bytesN_length (k : Nat) (n : Int) : (bytesN k n).length = k := by simp [bytesN]
/-- The two highest bits. -/
def codeN (k : Nat) : Int := if k = 2 then 64 else if k = 4 then 128 else if k = 8 then 192 else 0
def putN (n : Int) : List Int := match bytesN (sizeN n) n with
  | [] => []
  | x :: l => (x + codeN (sizeN n)) :: l
def eightN (w : Int) : List Int := bytesN 8 w
/-- What bytes say, behind what was read. -/
def accN (a : Int) (l : List Int) : Int := l.foldl (fun a c => a * 256 + c) a
@[simp] theorem accN_nil (a : Int) : accN a [] = a := rfl
@[simp] theorem accN_cons (a c : Int) (l : List Int) : accN a (c :: l) = accN (a * 256 + c) l := rfl
theorem accN_append (a : Int) (l m : List Int) : accN a (l ++ m) = accN (accN a l) m := by simp [accN]
theorem accN_take_succ (a : Int) (l : List Int) {k : Nat} (h : k < l.length) : accN a (l.take (k + 1)) = accN a (l.take k) * 256 + l[k] := by
  rw [List.take_succ_eq_append_getElem h, accN_append]; rfl
theorem accN_rng (l : List Int) : ∀ (a : Int), 0 ≤ a → (∀ x ∈ l, 0 ≤ x ∧ x ≤ 255) → a * 256 ^ l.length ≤ accN a l ∧ accN a l < (a + 1) * 256 ^ l.length := by
  induction l with
  | nil => intro a h _; simp; omega
  | cons c l ih =>
    intro a h hb
    have hc := hb c (List.mem_cons_self ..)
    obtain ⟨h1, h2⟩ := ih (a * 256 + c) (by omega) (fun x hx => hb x (List.mem_cons_of_mem _ hx))
    simp only [accN_cons, List.length_cons]
    have hp : (0 : Int) < 256 ^ l.length := Int.pow_pos (by decide)
    have e : (256 : Int) ^ (l.length + 1) = 256 * 256 ^ l.length := by rw [Int.pow_succ, Int.mul_comm]
    rw [e]
    generalize (256 : Int) ^ l.length = P at *
    constructor
    · refine Int.le_trans ?_ h1
      have : a * (256 * P) = a * 256 * P := by rw [Int.mul_assoc]
      rw [this]
      exact Int.mul_le_mul_of_nonneg_right (by omega) (by omega)
    · refine Int.lt_of_lt_of_le h2 ?_
      have : (a + 1) * (256 * P) = (a + 1) * 256 * P := by rw [Int.mul_assoc]
      rw [this]
      exact Int.mul_le_mul_of_nonneg_right (by omega) (by omega)

/-- A number in a variable length: it, and how many bytes it took; or the error. -/
def kN (b0 : Int) : Nat := if b0 < 64 then 1 else if b0 < 128 then 2 else if b0 < 192 then 4 else 8
def numP (b : List Int) : Except Int (Int × Nat) := match b with
  | [] => .error 2
  | b0 :: l => if b.length < kN b0 then .error 2 else
    let n := accN (b0 % 64) (l.take (kN b0 - 1))
    if sizeN n = kN b0 then .ok (n, kN b0) else .error 5
def wordP (b : List Int) : Except Int Int := if b.length < 8 then .error 2 else .ok (accN 0 (b.take 8))
/-- A row: k more spans, from place at on. -/
def spansGo : Nat → Int → List Int → List Sp → Except Int (List Sp × List Int)
  | 0, _, b, acc => .ok (acc, b)
  | k + 1, at_, b, acc => match numP b with
    | .error e => .error e
    | .ok (gap, j) =>
      if 4611686018427387903 < at_ ∨ 4611686018427387903 - at_ < gap then .error 5 else
      match numP (b.drop j) with
      | .error e => .error e
      | .ok (long, j2) => if 4611686018427387903 - (at_ + gap) < long then .error 5 else spansGo k (at_ + gap + long + 2) ((b.drop j).drop j2) (acc ++ [(at_ + gap, at_ + gap + long)])
def spansP (least : Int) (b : List Int) : Except Int (List Sp × List Int) := match b with
  | [] => .error 2
  | c :: r => if c < least ∨ 32 < c then .error 5 else spansGo c.toNat 0 r []
structure AckD where
  sp : List Sp
  mm : List Sp
  tr : Int
  xo : Int
  od : Bool
def insideB (a b : List Sp) : Bool := a.all fun s => b.any fun t => decide (t.1 ≤ s.1) && decide (s.2 ≤ t.2)
def ackTail (sp mm : List Sp) (b : List Int) : Except Int AckD := match wordP b with
  | .error e => .error e
  | .ok tr => match wordP (b.drop 8) with
    | .error e => .error e
    | .ok xo => match (b.drop 8).drop 8 with
      | [] => .error 2
      | c :: r => if 1 < c then .error 5 else if r.length > 0 then .error 3 else if insideB mm sp = false then .error 5 else .ok ⟨sp, mm, tr, xo, decide (c = 1)⟩
def ackP (b : List Int) : Except Int AckD := match b with
  | [] => .error 2
  | k :: r => if k ≠ 2 then .error 4 else match spansP 1 r with
    | .error e => .error e
    | .ok (sp, r1) => match spansP 0 r1 with
      | .error e => .error e
      | .ok (mm, r2) => ackTail sp mm r2

theorem kN_pos (b0 : Int) : 1 ≤ kN b0 ∧ kN b0 ≤ 8 := by unfold kN; split <;> (try split) <;> (try split) <;> omega
theorem numP_ok {b : List Int} {n : Int} {k : Nat} (h : numP b = .ok (n, k)) (hb : ∀ x ∈ b, 0 ≤ x ∧ x ≤ 255) : 1 ≤ k ∧ k ≤ b.length ∧ 0 ≤ n ∧ n ≤ 4611686018427387903 := by
  unfold numP at h
  split at h
  · cases h
  · rename_i b0 l
    have hp := kN_pos b0
    have h0 := hb b0 (List.mem_cons_self ..)
    split at h
    · cases h
    · rename_i hk
      simp only at h
      split at h
      · rename_i hs
        injection h with h
        injection h with h1 h2
        subst h1 h2
        have hr := accN_rng (l.take (kN b0 - 1)) (b0 % 64) (Int.emod_nonneg _ (by decide)) (fun x hx => hb x (List.mem_cons_of_mem _ (List.mem_of_mem_take hx)))
        have hq : (0 : Int) ≤ b0 % 64 * 256 ^ (l.take (kN b0 - 1)).length := Int.mul_nonneg (Int.emod_nonneg _ (by decide)) (Int.le_of_lt (Int.pow_pos (by decide)))
        have hc := sizeN_cases (accN (b0 % 64) (l.take (kN b0 - 1)))
        omega
      · cases h

/-- What is read of a row is one, and its numbers are small. -/
theorem spansGo_ok : ∀ (k : Nat) (at_ : Int) (b : List Int) (acc : List Sp) (L : List Sp) (r : List Int), (∀ x ∈ b, 0 ≤ x ∧ x ≤ 255) → 0 ≤ at_ → Gd acc → (∀ s ∈ acc, 0 ≤ s.1 ∧ s.2 + 2 ≤ at_) → spansGo k at_ b acc = .ok (L, r) →
    Gd L ∧ (∀ s ∈ L, 0 ≤ s.1) ∧ L.length = acc.length + k ∧ ∃ j, r = b.drop j := by
  intro k
  induction k with
  | zero =>
    intro at_ b acc L r hb h0 hg ha h
    injection h with h
    injection h with h1 h2
    subst h1 h2
    exact ⟨hg, fun s hs => (ha s hs).1, by omega, 0, rfl⟩
  | succ k ih =>
    intro at_ b acc L r hb h0 hg ha h
    unfold spansGo at h
    split at h
    · cases h
    · rename_i gap j hn
      obtain ⟨g1, g2, g3, g4⟩ := numP_ok hn hb
      split at h
      · cases h
      · rename_i hc
        split at h
        · cases h
        · rename_i long j2 hn2
          obtain ⟨l1, l2, l3, l4⟩ := numP_ok hn2 (fun x hx => hb x (List.mem_of_mem_drop hx))
          split at h
          · cases h
          · rename_i hc2
            have hs : IsSpan (at_ + gap, at_ + gap + long) := ⟨by simp only; omega, by show at_ + gap + long ≤ maxPn; unfold maxPn; omega⟩
            obtain ⟨i1, i2, i3, j3, i4⟩ := ih (at_ + gap + long + 2) _ (acc ++ [(at_ + gap, at_ + gap + long)]) L r (fun x hx => hb x (List.mem_of_mem_drop (List.mem_of_mem_drop hx))) (by omega)
              ⟨fun x hx => by
                  rcases List.mem_append.1 hx with h | h
                  · exact hg.1 x h
                  · rw [List.mem_singleton.1 h]; exact hs,
                List.pairwise_append.2 ⟨hg.2, List.pairwise_singleton .., fun x hx y hy => by
                  rw [List.mem_singleton.1 hy]
                  have := (ha x hx).2
                  simp only
                  omega⟩⟩
              (fun s hs' => by
                rcases List.mem_append.1 hs' with h | h
                · have := ha s h; omega
                · rw [List.mem_singleton.1 h]; simp only; omega) h
            refine ⟨i1, i2, by rw [i3]; simp; omega, j + j2 + j3, ?_⟩
            rw [i4, List.drop_drop, List.drop_drop, Nat.add_assoc]
theorem spansP_ok {least : Int} {b : List Int} {L : List Sp} {r : List Int} (hb : ∀ x ∈ b, 0 ≤ x ∧ x ≤ 255) (h : spansP least b = .ok (L, r)) : Gd L ∧ (∀ s ∈ L, 0 ≤ s.1) ∧ least ≤ L.length ∧ L.length ≤ 32 ∧ ∃ j, r = b.drop j := by
  unfold spansP at h
  split at h
  · cases h
  · rename_i c r0
    have h0 := hb c (List.mem_cons_self ..)
    split at h
    · cases h
    · rename_i hc
      obtain ⟨i1, i2, i3, j, i4⟩ := spansGo_ok c.toNat 0 r0 [] L r (fun x hx => hb x (List.mem_cons_of_mem _ hx)) (Int.le_refl _) Gd.nil (fun s hs => by cases hs) h
      simp at i3
      exact ⟨i1, i2, by omega, by omega, j + 1, by rw [i4]; simp⟩
end Go.Proofs.Ytkedfipeebjcjaa

namespace Go.Proofs.Ytkedfipeebjcjaa
set_option linter.unusedSimpArgs false
set_option linter.unusedVariables false
set_option linter.unnecessarySimpa false
open Go.RowKit

theorem or_nat (a c : Nat) (k : Nat) (hc : c < 2 ^ k) : (a * 2 ^ k) ||| c = a * 2 ^ k + c := by
  rw [Nat.mul_comm a]
  exact (Nat.two_pow_add_eq_or_of_lt hc a).symm
theorem or_acc (a c : Int) (h0 : 0 ≤ a) (h1 : a * 256 + c < 18446744073709551616) (h2 : 0 ≤ c) (h3 : c ≤ 255) : bits .or .u64 (a * 256) c = a * 256 + c := by
  rw [u64_or _ _ (by omega) (by omega) h2 (by omega)]
  obtain ⟨n, rfl⟩ : ∃ n : Nat, a = n := ⟨a.toNat, by omega⟩
  obtain ⟨m, rfl⟩ : ∃ m : Nat, c = m := ⟨c.toNat, by omega⟩
  have e : ((n : Int) * 256).toNat = n * 2 ^ 8 := by omega
  rw [e, Int.toNat_natCast, or_nat n m 8 (by omega)]
  omega
theorem and_nat (b k : Nat) : b &&& (2 ^ k - 1) = b % 2 ^ k := Nat.and_two_pow_sub_one_eq_mod b k
theorem and63 (b : Int) (h0 : 0 ≤ b) (h1 : b ≤ 255) : bits .and .u8 b 63 = b % 64 := by
  rw [u8_and _ _ h0 (by omega) (by omega) (by omega)]
  obtain ⟨n, rfl⟩ : ∃ n : Nat, b = n := ⟨b.toNat, by omega⟩
  have := and_nat n 6
  simp only [Int.toNat_natCast]
  have e : (63 : Int).toNat = 2 ^ 6 - 1 := rfl
  rw [e, this]
  omega
theorem and255 (b : Int) (h : isU64 b) : bits .and .u64 b 255 = b % 256 := by
  obtain ⟨h0, h1⟩ := h
  rw [u64_and _ _ h0 h1 (by omega) (by omega)]
  obtain ⟨n, rfl⟩ : ∃ n : Nat, b = n := ⟨b.toNat, by omega⟩
  have := and_nat n 8
  simp only [Int.toNat_natCast]
  have e : (255 : Int).toNat = 2 ^ 8 - 1 := rfl
  rw [e, this]
  omega
theorem or_code (b : Int) (a : Nat) (ha : a ≤ 3) (h0 : 0 ≤ b) (h1 : b < 64) : bits .or .u8 b ((a : Int) * 64) = b + a * 64 := by
  rw [u8_or _ _ h0 (by omega) (by omega) (by omega)]
  obtain ⟨n, rfl⟩ : ∃ n : Nat, b = n := ⟨b.toNat, by omega⟩
  have e : ((a : Int) * 64).toNat = a * 2 ^ 6 := by omega
  rw [e, Int.toNat_natCast, Nat.or_comm, or_nat a n 6 (by omega)]
  omega
theorem or64 (b : Int) (h0 : 0 ≤ b) (h1 : b < 64) : bits .or .u8 b 64 = b + 64 := or_code b 1 (by omega) h0 h1
theorem or128 (b : Int) (h0 : 0 ≤ b) (h1 : b < 64) : bits .or .u8 b 128 = b + 128 := or_code b 2 (by omega) h0 h1
theorem or192 (b : Int) (h0 : 0 ≤ b) (h1 : b < 64) : bits .or .u8 b 192 = b + 192 := or_code b 3 (by omega) h0 h1
theorem byteN_u8 (n : Int) (i : Nat) : IntKind.u8.wrap (n / 2 ^ (8 * i)) = byteN n i := by
  rw [IntKind.wrap_u8]; rfl
/-- The highest byte of a number that fits is below 64. -/
theorem top_lt (n : Int) (h0 : 0 ≤ n) (k : Nat) (hk : sizeN n = k) (h1 : 1 ≤ k) : 0 ≤ byteN n (k - 1) ∧ byteN n (k - 1) < 64 := by
  have hr := byteN_rng n (k - 1)
  refine ⟨hr.1, ?_⟩
  unfold byteN
  rcases sizeN_cases n with ⟨e, h⟩ | ⟨e, h, h'⟩ | ⟨e, h, h'⟩ | ⟨e, h, h'⟩ | ⟨e, h⟩ <;> rw [e] at hk <;> subst hk
  · simp only [Nat.sub_self, Nat.mul_zero, Int.pow_zero, Int.ediv_one]; omega
  · show n / 256 % 256 < 64; omega
  · show n / 16777216 % 256 < 64; omega
  · show n / 72057594037927936 % 256 < 64; omega
  · omega
end Go.Proofs.Ytkedfipeebjcjaa
