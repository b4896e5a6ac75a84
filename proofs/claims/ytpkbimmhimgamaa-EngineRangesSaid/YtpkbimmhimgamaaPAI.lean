/-
  Part of the proof of EngineRanges.
-/
import Derived.Test.YtpkbimmhimgamaaPAC
import Derived.Laws.BitsAllLaws
import Derived.Laws.BitsLemmas
import Derived.Test.YtpkbimmhimgamaaPAA
import Derived.Test.YtpkbimmhimgamaaPAE
import Derived.Test.YtpkbimmhimgamaaPAB
namespace Go.Proofs.Ytpkbimmhimgamaa
set_option linter.unusedSimpArgs false
set_option linter.unusedVariables false
set_option linter.unnecessarySimpa false
open Go.RowKit
/-- How many bytes a number takes; 0 above the greatest. -/
def sizeN (n : Int) : Nat := if n < 64 then 1 else if n < 16384 then 2 else if n < 1073741824 then 4 else if n ≤ 4611686018427387903 then 8 else 0
theorem sizeN_cases (n : Int) : (sizeN n = 1 ∧ n < 64) ∨ (sizeN n = 2 ∧ 64 ≤ n ∧ n < 16384) ∨ (sizeN n = 4 ∧ 16384 ≤ n ∧ n < 1073741824) ∨ (sizeN n = 8 ∧ 1073741824 ≤ n ∧ n ≤ 4611686018427387903) ∨ (sizeN n = 0 ∧ 4611686018427387903 < n) := by
  unfold sizeN
  split
  · omega
  · split
    · omega
    · split
      · omega
      · split <;> omega
/-- The i-th byte from the end. -/
def byteN (n : Int) (i : Nat) : Int := n / 2 ^ (8 * i) % 256
theorem byteN_rng (n : Int) (i : Nat) : 0 ≤ byteN n i ∧ byteN n i ≤ 255 := by
  unfold byteN
  have h1 := Int.emod_nonneg (n / 2 ^ (8 * i)) (show (256 : Int) ≠ 0 by decide)
  have h2 := Int.emod_lt_of_pos (n / 2 ^ (8 * i)) (show (0 : Int) < 256 by decide)
  omega
/-- k bytes, the highest first. -/
def bytesN (k : Nat) (n : Int) : List Int := (List.range k).map fun j => byteN n (k - 1 - j)
@[simp] theorem bytesN_length (k : Nat) (n : Int) : (bytesN k n).length = k := by simp [bytesN]
/-- The two highest bits. -/
def codeN (k : Nat) : Int := if k = 2 then 64 else if k = 4 then 128 else if k = 8 then 192 else 0
def putN (n : Int) : List Int := match bytesN (sizeN n) n with
  | [] => []
  | x :: l => (x + codeN (sizeN n)) :: l
def eightN (w : Int) : List Int := bytesN 8 w
/-- What bytes say, behind what was read. -/
def accN (a : Int) (l : List Int) : Int := l.foldl (fun a c => a * 256 + c) a
@[simp] theorem accN_nil (a : Int) : accN a [] = a := rfl
@[simp] theorem accN_cons (a c : Int) (l : List Int) : accN a (c :: l) = accN (a * 256 + c) l := rfl
theorem accN_append (a : Int) (l m : List Int) : accN a (l ++ m) = accN (accN a l) m := by simp [accN]
theorem accN_take_succ (a : Int) (l : List Int) {k : Nat} (h : k < l.length) : accN a (l.take (k + 1)) = accN a (l.take k) * 256 + l[k] := by
  rw [List.take_succ_eq_append_getElem h, accN_append]; rfl
theorem accN_rng (l : List Int) : ∀ (a : Int), 0 ≤ a → (∀ x ∈ l, 0 ≤ x ∧ x ≤ 255) → a * 256 ^ l.length ≤ accN a l ∧ accN a l < (a + 1) * 256 ^ l.length := by
  induction l with
  | nil => intro a h _; simp; omega
  | cons c l ih =>
    intro a h hb
    have hc := hb c (List.mem_cons_self ..)
    obtain ⟨h1, h2⟩ := ih (a * 256 + c) (by omega) (fun x hx => hb x (List.mem_cons_of_mem _ hx))
    simp only [accN_cons, List.length_cons]
    have hp : (0 : Int) < 256 ^ l.length := Int.pow_pos (by decide)
    have e : (256 : Int) ^ (l.length + 1) = 256 * 256 ^ l.length := by rw [Int.pow_succ, Int.mul_comm]
    rw [e]
    generalize (256 : Int) ^ l.length = P at *
    constructor
    · refine Int.le_trans ?_ h1
      have : a * (256 * P) = a * 256 * P := by rw [Int.mul_assoc]
      rw [this]
      exact Int.mul_le_mul_of_nonneg_right (by omega) (by omega)
    · refine Int.lt_of_lt_of_le h2 ?_
      have : (a + 1) * (256 * P) = (a + 1) * 256 * P := by rw [Int.mul_assoc]
      rw [this]
      exact Int.mul_le_mul_of_nonneg_right (by omega) (by omega)

/-- A number in a variable length: it, and how many bytes it took; or the error. -/
def kN (b0 : Int) : Nat := if b0 < 64 then 1 else if b0 < 128 then 2 else if b0 < 192 then 4 else 8
def numP (b : List Int) : Except Int (Int × Nat) := match b with
  | [] => .error 2
  | b0 :: l => if b.length < kN b0 then .error 2 else
    let n := accN (b0 % 64) (l.take (kN b0 - 1))
    if sizeN n = kN b0 then .ok (n, kN b0) else .error 5
def wordP (b : List Int) : Except Int Int := if b.length < 8 then .error 2 else .ok (accN 0 (b.take 8))
/-- A row: k more spans, from place at on. -/
def spansGo : Nat → Int → List Int → List Sp → Except Int (List Sp × List Int)
  | 0, _, b, acc => .ok (acc, b)
  | k + 1, at_, b, acc => match numP b with
    | .error e => .error e
    | .ok (gap, j) =>
      if 4611686018427387903 < at_ ∨ 4611686018427387903 - at_ < gap then .error 5 else
      match numP (b.drop j) with
      | .error e => .error e
      | .ok (long, j2) => if 4611686018427387903 - (at_ + gap) < long then .error 5 else spansGo k (at_ + gap + long + 2) ((b.drop j).drop j2) (acc ++ [(at_ + gap, at_ + gap + long)])
def spansP (least : Int) (b : List Int) : Except Int (List Sp × List Int) := match b with
  | [] => .error 2
  | c :: r => if c < least ∨ 32 < c then .error 5 else spansGo c.toNat 0 r []
structure AckD where
  sp : List Sp
  mm : List Sp
  tr : Int
  xo : Int
  od : Bool
def insideB (a b : List Sp) : Bool := a.all fun s => b.any fun t => decide (t.1 ≤ s.1) && decide (s.2 ≤ t.2)
def ackTail (sp mm : List Sp) (b : List Int) : Except Int AckD := match wordP b with
  | .error e => .error e
  | .ok tr => match wordP (b.drop 8) with
    | .error e => .error e
    | .ok xo => match (b.drop 8).drop 8 with
      | [] => .error 2
      | c :: r => if 1 < c then .error 5 else if r.length > 0 then .error 3 else if insideB mm sp = false then .error 5 else .ok ⟨sp, mm, tr, xo, decide (c = 1)⟩
def ackP (b : List Int) : Except Int AckD := match b with
  | [] => .error 2
  | k :: r => if k ≠ 2 then .error 4 else match spansP 1 r with
    | .error e => .error e
    | .ok (sp, r1) => match spansP 0 r1 with
      | .error e => .error e
      | .ok (mm, r2) => ackTail sp mm r2

theorem kN_pos (b0 : Int) : 1 ≤ kN b0 ∧ kN b0 ≤ 8 := by unfold kN; split <;> (try split) <;> (try split) <;> omega
theorem numP_ok {b : List Int} {n : Int} {k : Nat} (h : numP b = .ok (n, k)) (hb : ∀ x ∈ b, 0 ≤ x ∧ x ≤ 255) : 1 ≤ k ∧ k ≤ b.length ∧ 0 ≤ n ∧ n ≤ 4611686018427387903 := by
  unfold numP at h
  split at h
  · cases h
  · rename_i b0 l
    have hp := kN_pos b0
    have h0 := hb b0 (List.mem_cons_self ..)
    split at h
    · cases h
    · rename_i hk
      simp only at h
      split at h
      · rename_i hs
        injection h with h
        injection h with h1 h2
        subst h1 h2
        have hr := accN_rng (l.take (kN b0 - 1)) (b0 % 64) (Int.emod_nonneg _ (by decide)) (fun x hx => hb x (List.mem_cons_of_mem _ (List.mem_of_mem_take hx)))
        have hq : (0 : Int) ≤ b0 % 64 * 256 ^ (l.take (kN b0 - 1)).length := Int.mul_nonneg (Int.emod_nonneg _ (by decide)) (Int.le_of_lt (Int.pow_pos (by decide)))
        have hc := sizeN_cases (accN (b0 % 64) (l.take (kN b0 - 1)))
        omega
      · cases h

end Go.Proofs.Ytpkbimmhimgamaa
namespace Go.Proofs.Ytpkbimmhimgamaa
set_option linter.unusedSimpArgs false
set_option linter.unusedVariables false
set_option linter.unnecessarySimpa false
open Go.RowKit
theorem or_nat (a c : Nat) (k : Nat) (hc : c < 2 ^ k) : (a * 2 ^ k) ||| c = a * 2 ^ k + c := by
  rw [Nat.mul_comm a]
  exact (Nat.two_pow_add_eq_or_of_lt hc a).symm
theorem or_acc (a c : Int) (h0 : 0 ≤ a) (h1 : a * 256 + c < 18446744073709551616) (h2 : 0 ≤ c) (h3 : c ≤ 255) : bits .or .u64 (a * 256) c = a * 256 + c := by
  rw [u64_or _ _ (by omega) (by omega) h2 (by omega)]
  obtain ⟨n, rfl⟩ : ∃ n : Nat, a = n := ⟨a.toNat, by omega⟩
  obtain ⟨m, rfl⟩ : ∃ m : Nat, c = m := ⟨c.toNat, by omega⟩
  have e : ((n : Int) * 256).toNat = n * 2 ^ 8 := by omega
  rw [e, Int.toNat_natCast, or_nat n m 8 (by omega)]
  omega
theorem and_nat (b k : Nat) : b &&& (2 ^ k - 1) = b % 2 ^ k := Nat.and_two_pow_sub_one_eq_mod b k
theorem and63 (b : Int) (h0 : 0 ≤ b) (h1 : b ≤ 255) : bits .and .u8 b 63 = b % 64 := by
  rw [u8_and _ _ h0 (by omega) (by omega) (by omega)]
  obtain ⟨n, rfl⟩ : ∃ n : Nat, b = n := ⟨b.toNat, by omega⟩
  have := and_nat n 6
  simp only [Int.toNat_natCast]
  have e : (63 : Int).toNat = 2 ^ 6 - 1 := rfl
  rw [e, this]
  omega
theorem or_code (b : Int) (a : Nat) (ha : a ≤ 3) (h0 : 0 ≤ b) (h1 : b < 64) : bits .or .u8 b ((a : Int) * 64) = b + a * 64 := by
  rw [u8_or _ _ h0 (by omega) (by omega) (by omega)]
  obtain ⟨n, rfl⟩ : ∃ n : Nat, b = n := ⟨b.toNat, by omega⟩
  have e : ((a : Int) * 64).toNat = a * 2 ^ 6 := by omega
  rw [e, Int.toNat_natCast, Nat.or_comm, or_nat a n 6 (by omega)]
  omega
theorem or64 (b : Int) (h0 : 0 ≤ b) (h1 : b < 64) : bits .or .u8 b 64 = b + 64 := or_code b 1 (by omega) h0 h1
theorem or128 (b : Int) (h0 : 0 ≤ b) (h1 : b < 64) : bits .or .u8 b 128 = b + 128 := or_code b 2 (by omega) h0 h1
theorem or192 (b : Int) (h0 : 0 ≤ b) (h1 : b < 64) : bits .or .u8 b 192 = b + 192 := or_code b 3 (by omega) h0 h1
theorem byteN_u8 (n : Int) (i : Nat) : IntKind.u8.wrap (n / 2 ^ (8 * i)) = byteN n i := by
  rw [IntKind.wrap_u8]; rfl
/-- The highest byte of a number that fits is below 64. -/
theorem top_lt (n : Int) (h0 : 0 ≤ n) (k : Nat) (hk : sizeN n = k) (h1 : 1 ≤ k) : 0 ≤ byteN n (k - 1) ∧ byteN n (k - 1) < 64 := by
  have hr := byteN_rng n (k - 1)
  refine ⟨hr.1, ?_⟩
  unfold byteN
  rcases sizeN_cases n with ⟨e, h⟩ | ⟨e, h, h'⟩ | ⟨e, h, h'⟩ | ⟨e, h, h'⟩ | ⟨e, h⟩ <;> rw [e] at hk <;> subst hk
  · simp only [Nat.sub_self, Nat.mul_zero, Int.pow_zero, Int.ediv_one]; omega
  · show n / 256 % 256 < 64; omega
  · show n / 16777216 % 256 < 64; omega
  · show n / 72057594037927936 % 256 < 64; omega
  · omega
end Go.Proofs.Ytpkbimmhimgamaa
namespace Go.Proofs.Ytpkbimmhimgamaa
set_option linter.unusedSimpArgs false
set_option linter.unusedVariables false
set_option linter.unnecessarySimpa false
open Go.RowKit
structure BS where
  most : Nat
  every : Int
  now : Int
  all : List Int
namespace BS
def new (most every : Int) : BS := ⟨(max 0 (min most 64)).toNat, every, 0, []⟩
def still (every n : Int) (l : List Int) : List Int := l.filter fun t => decide (n - t < every)
def ask (s : BS) (n : Int) : BS × Bool :=
  if s.most ≤ (still s.every (max s.now n) s.all).length then ({ s with now := max s.now n }, false) else ({ s with now := max s.now n, all := s.all ++ [max s.now n] }, true)
structure Good (s : BS) : Prop where
  le : ∀ t ∈ s.all, 0 ≤ t ∧ t ≤ s.now
  n0 : isU64 s.now
  e0 : isU64 s.every
  m0 : s.most ≤ 64
theorem Good.new {most every : Int} (h : isU64 every) : (BS.new most every).Good := ⟨fun t ht => by simp [BS.new] at ht, by show isU64 0; unfold isU64; omega, h, by show (max 0 (min most 64)).toNat ≤ 64; omega⟩
theorem Good.ask {s : BS} (g : s.Good) {n : Int} (hn : isU64 n) : (s.ask n).1.Good := by
  have hn0 := hn.1
  have hn1 := hn.2
  have g0 := g.n0.1
  have g1 := g.n0.2
  unfold BS.ask
  split
  · exact ⟨fun t ht => by have := g.le t ht; simp only; omega, ⟨by simp only; omega, by simp only; omega⟩, g.e0, g.m0⟩
  · refine ⟨fun t ht => ?_, ⟨by simp only; omega, by simp only; omega⟩, g.e0, g.m0⟩
    rcases List.mem_append.1 ht with h | h
    · have := g.le t h; simp only; omega
    · rw [List.mem_singleton.1 h]; simp only; omega
/-- What the program keeps serves as well as all of them. -/
def Keeps (s : BS) (l : List Int) : Prop := ∀ n, s.now ≤ n → still s.every n l = still s.every n s.all
theorem still_still (e : Int) {n m : Int} (h : n ≤ m) (l : List Int) : still e m (still e n l) = still e m l := by
  unfold still
  rw [List.filter_filter]
  congr 1
  funext t
  by_cases h1 : m - t < e
  · have h2 : n - t < e := by omega
    simp [h1, h2]
  · simp [h1]
theorem Keeps.ask {s : BS} {l : List Int} (h : s.Keeps l) (n : Int) :
    still s.every (max s.now n) l = still s.every (max s.now n) s.all ∧ ((s.ask n).2 = true → (s.ask n).1.Keeps (still s.every (max s.now n) l ++ [max s.now n])) ∧ ((s.ask n).2 = false → (s.ask n).1.Keeps (still s.every (max s.now n) l)) := by
  have h1 := h (max s.now n) (by omega)
  refine ⟨h1, fun ht => ?_, fun hf => ?_⟩
  · unfold BS.ask at ht ⊢
    split at ht
    · cases ht
    · rename_i hc
      rw [if_neg hc]
      intro m hm
      simp only at hm ⊢
      rw [h1]
      have e1 : still s.every m (still s.every (max s.now n) s.all ++ [max s.now n]) = still s.every m (still s.every (max s.now n) s.all) ++ still s.every m [max s.now n] := by simp [still]
      have e2 : still s.every m (s.all ++ [max s.now n]) = still s.every m s.all ++ still s.every m [max s.now n] := by simp [still]
      rw [e1, e2, still_still _ hm]
  · unfold BS.ask at hf ⊢
    split at hf
    · rename_i hc
      rw [if_pos hc]
      intro m hm
      simp only at hm ⊢
      rw [h1, still_still _ hm]
    · cases hf
end BS
end Go.Proofs.Ytpkbimmhimgamaa
namespace Go.Proofs.Ytpkbimmhimgamaa
set_option linter.unusedSimpArgs false
set_option linter.unusedVariables false
set_option linter.unnecessarySimpa false
open Go.RowKit
section
variable {α β : Type}
def scanAt (f : β → α → β) (z : β) (l : List α) (k : Nat) : β := (l.take k).foldl f z
def scan (f : β → α → β) (z : β) (l : List α) : List β := (List.range (l.length + 1)).map (scanAt f z l)
/-- After k rounds: the first k + 1 sums, the rest as made. -/
def part (f : β → α → β) (z y : β) (l : List α) (k : Nat) : List β := (List.range (k + 1)).map (scanAt f z l) ++ List.replicate (l.length - k) y

@[simp] theorem scan_length (f : β → α → β) (z : β) (l : List α) : (scan f z l).length = l.length + 1 := by simp [scan]
@[simp] theorem scanAt_zero (f : β → α → β) (z : β) (l : List α) : scanAt f z l 0 = z := by simp [scanAt]
end
end Go.Proofs.Ytpkbimmhimgamaa
namespace Go.Proofs.Ytpkbimmhimgamaa
set_option linter.unusedSimpArgs false
set_option linter.unusedVariables false
set_option linter.unnecessarySimpa false
open Go.RowKit
section
variable {α β : Type} (op : α → α → α) (z : α) (v : β → α)
/-- The sum of those that b tells. -/
def foldIf (b : β → Bool) (l : List β) : α := l.foldl (fun a x => if b x = true then op a (v x) else a) z
variable {op z}
end
namespace LS
def non (x : Snt) : Nat := x.nonce.toNat
def sumN (cl : List Sp) (l : List Snt) : Nat := foldIf (fun a b : Nat => a ^^^ b) 0 non (fun x => hasP cl x.pn) l
def sumX (cl : List Sp) (l : List Snt) : Int := sumN cl l
def odd (mk : List Sp) (x : Snt) : Bool := x.coin && !hasP mk x.pn
def sumO (cl mk : List Sp) (l : List Snt) : Bool := foldIf (fun a b : Bool => a != b) false (odd mk) (fun x => hasP cl x.pn) l
def rangeOk (s : LS) (cl : List Sp) : Prop := ∀ c ∈ cl, (s.low : Int) ≤ c.1 ∧ c.2 < s.all.length
def noSkip (l : List Snt) (cl : List Sp) : Prop := ∀ x ∈ l, hasP cl x.pn = true → x.state ≠ 4
instance (s : LS) (cl : List Sp) : Decidable (s.rangeOk cl) := by unfold rangeOk; exact inferInstance
instance (l : List Snt) (cl : List Sp) : Decidable (noSkip l cl) := by unfold noSkip; exact inferInstance
def SumOk (s : LS) (cl mk : List Sp) : Prop := Go.Proofs.Ytpkbimmhimgamaa.Good cl ∧ Go.Proofs.Ytpkbimmhimgamaa.Good mk ∧ s.rangeOk cl ∧ noSkip s.kept cl
instance (s : LS) (cl mk : List Sp) : Decidable (s.SumOk cl mk) := by unfold SumOk; exact inferInstance
def sum (s : LS) (cl mk : List Sp) : Int × Bool × Bool := if s.SumOk cl mk then (sumX cl s.kept, sumO cl mk s.kept, true) else (0, false, false)
end LS
end Go.Proofs.Ytpkbimmhimgamaa
namespace Go.Proofs.Ytpkbimmhimgamaa
set_option linter.unusedSimpArgs false
set_option linter.unusedVariables false
set_option linter.unnecessarySimpa false
open Go.RowKit
def aheadP (n : Int) : List Sp → Option Int
  | [] => none
  | c :: r => if n ≤ c.2 then some (max c.1 n) else aheadP n r
def skipP (sp : List Sp) : List Snt → Option Int
  | [] => none
  | x :: r => if x.state = 4 ∧ hasP sp x.pn = true then some x.pn else skipP sp r
def sumsP (a : Ak) (s : LS) : Int × Int := if (s.sum a.sp a.mm).1 ≠ a.xo then (6, 0) else if (s.sum a.sp a.mm).2.1 ≠ a.od then (7, 0) else (0, 0)
/-- From the second test on: what is told of those from the j-th on. -/
def skipsP (a : Ak) (s : LS) (o : Option Int) : Int × Int := match o with
  | some p => (5, p)
  | none => sumsP a s
def aheadsP (a : Ak) (s : LS) (o : Option Int) : Int × Int := match o with
  | some p => (4, p)
  | none => skipsP a s (skipP a.sp s.kept)
def Ak.check (a : Ak) (s : LS) : Int × Int := if mayB a.sp a.mm = false then (1, 0) else if a.lo < s.low then (2, 0) else aheadsP a s (aheadP s.all.length a.sp)
end Go.Proofs.Ytpkbimmhimgamaa
namespace Go.Proofs.Ytpkbimmhimgamaa
set_option linter.unusedSimpArgs false
set_option linter.unusedVariables false
set_option linter.unnecessarySimpa false
open Go.RowKit
def AckD.zero : AckD := ⟨[], [], 0, 0, false⟩
def AckD.ak (d : AckD) : Ak := ⟨none, 0, none, 0, d.sp, d.mm, d.tr, d.xo, d.od⟩
structure AckD.Good (d : AckD) : Prop where
  us : U2s d.sp
  um : U2s d.mm
  ut : isU64 d.tr
  ux : isU64 d.xo
  ls : d.sp.length ≤ 32
  lm : d.mm.length ≤ 32
theorem AckD.Good.zero : AckD.zero.Good := ⟨(fun _ h => by cases h), (fun _ h => by cases h), ⟨by decide, by decide⟩, ⟨by decide, by decide⟩, by decide, by decide⟩
/-- An acknowledgment in memory holds this. -/
def Ak.is (a : Ak) (d : AckD) : Prop := a.sp = d.sp ∧ a.mm = d.mm ∧ a.tr = d.tr ∧ a.xo = d.xo ∧ a.od = d.od
theorem Ak.is.look {a : Ak} {d : AckD} (h : a.is d) (s : LS) : a.look s = d.ak.look s := Ak.look_congr h.1 h.2.1 h.2.2.1 s
theorem Ak.is.check {a : Ak} {d : AckD} (h : a.is d) (s : LS) : a.check s = d.ak.check s := by
  obtain ⟨A, c, B, e, sp, mm, tr, xo, od⟩ := a
  obtain ⟨h1, h2, h3, h4, h5⟩ := h
  simp only at h1 h2 h3 h4 h5
  subst h1 h2 h3 h4 h5
  rfl
structure Ev where
  at_ : Int
  pn : Int
  used : Int
  why : Int
  d : AckD
def Ev.zero : Ev := ⟨0, 0, 0, 0, AckD.zero⟩
structure Vd where
  kind : Int
  why : Int
  pn : Int
  ch : Bool
def Vd.val (v : Vd) : Value := .agg #[.int .i64 v.kind, .int .i64 v.why, .int .u64 v.pn, .bool v.ch]
structure GS where
  b : BS
  mal : Int
  drp : Int
  tak : Int
  cha : Int
  lat : Int
  over : Bool
  ev : Ev
def inc (x : Int) : Int := IntKind.u64.wrap (x + 1)
theorem inc_u64 (x : Int) : isU64 (inc x) := by
  unfold inc isU64
  have h1 := Int.emod_nonneg (x + 1) (show (18446744073709551616 : Int) ≠ 0 by decide)
  have h2 := Int.emod_lt_of_pos (x + 1) (show (0 : Int) < 18446744073709551616 by decide)
  show 0 ≤ (x + 1) % 18446744073709551616 ∧ (x + 1) % 18446744073709551616 < 18446744073709551616
  exact ⟨h1, h2⟩
structure GOut where
  g : GS
  s : LS
  v : Vd
  a : AckD
namespace GS
def new (most every : Int) : GS := ⟨BS.new most every, 0, 0, 0, 0, 0, false, Ev.zero⟩
def late (g : GS) : GS := { g with lat := inc g.lat }
def bad (g : GS) : GS := { g with mal := inc g.mal }
def drop (g : GS) (r : BS × Bool) : GS := { g with b := r.1, drp := inc g.drp, cha := if r.2 = true then inc g.cha else g.cha }
def ended (g : GS) (e : Ev) : GS := { g with over := true, ev := e }
def took (g : GS) : GS := { g with tak := inc g.tak }
def take (g : GS) (s : LS) (f : List Int) (now : Int) : GOut :=
  if g.over = true then ⟨g.late, s, ⟨1, 8, 0, false⟩, AckD.zero⟩ else
  match ackP f with
  | .error _ => ⟨g.bad, s, ⟨1, 1, 0, false⟩, AckD.zero⟩
  | .ok d => if (d.ak.look s).2 ≠ 0 then ⟨g.drop (g.b.ask now), s, ⟨1, (d.ak.look s).2, 0, (g.b.ask now).2⟩, AckD.zero⟩ else
    if (d.ak.check (s.use (d.ak.look s).1).1).1 ≠ 0 then
      ⟨g.ended ⟨now, (d.ak.check (s.use (d.ak.look s).1).1).2, (d.ak.look s).1, (d.ak.check (s.use (d.ak.look s).1).1).1, d⟩, (s.use (d.ak.look s).1).1, ⟨3, (d.ak.check (s.use (d.ak.look s).1).1).1, (d.ak.check (s.use (d.ak.look s).1).1).2, false⟩, d⟩
    else ⟨g.took, (s.use (d.ak.look s).1).1, ⟨2, 0, (d.ak.look s).1, false⟩, d⟩
theorem take_late {g : GS} (h : g.over = true) (s : LS) (f : List Int) (now : Int) : g.take s f now = ⟨g.late, s, ⟨1, 8, 0, false⟩, AckD.zero⟩ := by unfold take; rw [if_pos h]
theorem take_bad {g : GS} (h : g.over = false) (s : LS) {f : List Int} {e : Int} (h1 : ackP f = .error e) (now : Int) : g.take s f now = ⟨g.bad, s, ⟨1, 1, 0, false⟩, AckD.zero⟩ := by unfold take; rw [if_neg (by simp [h]), h1]
theorem take_drop {g : GS} (h : g.over = false) {s : LS} {f : List Int} {d : AckD} (h1 : ackP f = .ok d) (now : Int) {x y : Int} (h2 : d.ak.look s = (x, y)) (h3 : y ≠ 0) :
    g.take s f now = ⟨g.drop (g.b.ask now), s, ⟨1, y, 0, (g.b.ask now).2⟩, AckD.zero⟩ := by unfold take; rw [if_neg (by simp [h]), h1]; simp only; rw [h2, if_pos h3]
theorem take_end {g : GS} (h : g.over = false) {s : LS} {f : List Int} {d : AckD} (h1 : ackP f = .ok d) (now : Int) {x y z : Int} (h2 : d.ak.look s = (x, 0)) (h3 : d.ak.check (s.use x).1 = (y, z)) (h4 : y ≠ 0) :
    g.take s f now = ⟨g.ended ⟨now, z, x, y, d⟩, (s.use x).1, ⟨3, y, z, false⟩, d⟩ := by unfold take; rw [if_neg (by simp [h]), h1]; simp only; rw [h2, if_neg (by simp)]; simp only; rw [h3, if_pos h4]
theorem take_took {g : GS} (h : g.over = false) {s : LS} {f : List Int} {d : AckD} (h1 : ackP f = .ok d) (now : Int) {x z : Int} (h2 : d.ak.look s = (x, 0)) (h3 : d.ak.check (s.use x).1 = (0, z)) :
    g.take s f now = ⟨g.took, (s.use x).1, ⟨2, 0, x, false⟩, d⟩ := by unfold take; rw [if_neg (by simp [h]), h1]; simp only; rw [h2, if_neg (by simp)]; simp only; rw [h3, if_neg (by simp)]
structure Good (g : GS) : Prop where
  b : g.b.Good
  mal : isU64 g.mal
  drp : isU64 g.drp
  tak : isU64 g.tak
  cha : isU64 g.cha
  lat : isU64 g.lat
  no : g.over = false → g.ev = Ev.zero
theorem u0 : isU64 0 := by unfold isU64; omega
theorem Good.new {most every : Int} (h : isU64 every) : (GS.new most every).Good := ⟨BS.Good.new h, u0, u0, u0, u0, u0, fun _ => rfl⟩
theorem Good.late {g : GS} (h : g.Good) : g.late.Good := ⟨h.b, h.mal, h.drp, h.tak, h.cha, inc_u64 _, h.no⟩
theorem Good.bad {g : GS} (h : g.Good) : g.bad.Good := ⟨h.b, inc_u64 _, h.drp, h.tak, h.cha, h.lat, h.no⟩
theorem Good.took {g : GS} (h : g.Good) : g.took.Good := ⟨h.b, h.mal, h.drp, inc_u64 _, h.cha, h.lat, h.no⟩
theorem Good.ended {g : GS} (h : g.Good) (e : Ev) : (g.ended e).Good := ⟨h.b, h.mal, h.drp, h.tak, h.cha, h.lat, fun h => by cases h⟩
theorem Good.drop {g : GS} (h : g.Good) {now : Int} (hn : isU64 now) : (g.drop (g.b.ask now)).Good := by
  refine ⟨h.b.ask hn, h.mal, inc_u64 _, h.tak, ?_, h.lat, h.no⟩
  show isU64 (if _ then _ else _)
  split
  · exact inc_u64 _
  · exact h.cha
/-- What is taken, dropped or ended leaves a good one. -/
theorem take_cases (g : GS) (s : LS) (f : List Int) (now : Int) :
    (g.over = true ∧ g.take s f now = ⟨g.late, s, ⟨1, 8, 0, false⟩, AckD.zero⟩) ∨
    (g.over = false ∧ g.take s f now = ⟨g.bad, s, ⟨1, 1, 0, false⟩, AckD.zero⟩) ∨
    (g.over = false ∧ ∃ d, ackP f = .ok d ∧ (
      (∃ y, y ≠ 0 ∧ (d.ak.look s).2 = y ∧ g.take s f now = ⟨g.drop (g.b.ask now), s, ⟨1, y, 0, (g.b.ask now).2⟩, AckD.zero⟩) ∨
      (∃ x y z, d.ak.look s = (x, 0) ∧ d.ak.check (s.use x).1 = (y, z) ∧ y ≠ 0 ∧ g.take s f now = ⟨g.ended ⟨now, z, x, y, d⟩, (s.use x).1, ⟨3, y, z, false⟩, d⟩) ∨
      (∃ x, d.ak.look s = (x, 0) ∧ (d.ak.check (s.use x).1).1 = 0 ∧ g.take s f now = ⟨g.took, (s.use x).1, ⟨2, 0, x, false⟩, d⟩))) := by
  cases ho : g.over with
  | true => exact .inl ⟨rfl, take_late ho s f now⟩
  | false =>
    refine .inr ?_
    cases ha : ackP f with
    | error e => exact .inl ⟨rfl, take_bad ho s ha now⟩
    | ok d =>
      refine .inr ⟨rfl, d, rfl, ?_⟩
      rcases hl : d.ak.look s with ⟨x, y⟩
      by_cases hy : y = 0
      · subst hy
        rcases hc : d.ak.check (s.use x).1 with ⟨y, z⟩
        by_cases hy : y = 0
        · subst hy
          exact .inr (.inr ⟨x, rfl, by rw [hc], take_took ho ha now hl hc⟩)
        · exact .inr (.inl ⟨x, y, z, rfl, hc, hy, take_end ho ha now hl hc hy⟩)
      · exact .inl ⟨y, hy, rfl, take_drop ho ha now hl hy⟩
theorem Good.take {g : GS} (h : g.Good) (s : LS) (f : List Int) {now : Int} (hn : isU64 now) : (g.take s f now).g.Good := by
  rcases take_cases g s f now with ⟨-, e⟩ | ⟨-, e⟩ | ⟨-, d, -, ⟨y, -, -, e⟩ | ⟨x, y, z, -, -, -, e⟩ | ⟨x, -, -, e⟩⟩ <;> rw [e]
  · exact h.late
  · exact h.bad
  · exact h.drop hn
  · exact h.ended _
  · exact h.took
end GS
end Go.Proofs.Ytpkbimmhimgamaa
namespace Go.Proofs.Ytpkbimmhimgamaa
set_option linter.unusedSimpArgs false
set_option linter.unusedVariables false
set_option linter.unnecessarySimpa false
open Go.RowKit
/-- What is said of an object in blocks of F stands as long as none of them turns. -/
def Stays (P : World → (Nat → Prop) → Prop) : Prop :=
  ∀ (w w' : World) (F G H : Nat → Prop), P w F → Chg G w w' → (∀ k, k < w.heap.size → F k → ¬ G k) → (∀ k, k < w.heap.size → F k → H k) → P w' H
section
variable {P P' R R' : World → (Nat → Prop) → Prop} {w w' : World} {G H : Nat → Prop}
theorem Stays.below (h : Stays P) {w w' : World} {F : Nat → Prop} (hp : P w F) (b : Below w.heap.size w w') : P w' F :=
  h w w' F (fun _ => False) F hp (chg_below b) (fun _ _ _ h => h) (fun _ _ h => h)
theorem Stays.sub (h : Stays P) {w : World} {F G : Nat → Prop} (hp : P w F) (hs : ∀ k, k < w.heap.size → F k → G k) : P w G :=
  h w w F (fun _ => False) G hp (Chg.refl _ w) (fun _ _ _ h => h) hs
theorem Stays.chg (h : Stays P) {w w' : World} {F G : Nat → Prop} (hp : P w F) (hc : Chg G w w') (hd : ∀ k, k < w.heap.size → F k → ¬ G k) : P w' F := h w w' F G F hp hc hd (fun _ _ h => h)

structure Prs (P R : World → (Nat → Prop) → Prop) (w : World) (G H : Nat → Prop) : Prop where
  p : P w G
  r : R w H
  dj : ∀ k, G k → ¬ H k
theorem Prs.below (h : Prs P R w G H) (sp : Stays P) (sr : Stays R) (b : Below w.heap.size w w') : Prs P R w' G H := ⟨sp.below h.p b, sr.below h.r b, h.dj⟩
theorem Prs.chg {F : Nat → Prop} (h : Prs P R w G H) (sp : Stays P) (sr : Stays R) (b : Chg F w w') (h1 : ∀ k, G k → ¬ F k) (h2 : ∀ k, H k → ¬ F k) : Prs P R w' G H :=
  ⟨sp.chg h.p b (fun k _ => h1 k), sr.chg h.r b (fun k _ => h2 k), h.dj⟩
theorem Prs.movP {G' : Nat → Prop} (h : Prs P R w G H) (sr : Stays R) (hP : P' w' G') (hG : ∀ k, G' k → Grow G w k) (hC : Chg G w w') : Prs P' R w' G' (fun k => H k ∧ k < w.heap.size) :=
  ⟨hP, sr w w' H G _ h.r hC (fun k _ hk hg => h.dj k hg hk) (fun k hk hh => ⟨hh, hk⟩), fun k hk hh => (hG k hk).elim (fun hg => h.dj k hg hh.1) (fun hs => by have := hh.2; omega)⟩
theorem Prs.movR {H' : Nat → Prop} (h : Prs P R w G H) (sp : Stays P) (hR : R' w' H') (hH : ∀ k, H' k → Grow H w k) (hC : Chg H w w') : Prs P R' w' (fun k => G k ∧ k < w.heap.size) H' :=
  ⟨sp w w' G H _ h.p hC (fun k _ hk hg => h.dj k hk hg) (fun k hk hh => ⟨hh, hk⟩), hR, fun k hk hh => (hH k hh).elim (fun hg => h.dj k hk.1 hg) (fun hs => by have := hk.2; omega)⟩

/-- Both in blocks of F. -/
def Tw (P R : World → (Nat → Prop) → Prop) (w : World) (F : Nat → Prop) : Prop := ∃ G H, Prs P R w G H ∧ ∀ k, G k ∨ H k → F k ∧ k < w.heap.size
theorem Prs.shut {F : Nat → Prop} (h : Prs P R w G H) (sp : Stays P) (sr : Stays R) (hF : ∀ k, k < w.heap.size → G k ∨ H k → F k) : Tw P R w F :=
  ⟨fun k => G k ∧ k < w.heap.size, fun k => H k ∧ k < w.heap.size, ⟨sp.sub h.p fun k hk hg => ⟨hg, hk⟩, sr.sub h.r fun k hk hg => ⟨hg, hk⟩, fun k hk hh => h.dj k hk.1 hh.1⟩,
   fun k hk => hk.elim (fun h => ⟨hF k h.2 (.inl h.1), h.2⟩) (fun h => ⟨hF k h.2 (.inr h.1), h.2⟩)⟩
theorem Tw.below {F : Nat → Prop} (h : Tw P R w F) (sp : Stays P) (sr : Stays R) (b : Below w.heap.size w w') : Tw P R w' F := by
  obtain ⟨G, H, hp, hF⟩ := h
  exact ⟨G, H, hp.below sp sr b, fun k hk => ⟨(hF k hk).1, Nat.lt_of_lt_of_le (hF k hk).2 b.size⟩⟩
theorem Tw.chg {F F' : Nat → Prop} (h : Tw P R w F) (sp : Stays P) (sr : Stays R) (b : Chg F' w w') (hd : ∀ k, k < w.heap.size → F k → ¬ F' k) : Tw P R w' F := by
  obtain ⟨G, H, hp, hF⟩ := h
  exact ⟨G, H, hp.chg sp sr b (fun k hk => hd k (hF k (.inl hk)).2 (hF k (.inl hk)).1) (fun k hk => hd k (hF k (.inr hk)).2 (hF k (.inr hk)).1), fun k hk => ⟨(hF k hk).1, Nat.lt_of_lt_of_le (hF k hk).2 b.size⟩⟩
theorem Tw.sub {F F' : Nat → Prop} (h : Tw P R w F) (hs : ∀ k, k < w.heap.size → F k → F' k) : Tw P R w F' := by
  obtain ⟨G, H, hp, hF⟩ := h
  exact ⟨G, H, hp, fun k hk => ⟨hs k (hF k hk).2 (hF k hk).1, (hF k hk).2⟩⟩
/-- Both have gone on, the one behind the other. -/
theorem Prs.did {F : Nat → Prop} {w wx v1 v2 v3 : World} {G H : Nat → Prop} (sr : Stays R) (sp' : Stays P') (sr' : Stays R') (hF : ∀ k, G k ∨ H k → F k ∧ k < w.heap.size) (bel : Below w.heap.size w wx) (hp : Prs P R wx G H)
    (hL : P' v1 (Grow G wx)) (hC : Chg G wx v1) (hR : R' v2 (Grow (fun k => H k ∧ k < wx.heap.size) v1)) (hC2 : Chg (fun k => H k ∧ k < wx.heap.size) v1 v2) (hb : Below v2.heap.size v2 v3) : Tw P' R' v3 (Grow F w) ∧ Chg F w v3 := by
  have h1 : Prs P' R v1 _ _ := hp.movP sr hL (fun k h => h) hC
  have h2 : Prs P' R' v2 _ _ := h1.movR sp' hR (fun k h => h) hC2
  refine ⟨(h2.shut sp' sr' (F := Grow F w) fun k _ hk => ?_).below sp' sr' hb, (((chg_below bel).step hC (fun k hk h => (hF k (.inl h)).1)).step hC2 (fun k hk h => (hF k (.inr h.1)).1)).thenBelow hb (Nat.le_trans (Nat.le_trans bel.size hC.size) hC2.size)⟩
  rcases hk with ⟨hk | hk, _⟩ | (hk | hk)
  · exact .inl (hF k (.inl hk)).1
  · exact .inr (Nat.le_trans bel.size hk)
  · exact .inl (hF k (.inr hk.1)).1
  · exact .inr (Nat.le_trans (Nat.le_trans bel.size hC.size) hk)
theorem Tw.stays (sp : Stays P) (sr : Stays R) : Stays (Tw P R) := by
  intro w w' F F' F2 h hc hd hs
  obtain ⟨G, H, hp, hF⟩ := h
  exact ⟨G, H, hp.chg sp sr hc (fun k hk => hd k (hF k (.inl hk)).2 (hF k (.inl hk)).1) (fun k hk => hd k (hF k (.inr hk)).2 (hF k (.inr hk)).1), fun k hk => ⟨hs k (hF k hk).2 (hF k hk).1, Nat.lt_of_lt_of_le (hF k hk).2 hc.size⟩⟩
end
end Go.Proofs.Ytpkbimmhimgamaa
namespace Go.Proofs.Ytpkbimmhimgamaa
set_option linter.unusedSimpArgs false
set_option linter.unusedVariables false
set_option linter.unnecessarySimpa false
open Go.RowKit
/-- An object in blocks from B on, none of them in N. -/
structure Av (P : World → (Nat → Prop) → Prop) (B : Nat) (N : List Nat) (w : World) : Prop where
  ex : ∃ F, P w F ∧ ∀ k, k < w.heap.size → F k → B ≤ k ∧ k ∉ N
  lt : ∀ k ∈ N, k < w.heap.size
  ge : B ≤ w.heap.size
section
variable {P P' : World → (Nat → Prop) → Prop} {w w' : World} {B : Nat} {N : List Nat}
theorem Av.below (h : Av P B N w) (sp : Stays P) (b : Below w.heap.size w w') : Av P B N w' := by
  obtain ⟨⟨F, hP, hF⟩, h2, h3⟩ := h
  exact ⟨⟨fun k => F k ∧ k < w.heap.size, sp.below (sp.sub hP fun k hk hf => ⟨hf, hk⟩) b, fun k _ hf => hF k hf.2 hf.1⟩, fun k hk => Nat.lt_of_lt_of_le (h2 k hk) b.size, Nat.le_trans h3 b.size⟩
theorem Av.box (h : Av P B N w) (sp : Stays P) (o : Obj) : Av P B (w.heap.size :: N) (w.alloc o) := by
  obtain ⟨⟨F, hP, hF⟩, h2, h3⟩ := h
  refine ⟨⟨fun k => F k ∧ k < w.heap.size, sp.below (sp.sub hP fun k hk hf => ⟨hf, hk⟩) (box_below w o), fun k _ hf => ⟨(hF k hf.2 hf.1).1, fun hm => ?_⟩⟩, fun k hk => ?_, by simp; omega⟩
  · rcases List.mem_cons.1 hm with h | h
    · have := hf.2; omega
    · exact (hF k hf.2 hf.1).2 h
  · rcases List.mem_cons.1 hk with h | h
    · simp; omega
    · have := h2 k h; simp; omega
theorem Av.step {F : Nat → Prop} (h2 : ∀ k ∈ N, k < w.heap.size) (h3 : B ≤ w.heap.size) (hF : ∀ k, k < w.heap.size → F k → B ≤ k ∧ k ∉ N) (hP : P' w' (Grow F w)) (hs : w.heap.size ≤ w'.heap.size) : Av P' B N w' := by
  refine ⟨⟨_, hP, fun k _ hk => ?_⟩, fun k hk => Nat.lt_of_lt_of_le (h2 k hk) hs, Nat.le_trans h3 hs⟩
  rcases Nat.lt_or_ge k w.heap.size with h | h
  · rcases hk with hk | hk
    · exact hF k h hk
    · omega
  · exact ⟨Nat.le_trans h3 h, fun hm => by have := h2 k hm; omega⟩
/-- What stands in N stays as it was, when the object turns. -/
theorem Av.blk {F : Nat → Prop} (hF : ∀ k, k < w.heap.size → F k → B ≤ k ∧ k ∉ N) (hC : Chg F w w') {g : Nat} {o : Obj} (ho : w.heap[g]? = some o) (hg : g ∈ N) : w'.heap[g]? = some o :=
  hC.blk ho fun h => (hF g (Array.getElem?_eq_some_iff.1 ho).1 h).2 hg
theorem Av.bel {F : Nat → Prop} {v : World} (hF : ∀ k, k < w.heap.size → F k → B ≤ k ∧ k ∉ N) (hb : Below B v w) (hB : B ≤ w.heap.size) (hC : Chg F w w') : Below B v w' :=
  hb.trans (hC.below hB fun k hk h => by have := (hF k (by omega) h).1; omega)
end
theorem Av.more {P : World → (Nat → Prop) → Prop} {w w' : World} {B : Nat} {N : List Nat} (h : Av P B N w) (sp : Stays P) (b : Below w.heap.size w w') {g : Nat} (h1 : w.heap.size ≤ g) (h2 : g < w'.heap.size) : Av P B (g :: N) w' := by
  obtain ⟨⟨F, hP, hF⟩, hl, h3⟩ := h
  refine ⟨⟨fun k => F k ∧ k < w.heap.size, sp.below (sp.sub hP fun k hk hf => ⟨hf, hk⟩) b, fun k _ hf => ⟨(hF k hf.2 hf.1).1, fun hm => ?_⟩⟩, fun k hk => ?_, Nat.le_trans h3 b.size⟩
  · rcases List.mem_cons.1 hm with h | h
    · have := hf.2; omega
    · exact (hF k hf.2 hf.1).2 h
  · rcases List.mem_cons.1 hk with h | h
    · omega
    · exact Nat.lt_of_lt_of_le (hl k h) b.size
theorem Rd.same {w w' : World} {size bb off n c : Nat} {xs : List Value} (h : Rd w size (some ⟨bb, off, none⟩) n c xs) (hb : ∀ o, w.heap[bb]? = some o → w'.heap[bb]? = some o) : Rd w' size (some ⟨bb, off, none⟩) n c xs := by
  refine ⟨h.len, h.cap, h.max, fun hn => ?_⟩
  obtain ⟨b, o, e, hk⟩ := h.on_ hn
  injection e with e
  injection e with e1 e2
  subst e1 e2
  refine ⟨_, _, rfl, fun j u hu => ?_⟩
  have hc := hk j u hu
  have hl := block_lt_of_cell hc
  exact (World.cell?_of_block (w := w) (a := ⟨bb, off + j, none⟩) ((hb _ (Array.getElem?_eq_getElem hl)).trans (Array.getElem?_eq_getElem hl).symm)).trans hc
end Go.Proofs.Ytpkbimmhimgamaa
