/-
  The game, purely.
-/
import Derived.Test.YtpfmhkkglaghgaaGreatGuaP
import Derived.Test.YtpfmhkkglaghgaaGreatOct7
import Derived.Test.YtpfmhkkglaghgaaGreatLedP
namespace Go.Proofs.YtpfmhkkglaghgaaGreat
set_option linter.unusedSimpArgs false
set_option linter.unusedVariables false
set_option linter.unnecessarySimpa false
open Go.RowKit

structure Mv where
  claim : Nat
  mark : Nat
  fr : Nat
  guess : Bool
  flip : Bool
  salt : Int
structure Gm where
  b : Nat
  n : Nat
  came : Nat
  marked : Nat
  moves : List Mv
structure Mv.ok (n : Nat) (m : Mv) : Prop where
  claim : m.claim < 2 ^ n
  mark : ∀ i, m.mark.testBit i = true → m.claim.testBit i = true
  fr : m.fr < n
  salt : isU64 m.salt
structure Gm.ok (g : Gm) : Prop where
  b1 : 1 ≤ g.b
  b6 : g.b ≤ 6
  n1 : 1 ≤ g.n
  n4 : g.n ≤ 4
  bn : g.b * g.n ≤ 12
  came : g.came < 2 ^ g.n
  marked : ∀ i, g.marked.testBit i = true → g.came.testBit i = true
  moves : ∀ m ∈ g.moves, m.ok g.n
  len : g.moves.length ≤ 8
def Mv.vals (m : Mv) : List Value := [.int .i64 m.claim, .int .i64 m.mark, .int .i64 m.fr, .bool m.guess, .bool m.flip, .int .u64 m.salt]
def Mvs (l : List Mv) : List Value := l.flatMap Mv.vals
def gmVal (g : Gm) (A : Option Addr) (c : Nat) : Value := .agg #[.int .i64 g.b, .int .i64 g.n, .int .i64 g.came, .int .i64 g.marked, .slice A g.moves.length c]

/-- A word of a number. -/
def mixZ (k : Int) : Int :=
  let z := IntKind.u64.wrap (IntKind.u64.wrap (k + 1) * 11400714819323198485)
  let z := IntKind.u64.wrap (bits .xor .u64 z (z / 2 ^ 30) * 13787848793156543929)
  let z := IntKind.u64.wrap (bits .xor .u64 z (z / 2 ^ 27) * 10723151780598845931)
  bits .xor .u64 z (z / 2 ^ 31)
theorem isU64_wrap (x : Int) : isU64 (IntKind.u64.wrap x) := by
  have e : IntKind.u64.wrap x = x % 18446744073709551616 := by simp [IntKind.wrap, IntKind.bits, IntKind.signed]
  rw [e]
  unfold isU64
  omega
theorem mixZ_u64 (k : Int) : isU64 (mixZ k) := isU64_wrap _

def rowS (s : Nat) : Nat → List Sp
  | 0 => []
  | n + 1 => if s.testBit n then addP (rowS s n) ((n : Int), (n : Int)) else rowS s n
def rowOkB (l : List Sp) (n : Nat) : Bool := goodB l && l.all (fun x => decide (0 ≤ x.1) && decide (x.2 < 4)) && decide (l.length ≤ n)
theorem rowS_okB : ∀ s, s < 16 → ∀ n, n < 5 → rowOkB (rowS s n) n = true := by decide
theorem rowS_mem : ∀ s, s < 16 → ∀ n, n < 5 → ∀ i, i < 4 → hasP (rowS s n) (i : Nat) = (decide (i < n) && s.testBit i) := by decide
theorem rowS_ok {s n : Nat} (hs : s < 16) (hn : n ≤ 4) : Good (rowS s n) ∧ (∀ x ∈ rowS s n, 0 ≤ x.1 ∧ x.2 < 4) ∧ (rowS s n).length ≤ n ∧ U2s (rowS s n) := by
  have h := rowS_okB s hs n (by omega)
  unfold rowOkB at h
  simp only [Bool.and_eq_true, decide_eq_true_eq, List.all_eq_true] at h
  obtain ⟨⟨h1, h2⟩, h3⟩ := h
  have hg : Good (rowS s n) := by unfold goodB at h1; exact of_decide_eq_true h1
  refine ⟨hg, h2, h3, fun x hx => ?_⟩
  obtain ⟨i, hi, rfl⟩ := List.getElem_of_mem hx
  have := (hg i hi).1.1
  have := h2 _ hx
  unfold U2 isU64
  omega

def nonN (b k i : Nat) : Nat := k / 2 ^ (i * (b + 1)) % 2 ^ b
def coinN (b k i : Nat) : Bool := (k / 2 ^ (i * (b + 1))).testBit b
theorem nonN_lt (b k i : Nat) : nonN b k i < 2 ^ b := Nat.mod_lt _ (Nat.pow_pos (by decide))
def foldV (v x : Int) : Int := mixZ (xor64 v x)
theorem foldV_u64 (v x : Int) : isU64 (foldV v x) := mixZ_u64 _
def viewOne (g : Gm) (k : Nat) (v : Int) (i : Nat) : Int :=
  if g.came.testBit i then
    if g.marked.testBit i then foldV (foldV v 1) (nonN g.b k i) else foldV (foldV (foldV (foldV v 1) (nonN g.b k i)) 1) (if coinN g.b k i then 1 else 0)
  else v
def viewTo (g : Gm) (k : Nat) : Nat → Int
  | 0 => 0
  | i + 1 => viewOne g k (viewTo g k i) i
theorem viewTo_u64 (g : Gm) (k i : Nat) : isU64 (viewTo g k i) := by
  induction i with
  | zero => unfold viewTo isU64; omega
  | succ i ih =>
    unfold viewTo viewOne
    split
    · split
      · exact foldV_u64 _ _
      · exact foldV_u64 _ _
    · exact ih

/-- The exclusive or of the claimed ones that came; the parity. -/
def xorTo (g : Gm) (k : Nat) (m : Mv) : Nat → Nat
  | 0 => 0
  | i + 1 => if (m.claim &&& g.came).testBit i then xorTo g k m i ^^^ nonN g.b k i else xorTo g k m i
def odTo (g : Gm) (k : Nat) (m : Mv) : Nat → Bool
  | 0 => m.flip
  | i + 1 => if (m.claim &&& g.came).testBit i && (coinN g.b k i && !g.marked.testBit i && !m.mark.testBit i) then !odTo g k m i else odTo g k m i
def lowN (x : Int) (b : Nat) : Nat := x.toNat % 2 ^ b
def guessX (g : Gm) (m : Mv) (v : Int) : Nat := if m.guess || !(m.claim &&& (15 - g.came) == 0) then lowN (mixZ (xor64 (IntKind.u64.wrap (m.salt + 1)) v)) g.b else 0
def trigN (g : Gm) (k : Nat) (m : Mv) (v : Int) : Nat := if g.came.testBit m.fr && !m.guess then nonN g.b k m.fr else lowN (mixZ (xor64 m.salt v)) g.b
def frameD (g : Gm) (k : Nat) (m : Mv) (v : Int) : AckD :=
  ⟨rowS m.claim g.n, rowS m.mark g.n, trigN g k m v, ((xorTo g k m g.n ^^^ guessX g m v : Nat) : Int), odTo g k m g.n⟩

def sntN (g : Gm) (k i : Nat) : Snt := ⟨i, i, 1, nonN g.b k i, 0, coinN g.b k i, false, 1⟩
def ledTo (g : Gm) (k i : Nat) : LS := ⟨4, maxPn, (List.range i).map (sntN g k)⟩
/-- The moves, one by one. -/
def playN (g : Gm) (k : Nat) : List Mv → Int → LS → GS → List (Vd × Mv)
  | [], _, _, _ => []
  | m :: ms, v, s, q =>
    if m.claim = 0 then playN g k ms v s q
    else
      let o := q.take s (putAckP (frameD g k m v)) 0
      (o.v, m) :: (if o.v.kind = 3 then [] else playN g k ms (foldV v o.v.kind) o.s o.g)
def playedN (g : Gm) (k : Nat) (every : Int) : List (Vd × Mv) := playN g k g.moves (viewTo g k g.n) (ledTo g k g.n) (GS.new 0 every)

end Go.Proofs.YtpfmhkkglaghgaaGreat
