/-
  A queue of bytes, plainly: all that were taken, which are acknowledged, which are owed.
-/
import Derived.Test.YtilgekmpkoohaaaSpanL
import Derived.Test.YtilgekmpkoohaaaSpanQ
namespace Go.Proofs.Ytilgekmpkoohaaa
set_option linter.unusedSimpArgs false
set_option linter.unusedVariables false
set_option linter.unnecessarySimpa false
open Go.RowKit

/-- How many of the first are true, in a row. -/
def lead : List Bool → Nat
  | [] => 0
  | x :: r => if x = true then lead r + 1 else 0
theorem lead_le (l : List Bool) : lead l ≤ l.length := by
  induction l with
  | nil => simp [lead]
  | cons x r ih => simp only [lead, List.length_cons]; split <;> omega
theorem lead_lt {l : List Bool} {i : Nat} (h : i < lead l) (hi : i < l.length) : l[i] = true := by
  induction l generalizing i with
  | nil => simp at hi
  | cons x r ih =>
    by_cases hx : x = true
    · simp only [lead, hx, if_true] at h
      cases i with
      | zero => simpa using hx
      | succ i => simpa using ih (by omega) (by simpa using hi)
    · simp [lead, hx] at h
theorem lead_at {l : List Bool} (h : lead l < l.length) : l[lead l] = false := by
  induction l with
  | nil => simp at h
  | cons x r ih =>
    by_cases hx : x = true
    · have hr : lead r < r.length := by simpa [lead, hx] using h
      simpa [lead, hx] using ih hr
    · have e : lead (x :: r) = 0 := by simp [lead, hx]
      simp only [e, List.getElem_cons_zero]
      simpa using hx
theorem lead_eq {l : List Bool} {k : Nat} (h1 : ∀ i, (h : i < l.length) → i < k → l[i] = true) (hk : k ≤ l.length) (h2 : ∀ h : k < l.length, l[k] = false) : lead l = k := by
  rcases Nat.lt_trichotomy (lead l) k with h | h | h
  · have e := lead_at (l := l) (by omega)
    rw [h1 _ (by omega) h] at e
    cases e
  · exact h
  · have hl := lead_le l
    have e := lead_lt h (by omega)
    rw [h2 (by omega)] at e
    cases e

/-- The places of a list that hold. -/
def rowTo (l : List Bool) : Nat → List Sp
  | 0 => []
  | k + 1 => if l.getD k false = true then addP (rowTo l k) ((k : Int), (k : Int)) else rowTo l k
def rowB (l : List Bool) : List Sp := rowTo l l.length
theorem rowTo_spec (l : List Bool) (k : Nat) (hk : k ≤ 1000000) : Gd (rowTo l k) ∧ (∀ n, Mem n (rowTo l k) ↔ ∃ i : Nat, i < k ∧ n = i ∧ l.getD i false = true) ∧ (rowTo l k).length ≤ k := by
  induction k with
  | zero => exact ⟨Gd.nil, fun n => by simp [rowTo, Mem], by simp [rowTo]⟩
  | succ k ih =>
    obtain ⟨i1, i2, i3⟩ := ih (by omega)
    unfold rowTo
    split
    · rename_i h
      obtain ⟨a1, a2⟩ := add_parts (rowTo l k) ((k : Int), (k : Int)) i1 ⟨Int.le_refl _, by show (k : Int) ≤ maxPn; unfold maxPn; omega⟩
      refine ⟨a1, fun n => ?_, by have := addP_le (rowTo l k) ((k : Int), (k : Int)); omega⟩
      rw [a2 n, i2 n]
      constructor
      · rintro (⟨i, h1, h2⟩ | ⟨h1, h2⟩)
        · exact ⟨i, by omega, h2⟩
        · simp only at h1 h2
          exact ⟨k, by omega, by omega, h⟩
      · rintro ⟨i, h1, h2, h3⟩
        by_cases e : i = k
        · subst e; exact .inr ⟨by simp only; omega, by simp only; omega⟩
        · exact .inl ⟨i, by omega, h2, h3⟩
    · rename_i h
      refine ⟨i1, fun n => ?_, by omega⟩
      rw [i2 n]
      constructor
      · rintro ⟨i, h1, h2⟩; exact ⟨i, by omega, h2⟩
      · rintro ⟨i, h1, h2, h3⟩
        by_cases e : i = k
        · subst e; exact absurd h3 h
        · exact ⟨i, by omega, h2, h3⟩
theorem rowB_spec (l : List Bool) (hl : l.length ≤ 1000000) : Gd (rowB l) ∧ (∀ n, Mem n (rowB l) ↔ ∃ i : Nat, i < l.length ∧ n = i ∧ l.getD i false = true) ∧ (rowB l).length ≤ l.length := rowTo_spec l l.length hl
theorem rowB_eq {l : List Bool} (hl : l.length ≤ 1000000) {L : List Sp} (hL : Gd L) (h : ∀ n, Mem n L ↔ ∃ i : Nat, i < l.length ∧ n = i ∧ l.getD i false = true) : L = rowB l := by
  obtain ⟨h1, h2, -⟩ := rowB_spec l hl
  exact hL.ext h1 (fun n => (h n).trans (h2 n).symm)

/-- Set from f on, so many. -/
def paint (v : Bool) (f t : Nat) (l : List Bool) : List Bool := l.mapIdx fun i x => if f ≤ i ∧ i < t then v else x
@[simp] theorem paint_length (v : Bool) (f t : Nat) (l : List Bool) : (paint v f t l).length = l.length := by simp [paint]
theorem paint_get (v : Bool) (f t : Nat) (l : List Bool) (i : Nat) (h : i < l.length) : (paint v f t l).getD i false = if f ≤ i ∧ i < t then v else l.getD i false := by
  simp [paint, List.getD, h]
theorem paint_getE (v : Bool) (f t : Nat) (l : List Bool) (i : Nat) (h : i < l.length) : (paint v f t l)[i]'(by simpa using h) = if f ≤ i ∧ i < t then v else l[i] := by
  simp [paint]
theorem paint_none (v : Bool) (f : Nat) (l : List Bool) : paint v f f l = l := by
  apply List.ext_getElem (by simp)
  intro i h1 h2
  rw [paint_getE _ _ _ _ _ h2, if_neg (by omega)]
theorem paint_step (v : Bool) (f t : Nat) (l : List Bool) (hf : f ≤ t) (ht : t < l.length) : (paint v f t l).set t v = paint v f (t + 1) l := by
  apply List.ext_getElem (by simp)
  intro i h1 h2
  have hi : i < l.length := by simpa using h2
  rw [List.getElem_set, paint_getE _ _ _ _ _ hi]
  by_cases e : t = i
  · subst e; rw [if_pos rfl, paint_getE _ _ _ _ _ hi, if_pos (by omega)]
  · rw [if_neg e, paint_getE _ _ _ _ _ hi]
    by_cases h3 : f ≤ i ∧ i < t
    · rw [if_pos h3, if_pos (by omega)]
    · rw [if_neg h3, if_neg (by omega)]
/-- Owed from f on, but what is acknowledged. -/
def owe (ak : List Bool) (f t : Nat) (l : List Bool) : List Bool := l.mapIdx fun i x => if f ≤ i ∧ i < t ∧ ak.getD i false = false then true else x
@[simp] theorem owe_length (ak : List Bool) (f t : Nat) (l : List Bool) : (owe ak f t l).length = l.length := by simp [owe]
theorem getD_at {l : List Bool} {i : Nat} (h : i < l.length) : l.getD i false = l[i] := by simp [List.getD, h]
theorem owe_getE (ak : List Bool) (f t : Nat) (l : List Bool) (i : Nat) (h : i < l.length) : (owe ak f t l)[i]'(by simpa using h) = if f ≤ i ∧ i < t ∧ ak.getD i false = false then true else l[i] := by
  simp only [owe, List.getElem_mapIdx]
theorem owe_get (ak : List Bool) (f t : Nat) (l : List Bool) (i : Nat) (h : i < l.length) : (owe ak f t l).getD i false = if f ≤ i ∧ i < t ∧ ak.getD i false = false then true else l.getD i false := by
  rw [getD_at (show i < (owe ak f t l).length by simpa using h), owe_getE _ _ _ _ _ h, getD_at h]
theorem owe_none (ak : List Bool) (f : Nat) (l : List Bool) : owe ak f f l = l := by
  apply List.ext_getElem (by simp)
  intro i h1 h2
  rw [owe_getE _ _ _ _ _ h2, if_neg (by omega)]
theorem owe_step (ak : List Bool) (f t : Nat) (l : List Bool) (hf : f ≤ t) (ht : t < l.length) : (if ak.getD t false = true then owe ak f t l else (owe ak f t l).set t true) = owe ak f (t + 1) l := by
  apply List.ext_getElem (by split <;> simp)
  intro i h1 h2
  have hi : i < l.length := by simpa using h2
  rw [owe_getE _ _ _ _ _ hi]
  by_cases ha : ak.getD t false = true
  · simp only [ha, if_true]
    rw [owe_getE _ _ _ _ _ hi]
    by_cases e : t = i
    · subst e
      rw [if_neg (fun h4 => by rw [ha] at h4; exact absurd h4.2.2 (by simp)), if_neg (fun h4 => by rw [ha] at h4; exact absurd h4.2.2 (by simp))]
    · by_cases h3 : f ≤ i ∧ i < t ∧ ak.getD i false = false
      · rw [if_pos h3, if_pos ⟨h3.1, by omega, h3.2.2⟩]
      · rw [if_neg h3, if_neg (fun h4 => h3 ⟨h4.1, by omega, h4.2.2⟩)]
  · have ha' : ak.getD t false = false := by simpa using ha
    simp only [ha', Bool.false_eq_true, if_false]
    rw [List.getElem_set]
    by_cases e : t = i
    · subst e; rw [if_pos rfl, if_pos ⟨hf, by omega, ha'⟩]
    · rw [if_neg e, owe_getE _ _ _ _ _ hi]
      by_cases h3 : f ≤ i ∧ i < t ∧ ak.getD i false = false
      · rw [if_pos h3, if_pos ⟨h3.1, by omega, h3.2.2⟩]
      · rw [if_neg h3, if_neg (fun h4 => h3 ⟨h4.1, by omega, h4.2.2⟩)]

structure QS where
  room : Nat
  b : List Int
  ak : List Bool
  ow : List Bool
  fresh : Nat
namespace QS
def base (s : QS) : Nat := lead s.ak
def new (room : Int) : QS := ⟨(max 1 (min room 65536)).toNat, [], [], [], 0⟩
structure Good (s : QS) : Prop where
  room1 : 1 ≤ s.room
  room2 : s.room ≤ 65536
  la : s.ak.length = s.b.length
  lo : s.ow.length = s.b.length
  fr : s.fresh ≤ s.b.length
  ob : ∀ i, s.ow.getD i false = true → i < s.fresh ∧ s.ak.getD i false = false
  ab : ∀ i, s.ak.getD i false = true → i < s.fresh
  by_ : ∀ x ∈ s.b, 0 ≤ x ∧ x ≤ 255
  fit : s.b.length - s.base ≤ s.room
def within (off n : Int) (e : Nat) : Prop := 0 < n ∧ off ≤ e ∧ n ≤ e - off
instance (off n : Int) (e : Nat) : Decidable (within off n e) := by unfold within; exact inferInstance
def write (s : QS) (l : List Int) : QS × Int :=
  let n := min l.length (s.room - (s.b.length - s.base))
  ({ s with b := s.b ++ l.take n, ak := s.ak ++ List.replicate n false, ow := s.ow ++ List.replicate n false }, (n : Int))
def sent (s : QS) (off n : Int) : QS × Bool :=
  if within off n s.b.length ∧ off ≤ s.fresh then ({ s with ow := paint false off.toNat (off + n).toNat s.ow, fresh := max s.fresh (off + n).toNat }, true) else (s, false)
def acked (s : QS) (off n : Int) : QS × Bool :=
  if within off n s.fresh then ({ s with ak := paint true off.toNat (off + n).toNat s.ak, ow := paint false off.toNat (off + n).toNat s.ow }, true) else (s, false)
def lost (s : QS) (off n : Int) : QS × Bool :=
  if within off n s.fresh then ({ s with ow := owe s.ak off.toNat (off + n).toNat s.ow }, true) else (s, false)
/-- How far the owed places go from f on. -/
def runTo (l : List Bool) (f : Nat) : Nat := f + lead (l.drop f)
def firstOf (l : List Bool) : Nat := lead (l.map not)
/-- What is next: from where to where. -/
def next (s : QS) (most : Int) : Option (Nat × Nat) :=
  if most < 1 then none else
  let f := firstOf s.ow
  let (a, e) := if f = s.ow.length then (s.fresh, s.b.length) else (f, runTo s.ow f)
  if e = a then none else some (a, min e (a + (min most s.b.length).toNat))
end QS
end Go.Proofs.Ytilgekmpkoohaaa
