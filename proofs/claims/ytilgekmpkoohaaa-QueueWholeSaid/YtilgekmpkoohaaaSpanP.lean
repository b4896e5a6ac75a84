/-
  Rows of spans, plainly: what package span and the references compute.
-/
import Derived.Test.YtilgekmpkoohaaaBase
namespace Go.Proofs.Ytilgekmpkoohaaa
set_option linter.unusedSimpArgs false
set_option linter.unusedVariables false
set_option linter.unnecessarySimpa false
open Go.RowKit

abbrev Sp := Int × Int
def maxPn : Int := 4611686018427387903
theorem maxPn_eq : maxPn = 4611686018427387903 := rfl

/-- The value of a span, the cells of a list of them. -/
def sv (s : Sp) : Value := .agg #[.int .u64 s.1, .int .u64 s.2]
def Ss (l : List Sp) : List Value := l.flatMap fun s => [.int .u64 s.1, .int .u64 s.2]
@[simp] theorem Ss_length (l : List Sp) : (Ss l).length = l.length * 2 := by
  induction l with
  | nil => rfl
  | cons a l ih => simp only [Ss, List.flatMap_cons, List.length_append, List.length_cons, List.length_nil] at ih ⊢; omega
theorem Ss_append (a b : List Sp) : Ss (a ++ b) = Ss a ++ Ss b := by simp [Ss]
theorem Ss_one (l : List Sp) : ∀ u ∈ Ss l, u.oneCell' = true := by
  intro u hu
  obtain ⟨x, _, h⟩ := List.mem_flatMap.1 hu
  simp at h
  rcases h with rfl | rfl <;> rfl
theorem Ss_get (l : List Sp) (k : Nat) (h : k < l.length) : (Ss l)[k * 2]? = some (.int .u64 l[k].1) ∧ (Ss l)[k * 2 + 1]? = some (.int .u64 l[k].2) := by
  induction l generalizing k with
  | nil => simp at h
  | cons a l ih =>
    match k with
    | 0 => exact ⟨rfl, rfl⟩
    | k + 1 =>
      have := ih k (by simpa using h)
      have e : Ss (a :: l) = .int .u64 a.1 :: .int .u64 a.2 :: Ss l := rfl
      rw [e, show (k + 1) * 2 = k * 2 + 1 + 1 by omega, show k * 2 + 1 + 1 + 1 = (k * 2 + 1) + 1 + 1 by omega]
      simpa using this

theorem Rd.span {w : World} {A : Option Addr} {n c : Nat} {l : List Sp} {k : Nat} (h : Rd w 2 A n c (Ss l)) (hk : k < l.length) :
    ∃ b off, A = some ⟨b, off, none⟩ ∧ w.cell? ⟨b, off + k * 2, none⟩ = some (.int .u64 l[k].1) ∧ w.cell? ⟨b, off + k * 2 + 1, none⟩ = some (.int .u64 l[k].2) := by
  have hl := h.len
  rw [Ss_length] at hl
  obtain ⟨b, off, e, hc⟩ := h.on_ (by omega)
  obtain ⟨h1, h2⟩ := Ss_get l k hk
  exact ⟨b, off, e, hc _ _ h1, hc _ _ h2⟩
theorem Rd.spanat {w : World} {b off n c : Nat} {l : List Sp} {k : Nat} (h : Rd w 2 (some ⟨b, off, none⟩) n c (Ss l)) (hk : k < l.length) :
    w.cell? ⟨b, off + k * 2, none⟩ = some (.int .u64 l[k].1) ∧ w.cell? ⟨b, off + k * 2 + 1, none⟩ = some (.int .u64 l[k].2) := by
  obtain ⟨b', off', e, h1, h2⟩ := h.span hk
  injection e with e
  injection e with e1 e2
  subst e1
  subst e2
  exact ⟨h1, h2⟩

theorem Rd.sp {w : World} {A : Option Addr} {n c : Nat} {l : List Sp} {k : Nat} (h : Rd w 2 A n c (Ss l)) (hu : ∀ s ∈ l, isU64 s.1 ∧ isU64 s.2) (hk : k < l.length) :
    ∃ b off x y, A = some ⟨b, off, none⟩ ∧ Hid (l[k] = (x, y)) ∧ w.cell? ⟨b, off + k * 2, none⟩ = some (.int .u64 x) ∧ w.cell? ⟨b, off + k * 2 + 1, none⟩ = some (.int .u64 y) ∧
      0 ≤ x ∧ x < 18446744073709551616 ∧ 0 ≤ y ∧ y < 18446744073709551616 := by
  obtain ⟨b, off, e, h1, h2⟩ := h.span hk
  obtain ⟨⟨a1, a2⟩, ⟨a3, a4⟩⟩ := hu _ (List.getElem_mem hk)
  exact ⟨b, off, _, _, e, Lib.hid rfl, h1, h2, a1, a2, a3, a4⟩

theorem Rd.spat {w : World} {b off n c : Nat} {l : List Sp} {k : Nat} (h : Rd w 2 (some ⟨b, off, none⟩) n c (Ss l)) (hu : ∀ s ∈ l, isU64 s.1 ∧ isU64 s.2) (hk : k < l.length) :
    ∃ x y, Hid (l[k] = (x, y)) ∧ w.cell? ⟨b, off + k * 2, none⟩ = some (.int .u64 x) ∧ w.cell? ⟨b, off + k * 2 + 1, none⟩ = some (.int .u64 y) ∧
      0 ≤ x ∧ x < 18446744073709551616 ∧ 0 ≤ y ∧ y < 18446744073709551616 := by
  obtain ⟨h1, h2⟩ := h.spanat hk
  obtain ⟨⟨a1, a2⟩, ⟨a3, a4⟩⟩ := hu _ (List.getElem_mem hk)
  exact ⟨_, _, Lib.hid rfl, h1, h2, a1, a2, a3, a4⟩

/-! Spans and rows. -/
def IsSpan (s : Sp) : Prop := s.1 ≤ s.2 ∧ s.2 ≤ maxPn
instance (s : Sp) : Decidable (IsSpan s) := by unfold IsSpan; infer_instance
def isSpanB (s : Sp) : Bool := decide (IsSpan s)
/-- Both ends are numbers of 64 bits. -/
def U2 (s : Sp) : Prop := isU64 s.1 ∧ isU64 s.2
def U2s (l : List Sp) : Prop := ∀ s ∈ l, U2 s
theorem U2s.at_ {l : List Sp} (h : U2s l) {k : Nat} (hk : k < l.length) : U2 l[k] := h _ (List.getElem_mem hk)

/-- The first k are a row. -/
def GoodTo (l : List Sp) (k : Nat) : Prop := ∀ i, (h : i < l.length) → i < k → IsSpan l[i] ∧ (∀ _ : 0 < i, l[i - 1].2 + 1 < l[i].1)
def Good (l : List Sp) : Prop := ∀ i, (h : i < l.length) → IsSpan l[i] ∧ (∀ _ : 0 < i, l[i - 1].2 + 1 < l[i].1)
instance (l : List Sp) : Decidable (Good l) := by unfold Good; infer_instance
def goodB (l : List Sp) : Bool := decide (Good l)
theorem GoodTo.zero (l : List Sp) : GoodTo l 0 := fun i _ h => absurd h (by omega)
theorem GoodTo.all {l : List Sp} (h : GoodTo l l.length) : Good l := fun i hi => h i hi hi
theorem GoodTo.step {l : List Sp} {k : Nat} (h : GoodTo l k) (hk : k < l.length) (h1 : IsSpan l[k]) (h2 : ∀ _ : 0 < k, l[k - 1].2 + 1 < l[k].1) : GoodTo l (k + 1) := by
  intro i hi hik
  by_cases e : i = k
  · subst e; exact ⟨h1, h2⟩
  · exact h i hi (by omega)
theorem Good.to {l : List Sp} (h : Good l) (k : Nat) : GoodTo l k := fun i hi _ => h i hi
theorem goodB_false {l : List Sp} {k : Nat} (hk : k < l.length) (h : ¬ (IsSpan l[k] ∧ (∀ _ : 0 < k, l[k - 1].2 + 1 < l[k].1))) : goodB l = false := by
  unfold goodB
  rw [decide_eq_false_iff_not]
  exact fun hg => h (hg k hk)
theorem goodB_true {l : List Sp} (h : Good l) : goodB l = true := decide_eq_true h

theorem Ss_drop (l : List Sp) (k : Nat) : (Ss l).drop (k * 2) = Ss (l.drop k) := by
  induction l generalizing k with
  | nil => simp [Ss]
  | cons a l ih =>
    match k with
    | 0 => simp
    | k + 1 =>
      have e : Ss (a :: l) = .int .u64 a.1 :: .int .u64 a.2 :: Ss l := rfl
      rw [e, show (k + 1) * 2 = k * 2 + 1 + 1 by omega]
      simpa using ih k

/-! A row with a span. -/
def mrg (s x : Sp) : Sp := (min s.1 x.1, max s.2 x.2)
/-- How many lie wholly below s. -/
def skipN (s : Sp) : List Sp → Nat
  | [] => 0
  | x :: r => if x.2 + 1 < s.1 then skipN s r + 1 else 0
/-- How many of the next ones s takes in. -/
def eatN (s : Sp) : List Sp → Nat
  | [] => 0
  | x :: r => if x.1 ≤ s.2 + 1 then eatN (mrg s x) r + 1 else 0
/-- s with the first m of them. -/
def eaten (s : Sp) (r : List Sp) (m : Nat) : Sp := (r.take m).foldl mrg s
def addP (l : List Sp) (s : Sp) : List Sp :=
  l.take (skipN s l) ++ [eaten s (l.drop (skipN s l)) (eatN s (l.drop (skipN s l)))] ++ l.drop (skipN s l + eatN s (l.drop (skipN s l)))

theorem skipN_le (s : Sp) (l : List Sp) : skipN s l ≤ l.length := by
  induction l with
  | nil => simp [skipN]
  | cons x r ih => simp only [skipN, List.length_cons]; split <;> omega
theorem skipN_lt (s : Sp) (l : List Sp) (i : Nat) (h : i < skipN s l) (hi : i < l.length) : l[i].2 + 1 < s.1 := by
  induction l generalizing i with
  | nil => simp at hi
  | cons x r ih =>
    simp only [skipN] at h
    split at h
    · match i with
      | 0 => assumption
      | i + 1 => simpa using ih i (by omega) (by simpa using hi)
    · omega
theorem skipN_end (s : Sp) (l : List Sp) (hi : skipN s l < l.length) : ¬ l[skipN s l].2 + 1 < s.1 := by
  induction l with
  | nil => simp at hi
  | cons x r ih =>
    by_cases h : x.2 + 1 < s.1
    · have e : skipN s (x :: r) = skipN s r + 1 := by simp [skipN, h]
      simp only [e, List.length_cons] at hi ⊢
      simpa using ih (by omega)
    · have e : skipN s (x :: r) = 0 := by simp [skipN, h]
      simp only [e]
      simpa using h
theorem eatN_le (s : Sp) (l : List Sp) : eatN s l ≤ l.length := by
  induction l generalizing s with
  | nil => simp [eatN]
  | cons x r ih => simp only [eatN, List.length_cons]; have := ih (mrg s x); split <;> omega
theorem eaten_zero (s : Sp) (r : List Sp) : eaten s r 0 = s := by simp [eaten]
theorem eaten_succ (s : Sp) (r : List Sp) (m : Nat) (h : m < r.length) : eaten s r (m + 1) = mrg (eaten s r m) r[m] := by
  unfold eaten
  rw [List.take_succ_eq_append_getElem h, List.foldl_append]
  rfl
theorem eatN_lt (s : Sp) (l : List Sp) (m : Nat) (h : m < eatN s l) (hm : m < l.length) : l[m].1 ≤ (eaten s l m).2 + 1 := by
  induction l generalizing m s with
  | nil => simp at hm
  | cons x r ih =>
    simp only [eatN] at h
    split at h
    · match m with
      | 0 => simpa [eaten] using (by assumption)
      | m + 1 =>
        have := ih (mrg s x) m (by omega) (by simpa using hm)
        simpa [eaten] using this
    · omega
theorem eatN_end (s : Sp) (l : List Sp) (h : eatN s l < l.length) : ¬ l[eatN s l].1 ≤ (eaten s l (eatN s l)).2 + 1 := by
  induction l generalizing s with
  | nil => simp at h
  | cons x r ih =>
    by_cases hx : x.1 ≤ s.2 + 1
    · have e : eatN s (x :: r) = eatN (mrg s x) r + 1 := by simp [eatN, hx]
      simp only [e, List.length_cons] at h ⊢
      have := ih (mrg s x) (by omega)
      simpa [eaten] using this
    · have e : eatN s (x :: r) = 0 := by simp [eatN, hx]
      simp only [e]
      simpa [eaten] using hx
/-- Both ends stay numbers, the upper one within the bound. -/
theorem eaten_bounds (s : Sp) (l : List Sp) (m : Nat) (hs : 0 ≤ s.1 ∧ s.1 ≤ maxPn ∧ 0 ≤ s.2 ∧ s.2 ≤ maxPn) (hl : ∀ x ∈ l, 0 ≤ x.1 ∧ 0 ≤ x.2 ∧ x.2 ≤ maxPn) :
    0 ≤ (eaten s l m).1 ∧ (eaten s l m).1 ≤ maxPn ∧ 0 ≤ (eaten s l m).2 ∧ (eaten s l m).2 ≤ maxPn := by
  unfold eaten
  generalize hk : l.take m = k
  have hk' : ∀ x ∈ k, 0 ≤ x.1 ∧ 0 ≤ x.2 ∧ x.2 ≤ maxPn := fun x hx => hl x (List.mem_of_mem_take (by rw [hk]; exact hx))
  clear hk
  induction k generalizing s with
  | nil => exact hs
  | cons x r ih =>
    have h1 := hk' x (List.mem_cons_self ..)
    exact ih (mrg s x) (by simp only [mrg]; omega) (fun y hy => hk' y (List.mem_cons_of_mem _ hy))
theorem addP_length (l : List Sp) (s : Sp) : (addP l s).length = l.length + 1 - eatN s (l.drop (skipN s l)) := by
  have h1 := skipN_le s l
  have h2 := eatN_le s (l.drop (skipN s l))
  simp only [List.length_drop] at h2
  simp [addP]
  omega
theorem addP_le (l : List Sp) (s : Sp) : (addP l s).length ≤ l.length + 1 := by rw [addP_length]; omega
theorem take_snoc {α : Type} (l : List α) (k : Nat) (h : k < l.length) : l.take (k + 1) = l.take k ++ [l[k]] := List.take_succ_eq_append_getElem h
theorem Good.span {l : List Sp} (h : Good l) : ∀ x ∈ l, IsSpan x := by
  intro x hx
  obtain ⟨i, hi, rfl⟩ := List.getElem_of_mem hx
  exact (h i hi).1

end Go.Proofs.Ytilgekmpkoohaaa
