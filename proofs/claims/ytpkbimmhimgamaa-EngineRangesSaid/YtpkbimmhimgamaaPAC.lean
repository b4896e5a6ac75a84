/-
  Part of the proof of EngineRanges.
-/
import Derived.Test.YtpkbimmhimgamaaPAA
import Derived.Deep.QuietTactic
import Derived.BigQuiet
import Derived.Deep.RegionHeld3
import Derived.Deep.RegionWith
namespace Go.Proofs.Ytpkbimmhimgamaa
set_option linter.unusedSimpArgs false
set_option linter.unusedVariables false
set_option linter.unnecessarySimpa false
open Go.RowKit
abbrev Sp := Int × Int
def maxPn : Int := 4611686018427387903
theorem maxPn_eq : maxPn = 4611686018427387903 := rfl

/-- The value of a span, the cells of a list of them. -/
def sv (s : Sp) : Value := .agg #[.int .u64 s.1, .int .u64 s.2]
def Ss (l : List Sp) : List Value := l.flatMap fun s => [.int .u64 s.1, .int .u64 s.2]
@[simp] theorem Ss_length (l : List Sp) : (Ss l).length = l.length * 2 := by
  induction l with
  | nil => rfl
  | cons a l ih => simp only [Ss, List.flatMap_cons, List.length_append, List.length_cons, List.length_nil] at ih ⊢; omega
theorem Ss_append (a b : List Sp) : Ss (a ++ b) = Ss a ++ Ss b := by simp [Ss]
theorem Ss_get (l : List Sp) (k : Nat) (h : k < l.length) : (Ss l)[k * 2]? = some (.int .u64 l[k].1) ∧ (Ss l)[k * 2 + 1]? = some (.int .u64 l[k].2) := by
  induction l generalizing k with
  | nil => simp at h
  | cons a l ih =>
    match k with
    | 0 => exact ⟨rfl, rfl⟩
    | k + 1 =>
      have := ih k (by simpa using h)
      have e : Ss (a :: l) = .int .u64 a.1 :: .int .u64 a.2 :: Ss l := rfl
      rw [e, show (k + 1) * 2 = k * 2 + 1 + 1 by omega, show k * 2 + 1 + 1 + 1 = (k * 2 + 1) + 1 + 1 by omega]
      simpa using this

theorem Rd.span {w : World} {A : Option Addr} {n c : Nat} {l : List Sp} {k : Nat} (h : Rd w 2 A n c (Ss l)) (hk : k < l.length) :
    ∃ b off, A = some ⟨b, off, none⟩ ∧ w.cell? ⟨b, off + k * 2, none⟩ = some (.int .u64 l[k].1) ∧ w.cell? ⟨b, off + k * 2 + 1, none⟩ = some (.int .u64 l[k].2) := by
  have hl := h.len
  rw [Ss_length] at hl
  obtain ⟨b, off, e, hc⟩ := h.on_ (by omega)
  obtain ⟨h1, h2⟩ := Ss_get l k hk
  exact ⟨b, off, e, hc _ _ h1, hc _ _ h2⟩
theorem Rd.spanat {w : World} {b off n c : Nat} {l : List Sp} {k : Nat} (h : Rd w 2 (some ⟨b, off, none⟩) n c (Ss l)) (hk : k < l.length) :
    w.cell? ⟨b, off + k * 2, none⟩ = some (.int .u64 l[k].1) ∧ w.cell? ⟨b, off + k * 2 + 1, none⟩ = some (.int .u64 l[k].2) := by
  obtain ⟨b', off', e, h1, h2⟩ := h.span hk
  injection e with e
  injection e with e1 e2
  subst e1
  subst e2
  exact ⟨h1, h2⟩

theorem Rd.sp {w : World} {A : Option Addr} {n c : Nat} {l : List Sp} {k : Nat} (h : Rd w 2 A n c (Ss l)) (hu : ∀ s ∈ l, isU64 s.1 ∧ isU64 s.2) (hk : k < l.length) :
    ∃ b off x y, A = some ⟨b, off, none⟩ ∧ Hid (l[k] = (x, y)) ∧ w.cell? ⟨b, off + k * 2, none⟩ = some (.int .u64 x) ∧ w.cell? ⟨b, off + k * 2 + 1, none⟩ = some (.int .u64 y) ∧
      0 ≤ x ∧ x < 18446744073709551616 ∧ 0 ≤ y ∧ y < 18446744073709551616 := by
  obtain ⟨b, off, e, h1, h2⟩ := h.span hk
  obtain ⟨⟨a1, a2⟩, ⟨a3, a4⟩⟩ := hu _ (List.getElem_mem hk)
  exact ⟨b, off, _, _, e, Lib.hid rfl, h1, h2, a1, a2, a3, a4⟩

theorem Rd.spat {w : World} {b off n c : Nat} {l : List Sp} {k : Nat} (h : Rd w 2 (some ⟨b, off, none⟩) n c (Ss l)) (hu : ∀ s ∈ l, isU64 s.1 ∧ isU64 s.2) (hk : k < l.length) :
    ∃ x y, Hid (l[k] = (x, y)) ∧ w.cell? ⟨b, off + k * 2, none⟩ = some (.int .u64 x) ∧ w.cell? ⟨b, off + k * 2 + 1, none⟩ = some (.int .u64 y) ∧
      0 ≤ x ∧ x < 18446744073709551616 ∧ 0 ≤ y ∧ y < 18446744073709551616 := by
  obtain ⟨h1, h2⟩ := h.spanat hk
  obtain ⟨⟨a1, a2⟩, ⟨a3, a4⟩⟩ := hu _ (List.getElem_mem hk)
  exact ⟨_, _, Lib.hid rfl, h1, h2, a1, a2, a3, a4⟩

/-! Spans and rows. -/
def IsSpan (s : Sp) : Prop := s.1 ≤ s.2 ∧ s.2 ≤ maxPn
instance (s : Sp) : Decidable (IsSpan s) := by unfold IsSpan; infer_instance
def isSpanB (s : Sp) : Bool := decide (IsSpan s)
/-- Both ends are numbers of 64 bits. -/
def U2 (s : Sp) : Prop := isU64 s.1 ∧ isU64 s.2
def U2s (l : List Sp) : Prop := ∀ s ∈ l, U2 s
theorem U2s.at_ {l : List Sp} (h : U2s l) {k : Nat} (hk : k < l.length) : U2 l[k] := h _ (List.getElem_mem hk)

/-- The first k are a row. -/
def GoodTo (l : List Sp) (k : Nat) : Prop := ∀ i, (h : i < l.length) → i < k → IsSpan l[i] ∧ (∀ _ : 0 < i, l[i - 1].2 + 1 < l[i].1)
def Good (l : List Sp) : Prop := ∀ i, (h : i < l.length) → IsSpan l[i] ∧ (∀ _ : 0 < i, l[i - 1].2 + 1 < l[i].1)
instance (l : List Sp) : Decidable (Good l) := by unfold Good; infer_instance
def goodB (l : List Sp) : Bool := decide (Good l)
theorem GoodTo.zero (l : List Sp) : GoodTo l 0 := fun i _ h => absurd h (by omega)
theorem GoodTo.all {l : List Sp} (h : GoodTo l l.length) : Good l := fun i hi => h i hi hi
theorem GoodTo.step {l : List Sp} {k : Nat} (h : GoodTo l k) (hk : k < l.length) (h1 : IsSpan l[k]) (h2 : ∀ _ : 0 < k, l[k - 1].2 + 1 < l[k].1) : GoodTo l (k + 1) := by
  intro i hi hik
  by_cases e : i = k
  · subst e; exact ⟨h1, h2⟩
  · exact h i hi (by omega)
theorem Good.to {l : List Sp} (h : Good l) (k : Nat) : GoodTo l k := fun i hi _ => h i hi
theorem goodB_false {l : List Sp} {k : Nat} (hk : k < l.length) (h : ¬ (IsSpan l[k] ∧ (∀ _ : 0 < k, l[k - 1].2 + 1 < l[k].1))) : goodB l = false := by
  unfold goodB
  rw [decide_eq_false_iff_not]
  exact fun hg => h (hg k hk)
theorem goodB_true {l : List Sp} (h : Good l) : goodB l = true := decide_eq_true h

/-! A row with a span. -/
def mrg (s x : Sp) : Sp := (min s.1 x.1, max s.2 x.2)
/-- How many lie wholly below s. -/
def skipN (s : Sp) : List Sp → Nat
  | [] => 0
  | x :: r => if x.2 + 1 < s.1 then skipN s r + 1 else 0
/-- How many of the next ones s takes in. -/
def eatN (s : Sp) : List Sp → Nat
  | [] => 0
  | x :: r => if x.1 ≤ s.2 + 1 then eatN (mrg s x) r + 1 else 0
/-- s with the first m of them. -/
def eaten (s : Sp) (r : List Sp) (m : Nat) : Sp := (r.take m).foldl mrg s
def addP (l : List Sp) (s : Sp) : List Sp :=
  l.take (skipN s l) ++ [eaten s (l.drop (skipN s l)) (eatN s (l.drop (skipN s l)))] ++ l.drop (skipN s l + eatN s (l.drop (skipN s l)))

theorem skipN_le (s : Sp) (l : List Sp) : skipN s l ≤ l.length := by
  induction l with
  | nil => simp [skipN]
  | cons x r ih => simp only [skipN, List.length_cons]; split <;> omega
theorem skipN_lt (s : Sp) (l : List Sp) (i : Nat) (h : i < skipN s l) (hi : i < l.length) : l[i].2 + 1 < s.1 := by
  induction l generalizing i with
  | nil => simp at hi
  | cons x r ih =>
    simp only [skipN] at h
    split at h
    · match i with
      | 0 => assumption
      | i + 1 => simpa using ih i (by omega) (by simpa using hi)
    · omega
theorem skipN_end (s : Sp) (l : List Sp) (hi : skipN s l < l.length) : ¬ l[skipN s l].2 + 1 < s.1 := by
  induction l with
  | nil => simp at hi
  | cons x r ih =>
    by_cases h : x.2 + 1 < s.1
    · have e : skipN s (x :: r) = skipN s r + 1 := by simp [skipN, h]
      simp only [e, List.length_cons] at hi ⊢
      simpa using ih (by omega)
    · have e : skipN s (x :: r) = 0 := by simp [skipN, h]
      simp only [e]
      simpa using h
theorem eatN_le (s : Sp) (l : List Sp) : eatN s l ≤ l.length := by
  induction l generalizing s with
  | nil => simp [eatN]
  | cons x r ih => simp only [eatN, List.length_cons]; have := ih (mrg s x); split <;> omega
theorem addP_length (l : List Sp) (s : Sp) : (addP l s).length = l.length + 1 - eatN s (l.drop (skipN s l)) := by
  have h1 := skipN_le s l
  have h2 := eatN_le s (l.drop (skipN s l))
  simp only [List.length_drop] at h2
  simp [addP]
  omega
theorem addP_le (l : List Sp) (s : Sp) : (addP l s).length ≤ l.length + 1 := by rw [addP_length]; omega
theorem Good.span {l : List Sp} (h : Good l) : ∀ x ∈ l, IsSpan x := by
  intro x hx
  obtain ⟨i, hi, rfl⟩ := List.getElem_of_mem hx
  exact (h i hi).1

end Go.Proofs.Ytpkbimmhimgamaa
namespace Go.Proofs.Ytpkbimmhimgamaa
set_option linter.unusedSimpArgs false
set_option linter.unusedVariables false
set_option linter.unnecessarySimpa false
open Go.RowKit
def inSp (n : Int) (s : Sp) : Bool := decide (s.1 ≤ n) && decide (n ≤ s.2)
def hasP (l : List Sp) (n : Int) : Bool := l.any (inSp n)
def NoneTo (l : List Sp) (n : Int) (k : Nat) : Prop := ∀ i, (h : i < l.length) → i < k → ¬ (l[i].1 ≤ n ∧ n ≤ l[i].2)
theorem NoneTo.zero (l : List Sp) (n : Int) : NoneTo l n 0 := fun i _ h => absurd h (by omega)
theorem NoneTo.step {l : List Sp} {n : Int} {k : Nat} (h : NoneTo l n k) (hk : k < l.length) (h1 : ¬ (l[k].1 ≤ n ∧ n ≤ l[k].2)) : NoneTo l n (k + 1) := by
  intro i hi hik
  by_cases e : i = k
  · subst e; exact h1
  · exact h i hi (by omega)
theorem flatMap_take_succ {α β : Type} (f : α → List β) (l : List α) (k : Nat) (h : k < l.length) : (l.take (k + 1)).flatMap f = (l.take k).flatMap f ++ f l[k] := by
  rw [List.take_succ_eq_append_getElem h, List.flatMap_append]; simp

def from1 (lo : Int) (s : Sp) : List Sp := if lo ≤ s.2 then [(max s.1 lo, s.2)] else []
def fromP (l : List Sp) (lo : Int) : List Sp := l.flatMap (from1 lo)
theorem from1_yes {lo : Int} {s : Sp} (h : lo ≤ s.2) : from1 lo s = [(max s.1 lo, s.2)] := by simp [from1, h]
theorem from1_no {lo : Int} {s : Sp} (h : ¬ lo ≤ s.2) : from1 lo s = [] := by simp [from1, h]
theorem flatMap_len {α β : Type} (f : α → List β) (l : List α) (m : Nat) (h : ∀ x ∈ l, (f x).length ≤ m) : (l.flatMap f).length ≤ l.length * m := by
  induction l with
  | nil => simp
  | cons a l ih =>
    simp only [List.flatMap_cons, List.length_append, List.length_cons]
    have h1 := h a (List.mem_cons_self ..)
    have h2 := ih (fun x hx => h x (List.mem_cons_of_mem _ hx))
    rw [Nat.add_mul]
    omega
theorem fromP_len (l : List Sp) (lo : Int) : (fromP l lo).length ≤ l.length := by
  have := flatMap_len (from1 lo) l 1 (fun x _ => by unfold from1; split <;> simp)
  unfold fromP
  omega

/-- What a span leaves of another one. -/
def cut1 (s x : Sp) : List Sp :=
  if x.2 < s.1 ∨ s.2 < x.1 then [x] else (if x.1 < s.1 then [(x.1, s.1 - 1)] else []) ++ (if s.2 < x.2 then [(s.2 + 1, x.2)] else [])
def cutP (l : List Sp) (s : Sp) : List Sp := l.flatMap (cut1 s)

theorem cut_len (l : List Sp) (s : Sp) (hs : s.1 ≤ s.2) (h1 : ∀ x ∈ l, x.1 ≤ x.2) (h2 : l.Pairwise (fun a b => a.2 + 1 < b.1)) : (cutP l s).length ≤ l.length + 1 := by
  induction l with
  | nil => simp [cutP]
  | cons x r ih =>
    have i := ih (fun y hy => h1 y (List.mem_cons_of_mem _ hy)) (List.pairwise_cons.1 h2).2
    have hx := h1 x (List.mem_cons_self ..)
    simp only [cutP, List.flatMap_cons, List.length_append, List.length_cons] at i ⊢
    by_cases hc : (cut1 s x).length ≤ 1
    · omega
    · have h3 : s.2 < x.2 := by
        unfold cut1 at hc
        split at hc
        · simp at hc
        · split at hc <;> split at hc <;> simp at hc
          assumption
      have h4 : (r.flatMap (cut1 s)).length ≤ r.length * 1 := flatMap_len _ _ _ (fun y hy => by
        have h5 := (List.pairwise_cons.1 h2).1 y hy
        unfold cut1
        rw [if_pos (by omega)]
        simp)
      have h6 : (cut1 s x).length ≤ 2 := by
        unfold cut1
        split
        · simp
        · split <;> (try split) <;> simp
      omega

end Go.Proofs.Ytpkbimmhimgamaa
namespace Go.Proofs.Ytpkbimmhimgamaa
set_option linter.unusedSimpArgs false
set_option linter.unusedVariables false
set_option linter.unnecessarySimpa false
open Go.RowKit
def Mem (n : Int) (l : List Sp) : Prop := ∃ s ∈ l, s.1 ≤ n ∧ n ≤ s.2
theorem hasP_iff (l : List Sp) (n : Int) : hasP l n = true ↔ Mem n l := by
  simp [hasP, Mem, List.any_eq_true, inSp]
theorem Mem_append (n : Int) (a b : List Sp) : Mem n (a ++ b) ↔ Mem n a ∨ Mem n b := by
  unfold Mem
  constructor
  · rintro ⟨s, hs, h⟩
    rcases List.mem_append.1 hs with hs | hs
    · exact .inl ⟨s, hs, h⟩
    · exact .inr ⟨s, hs, h⟩
  · rintro (⟨s, hs, h⟩ | ⟨s, hs, h⟩)
    · exact ⟨s, List.mem_append.2 (.inl hs), h⟩
    · exact ⟨s, List.mem_append.2 (.inr hs), h⟩
theorem Mem_cons (n : Int) (a : Sp) (l : List Sp) : Mem n (a :: l) ↔ (a.1 ≤ n ∧ n ≤ a.2) ∨ Mem n l := by
  unfold Mem
  simp
theorem Mem_nil (n : Int) : ¬ Mem n [] := by simp [Mem]

/-- A row by its pairs. -/
def Gd (l : List Sp) : Prop := (∀ x ∈ l, IsSpan x) ∧ l.Pairwise (fun a b => a.2 + 1 < b.1)
theorem Good.gd {l : List Sp} (h : Good l) : Gd l := by
  refine ⟨h.span, ?_⟩
  rw [List.pairwise_iff_getElem]
  intro i j hi hj hij
  induction j with
  | zero => omega
  | succ j ih =>
    have h1 := (h (j + 1) hj).2 (by omega)
    simp only [Nat.add_sub_cancel] at h1
    by_cases e : i = j
    · subst e; exact h1
    · have h2 := ih (by omega) (by omega)
      have h3 := (h j (by omega)).1.1
      omega
theorem Gd.good {l : List Sp} (h : Gd l) : Good l := by
  intro i hi
  refine ⟨h.1 _ (List.getElem_mem hi), fun h0 => ?_⟩
  exact List.pairwise_iff_getElem.1 h.2 (i - 1) i (by omega) hi (by omega)
theorem Gd.nil : Gd [] := ⟨(fun _ h => by cases h), List.Pairwise.nil⟩
theorem Gd.tail {a : Sp} {l : List Sp} (h : Gd (a :: l)) : Gd l := ⟨fun x hx => h.1 x (List.mem_cons_of_mem _ hx), (List.pairwise_cons.1 h.2).2⟩
theorem Gd.sub {l m : List Sp} (h : Gd l) (hs : m.Sublist l) : Gd m := ⟨fun x hx => h.1 x (hs.subset hx), h.2.sublist hs⟩

theorem mem_mrg (n : Int) (s x : Sp) (hs : s.1 ≤ s.2) (hx : x.1 ≤ x.2) (h1 : x.1 ≤ s.2 + 1) (h2 : s.1 ≤ x.2 + 1) :
    ((mrg s x).1 ≤ n ∧ n ≤ (mrg s x).2) ↔ (s.1 ≤ n ∧ n ≤ s.2) ∨ (x.1 ≤ n ∧ n ≤ x.2) := by
  simp only [mrg]
  omega

theorem eat_all (s : Sp) (r : List Sp) (hg : Gd r) (hs : IsSpan s) (ht : ∀ x ∈ r, s.1 ≤ x.2 + 1) :
    IsSpan (eaten s r (eatN s r)) ∧ (∀ n, ((eaten s r (eatN s r)).1 ≤ n ∧ n ≤ (eaten s r (eatN s r)).2) ↔ (s.1 ≤ n ∧ n ≤ s.2) ∨ Mem n (r.take (eatN s r))) ∧
      (∀ c, c < s.1 → (∀ x ∈ r, c < x.1) → c < (eaten s r (eatN s r)).1) ∧ (∀ x ∈ r.drop (eatN s r), (eaten s r (eatN s r)).2 + 1 < x.1) := by
  induction r generalizing s with
  | nil => exact ⟨hs, fun n => by simp [eatN, eaten, Mem_nil], fun c h _ => h, fun x hx => by simp at hx⟩
  | cons x r ih =>
    have hx := hg.1 x (List.mem_cons_self ..)
    have htx := ht x (List.mem_cons_self ..)
    have hp := (List.pairwise_cons.1 hg.2).1
    by_cases hc : x.1 ≤ s.2 + 1
    · have e : eatN s (x :: r) = eatN (mrg s x) r + 1 := by simp [eatN, hc]
      have e2 : eaten s (x :: r) (eatN (mrg s x) r + 1) = eaten (mrg s x) r (eatN (mrg s x) r) := by simp [eaten]
      rw [e, e2]
      have hm : IsSpan (mrg s x) := by
        have h1 := hs.1; have h2 := hs.2; have h3 := hx.1; have h4 := hx.2
        simp only [IsSpan, mrg]
        omega
      obtain ⟨i1, i2, i3, i4⟩ := ih (mrg s x) hg.tail hm (fun y hy => by
        have := hp y hy
        have := (hg.1 y (List.mem_cons_of_mem _ hy)).1
        have := hx.1
        simp only [mrg]; omega)
      refine ⟨i1, fun n => ?_, fun c h1 h2 => ?_, ?_⟩
      · rw [i2 n, mem_mrg n s x hs.1 hx.1 hc htx]
        simp only [List.take_succ_cons, Mem_cons]
        exact or_assoc
      · refine i3 c ?_ (fun y hy => h2 y (List.mem_cons_of_mem _ hy))
        have := h2 x (List.mem_cons_self ..)
        simp only [mrg]; omega
      · simpa using i4
    · have e : eatN s (x :: r) = 0 := by simp [eatN, hc]
      rw [e]
      refine ⟨by simpa [eaten] using hs, fun n => by simp [eaten, Mem_nil], fun c h _ => by simpa [eaten] using h, fun y hy => ?_⟩
      simp only [List.drop_zero] at hy
      rcases List.mem_cons.1 hy with rfl | hy
      · simp only [eaten, List.take_zero, List.foldl_nil]; omega
      · have := hp y hy
        have := hx.1
        simp only [eaten, List.take_zero, List.foldl_nil]; omega

theorem add_parts (l : List Sp) (s : Sp) (hl : Gd l) (hs : IsSpan s) : Gd (addP l s) ∧ ∀ n, Mem n (addP l s) ↔ Mem n l ∨ (s.1 ≤ n ∧ n ≤ s.2) := by
  have hr : Gd (l.drop (skipN s l)) := hl.sub (List.drop_sublist _ _)
  have ht : ∀ x ∈ l.drop (skipN s l), s.1 ≤ x.2 + 1 := by
    intro x hx
    obtain ⟨i, hi, rfl⟩ := List.getElem_of_mem hx
    rw [List.getElem_drop]
    simp only [List.length_drop] at hi
    have h0 := skipN_end s l (by omega)
    have hk := (hl.1 _ (List.getElem_mem (show skipN s l < l.length by omega))).1
    by_cases e : i = 0
    · subst e; simp only [Nat.add_zero]; omega
    · have := List.pairwise_iff_getElem.1 hl.2 (skipN s l) (skipN s l + i) (by omega) (by omega) (by omega)
      have := (hl.1 _ (List.getElem_mem (show skipN s l + i < l.length by omega))).1
      omega
  obtain ⟨i1, i2, i3, i4⟩ := eat_all s _ hr hs ht
  have hA : ∀ a ∈ l.take (skipN s l), a.2 + 1 < s.1 := by
    intro a ha
    obtain ⟨i, hi, rfl⟩ := List.getElem_of_mem ha
    simp only [List.length_take] at hi
    rw [List.getElem_take]
    exact skipN_lt s l i (by omega) (by omega)
  have hsplit : l = l.take (skipN s l) ++ (l.drop (skipN s l)).take (eatN s (l.drop (skipN s l))) ++ l.drop (skipN s l + eatN s (l.drop (skipN s l))) := by
    rw [List.append_assoc, ← List.drop_drop, List.take_append_drop, List.take_append_drop]
  have hAr : ∀ a ∈ l.take (skipN s l), ∀ x ∈ l.drop (skipN s l), a.2 + 1 < x.1 := by
    have := hl.2
    rw [← List.take_append_drop (skipN s l) l] at this
    exact (List.pairwise_append.1 this).2.2
  have hAe : ∀ a ∈ l.take (skipN s l), a.2 + 1 < (eaten s (l.drop (skipN s l)) (eatN s (l.drop (skipN s l)))).1 := fun a ha => i3 _ (hA a ha) (hAr a ha)
  rw [List.drop_drop] at i4
  unfold addP
  refine ⟨⟨fun x hx => ?_, ?_⟩, fun n => ?_⟩
  · rcases List.mem_append.1 hx with hx | hx
    · rcases List.mem_append.1 hx with hx | hx
      · exact hl.1 x (List.mem_of_mem_take hx)
      · obtain rfl := List.mem_singleton.1 hx; exact i1
    · exact hl.1 x (List.mem_of_mem_drop hx)
  · rw [List.pairwise_append, List.pairwise_append]
    refine ⟨⟨hl.2.sublist (List.take_sublist _ _), List.pairwise_singleton _ _, fun a ha b hb => ?_⟩, hl.2.sublist (List.drop_sublist _ _), fun a ha b hb => ?_⟩
    · obtain rfl := List.mem_singleton.1 hb; exact hAe a ha
    · rcases List.mem_append.1 ha with ha | ha
      · exact hAr a ha b (by rw [← List.drop_drop] at hb; exact List.mem_of_mem_drop hb)
      · obtain rfl := List.mem_singleton.1 ha; exact i4 b hb
  · have e : Mem n l ↔ Mem n (l.take (skipN s l)) ∨ Mem n ((l.drop (skipN s l)).take (eatN s (l.drop (skipN s l)))) ∨ Mem n (l.drop (skipN s l + eatN s (l.drop (skipN s l)))) := by
      conv => lhs; rw [hsplit]
      rw [Mem_append, Mem_append, or_assoc]
    rw [Mem_append, Mem_append, Mem_cons, i2 n, e]
    have := Mem_nil n
    constructor
    · rintro ((h | (h | h) | h) | h)
      · exact .inl (.inl h)
      · exact .inr h
      · exact .inl (.inr (.inl h))
      · exact absurd h this
      · exact .inl (.inr (.inr h))
    · rintro ((h | h | h) | h)
      · exact .inl (.inl h)
      · exact .inl (.inr (.inl (.inr h)))
      · exact .inr h
      · exact .inl (.inr (.inl (.inl h)))

/-- A row is determined by its numbers. -/
theorem Gd.ext {l m : List Sp} (hl : Gd l) (hm : Gd m) (h : ∀ n, Mem n l ↔ Mem n m) : l = m := by
  induction l generalizing m with
  | nil =>
    cases m with
    | nil => rfl
    | cons y q => exact absurd ((h y.1).2 ((Mem_cons ..).2 (.inl ⟨Int.le_refl _, (hm.1 y (List.mem_cons_self ..)).1⟩))) (Mem_nil _)
  | cons x r ih =>
    cases m with
    | nil => exact absurd ((h x.1).1 ((Mem_cons ..).2 (.inl ⟨Int.le_refl _, (hl.1 x (List.mem_cons_self ..)).1⟩))) (Mem_nil _)
    | cons y q =>
      have hx := (hl.1 x (List.mem_cons_self ..)).1
      have hy := (hm.1 y (List.mem_cons_self ..)).1
      have gr : ∀ n, Mem n r → x.2 + 1 < n := by
        rintro n ⟨s, hs, h1, h2⟩
        have := (List.pairwise_cons.1 hl.2).1 s hs
        omega
      have gq : ∀ n, Mem n q → y.2 + 1 < n := by
        rintro n ⟨s, hs, h1, h2⟩
        have := (List.pairwise_cons.1 hm.2).1 s hs
        omega
      have a1 := (Mem_cons ..).1 ((h x.1).1 ((Mem_cons ..).2 (.inl ⟨Int.le_refl _, hx⟩)))
      have a2 := (Mem_cons ..).1 ((h y.1).2 ((Mem_cons ..).2 (.inl ⟨Int.le_refl _, hy⟩)))
      have e1 : x.1 = y.1 := by
        rcases a1 with a1 | a1 <;> rcases a2 with a2 | a2
        · omega
        · have := gr _ a2; omega
        · have := gq _ a1; omega
        · have := gr _ a2; have := gq _ a1; omega
      have e2 : x.2 = y.2 := by
        rcases Int.lt_trichotomy x.2 y.2 with hc | hc | hc
        · have := (Mem_cons ..).1 ((h (x.2 + 1)).2 ((Mem_cons ..).2 (.inl ⟨by omega, by omega⟩)))
          rcases this with h1 | h1
          · omega
          · have := gr _ h1; omega
        · exact hc
        · have := (Mem_cons ..).1 ((h (y.2 + 1)).1 ((Mem_cons ..).2 (.inl ⟨by omega, by omega⟩)))
          rcases this with h1 | h1
          · omega
          · have := gq _ h1; omega
      have exy : x = y := Prod.ext e1 e2
      subst exy
      congr 1
      refine ih hl.tail hm.tail (fun n => ⟨fun hn => ?_, fun hn => ?_⟩)
      · have := gr n hn
        rcases (Mem_cons ..).1 ((h n).1 ((Mem_cons ..).2 (.inr hn))) with h1 | h1
        · omega
        · exact h1
      · have := gq n hn
        rcases (Mem_cons ..).1 ((h n).2 ((Mem_cons ..).2 (.inr hn))) with h1 | h1
        · omega
        · exact h1
end Go.Proofs.Ytpkbimmhimgamaa
namespace Go.Proofs.Ytpkbimmhimgamaa
set_option linter.unusedSimpArgs false
set_option linter.unusedVariables false
set_option linter.unnecessarySimpa false
open Go.RowKit
set_option maxHeartbeats 800000 in
theorem right_any (s : Sp) (w : World) (hs : U2 s) :
    Calls Try.prog 90 #[sv s] w fun e w' => e = .returned (.bool (isSpanB s)) ∧ Below w.heap.size w w' := by
  obtain ⟨lo, hi⟩ := s
  obtain ⟨⟨h1, h2⟩, ⟨h3, h4⟩⟩ := hs
  unfold sv
  simp only at h1 h2 h3 h4 ⊢
  by_cases hle : lo ≤ hi
  · by_cases hm : hi ≤ 4611686018427387903
    · have HB := Lib.hid (show isSpanB (lo, hi) = true from decide_eq_true ⟨hle, hm⟩)
      go_enter Try.func90, Try.ntmps90
      go_wp2
      go_ret
      exact ⟨ret_bool (by rw [HB.out]), (Below.refl _ _).alloc (Nat.le_refl _) _⟩
    · have HB := Lib.hid (show isSpanB (lo, hi) = false from decide_eq_false (fun h => hm h.2))
      go_enter Try.func90, Try.ntmps90
      go_wp2
      go_ret
      exact ⟨ret_bool (by rw [HB.out]), (Below.refl _ _).alloc (Nat.le_refl _) _⟩
  · have HB := Lib.hid (show isSpanB (lo, hi) = false from decide_eq_false (fun h => hle h.1))
    go_enter Try.func90, Try.ntmps90
    go_wp2
    go_ret
    exact ⟨ret_bool (by rw [HB.out]), (Below.refl _ _).alloc (Nat.le_refl _) _⟩

/-- 'right', both answers. -/
theorem right_yes (x y : Int) (w : World) (h1 : 0 ≤ x) (h2 : x < 18446744073709551616) (h3 : 0 ≤ y) (h4 : y < 18446744073709551616) (h : IsSpan (x, y)) :
    Calls Try.prog 90 #[.agg #[.int .u64 x, .int .u64 y]] w fun e w' => e = .returned (.bool true) ∧ Below w.heap.size w w' := by
  have := right_any (x, y) w ⟨⟨h1, h2⟩, ⟨h3, h4⟩⟩
  rwa [show isSpanB (x, y) = true from decide_eq_true h] at this
theorem right_no (x y : Int) (w : World) (h1 : 0 ≤ x) (h2 : x < 18446744073709551616) (h3 : 0 ≤ y) (h4 : y < 18446744073709551616) (h : ¬ IsSpan (x, y)) :
    Calls Try.prog 90 #[.agg #[.int .u64 x, .int .u64 y]] w fun e w' => e = .returned (.bool false) ∧ Below w.heap.size w w' := by
  have := right_any (x, y) w ⟨⟨h1, h2⟩, ⟨h3, h4⟩⟩
  rwa [show isSpanB (x, y) = false from decide_eq_false h] at this

set_option maxHeartbeats 1600000 in
theorem good_any (A : Option Addr) (n c : Nat) (l : List Sp) (w : World) (h : Rd w 2 A n c (Ss l)) (hu : U2s l) :
    Calls Try.prog 89 #[.slice A n c] w fun e w' => e = .returned (.bool (goodB l)) ∧ Below w.heap.size w w' := by
  have hl := h.len
  rw [Ss_length] at hl
  obtain rfl : l.length = n := by omega
  clear hl
  have hmax := h.cap
  have hmax' := h.max
  unfold maxLen at hmax'
  go_enter Try.func89, Try.ntmps89
  go_wp2
  go_loopw [7] (fun i wr => ∃ k : Nat, k ≤ l.length ∧ i = .int .i64 k ∧ GoodTo l k ∧ Below w.heap.size w wr) (fun i _ => l.length - (intOf i).toNat)
  case atStart => exact ⟨0, Nat.zero_le _, rfl, GoodTo.zero l, Below.refl _ _⟩
  case round =>
    obtain ⟨k, hk, rfl, hg, hb⟩ := hrel
    have Hg := Lib.hid hg
    clear hg
    by_cases hlt : k < l.length
    · obtain ⟨b, off, x, y, rfl, He, hc1, hc2, u1, u2, u3, u4⟩ := (h.below hb).sp hu hlt
      by_cases hs : IsSpan (x, y)
      · obtain ⟨hs1, hs2⟩ := hs
        have Hs : Hid (IsSpan (x, y)) := ⟨hs1, hs2⟩
        simp only [maxPn_eq] at hs1 hs2
        by_cases h0 : 0 < k
        · have hk1 : k - 1 < l.length := by omega
          obtain ⟨z, p, Hp, _, hp, _, _, p1, p2⟩ := (h.below hb).spat hu hk1
          have hpm : p ≤ 4611686018427387903 := by
            have := ((Hg.out (k - 1) hk1 (by omega)).1).2
            rw [Hp.out] at this
            exact this
          have Hy : Hid (p + 1 < x → GoodTo l (k + 1)) := fun hgap => Hg.out.step hlt (by rw [He.out]; exact Hs.out) (fun _ => by rw [He.out, Hp.out]; exact hgap)
          have Hn : Hid (¬ p + 1 < x → goodB l = false) := fun hgap => goodB_false hlt (fun h => hgap (by have := h.2 h0; rw [He.out, Hp.out] at this; exact this))
          go_wp2
          have hb1 : Below w.heap.size w (wr.alloc (.cells #[.int .u64 x, .int .u64 y] 142)) := hb.alloc hb.size _
          have c1 := mixc (cell_of_row _ wr.heap.size 0 _ _ _ (heap_alloc_new wr (.cells #[.int .u64 x, .int .u64 y] 142)))
          have c2 := mixc (cell_of_row _ wr.heap.size 1 _ _ _ (heap_alloc_new wr (.cells #[.int .u64 x, .int .u64 y] 142)))
          have c3 := mixc ((World.cell?_alloc_lt wr (.cells #[.int .u64 x, .int .u64 y] 142) _ (block_lt_of_cell hp)).trans hp)
          generalize wr.alloc (.cells #[.int .u64 x, .int .u64 y] 142) = w1 at *
          refine wp_region_below (by kernel_rfl) (by kernel_rfl) ?_
          repeat (first | go_big_quiet_step ((go_at_call 90; exact Calls.mix_of (right_yes x y _ u1 u2 u3 u4 Hs.out))) | quiet_step ((go_at_call 90; exact Calls.mix_of (right_yes x y _ u1 u2 u3 u4 Hs.out))))
          refine wpQuiet_nil ?_
          intro w2 hb2
          have hb3 : Below w.heap.size w w2 := hb1.trans (hb2.mono hb1.size)
          clear hb2 c1 c2 c3
          go_wp2
          · have hx : x ≤ p + 1 := by assumption
            go_ret
            exact ⟨ret_bool (Hn.out (by omega)).symm, hb3⟩
          · have hx : p + 1 < x := by assumption
            go_roundw
            case rel => exact ⟨k + 1, by omega, by go_num, Hy.out hx, hb3⟩
            case measure => simp [intOf]; omega
        · have Hn : Hid (GoodTo l (k + 1)) := Hg.out.step hlt (by rw [He.out]; exact Hs.out) (fun h => absurd h h0)
          go_wp2
          have hb1 : Below w.heap.size w (wr.alloc (.cells #[.int .u64 x, .int .u64 y] 142)) := hb.alloc hb.size _
          have c1 := mixc (cell_of_row _ wr.heap.size 0 _ _ _ (heap_alloc_new wr (.cells #[.int .u64 x, .int .u64 y] 142)))
          have c2 := mixc (cell_of_row _ wr.heap.size 1 _ _ _ (heap_alloc_new wr (.cells #[.int .u64 x, .int .u64 y] 142)))
          generalize wr.alloc (.cells #[.int .u64 x, .int .u64 y] 142) = w1 at *
          refine wp_region_below (by kernel_rfl) (by kernel_rfl) ?_
          repeat (first | go_big_quiet_step ((go_at_call 90; exact Calls.mix_of (right_yes x y _ u1 u2 u3 u4 Hs.out))) | quiet_step ((go_at_call 90; exact Calls.mix_of (right_yes x y _ u1 u2 u3 u4 Hs.out))))
          refine wpQuiet_nil ?_
          intro w2 hb2
          have hb3 : Below w.heap.size w w2 := hb1.trans (hb2.mono hb1.size)
          clear hb2 c1 c2
          go_wp2
          go_roundw
          case rel => exact ⟨k + 1, by omega, by go_num, Hn.out, hb3⟩
          case measure => simp [intOf]; omega
      · have Hn : Hid (goodB l = false) := goodB_false hlt (fun h => hs (by have := h.1; rw [He.out] at this; exact this))
        have Hs := Lib.hid hs
        clear hs
        go_wp2
        have hb1 : Below w.heap.size w (wr.alloc (.cells #[.int .u64 x, .int .u64 y] 142)) := hb.alloc hb.size _
        have c1 := mixc (cell_of_row _ wr.heap.size 0 _ _ _ (heap_alloc_new wr (.cells #[.int .u64 x, .int .u64 y] 142)))
        have c2 := mixc (cell_of_row _ wr.heap.size 1 _ _ _ (heap_alloc_new wr (.cells #[.int .u64 x, .int .u64 y] 142)))
        generalize wr.alloc (.cells #[.int .u64 x, .int .u64 y] 142) = w1 at *
        refine wp_region_below (by kernel_rfl) (by kernel_rfl) ?_
        repeat (first | go_big_quiet_step ((go_at_call 90; exact Calls.mix_of (right_no x y _ u1 u2 u3 u4 Hs.out))) | quiet_step ((go_at_call 90; exact Calls.mix_of (right_no x y _ u1 u2 u3 u4 Hs.out))))
        refine wpQuiet_nil ?_
        intro w2 hb2
        have hb3 : Below w.heap.size w w2 := hb1.trans (hb2.mono hb1.size)
        clear hb2 c1 c2
        go_wp2
        go_ret
        exact ⟨ret_bool Hn.out.symm, hb3⟩
    · obtain rfl : k = l.length := by omega
      have Hn : Hid (goodB l = true) := goodB_true Hg.out.all
      go_wp2
      go_ret
      exact ⟨ret_bool Hn.out.symm, hb⟩
end Go.Proofs.Ytpkbimmhimgamaa
