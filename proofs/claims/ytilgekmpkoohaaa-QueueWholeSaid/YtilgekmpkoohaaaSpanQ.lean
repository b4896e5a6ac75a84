/-
  Rows, plainly: how many numbers, which ones, parts of them.
-/
import Derived.Test.YtilgekmpkoohaaaSpanP
namespace Go.Proofs.Ytilgekmpkoohaaa
set_option linter.unusedSimpArgs false
set_option linter.unusedVariables false
set_option linter.unnecessarySimpa false
open Go.RowKit

def sumTo (l : List Sp) (k : Nat) : Int := (l.take k).foldl (fun n s => n + (s.2 - s.1 + 1)) 0
theorem sumTo_zero (l : List Sp) : sumTo l 0 = 0 := by simp [sumTo]
theorem sumTo_succ (l : List Sp) (k : Nat) (h : k < l.length) : sumTo l (k + 1) = sumTo l k + (l[k].2 - l[k].1 + 1) := by
  unfold sumTo
  rw [List.take_succ_eq_append_getElem h, List.foldl_append]
  rfl
theorem sumTo_bounds (l : List Sp) (hg : Good l) (h0 : ∀ s ∈ l, 0 ≤ s.1) (k : Nat) (hk : k ≤ l.length) : 0 ≤ sumTo l k ∧ (∀ _ : 0 < k, sumTo l k ≤ l[k - 1].2 + 1) := by
  induction k with
  | zero => simp [sumTo_zero]
  | succ k ih =>
    obtain ⟨i1, i2⟩ := ih (by omega)
    obtain ⟨⟨g1, g2⟩, g3⟩ := hg k (by omega)
    have hp := h0 _ (List.getElem_mem (show k < l.length by omega))
    rw [sumTo_succ l k (by omega)]
    refine ⟨by omega, fun _ => ?_⟩
    simp only [Nat.add_sub_cancel]
    by_cases hk0 : 0 < k
    · have := i2 hk0
      have := g3 hk0
      omega
    · obtain rfl : k = 0 := by omega
      rw [sumTo_zero]
      omega
theorem sumTo_le (l : List Sp) (hg : Good l) (h0 : ∀ s ∈ l, 0 ≤ s.1) (k : Nat) (hk : k ≤ l.length) : 0 ≤ sumTo l k ∧ sumTo l k ≤ 4611686018427387904 := by
  obtain ⟨h1, h2⟩ := sumTo_bounds l hg h0 k hk
  refine ⟨h1, ?_⟩
  by_cases hk0 : 0 < k
  · have := h2 hk0
    have := (hg (k - 1) (by omega)).1.2
    rw [maxPn_eq] at this
    omega
  · obtain rfl : k = 0 := by omega
    rw [sumTo_zero]; omega

def inSp (n : Int) (s : Sp) : Bool := decide (s.1 ≤ n) && decide (n ≤ s.2)
def hasP (l : List Sp) (n : Int) : Bool := l.any (inSp n)
theorem any_take_succ {α : Type} (f : α → Bool) (l : List α) (k : Nat) (h : k < l.length) : (l.take (k + 1)).any f = ((l.take k).any f || f l[k]) := by
  rw [List.take_succ_eq_append_getElem h, List.any_append]; simp
theorem hasP_yes {l : List Sp} {n : Int} {k : Nat} (hk : k < l.length) (h : l[k].1 ≤ n ∧ n ≤ l[k].2) : hasP l n = true := by
  unfold hasP
  rw [List.any_eq_true]
  exact ⟨_, List.getElem_mem hk, by simp [inSp, h.1, h.2]⟩
def NoneTo (l : List Sp) (n : Int) (k : Nat) : Prop := ∀ i, (h : i < l.length) → i < k → ¬ (l[i].1 ≤ n ∧ n ≤ l[i].2)
theorem NoneTo.zero (l : List Sp) (n : Int) : NoneTo l n 0 := fun i _ h => absurd h (by omega)
theorem NoneTo.step {l : List Sp} {n : Int} {k : Nat} (h : NoneTo l n k) (hk : k < l.length) (h1 : ¬ (l[k].1 ≤ n ∧ n ≤ l[k].2)) : NoneTo l n (k + 1) := by
  intro i hi hik
  by_cases e : i = k
  · subst e; exact h1
  · exact h i hi (by omega)
theorem hasP_no {l : List Sp} {n : Int} (h : NoneTo l n l.length) : hasP l n = false := by
  unfold hasP
  rw [List.any_eq_false]
  intro x hx
  obtain ⟨i, hi, rfl⟩ := List.getElem_of_mem hx
  have := h i hi hi
  simp only [inSp, Bool.and_eq_true, decide_eq_true_eq]
  exact this

theorem flatMap_take_succ {α β : Type} (f : α → List β) (l : List α) (k : Nat) (h : k < l.length) : (l.take (k + 1)).flatMap f = (l.take k).flatMap f ++ f l[k] := by
  rw [List.take_succ_eq_append_getElem h, List.flatMap_append]; simp

def from1 (lo : Int) (s : Sp) : List Sp := if lo ≤ s.2 then [(max s.1 lo, s.2)] else []
def fromP (l : List Sp) (lo : Int) : List Sp := l.flatMap (from1 lo)
theorem from1_yes {lo : Int} {s : Sp} (h : lo ≤ s.2) : from1 lo s = [(max s.1 lo, s.2)] := by simp [from1, h]
theorem from1_no {lo : Int} {s : Sp} (h : ¬ lo ≤ s.2) : from1 lo s = [] := by simp [from1, h]
theorem flatMap_len {α β : Type} (f : α → List β) (l : List α) (m : Nat) (h : ∀ x ∈ l, (f x).length ≤ m) : (l.flatMap f).length ≤ l.length * m := by
  induction l with
  | nil => simp
  | cons a l ih =>
    simp only [List.flatMap_cons, List.length_append, List.length_cons]
    have h1 := h a (List.mem_cons_self ..)
    have h2 := ih (fun x hx => h x (List.mem_cons_of_mem _ hx))
    rw [Nat.add_mul]
    omega
theorem fromP_len (l : List Sp) (lo : Int) : (fromP l lo).length ≤ l.length := by
  have := flatMap_len (from1 lo) l 1 (fun x _ => by unfold from1; split <;> simp)
  unfold fromP
  omega

/-- What a span leaves of another one. -/
def cut1 (s x : Sp) : List Sp :=
  if x.2 < s.1 ∨ s.2 < x.1 then [x] else (if x.1 < s.1 then [(x.1, s.1 - 1)] else []) ++ (if s.2 < x.2 then [(s.2 + 1, x.2)] else [])
def cutP (l : List Sp) (s : Sp) : List Sp := l.flatMap (cut1 s)

theorem cut_len (l : List Sp) (s : Sp) (hs : s.1 ≤ s.2) (h1 : ∀ x ∈ l, x.1 ≤ x.2) (h2 : l.Pairwise (fun a b => a.2 + 1 < b.1)) : (cutP l s).length ≤ l.length + 1 := by
  induction l with
  | nil => simp [cutP]
  | cons x r ih =>
    have i := ih (fun y hy => h1 y (List.mem_cons_of_mem _ hy)) (List.pairwise_cons.1 h2).2
    have hx := h1 x (List.mem_cons_self ..)
    simp only [cutP, List.flatMap_cons, List.length_append, List.length_cons] at i ⊢
    by_cases hc : (cut1 s x).length ≤ 1
    · omega
    · have h3 : s.2 < x.2 := by
        unfold cut1 at hc
        split at hc
        · simp at hc
        · split at hc <;> split at hc <;> simp at hc
          assumption
      have h4 : (r.flatMap (cut1 s)).length ≤ r.length * 1 := flatMap_len _ _ _ (fun y hy => by
        have h5 := (List.pairwise_cons.1 h2).1 y hy
        unfold cut1
        rw [if_pos (by omega)]
        simp)
      have h6 : (cut1 s x).length ≤ 2 := by
        unfold cut1
        split
        · simp
        · split <;> (try split) <;> simp
      omega

def lastP (l : List Sp) (n : Int) : List Sp := if n < 1 then [] else l.drop (l.length - n.toNat)
end Go.Proofs.Ytilgekmpkoohaaa
