/-
  Which numbers are lost, in plain Lean.
-/
import Derived.Test.YteigflkpopcjkaaLedP
namespace Go.Proofs.Yteigflkpopcjkaa
set_option linter.unusedSimpArgs false
set_option linter.unusedVariables false
set_option linter.unnecessarySimpa false
open Go.RowKit

def ssub (a b : Int) : Int := if a < b then 0 else a - b
def sadd (a b : Int) : Int := min (a + b) 18446744073709551615

namespace Loss
def cand (largest : Int) (x : Snt) : Prop := x.state = 1 ∧ x.pn < largest
instance (largest : Int) (x : Snt) : Decidable (cand largest x) := by unfold cand; infer_instance
def gone (largest now window : Int) (x : Snt) : Prop := 3 ≤ largest - x.pn ∨ window ≤ ssub now x.at_
instance (largest now window : Int) (x : Snt) : Decidable (gone largest now window x) := by unfold gone; infer_instance
def lost (largest now window : Int) : List Snt → List Int
  | [] => []
  | x :: l => if cand largest x ∧ gone largest now window x then x.pn :: lost largest now window l else lost largest now window l
def next (largest now window : Int) : List Snt → Int
  | [] => 18446744073709551615
  | x :: l => if cand largest x ∧ ¬ gone largest now window x then min (sadd x.at_ window) (next largest now window l) else next largest now window l
theorem next_le (largest now window : Int) (l : List Snt) : next largest now window l ≤ 18446744073709551615 := by
  induction l with
  | nil => simp [next]
  | cons x l ih => simp only [next]; split <;> omega
theorem lost_snoc (largest now window : Int) (l : List Snt) (x : Snt) : lost largest now window (l ++ [x]) = lost largest now window l ++ (if cand largest x ∧ gone largest now window x then [x.pn] else []) := by
  induction l with
  | nil => simp [lost]
  | cons y l ih => simp only [List.cons_append, lost, ih]; split <;> simp
theorem next_snoc (largest now window : Int) (l : List Snt) (x : Snt) : next largest now window (l ++ [x]) = (if cand largest x ∧ ¬ gone largest now window x then min (next largest now window l) (sadd x.at_ window) else next largest now window l) := by
  induction l with
  | nil =>
    simp only [List.nil_append, next]
    split
    · unfold sadd; omega
    · rfl
  | cons y l ih =>
    simp only [List.cons_append, next, ih]
    split <;> split <;> omega
theorem lost_take (largest now window : Int) (l : List Snt) (k : Nat) (h : k < l.length) : lost largest now window (l.take (k + 1)) = lost largest now window (l.take k) ++ (if cand largest l[k] ∧ gone largest now window l[k] then [l[k].pn] else []) := by
  rw [List.take_succ_eq_append_getElem h, lost_snoc]
theorem next_take (largest now window : Int) (l : List Snt) (k : Nat) (h : k < l.length) : next largest now window (l.take (k + 1)) = (if cand largest l[k] ∧ ¬ gone largest now window l[k] then min (next largest now window (l.take k)) (sadd l[k].at_ window) else next largest now window (l.take k)) := by
  rw [List.take_succ_eq_append_getElem h, next_snoc]
theorem lost_len (largest now window : Int) (l : List Snt) : (lost largest now window l).length ≤ l.length := by
  induction l with
  | nil => simp [lost]
  | cons x l ih => simp only [lost]; split <;> simp <;> omega
theorem next_nonneg (largest now window : Int) (l : List Snt) (hw : 0 ≤ window) (h : ∀ x ∈ l, 0 ≤ x.at_) : 0 ≤ next largest now window l := by
  induction l with
  | nil => simp [next]
  | cons x l ih =>
    have := ih (fun y hy => h y (List.mem_cons_of_mem _ hy))
    have := h x (by simp)
    simp only [next]
    split
    · unfold sadd; omega
    · assumption
end Loss
end Go.Proofs.Yteigflkpopcjkaa
