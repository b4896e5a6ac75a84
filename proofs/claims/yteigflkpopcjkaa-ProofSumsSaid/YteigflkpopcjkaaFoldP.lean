/-
  The running sums of a list, plainly.
-/
import Derived.Test.YteigflkpopcjkaaBase
namespace Go.Proofs.Yteigflkpopcjkaa
set_option linter.unusedSimpArgs false
set_option linter.unusedVariables false
set_option linter.unnecessarySimpa false
open Go.RowKit

section
variable {α β : Type}
def scanAt (f : β → α → β) (z : β) (l : List α) (k : Nat) : β := (l.take k).foldl f z
def scan (f : β → α → β) (z : β) (l : List α) : List β := (List.range (l.length + 1)).map (scanAt f z l)
/-- After k rounds: the first k + 1 sums, the rest as made. -/
def part (f : β → α → β) (z y : β) (l : List α) (k : Nat) : List β := (List.range (k + 1)).map (scanAt f z l) ++ List.replicate (l.length - k) y

@[simp] theorem scan_length (f : β → α → β) (z : β) (l : List α) : (scan f z l).length = l.length + 1 := by simp [scan]
@[simp] theorem scanAt_zero (f : β → α → β) (z : β) (l : List α) : scanAt f z l 0 = z := by simp [scanAt]
theorem scanAt_succ (f : β → α → β) (z : β) (l : List α) (k : Nat) (h : k < l.length) : scanAt f z l (k + 1) = f (scanAt f z l k) l[k] := by
  unfold scanAt
  rw [List.take_succ_eq_append_getElem h, List.foldl_append]
  rfl
theorem scanAt_succD (f : β → α → β) (z : β) (l : List α) (k : Nat) (d : α) (h : k < l.length) : scanAt f z l (k + 1) = f (scanAt f z l k) (l.getD k d) := by
  rw [scanAt_succ f z l k h]; simp [h]
theorem scan_get (f : β → α → β) (z d : β) (l : List α) (k : Nat) (h : k ≤ l.length) : (scan f z l).getD k d = scanAt f z l k := by
  have hk : k < l.length + 1 := by omega
  simp [scan, List.getD, hk]
theorem part_length (f : β → α → β) (z y : β) (l : List α) (k : Nat) (h : k ≤ l.length) : (part f z y l k).length = l.length + 1 := by simp [part]; omega
theorem part_zero (f : β → α → β) (z : β) (l : List α) : part f z z l 0 = List.replicate (l.length + 1) z := by simp [part, List.replicate_succ]
theorem part_end (f : β → α → β) (z y : β) (l : List α) : part f z y l l.length = scan f z l := by simp [part, scan]
theorem part_at (f : β → α → β) (z y d : β) (l : List α) (k : Nat) : (part f z y l k).getD k d = scanAt f z l k := by
  simp [part, List.getD, List.getElem?_append_left]
theorem part_set (f : β → α → β) (z y : β) (l : List α) (k : Nat) (h : k < l.length) : (part f z y l k).set (k + 1) (scanAt f z l (k + 1)) = part f z y l (k + 1) := by
  unfold part
  rw [List.set_append_right _ _ (by simp)]
  have e : l.length - k = (l.length - (k + 1)) + 1 := by omega
  rw [e, List.replicate_succ]
  simp [List.range_succ]
theorem scan_take (f : β → α → β) (z : β) (l : List α) (k : Nat) (h : k ≤ l.length) : scan f z (l.take k) = (List.range (k + 1)).map (scanAt f z l) := by
  unfold scan
  rw [List.length_take, Nat.min_eq_left h]
  apply List.map_congr_left
  intro j hj
  have : j ≤ k := by have := List.mem_range.1 hj; omega
  simp [scanAt, List.take_take, Nat.min_eq_left this]
theorem scan_take_succ (f : β → α → β) (z : β) (l : List α) (k : Nat) (h : k < l.length) : scan f z (l.take (k + 1)) = scan f z (l.take k) ++ [scanAt f z l (k + 1)] := by
  rw [scan_take f z l (k + 1) (by omega), scan_take f z l k (by omega), List.range_succ]
  simp
end

/-- One coin turned turns the sums behind it. -/
theorem scanAt_flip (l : List Bool) (k : Nat) (hk : k < l.length) (t : Nat) (ht : t ≤ l.length) :
    scanAt (· != ·) false (l.set k (!l[k])) t = if k < t then !(scanAt (· != ·) false l t) else scanAt (· != ·) false l t := by
  induction t with
  | zero => simp
  | succ t ih =>
    have ih := ih (by omega)
    rw [scanAt_succ _ _ _ _ (by simp; omega), scanAt_succ _ _ _ _ (by omega), ih, List.getElem_set]
    by_cases h1 : k = t
    · subst h1
      simp
    · by_cases h2 : k < t
      · rw [if_neg h1, if_pos h2, if_pos (by omega)]
        cases scanAt (· != ·) false l t <;> simp
      · rw [if_neg h1, if_neg h2, if_neg (by omega)]
end Go.Proofs.Yteigflkpopcjkaa
