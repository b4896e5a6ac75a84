/-
  What is wrong with an acknowledgment, plainly.
-/
import Derived.Test.YteigflkpopcjkaaPrfP
namespace Go.Proofs.Yteigflkpopcjkaa
set_option linter.unusedSimpArgs false
set_option linter.unusedVariables false
set_option linter.unnecessarySimpa false
open Go.RowKit

def aheadP (n : Int) : List Sp → Option Int
  | [] => none
  | c :: r => if n ≤ c.2 then some (max c.1 n) else aheadP n r
def skipP (sp : List Sp) : List Snt → Option Int
  | [] => none
  | x :: r => if x.state = 4 ∧ hasP sp x.pn = true then some x.pn else skipP sp r
theorem aheadP_drop {n : Int} {cl : List Sp} {k : Nat} (hk : k < cl.length) : aheadP n (cl.drop k) = if n ≤ cl[k].2 then some (max cl[k].1 n) else aheadP n (cl.drop (k + 1)) := by
  rw [List.drop_eq_getElem_cons hk]; rfl
theorem skipP_drop {sp : List Sp} {l : List Snt} {k : Nat} (hk : k < l.length) : skipP sp (l.drop k) = if l[k].state = 4 ∧ hasP sp l[k].pn = true then some l[k].pn else skipP sp (l.drop (k + 1)) := by
  rw [List.drop_eq_getElem_cons hk]; rfl
def sumsP (a : Ak) (s : LS) : Int × Int := if (s.sum a.sp a.mm).1 ≠ a.xo then (6, 0) else if (s.sum a.sp a.mm).2.1 ≠ a.od then (7, 0) else (0, 0)
/-- From the second test on: what is told of those from the j-th on. -/
def skipsP (a : Ak) (s : LS) (o : Option Int) : Int × Int := match o with
  | some p => (5, p)
  | none => sumsP a s
def aheadsP (a : Ak) (s : LS) (o : Option Int) : Int × Int := match o with
  | some p => (4, p)
  | none => skipsP a s (skipP a.sp s.kept)
def Ak.check (a : Ak) (s : LS) : Int × Int := if mayB a.sp a.mm = false then (1, 0) else if a.lo < s.low then (2, 0) else aheadsP a s (aheadP s.all.length a.sp)
theorem Ak.check_may {a : Ak} {s : LS} (h : mayB a.sp a.mm = false) : a.check s = (1, 0) := by unfold Ak.check; rw [if_pos h]
theorem Ak.check_low {a : Ak} {s : LS} (h : mayB a.sp a.mm = true) (h1 : a.lo < s.low) : a.check s = (2, 0) := by unfold Ak.check; rw [if_neg (by simp [h]), if_pos h1]
theorem Ak.check_go {a : Ak} {s : LS} (h : mayB a.sp a.mm = true) (h1 : ¬ a.lo < s.low) : a.check s = aheadsP a s (aheadP s.all.length a.sp) := by unfold Ak.check; rw [if_neg (by simp [h]), if_neg h1]
theorem aheads_yes {a : Ak} {s : LS} {k : Nat} (hk : k < a.sp.length) (h : (s.all.length : Int) ≤ a.sp[k].2) : aheadsP a s (aheadP s.all.length (a.sp.drop k)) = (4, max a.sp[k].1 s.all.length) := by rw [aheadP_drop hk, if_pos h]; rfl
theorem aheads_no {a : Ak} {s : LS} {k : Nat} (hk : k < a.sp.length) (h : ¬ (s.all.length : Int) ≤ a.sp[k].2) : aheadsP a s (aheadP s.all.length (a.sp.drop k)) = aheadsP a s (aheadP s.all.length (a.sp.drop (k + 1))) := by rw [aheadP_drop hk, if_neg h]
theorem aheads_end (a : Ak) (s : LS) : aheadsP a s (aheadP s.all.length (a.sp.drop a.sp.length)) = skipsP a s (skipP a.sp s.kept) := by simp [aheadP, aheadsP]
theorem skips_yes {a : Ak} {s : LS} {k : Nat} (hk : k < s.kept.length) (h : s.kept[k].state = 4) (h1 : hasP a.sp s.kept[k].pn = true) : skipsP a s (skipP a.sp (s.kept.drop k)) = (5, s.kept[k].pn) := by rw [skipP_drop hk, if_pos ⟨h, h1⟩]; rfl
theorem skips_no {a : Ak} {s : LS} {k : Nat} (hk : k < s.kept.length) (h : ¬ (s.kept[k].state = 4 ∧ hasP a.sp s.kept[k].pn = true)) : skipsP a s (skipP a.sp (s.kept.drop k)) = skipsP a s (skipP a.sp (s.kept.drop (k + 1))) := by rw [skipP_drop hk, if_neg h]
theorem skips_end (a : Ak) (s : LS) : skipsP a s (skipP a.sp (s.kept.drop s.kept.length)) = sumsP a s := by simp [skipP, skipsP]
theorem sums_x {a : Ak} {s : LS} (h : (s.sum a.sp a.mm).1 ≠ a.xo) : sumsP a s = (6, 0) := by unfold sumsP; rw [if_pos h]
theorem sums_o {a : Ak} {s : LS} (h : (s.sum a.sp a.mm).1 = a.xo) (h1 : (s.sum a.sp a.mm).2.1 ≠ a.od) : sumsP a s = (7, 0) := by unfold sumsP; rw [if_neg (by simp [h]), if_pos h1]
theorem sums_ok {a : Ak} {s : LS} (h : (s.sum a.sp a.mm).1 = a.xo) (h1 : (s.sum a.sp a.mm).2.1 = a.od) : sumsP a s = (0, 0) := by unfold sumsP; rw [if_neg (by simp [h]), if_neg (by simp [h1])]

end Go.Proofs.Yteigflkpopcjkaa
