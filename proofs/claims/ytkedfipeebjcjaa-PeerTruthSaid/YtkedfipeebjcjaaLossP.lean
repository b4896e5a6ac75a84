/-
  Which numbers are lost, in plain Lean. · Two lists of numbers compared. · Walks of loss.Find and of the reference's.
-/
import Derived.Test.YtkedfipeebjcjaaLedP
import Derived.Test.YtkedfipeebjcjaaBytes
import Derived.Test.YtkedfipeebjcjaaLookR
namespace Go.Proofs.Ytkedfipeebjcjaa
set_option linter.unusedSimpArgs false
set_option linter.unusedVariables false
set_option linter.unnecessarySimpa false
open Go.RowKit

def ssub (a b : Int) : Int := if a < b then 0 else a - b
def sadd (a b : Int) : Int := min (a + b) 18446744073709551615

namespace Loss
def cand (largest : Int) (x : Snt) : Prop := x.state = 1 ∧ x.pn < largest
instance (largest : Int) (x : Snt) : Decidable (cand largest x) := by unfold cand; infer_instance
def gone (largest now window : Int) (x : Snt) : Prop := 3 ≤ largest - x.pn ∨ window ≤ ssub now x.at_
instance (largest now window : Int) (x : Snt) : Decidable (gone largest now window x) := by unfold gone; infer_instance
def lost (largest now window : Int) : List Snt → List Int
  | [] => []
  | x :: l => if cand largest x ∧ gone largest now window x then x.pn :: lost largest now window l else lost largest now window l
def next (largest now window : Int) : List Snt → Int
  | [] => 18446744073709551615
  | x :: l => if cand largest x ∧ ¬ gone largest now window x then min (sadd x.at_ window) (next largest now window l) else next largest now window l
theorem next_le (largest now window : Int) (l : List Snt) : next largest now window l ≤ 18446744073709551615 := by
  induction l with
  | nil => simp [next]
  | cons x l ih => simp only [next]; split <;> omega
theorem lost_snoc (largest now window : Int) (l : List Snt) (x : Snt) : lost largest now window (l ++ [x]) = lost largest now window l ++ (if cand largest x ∧ gone largest now window x then [x.pn] else []) := by
  induction l with
  | nil => simp [lost]
  | cons y l ih => simp only [List.cons_append, lost, ih]; split <;> simp
theorem next_snoc (largest now window : Int) (l : List Snt) (x : Snt) : next largest now window (l ++ [x]) = (if cand largest x ∧ ¬ gone largest now window x then min (next largest now window l) (sadd x.at_ window) else next largest now window l) := by
  induction l with
  | nil =>
    simp only [List.nil_append, next]
    split
    · unfold sadd; omega
    · rfl
  | cons y l ih =>
    simp only [List.cons_append, next, ih]
    split <;> split <;> omega
theorem lost_take (largest now window : Int) (l : List Snt) (k : Nat) (h : k < l.length) : lost largest now window (l.take (k + 1)) = lost largest now window (l.take k) ++ (if cand largest l[k] ∧ gone largest now window l[k] then [l[k].pn] else []) := by
  rw [List.take_succ_eq_append_getElem h, lost_snoc]
theorem next_take (largest now window : Int) (l : List Snt) (k : Nat) (h : k < l.length) : next largest now window (l.take (k + 1)) = (if cand largest l[k] ∧ ¬ gone largest now window l[k] then min (next largest now window (l.take k)) (sadd l[k].at_ window) else next largest now window (l.take k)) := by
  rw [List.take_succ_eq_append_getElem h, next_snoc]
theorem lost_len (largest now window : Int) (l : List Snt) : (lost largest now window l).length ≤ l.length := by
  induction l with
  | nil => simp [lost]
  | cons x l ih => simp only [lost]; split <;> simp <;> omega
theorem next_nonneg (largest now window : Int) (l : List Snt) (hw : 0 ≤ window) (h : ∀ x ∈ l, 0 ≤ x.at_) : 0 ≤ next largest now window l := by
  induction l with
  | nil => simp [next]
  | cons x l ih =>
    have := ih (fun y hy => h y (List.mem_cons_of_mem _ hy))
    have := h x (by simp)
    simp only [next]
    split
    · unfold sadd; omega
    · assumption
end Loss
end Go.Proofs.Ytkedfipeebjcjaa

namespace Go.Proofs.Ytkedfipeebjcjaa
set_option linter.unusedSimpArgs false
set_option linter.unusedVariables false
set_option linter.unnecessarySimpa false
open Go.RowKit

end Go.Proofs.Ytkedfipeebjcjaa

namespace Go.Proofs.Ytkedfipeebjcjaa
set_option linter.unusedSimpArgs false
set_option linter.unusedVariables false
set_option linter.unnecessarySimpa false
open Go.RowKit
attribute [local go_sem ↓] run_min_int run_max_int

theorem clk_after (t d : Int) (w : World) (ht : isU64 t) (hd : isU64 d) :
    Calls Try.prog 35 #[.int .u64 t, .int .u64 d] w fun e w' => e = .returned (.int .u64 (sadd t d)) ∧ Qt w w' := by
  go_enter Try.func35, Try.ntmps35
  go_wp2_with fail
  refine (sat_add t d w ht hd).mono ?_
  rintro e w1 ⟨rfl, n, rfl⟩
  go_wp2
  go_ret
  exact ⟨rfl, ⟨n, rfl⟩⟩
theorem refAdd_any (a b : Int) (w : World) (ha : isU64 a) (hb : isU64 b) :
    Calls Try.prog 56 #[.int .u64 a, .int .u64 b] w fun e w' => e = .returned (.int .u64 (sadd a b)) ∧ Qt w w' := by
  obtain ⟨a0, a1⟩ := ha
  obtain ⟨b0, b1⟩ := hb
  by_cases h : 18446744073709551615 - b < a
  · have HM := Lib.hid (show sadd a b = 18446744073709551615 by unfold sadd; omega)
    go_enter Try.func56, Try.ntmps56
    go_wp2
    go_ret
    exact ⟨ret_int HM.out.symm, Qt.refl _⟩
  · have HM := Lib.hid (show sadd a b = a + b by unfold sadd; omega)
    go_enter Try.func56, Try.ntmps56
    go_wp2
    go_ret
    exact ⟨ret_int HM.out.symm, Qt.refl _⟩

theorem u64_sadd {a b : Int} (ha : isU64 a) (hb : isU64 b) : isU64 (sadd a b) := by
  unfold isU64 sadd at *
  omega
theorem u64_ssub {a b : Int} (ha : isU64 a) (hb : isU64 b) : isU64 (ssub a b) := by
  unfold isU64 ssub at *
  split <;> omega


/-- What has been found so far. -/
structure Found (w w1 wr : World) (a0 : Option Addr) (n0 c0 : Nat) (l : List Snt) (lg now win : Int) (k : Nat) (v : Value) (m : Int) : Prop where
  row : wr.ownsRow w1.heap.size 26 1 v (Loss.lost lg now win (l.take k)).length (Us (Loss.lost lg now win (l.take k)))
  next : m = Loss.next lg now win (l.take k)
  all : Rd wr 8 a0 n0 c0 (Sns l)
  bel : Below w.heap.size w wr
  ge : w1.heap.size ≤ wr.heap.size

end Go.Proofs.Ytkedfipeebjcjaa
