/-
  One number used and settled: what a ledger tells.
-/
import Derived.Test.YteigflkpopcjkaaLedP
namespace Go.Proofs.Yteigflkpopcjkaa
set_option linter.unusedSimpArgs false
set_option linter.unusedVariables false
set_option linter.unnecessarySimpa false
open Go.RowKit
namespace LS
theorem put_has {s : LS} {pn q : Int} {y : Snt} : (s.put pn y).has q ↔ s.has q := by simp [has, low, put]
theorem put_at {s : LS} {pn : Int} (h : s.has pn) (y : Snt) : (s.put pn y).at' pn = y := by
  simp [at', put, (has_lt h).1]

theorem settles_no {s : LS} {pn : Int} (h : ¬ s.has pn) (st : Int) : s.get pn = (zero, false) ∧ s.use pn = (s, false) ∧ s.settle pn st = (s, false) :=
  ⟨if_neg h, if_neg (fun m => h m.1), if_neg (fun m => h m.1)⟩
theorem settles_skip {s : LS} {pn : Int} (h : s.has pn) (h4 : (s.at' pn).state = 4) (st : Int) : s.get pn = (s.at' pn, true) ∧ s.use pn = (s, false) ∧ s.settle pn st = (s, false) :=
  ⟨if_pos h, if_neg (fun m => m.2.1 h4), if_neg (fun m => by have := m.2; omega)⟩
theorem use_yes {s : LS} {pn : Int} (h : s.has pn) (h4 : (s.at' pn).state ≠ 4) : (s.use pn).2 = !(s.at' pn).used ∧ (s.use pn).1.has pn ∧ (s.use pn).1.at' pn = { s.at' pn with used := true } := by
  unfold use
  by_cases hu : (s.at' pn).used = false
  · rw [if_pos ⟨h, h4, hu⟩]
    exact ⟨by simp [hu], put_has.2 h, put_at h _⟩
  · rw [if_neg (fun m => hu m.2.2)]
    have hu' : (s.at' pn).used = true := by simpa using hu
    refine ⟨by simp [hu'], h, ?_⟩
    generalize s.at' pn = x at *
    cases x
    simp at hu'
    simp [hu']
theorem settle_yes {s : LS} {pn st : Int} (h : s.has pn) : (s.settle pn st).2 = (decide ((st = 2 ∧ ((s.at' pn).state = 1 ∨ (s.at' pn).state = 3)) ∨ (st = 3 ∧ (s.at' pn).state = 1))) ∧ (s.settle pn st).1.has pn ∧
    (s.settle pn st).1.at' pn = (if (st = 2 ∧ ((s.at' pn).state = 1 ∨ (s.at' pn).state = 3)) ∨ (st = 3 ∧ (s.at' pn).state = 1) then { s.at' pn with state := st } else s.at' pn) := by
  unfold settle
  by_cases hm : (st = 2 ∧ ((s.at' pn).state = 1 ∨ (s.at' pn).state = 3)) ∨ (st = 3 ∧ (s.at' pn).state = 1)
  · rw [if_pos ⟨h, hm⟩, if_pos hm]
    exact ⟨by simp [hm], put_has.2 h, put_at h _⟩
  · rw [if_neg (fun m => hm m.2), if_neg hm]
    exact ⟨by simp [hm], h, rfl⟩

/-- All that the law asks, in one. -/
theorem settles_all {s : LS} {pn : Int} (h : s.has pn) (st : Int) (h4 : (s.at' pn).state ≠ 4) (hst : 1 ≤ (s.at' pn).state ∧ (s.at' pn).state ≤ 4) :
    s.get pn = (s.at' pn, true) ∧ (s.use pn).2 = !(s.at' pn).used ∧ ((s.use pn).1.use pn).2 = false ∧ (((s.use pn).1.use pn).1.settle pn 3).2 = decide ((s.at' pn).state = 1) ∧
      ((((s.use pn).1.use pn).1.settle pn 3).1.settle pn 2).2 = decide ((s.at' pn).state = 1 ∨ (s.at' pn).state = 3) ∧ (((((s.use pn).1.use pn).1.settle pn 3).1.settle pn 2).1.settle pn st).2 = false ∧
      (((((s.use pn).1.use pn).1.settle pn 3).1.settle pn 2).1.settle pn st).1.get pn = ({ s.at' pn with used := true, state := 2 }, true) := by
  obtain ⟨a1, a2, a3⟩ := use_yes h h4
  obtain ⟨b1, b2, b3⟩ := use_yes a2 (by rw [a3]; exact h4)
  rw [a3] at b1 b3
  obtain ⟨c1, c2, c3⟩ := settle_yes (st := 3) b2
  rw [b3] at c1 c3
  simp only at c1 c3
  obtain ⟨d1, d2, d3⟩ := settle_yes (st := 2) c2
  rw [c3] at d1 d3
  obtain ⟨e1, e2, e3⟩ := settle_yes (st := st) d2
  rw [d3] at e1 e3
  refine ⟨if_pos h, a1, by rw [b1]; rfl, by rw [c1]; simp, ?_, ?_, ?_⟩
  · rw [d1]
    by_cases h1 : (s.at' pn).state = 1 <;> simp [h1]
  · rw [e1]
    by_cases h1 : (s.at' pn).state = 1
    · simp [h1]
    · by_cases h3 : (s.at' pn).state = 3
      · simp [h3]
      · have h2 : (s.at' pn).state = 2 := by omega
        simp [h2]
  · have : (((((s.use pn).1.use pn).1.settle pn 3).1.settle pn 2).1.settle pn st).1.get pn = _ := if_pos e2
    rw [this, e3]
    by_cases h1 : (s.at' pn).state = 1
    · simp [h1]
    · by_cases h3 : (s.at' pn).state = 3
      · simp [h3]
      · have h2 : (s.at' pn).state = 2 := by omega
        generalize s.at' pn = x at *
        cases x
        simp at h2
        simp [h2]
end LS
end Go.Proofs.Yteigflkpopcjkaa
