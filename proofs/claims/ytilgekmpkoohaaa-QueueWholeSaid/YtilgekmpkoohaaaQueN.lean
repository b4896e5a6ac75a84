/-
  A queue's writes and what is next, plainly.
-/
import Derived.Test.YtilgekmpkoohaaaQueQ
namespace Go.Proofs.Ytilgekmpkoohaaa
set_option linter.unusedSimpArgs false
set_option linter.unusedVariables false
set_option linter.unnecessarySimpa false
open Go.RowKit

theorem lead_append_false (l : List Bool) (n : Nat) : lead (l ++ List.replicate n false) = lead l := by
  induction l with
  | nil => cases n <;> simp [lead, List.replicate_succ]
  | cons x r ih => simp [lead, ih]
theorem getD_append_false (l : List Bool) (n i : Nat) : (l ++ List.replicate n false).getD i false = l.getD i false := by
  by_cases h : i < l.length
  · simp [List.getD, List.getElem?_append_left h]
  · have h1 : l.getD i false = false := by simp [List.getD, h]
    rw [h1]
    simp only [List.getD, List.getElem?_append_right (show l.length ≤ i by omega), List.getElem?_replicate]
    split <;> rfl
theorem rowB_append_false (l : List Bool) (n : Nat) (h : (l ++ List.replicate n false).length ≤ 1000000) : rowB (l ++ List.replicate n false) = rowB l := by
  have hl : l.length ≤ 1000000 := by simp at h; omega
  obtain ⟨h1, h2, -⟩ := rowB_spec l hl
  refine (rowB_eq h h1 (fun m => ?_)).symm
  rw [h2 m]
  constructor
  · rintro ⟨i, a, b, c⟩
    exact ⟨i, by simp; omega, b, by rw [getD_append_false]; exact c⟩
  · rintro ⟨i, a, b, c⟩
    rw [getD_append_false] at c
    exact ⟨i, getD_len c, b, c⟩

namespace QS
theorem Good.write {s : QS} (g : s.Good) {l : List Int} (hl : ∀ x ∈ l, 0 ≤ x ∧ x ≤ 255) : (s.write l).1.Good ∧ (s.write l).1.base = s.base ∧ (s.write l).1.b.length ≤ s.b.length + l.length := by
  have hb : (s.write l).1.base = s.base := lead_append_false _ _
  refine ⟨⟨g.room1, g.room2, ?_, ?_, ?_, ?_, ?_, ?_, ?_⟩, hb, ?_⟩
  · have := g.la; simp [QS.write]; omega
  · have := g.lo; simp [QS.write]; omega
  · have := g.fr; simp [QS.write]; omega
  · intro i hi
    simp only [QS.write] at hi ⊢
    rw [getD_append_false] at hi ⊢
    exact g.ob i hi
  · intro i hi
    simp only [QS.write] at hi ⊢
    rw [getD_append_false] at hi
    exact g.ab i hi
  · intro x hx
    simp only [QS.write, List.mem_append] at hx
    rcases hx with hx | hx
    · exact g.by_ x hx
    · exact hl x (List.mem_of_mem_take hx)
  · rw [hb]
    have := g.fit
    simp [QS.write]
    omega
  · simp [QS.write]
    omega
theorem AkRow.write {s : QS} {L : List Sp} (g : s.Good) (h : AkRow s L) (l : List Int) : AkRow (s.write l).1 L := by
  have hb : (s.write l).1.base = s.base := lead_append_false _ _
  refine ⟨h.gd, fun n => ?_⟩
  rw [h.mem n, hb]
  simp only [QS.write]
  constructor
  · rintro ⟨i, a, b, c, d⟩
    exact ⟨i, a, by simp; omega, c, by rw [getD_append_false]; exact d⟩
  · rintro ⟨i, a, b, c, d⟩
    rw [getD_append_false] at d
    exact ⟨i, a, by have := getD_len d; have := g.la; omega, c, d⟩

theorem firstOf_le (l : List Bool) : firstOf l ≤ l.length := by have := lead_le (l.map not); simpa [firstOf] using this
theorem firstOf_lt {l : List Bool} {i : Nat} (h : i < firstOf l) : l.getD i false = false := by
  have h1 := firstOf_le l
  have := lead_lt (l := l.map not) (i := i) h (by simp; omega)
  rw [getD_at (by omega)]
  simpa using this
theorem firstOf_at {l : List Bool} (h : firstOf l < l.length) : l.getD (firstOf l) false = true := by
  have := lead_at (l := l.map not) (by simpa [firstOf] using h)
  rw [getD_at h]
  simpa [firstOf] using this
theorem runTo_le {l : List Bool} {f : Nat} (h : f ≤ l.length) : f ≤ runTo l f ∧ runTo l f ≤ l.length := by
  have := lead_le (l.drop f)
  simp at this
  unfold runTo
  omega
theorem runTo_lt {l : List Bool} {f i : Nat} (h1 : f ≤ i) (h2 : i < runTo l f) : l.getD i false = true := by
  unfold runTo at h2
  have hl := lead_le (l.drop f)
  simp at hl
  have := lead_lt (l := l.drop f) (i := i - f) (by omega) (by simp; omega)
  rw [getD_at (by omega)]
  simpa [show f + (i - f) = i by omega] using this
theorem runTo_at {l : List Bool} {f : Nat} (h : f ≤ l.length) : l.getD (runTo l f) false = false := by
  rcases Nat.lt_or_ge (runTo l f) l.length with h1 | h1
  · have := lead_at (l := l.drop f) (by unfold runTo at h1; simp; omega)
    rw [getD_at h1]
    simpa [runTo] using this
  · simp [List.getD, h1]
/-- The first owed row is the first run. -/
theorem next_owed {s : QS} (g : s.Good) (hf : s.Few) (h : 0 < (rowB s.ow).length) : ((rowB s.ow)[0].1 = firstOf s.ow) ∧ ((rowB s.ow)[0].2 + 1 = runTo s.ow (firstOf s.ow)) ∧ firstOf s.ow < s.ow.length ∧ firstOf s.ow < runTo s.ow (firstOf s.ow) := by
  have hl : s.ow.length ≤ 1000000 := by rw [g.lo]; exact hf
  obtain ⟨r1, r2, -⟩ := rowB_spec s.ow hl
  have hsp := (r1.1 _ (List.getElem_mem h)).1
  obtain ⟨i, hi, ei, ti⟩ := (r2 _).1 (Mem_lo r1 (List.getElem_mem h)).1
  obtain ⟨j, hj, ej, tj⟩ := (r2 _).1 (Mem_lo r1 (List.getElem_mem h)).2
  obtain ⟨e1, e2, e3⟩ := head_end r1 h
  have hfi : firstOf s.ow = i := by
    rcases Nat.lt_trichotomy (firstOf s.ow) i with h1 | h1 | h1
    · have hM := (r2 (firstOf s.ow)).2 ⟨_, by omega, rfl, firstOf_at (by omega)⟩
      have := head_min r1 h hM
      omega
    · exact h1
    · rw [firstOf_lt h1] at ti; cases ti
  have hrt : runTo s.ow (firstOf s.ow) = j + 1 := by
    have hle := firstOf_le s.ow
    have h2 := runTo_le hle
    rcases Nat.lt_trichotomy (runTo s.ow (firstOf s.ow)) (j + 1) with h1 | h1 | h1
    · obtain ⟨k, -, ek, tk⟩ := (r2 _).1 (e2 (runTo s.ow (firstOf s.ow)) (by omega) (by omega))
      obtain rfl : runTo s.ow (firstOf s.ow) = k := by omega
      rw [runTo_at hle] at tk
      cases tk
    · exact h1
    · exfalso
      refine e1 ((r2 _).2 ⟨j + 1, by omega, by omega, runTo_lt (by omega) h1⟩)
  refine ⟨by omega, by omega, by omega, ?_⟩
  omega
theorem next_none {s : QS} (g : s.Good) (hf : s.Few) (h : (rowB s.ow).length = 0) : firstOf s.ow = s.ow.length := by
  have hl : s.ow.length ≤ 1000000 := by rw [g.lo]; exact hf
  obtain ⟨r1, r2, -⟩ := rowB_spec s.ow hl
  have hle := firstOf_le s.ow
  apply Nat.le_antisymm hle
  apply Nat.le_of_not_lt
  intro hlt
  obtain ⟨t, ht, -⟩ := (r2 (firstOf s.ow)).2 ⟨_, hlt, rfl, firstOf_at hlt⟩
  have := List.length_pos_of_mem ht
  omega
/-- All that is next lies from the base on. -/
theorem next_base {s : QS} (g : s.Good) : s.base ≤ firstOf s.ow ∨ firstOf s.ow = s.ow.length := by
  rcases Nat.lt_or_ge (firstOf s.ow) s.ow.length with h | h
  · left
    apply Nat.le_of_not_lt
    intro hlt
    have h1 := g.ob _ (firstOf_at h)
    rw [below_base g hlt] at h1
    cases h1.2
  · exact .inr (Nat.le_antisymm (firstOf_le _) h)
end QS
end Go.Proofs.Ytilgekmpkoohaaa
