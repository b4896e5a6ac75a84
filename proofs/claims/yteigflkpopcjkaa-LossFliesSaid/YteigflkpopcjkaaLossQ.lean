/-
  What is lost, as time goes on: plain Lean.
-/
import Derived.Test.YteigflkpopcjkaaLossP
import Derived.Test.YteigflkpopcjkaaDo
namespace Go.Proofs.Yteigflkpopcjkaa
set_option linter.unusedSimpArgs false
set_option linter.unusedVariables false
set_option linter.unnecessarySimpa false
open Go.RowKit
namespace Loss

/-- What is gone stays so. -/
theorem gone_mono {lg now win lg' now' : Int} {x : Snt} (h1 : lg ≤ lg') (h2 : now ≤ now') (h : gone lg now win x) : gone lg' now' win x := by
  rcases h with h | h
  · exact .inl (by omega)
  · refine .inr ?_
    unfold ssub at *
    split at h <;> split <;> omega
theorem cand_mono {lg lg' : Int} {x : Snt} (h1 : lg ≤ lg') (h : cand lg x) : cand lg' x := ⟨h.1, by have := h.2; omega⟩
theorem lost_sub {lg now win lg' now' : Int} (h1 : lg ≤ lg') (h2 : now ≤ now') (l : List Snt) : (lost lg now win l).Sublist (lost lg' now' win l) := by
  induction l with
  | nil => exact .slnil
  | cons x l ih =>
    simp only [lost]
    by_cases hc : cand lg x ∧ gone lg now win x
    · rw [if_pos hc, if_pos ⟨cand_mono h1 hc.1, gone_mono h1 h2 hc.2⟩]
      exact ih.cons_cons _
    · rw [if_neg hc]
      split
      · exact ih.cons _
      · exact ih
/-- The same are lost if of none anything turns. -/
theorem lost_same {lg now win now' : Int} {l : List Snt} (h : ∀ x ∈ l, cand lg x → (gone lg now win x ↔ gone lg now' win x)) : lost lg now win l = lost lg now' win l ∧ next lg now win l = next lg now' win l := by
  induction l with
  | nil => exact ⟨rfl, rfl⟩
  | cons x l ih =>
    obtain ⟨a, b⟩ := ih (fun y hy => h y (List.mem_cons_of_mem _ hy))
    simp only [lost, next, a, b]
    by_cases hc : cand lg x
    · have e := h x (by simp) hc
      simp only [hc, true_and, e, and_self]
    · simp [hc]
theorem next_le_of {lg now win : Int} {l : List Snt} {x : Snt} (hx : x ∈ l) (hc : cand lg x) (hg : ¬ gone lg now win x) : next lg now win l ≤ sadd x.at_ win := by
  induction l with
  | nil => cases hx
  | cons y l ih =>
    simp only [next]
    rcases List.mem_cons.1 hx with rfl | hx
    · rw [if_pos ⟨hc, hg⟩]; omega
    · have := ih hx
      split <;> omega
theorem next_cases (lg now win : Int) (l : List Snt) : next lg now win l = 18446744073709551615 ∨ ∃ x ∈ l, cand lg x ∧ ¬ gone lg now win x ∧ next lg now win l = sadd x.at_ win := by
  induction l with
  | nil => exact .inl rfl
  | cons y l ih =>
    simp only [next]
    by_cases hc : cand lg y ∧ ¬ gone lg now win y
    · rw [if_pos hc]
      rcases ih with ih | ⟨x, hx, h1, h2, h3⟩
      · refine .inr ⟨y, by simp, hc.1, hc.2, ?_⟩
        rw [ih]
        unfold sadd
        omega
      · rcases Int.le_total (sadd y.at_ win) (next lg now win l) with h | h
        · exact .inr ⟨y, by simp, hc.1, hc.2, by omega⟩
        · exact .inr ⟨x, by simp [hx], h1, h2, by omega⟩
    · rw [if_neg hc]
      rcases ih with ih | ⟨x, hx, h⟩
      · exact .inl ih
      · exact .inr ⟨x, by simp [hx], h⟩
theorem lost_more {lg now win now' : Int} {l : List Snt} (h2 : now ≤ now') {x : Snt} (hx : x ∈ l) (hc : cand lg x) (hg : ¬ gone lg now win x) (hg' : gone lg now' win x) : (lost lg now win l).length < (lost lg now' win l).length := by
  induction l with
  | nil => cases hx
  | cons y l ih =>
    have hs := (lost_sub (lg := lg) (win := win) (Int.le_refl lg) h2 l).length_le
    simp only [lost]
    rcases List.mem_cons.1 hx with rfl | hx
    · rw [if_neg (fun h => hg h.2), if_pos ⟨hc, hg'⟩]
      simp only [List.length_cons]
      omega
    · have := ih hx
      by_cases hy : cand lg y ∧ gone lg now win y
      · rw [if_pos hy, if_pos ⟨hy.1, gone_mono (Int.le_refl _) h2 hy.2⟩]
        simp only [List.length_cons]
        omega
      · rw [if_neg hy]
        split
        · simp only [List.length_cons]
          omega
        · omega

/-- The times of all that is kept are small. -/
theorem times_top {lg now win : Int} {l : List Snt} (hs : ∀ x ∈ l, 0 ≤ x.at_ ∧ x.at_ < 5000) (hn : now ≤ 18446744073709551615) (hw : 0 ≤ win ∧ win ≤ 65535) (h : next lg now win l = 18446744073709551615) :
    lost lg now win l = lost lg 18446744073709551615 win l ∧ next lg 18446744073709551615 win l = 18446744073709551615 := by
  have all : ∀ x ∈ l, cand lg x → gone lg now win x := fun x hx hc => by
    by_cases hg : gone lg now win x
    · exact hg
    · have := next_le_of hx hc hg
      have := hs x hx
      unfold sadd at *
      omega
  obtain ⟨a, b⟩ := lost_same (now' := 18446744073709551615) (fun x hx hc => ⟨fun g => gone_mono (Int.le_refl _) hn g, fun _ => all x hx hc⟩)
  exact ⟨a, by rw [← b]; exact h⟩
theorem times_at {lg now win : Int} {l : List Snt} (hs : ∀ x ∈ l, 0 ≤ x.at_ ∧ x.at_ < 5000) (hn : 0 ≤ now ∧ now ≤ 65535) (hw : 0 ≤ win ∧ win ≤ 65535) (h : next lg now win l ≠ 18446744073709551615) :
    now < next lg now win l ∧ next lg now win l ≤ 70535 ∧ (lost lg now win l).length < (lost lg (next lg now win l) win l).length ∧ lost lg now win l = lost lg (next lg now win l - 1) win l ∧ next lg (next lg now win l - 1) win l = next lg now win l := by
  have over : ∀ x ∈ l, cand lg x → ¬ gone lg now win x → now < sadd x.at_ win ∧ 0 < win := fun x hx hc hg => by
    have := hs x hx
    have h1 : ¬ (win ≤ ssub now x.at_) := fun h => hg (.inr h)
    unfold ssub at h1
    unfold sadd
    split at h1 <;> omega
  obtain ⟨x, hx, hc, hg, e⟩ := (next_cases lg now win l).resolve_left h
  have hx2 := hs x hx
  obtain ⟨o1, o2⟩ := over x hx hc hg
  have e' : next lg now win l = x.at_ + win := by rw [e]; unfold sadd; omega
  have h3 : ¬ (3 ≤ lg - x.pn) := fun h => hg (.inl h)
  have hgx : gone lg (next lg now win l) win x := by
    refine .inr ?_
    rw [e']
    unfold ssub
    split <;> omega
  refine ⟨by rw [e]; exact o1, by rw [e']; omega, lost_more (by rw [e]; omega) hx hc hg hgx, ?_⟩
  obtain ⟨a, b⟩ := lost_same (lg := lg) (now := now) (win := win) (now' := next lg now win l - 1) (l := l) (fun y hy hcy => ⟨fun g => gone_mono (Int.le_refl _) (by rw [e]; omega) g, fun g => by
    by_cases hgy : gone lg now win y
    · exact hgy
    · exfalso
      have h4 := next_le_of hy hcy hgy
      have h5 := (over y hy hcy hgy).2
      have h6 := hs y hy
      have h7 : ¬ (3 ≤ lg - y.pn) := fun h => hgy (.inl h)
      rcases g with g | g
      · exact h7 g
      · have e5 : sadd y.at_ win = y.at_ + win := by unfold sadd; omega
        rw [e5] at h4
        unfold ssub at g
        split at g <;> omega⟩)
  exact ⟨a, b.symm⟩
end Loss
end Go.Proofs.Yteigflkpopcjkaa
