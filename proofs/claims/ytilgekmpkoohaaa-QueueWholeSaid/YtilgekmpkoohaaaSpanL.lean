/-
  Rows as sets of numbers, plainly.
-/
import Derived.Test.YtilgekmpkoohaaaSpanQ
namespace Go.Proofs.Ytilgekmpkoohaaa
set_option linter.unusedSimpArgs false
set_option linter.unusedVariables false
set_option linter.unnecessarySimpa false
open Go.RowKit

def Mem (n : Int) (l : List Sp) : Prop := ∃ s ∈ l, s.1 ≤ n ∧ n ≤ s.2
theorem hasP_iff (l : List Sp) (n : Int) : hasP l n = true ↔ Mem n l := by
  simp [hasP, Mem, List.any_eq_true, inSp]
theorem Mem_append (n : Int) (a b : List Sp) : Mem n (a ++ b) ↔ Mem n a ∨ Mem n b := by
  unfold Mem
  constructor
  · rintro ⟨s, hs, h⟩
    rcases List.mem_append.1 hs with hs | hs
    · exact .inl ⟨s, hs, h⟩
    · exact .inr ⟨s, hs, h⟩
  · rintro (⟨s, hs, h⟩ | ⟨s, hs, h⟩)
    · exact ⟨s, List.mem_append.2 (.inl hs), h⟩
    · exact ⟨s, List.mem_append.2 (.inr hs), h⟩
theorem Mem_cons (n : Int) (a : Sp) (l : List Sp) : Mem n (a :: l) ↔ (a.1 ≤ n ∧ n ≤ a.2) ∨ Mem n l := by
  unfold Mem
  simp
theorem Mem_nil (n : Int) : ¬ Mem n [] := by simp [Mem]

/-- A row by its pairs. -/
def Gd (l : List Sp) : Prop := (∀ x ∈ l, IsSpan x) ∧ l.Pairwise (fun a b => a.2 + 1 < b.1)
theorem Good.gd {l : List Sp} (h : Good l) : Gd l := by
  refine ⟨h.span, ?_⟩
  rw [List.pairwise_iff_getElem]
  intro i j hi hj hij
  induction j with
  | zero => omega
  | succ j ih =>
    have h1 := (h (j + 1) hj).2 (by omega)
    simp only [Nat.add_sub_cancel] at h1
    by_cases e : i = j
    · subst e; exact h1
    · have h2 := ih (by omega) (by omega)
      have h3 := (h j (by omega)).1.1
      omega
theorem Gd.good {l : List Sp} (h : Gd l) : Good l := by
  intro i hi
  refine ⟨h.1 _ (List.getElem_mem hi), fun h0 => ?_⟩
  exact List.pairwise_iff_getElem.1 h.2 (i - 1) i (by omega) hi (by omega)
theorem Gd.nil : Gd [] := ⟨(fun _ h => by cases h), List.Pairwise.nil⟩
theorem Gd.tail {a : Sp} {l : List Sp} (h : Gd (a :: l)) : Gd l := ⟨fun x hx => h.1 x (List.mem_cons_of_mem _ hx), (List.pairwise_cons.1 h.2).2⟩
theorem Gd.sub {l m : List Sp} (h : Gd l) (hs : m.Sublist l) : Gd m := ⟨fun x hx => h.1 x (hs.subset hx), h.2.sublist hs⟩

theorem mem_mrg (n : Int) (s x : Sp) (hs : s.1 ≤ s.2) (hx : x.1 ≤ x.2) (h1 : x.1 ≤ s.2 + 1) (h2 : s.1 ≤ x.2 + 1) :
    ((mrg s x).1 ≤ n ∧ n ≤ (mrg s x).2) ↔ (s.1 ≤ n ∧ n ≤ s.2) ∨ (x.1 ≤ n ∧ n ≤ x.2) := by
  simp only [mrg]
  omega

theorem eat_all (s : Sp) (r : List Sp) (hg : Gd r) (hs : IsSpan s) (ht : ∀ x ∈ r, s.1 ≤ x.2 + 1) :
    IsSpan (eaten s r (eatN s r)) ∧ (∀ n, ((eaten s r (eatN s r)).1 ≤ n ∧ n ≤ (eaten s r (eatN s r)).2) ↔ (s.1 ≤ n ∧ n ≤ s.2) ∨ Mem n (r.take (eatN s r))) ∧
      (∀ c, c < s.1 → (∀ x ∈ r, c < x.1) → c < (eaten s r (eatN s r)).1) ∧ (∀ x ∈ r.drop (eatN s r), (eaten s r (eatN s r)).2 + 1 < x.1) := by
  induction r generalizing s with
  | nil => exact ⟨hs, fun n => by simp [eatN, eaten, Mem_nil], fun c h _ => h, fun x hx => by simp at hx⟩
  | cons x r ih =>
    have hx := hg.1 x (List.mem_cons_self ..)
    have htx := ht x (List.mem_cons_self ..)
    have hp := (List.pairwise_cons.1 hg.2).1
    by_cases hc : x.1 ≤ s.2 + 1
    · have e : eatN s (x :: r) = eatN (mrg s x) r + 1 := by simp [eatN, hc]
      have e2 : eaten s (x :: r) (eatN (mrg s x) r + 1) = eaten (mrg s x) r (eatN (mrg s x) r) := by simp [eaten]
      rw [e, e2]
      have hm : IsSpan (mrg s x) := by
        have h1 := hs.1; have h2 := hs.2; have h3 := hx.1; have h4 := hx.2
        simp only [IsSpan, mrg]
        omega
      obtain ⟨i1, i2, i3, i4⟩ := ih (mrg s x) hg.tail hm (fun y hy => by
        have := hp y hy
        have := (hg.1 y (List.mem_cons_of_mem _ hy)).1
        have := hx.1
        simp only [mrg]; omega)
      refine ⟨i1, fun n => ?_, fun c h1 h2 => ?_, ?_⟩
      · rw [i2 n, mem_mrg n s x hs.1 hx.1 hc htx]
        simp only [List.take_succ_cons, Mem_cons]
        exact or_assoc
      · refine i3 c ?_ (fun y hy => h2 y (List.mem_cons_of_mem _ hy))
        have := h2 x (List.mem_cons_self ..)
        simp only [mrg]; omega
      · simpa using i4
    · have e : eatN s (x :: r) = 0 := by simp [eatN, hc]
      rw [e]
      refine ⟨by simpa [eaten] using hs, fun n => by simp [eaten, Mem_nil], fun c h _ => by simpa [eaten] using h, fun y hy => ?_⟩
      simp only [List.drop_zero] at hy
      rcases List.mem_cons.1 hy with rfl | hy
      · simp only [eaten, List.take_zero, List.foldl_nil]; omega
      · have := hp y hy
        have := hx.1
        simp only [eaten, List.take_zero, List.foldl_nil]; omega

theorem add_parts (l : List Sp) (s : Sp) (hl : Gd l) (hs : IsSpan s) : Gd (addP l s) ∧ ∀ n, Mem n (addP l s) ↔ Mem n l ∨ (s.1 ≤ n ∧ n ≤ s.2) := by
  have hr : Gd (l.drop (skipN s l)) := hl.sub (List.drop_sublist _ _)
  have ht : ∀ x ∈ l.drop (skipN s l), s.1 ≤ x.2 + 1 := by
    intro x hx
    obtain ⟨i, hi, rfl⟩ := List.getElem_of_mem hx
    rw [List.getElem_drop]
    simp only [List.length_drop] at hi
    have h0 := skipN_end s l (by omega)
    have hk := (hl.1 _ (List.getElem_mem (show skipN s l < l.length by omega))).1
    by_cases e : i = 0
    · subst e; simp only [Nat.add_zero]; omega
    · have := List.pairwise_iff_getElem.1 hl.2 (skipN s l) (skipN s l + i) (by omega) (by omega) (by omega)
      have := (hl.1 _ (List.getElem_mem (show skipN s l + i < l.length by omega))).1
      omega
  obtain ⟨i1, i2, i3, i4⟩ := eat_all s _ hr hs ht
  have hA : ∀ a ∈ l.take (skipN s l), a.2 + 1 < s.1 := by
    intro a ha
    obtain ⟨i, hi, rfl⟩ := List.getElem_of_mem ha
    simp only [List.length_take] at hi
    rw [List.getElem_take]
    exact skipN_lt s l i (by omega) (by omega)
  have hsplit : l = l.take (skipN s l) ++ (l.drop (skipN s l)).take (eatN s (l.drop (skipN s l))) ++ l.drop (skipN s l + eatN s (l.drop (skipN s l))) := by
    rw [List.append_assoc, ← List.drop_drop, List.take_append_drop, List.take_append_drop]
  have hAr : ∀ a ∈ l.take (skipN s l), ∀ x ∈ l.drop (skipN s l), a.2 + 1 < x.1 := by
    have := hl.2
    rw [← List.take_append_drop (skipN s l) l] at this
    exact (List.pairwise_append.1 this).2.2
  have hAe : ∀ a ∈ l.take (skipN s l), a.2 + 1 < (eaten s (l.drop (skipN s l)) (eatN s (l.drop (skipN s l)))).1 := fun a ha => i3 _ (hA a ha) (hAr a ha)
  rw [List.drop_drop] at i4
  unfold addP
  refine ⟨⟨fun x hx => ?_, ?_⟩, fun n => ?_⟩
  · rcases List.mem_append.1 hx with hx | hx
    · rcases List.mem_append.1 hx with hx | hx
      · exact hl.1 x (List.mem_of_mem_take hx)
      · obtain rfl := List.mem_singleton.1 hx; exact i1
    · exact hl.1 x (List.mem_of_mem_drop hx)
  · rw [List.pairwise_append, List.pairwise_append]
    refine ⟨⟨hl.2.sublist (List.take_sublist _ _), List.pairwise_singleton _ _, fun a ha b hb => ?_⟩, hl.2.sublist (List.drop_sublist _ _), fun a ha b hb => ?_⟩
    · obtain rfl := List.mem_singleton.1 hb; exact hAe a ha
    · rcases List.mem_append.1 ha with ha | ha
      · exact hAr a ha b (by rw [← List.drop_drop] at hb; exact List.mem_of_mem_drop hb)
      · obtain rfl := List.mem_singleton.1 ha; exact i4 b hb
  · have e : Mem n l ↔ Mem n (l.take (skipN s l)) ∨ Mem n ((l.drop (skipN s l)).take (eatN s (l.drop (skipN s l)))) ∨ Mem n (l.drop (skipN s l + eatN s (l.drop (skipN s l)))) := by
      conv => lhs; rw [hsplit]
      rw [Mem_append, Mem_append, or_assoc]
    rw [Mem_append, Mem_append, Mem_cons, i2 n, e]
    have := Mem_nil n
    constructor
    · rintro ((h | (h | h) | h) | h)
      · exact .inl (.inl h)
      · exact .inr h
      · exact .inl (.inr (.inl h))
      · exact absurd h this
      · exact .inl (.inr (.inr h))
    · rintro ((h | h | h) | h)
      · exact .inl (.inl h)
      · exact .inl (.inr (.inl (.inr h)))
      · exact .inr h
      · exact .inl (.inr (.inl (.inl h)))

/-- A row is determined by its numbers. -/
theorem Gd.ext {l m : List Sp} (hl : Gd l) (hm : Gd m) (h : ∀ n, Mem n l ↔ Mem n m) : l = m := by
  induction l generalizing m with
  | nil =>
    cases m with
    | nil => rfl
    | cons y q => exact absurd ((h y.1).2 ((Mem_cons ..).2 (.inl ⟨Int.le_refl _, (hm.1 y (List.mem_cons_self ..)).1⟩))) (Mem_nil _)
  | cons x r ih =>
    cases m with
    | nil => exact absurd ((h x.1).1 ((Mem_cons ..).2 (.inl ⟨Int.le_refl _, (hl.1 x (List.mem_cons_self ..)).1⟩))) (Mem_nil _)
    | cons y q =>
      have hx := (hl.1 x (List.mem_cons_self ..)).1
      have hy := (hm.1 y (List.mem_cons_self ..)).1
      have gr : ∀ n, Mem n r → x.2 + 1 < n := by
        rintro n ⟨s, hs, h1, h2⟩
        have := (List.pairwise_cons.1 hl.2).1 s hs
        omega
      have gq : ∀ n, Mem n q → y.2 + 1 < n := by
        rintro n ⟨s, hs, h1, h2⟩
        have := (List.pairwise_cons.1 hm.2).1 s hs
        omega
      have a1 := (Mem_cons ..).1 ((h x.1).1 ((Mem_cons ..).2 (.inl ⟨Int.le_refl _, hx⟩)))
      have a2 := (Mem_cons ..).1 ((h y.1).2 ((Mem_cons ..).2 (.inl ⟨Int.le_refl _, hy⟩)))
      have e1 : x.1 = y.1 := by
        rcases a1 with a1 | a1 <;> rcases a2 with a2 | a2
        · omega
        · have := gr _ a2; omega
        · have := gq _ a1; omega
        · have := gr _ a2; have := gq _ a1; omega
      have e2 : x.2 = y.2 := by
        rcases Int.lt_trichotomy x.2 y.2 with hc | hc | hc
        · have := (Mem_cons ..).1 ((h (x.2 + 1)).2 ((Mem_cons ..).2 (.inl ⟨by omega, by omega⟩)))
          rcases this with h1 | h1
          · omega
          · have := gr _ h1; omega
        · exact hc
        · have := (Mem_cons ..).1 ((h (y.2 + 1)).1 ((Mem_cons ..).2 (.inl ⟨by omega, by omega⟩)))
          rcases this with h1 | h1
          · omega
          · have := gq _ h1; omega
      have exy : x = y := Prod.ext e1 e2
      subst exy
      congr 1
      refine ih hl.tail hm.tail (fun n => ⟨fun hn => ?_, fun hn => ?_⟩)
      · have := gr n hn
        rcases (Mem_cons ..).1 ((h n).1 ((Mem_cons ..).2 (.inr hn))) with h1 | h1
        · omega
        · exact h1
      · have := gq n hn
        rcases (Mem_cons ..).1 ((h n).2 ((Mem_cons ..).2 (.inr hn))) with h1 | h1
        · omega
        · exact h1
end Go.Proofs.Ytilgekmpkoohaaa
