/-
  Plain law of the trigger: what is named is there, unused, and named once.
-/
import Derived.Test.YteigflkpopcjkaaLook
namespace Go.Proofs.Yteigflkpopcjkaa
set_option linter.unusedSimpArgs false
set_option linter.unusedVariables false
set_option linter.unnecessarySimpa false
open Go.RowKit

theorem Ak.look1_spec (a : Ak) (l : List Snt) : (a.look1 l = (0, 3) ∧ ∀ x ∈ l, a.named x = false) ∨
    ∃ i, ∃ h : i < l.length, a.named l[i] = true ∧ (∀ j, (hj : j < i) → a.named (l[j]'(Nat.lt_trans hj h)) = false) ∧ a.look1 l = (l[i].pn, 0) := by
  induction l with
  | nil => exact .inl ⟨rfl, fun x hx => by cases hx⟩
  | cons x r ih =>
    by_cases hx : a.named x = true
    · exact .inr ⟨0, by simp, hx, fun j hj => absurd hj (by omega), by simp [Ak.look1, hx]⟩
    · rcases ih with ⟨h1, h2⟩ | ⟨i, h, h1, h2, h3⟩
      · refine .inl ⟨by simp [Ak.look1, hx, h1], fun y hy => ?_⟩
        rcases List.mem_cons.1 hy with rfl | hy
        · simpa using hx
        · exact h2 y hy
      · refine .inr ⟨i + 1, by simpa using h, by simpa using h1, fun j hj => ?_, by simp [Ak.look1, hx, h3]⟩
        cases j with
        | zero => simpa using hx
        | succ j => simpa using h2 j (by omega)

theorem Ak.look_cases (a : Ak) (s : LS) : (a.look s).2 = 0 ∨ ((a.look s).1 = 0 ∧ ((a.look s).2 = 1 ∧ mayB a.sp a.mm = false ∨ (a.look s).2 = 2 ∧ a.lo < s.low ∨ (a.look s).2 = 3)) := by
  unfold Ak.look
  split
  · rename_i h; exact .inr ⟨rfl, .inl ⟨rfl, h⟩⟩
  · split
    · rename_i h; exact .inr ⟨rfl, .inr (.inl ⟨rfl, h⟩)⟩
    · rcases a.look1_spec s.kept with ⟨h1, -⟩ | ⟨i, h, h1, h2, h3⟩
      · rw [h1]; exact .inr ⟨rfl, .inr (.inr rfl)⟩
      · rw [h3]; exact .inl rfl

theorem Ak.look_low_ne (a : Ak) {s : LS} (h : (a.look s).2 = 0) : ¬ a.lo < s.low := by
  unfold Ak.look at h
  split at h
  · cases h
  · split at h
    · cases h
    · assumption

/-- What is named is there. -/
theorem Ak.look_there (a : Ak) {s : LS} (g : s.Good) (h : (a.look s).2 = 0) :
    s.has (a.look s).1 ∧ a.named (s.at' (a.look s).1) = true ∧ ∀ x ∈ s.kept, x.pn < (a.look s).1 → a.named x = false := by
  unfold Ak.look at h ⊢
  split at h
  · cases h
  · rename_i h1
    split at h
    · cases h
    · rename_i h2
      rw [if_neg h1, if_neg h2]
      rcases a.look1_spec s.kept with ⟨h3, -⟩ | ⟨i, hi, h3, h4, h5⟩
      · rw [h3] at h; cases h
      · rw [h5]
        have e := g.keptPn hi
        have hl : s.low + i < s.all.length := by simp [LS.kept] at hi; omega
        have hh : s.has s.kept[i].pn := by rw [e]; exact ⟨by omega, by omega⟩
        refine ⟨hh, ?_, fun x hx hlt => ?_⟩
        · rw [LS.at'_eq hh]
          have : s.kept[i].pn.toNat = s.low + i := by omega
          rw [LS.kept_get] at h3
          simpa only [this] using h3
        · obtain ⟨j, hj, rfl⟩ := List.mem_iff_getElem.1 hx
          have := g.keptPn hj
          exact h4 j (by omega)

theorem Ak.named_parts {a : Ak} {x : Snt} (h : a.named x = true) : x.state ≠ 4 ∧ x.used = false ∧ x.nonce = a.tr ∧ hasP a.sp x.pn = true := by
  simp [Ak.named] at h
  exact ⟨h.1.1.1, h.1.1.2, h.1.2, h.2⟩
theorem Ak.look_mayUse (a : Ak) {s : LS} (g : s.Good) (h : (a.look s).2 = 0) : s.mayUse (a.look s).1 := by
  obtain ⟨h1, h2, -⟩ := a.look_there g h
  obtain ⟨h3, h4, -⟩ := a.named_parts h2
  exact ⟨h1, h3, h4⟩

/-- No number below q is named. -/
def Ak.none (a : Ak) (s : LS) (q : Int) : Prop := ∀ x ∈ s.kept, x.pn < q → a.named x = false
structure Ak.Once (a : Ak) (s0 s : LS) (k : Nat) (q : Int) : Prop where
  len : s.all.length = s0.all.length
  ring : s.ring = s0.ring
  lo : (s.low : Int) + k ≤ q
  hi : q ≤ s.all.length
  no : a.none s q
  low : 0 < k → ¬ a.lo < s.low
theorem Ak.Once.zero (a : Ak) {s : LS} (g : s.Good) : a.Once s s 0 s.low := by
  refine ⟨rfl, rfl, by simp, by have := s.low_le; omega, fun x hx h => ?_, fun h => absurd h (by omega)⟩
  obtain ⟨j, hj, rfl⟩ := List.mem_iff_getElem.1 hx
  have := g.keptPn hj
  omega
theorem Ak.Once.step {a : Ak} {s0 s : LS} {k : Nat} {q : Int} (o : a.Once s0 s k q) (g : s.Good) (h : (a.look s).2 = 0) :
    q ≤ (a.look s).1 ∧ (s.use (a.look s).1).2 = true ∧ a.Once s0 (s.use (a.look s).1).1 (k + 1) ((a.look s).1 + 1) := by
  obtain ⟨h1, h2, h3⟩ := a.look_there g h
  have hm := a.look_mayUse g h
  have hlow := a.look_low_ne h
  generalize (a.look s).1 = p at *
  obtain ⟨b1, b2, b3⟩ := LS.has_lt h1
  obtain ⟨hk, e⟩ := s.kept_at h1
  have hq : q ≤ p := by
    apply Int.not_lt.1
    intro hlt
    have := o.no _ (List.getElem_mem hk) (by rw [e, (g.at' h1).2.1]; exact hlt)
    rw [e, h2] at this
    cases this
  have ol := o.lo
  unfold LS.use
  rw [if_pos hm]
  refine ⟨hq, rfl, ?_⟩
  have el : (s.put p { s.at' p with used := true }).low = s.low := by simp [LS.put, LS.low]
  have en : (s.put p { s.at' p with used := true }).all.length = s.all.length := by simp [LS.put]
  refine ⟨en.trans o.len, o.ring, ?_, ?_, ?_, fun _ => ?_⟩
  · show (((s.put p { s.at' p with used := true }).low : Int)) + ((k + 1 : Nat) : Int) ≤ p + 1
    rw [el]; push_cast; omega
  · show p + 1 ≤ ((s.put p { s.at' p with used := true }).all.length : Int)
    rw [en]; omega
  · intro x hx hlt
    rw [LS.put_kept s h1] at hx
    obtain ⟨j, hj, rfl⟩ := List.mem_iff_getElem.1 hx
    rw [List.getElem_set] at hlt ⊢
    simp only [List.length_set] at hj
    split
    · simp [Ak.named]
    · rename_i hne
      rw [if_neg hne] at hlt
      have := g.keptPn hj
      exact h3 _ (List.getElem_mem hj) (by omega)
  · show ¬ a.lo < ((s.put p { s.at' p with used := true }).low : Int)
    rw [el]; exact hlow
theorem Ak.Once.few {a : Ak} {s0 s : LS} {k : Nat} {q : Int} (o : a.Once s0 s k q) : k ≤ s0.ring := by
  have h1 := o.lo
  have h2 := o.hi
  have h3 := o.ring
  have h4 : s.low = s.all.length - s.ring := rfl
  omega

/-- No nonce, no name. -/
theorem Ak.look_none (a : Ak) (s : LS) (h : ∀ x ∈ s.kept, a.named x = false) : (a.look s).1 = 0 ∧ (a.look s).2 ≠ 0 := by
  rcases a.look_cases s with h0 | ⟨h1, h2⟩
  · exfalso
    unfold Ak.look at h0
    split at h0
    · cases h0
    · split at h0
      · cases h0
      · rcases a.look1_spec s.kept with ⟨h3, -⟩ | ⟨i, hi, h3, h4, h5⟩
        · rw [h3] at h0; cases h0
        · rw [h _ (List.getElem_mem hi)] at h3; cases h3
  · exact ⟨h1, by rcases h2 with h2 | h2 | h2 <;> omega⟩
theorem named_tr {a : Ak} {x : Snt} (h : ¬ (x.nonce = a.tr ∧ x.used = false ∧ x.state ≠ 4)) : a.named x = false := by
  cases hn : a.named x with
  | false => rfl
  | true => obtain ⟨h1, h2, h3, -⟩ := a.named_parts hn; exact absurd ⟨h3, h2, h1⟩ h
theorem Ak.look_u64 (a : Ak) {s : LS} (g : s.Good) : isU64 (a.look s).1 := by
  rcases a.look_cases s with h0 | ⟨h1, -⟩
  · obtain ⟨h1, -⟩ := a.look_there g h0
    have := (LS.has_lt h1).1
    have := g.len
    have := g.lim1
    have h2 := h1.2
    have h3 := h1.1
    constructor <;> omega
  · rw [h1]; constructor <;> omega

end Go.Proofs.Yteigflkpopcjkaa
