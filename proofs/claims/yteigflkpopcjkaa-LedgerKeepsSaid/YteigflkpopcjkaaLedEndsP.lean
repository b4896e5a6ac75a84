/-
  A ledger on which nothing flies: what it tells.
-/
import Derived.Test.YteigflkpopcjkaaLedP
namespace Go.Proofs.Yteigflkpopcjkaa
set_option linter.unusedSimpArgs false
set_option linter.unusedVariables false
set_option linter.unnecessarySimpa false
open Go.RowKit
namespace LS

def NoFly (s : LS) : Prop := ∀ x ∈ s.all, x.state ≠ 1
theorem ahead_all {l : List Snt} (h : ∀ x ∈ l, x.state ≠ 1) : ahead l = l.length := by
  induction l with
  | nil => rfl
  | cons x l ih =>
    simp only [ahead, if_neg (h x (by simp)), List.length_cons]
    rw [ih (fun y hy => h y (List.mem_cons_of_mem _ hy))]
theorem NoFly.least {s : LS} (h : s.NoFly) : s.least = s.all.length := by
  have e : ahead s.kept = s.kept.length := ahead_all (fun x hx => h x (List.mem_of_mem_drop hx))
  have := s.kept_len
  have := s.low_le
  simp only [LS.least, e, low] at *
  omega
theorem NoFly.room {s : LS} (h : s.NoFly) : s.room = s.ring := by
  unfold LS.room
  rw [h.least]
  omega
theorem NoFly.new (ring limit : Int) : (new ring limit).NoFly := fun x hx => by simp [LS.new] at hx

/-- One more, which was skipped. -/
theorem ends_skip {s : LS} (g : s.Good) (h : s.NoFly) (hl : (s.all.length : Int) ≤ s.limit) :
    s.skip.2.1 = s.all.length ∧ s.skip.2.2 = 0 ∧ s.skip.1.NoFly ∧ s.skip.1.all.length = s.all.length + 1 ∧ s.skip.1.limit = s.limit ∧ s.skip.1.ring = s.ring := by
  have g4 := g.ring4
  have e : s.skip = ({ s with all := s.all ++ [{ skipped with pn := s.all.length }] }, (s.all.length : Int), 0) := by
    unfold LS.skip LS.give
    rw [if_neg (by omega), if_neg (by rw [h.room]; omega)]
  rw [e]
  refine ⟨rfl, rfl, ?_, by simp, rfl, rfl⟩
  intro x hx
  simp only [List.mem_append, List.mem_singleton] at hx
  rcases hx with hx | rfl
  · exact h x hx
  · simp [skipped]
/-- One more, which was sent and acknowledged. -/
theorem ends_send {s : LS} (g : s.Good) (h : s.NoFly) (hl : (s.all.length : Int) ≤ s.limit) (x : Snt) (h1 : 1 ≤ x.len) (h2 : x.len ≤ 1500) (h3 : x.off ≤ 4611686018427387903) :
    (s.send x).2.1 = s.all.length ∧ (s.send x).2.2 = 0 ∧ ((s.send x).1.settle s.all.length 2).1.NoFly ∧ ((s.send x).1.settle s.all.length 2).1.all.length = s.all.length + 1 ∧
      ((s.send x).1.settle s.all.length 2).1.limit = s.limit ∧ ((s.send x).1.settle s.all.length 2).1.ring = s.ring := by
  have g4 := g.ring4
  have e : s.send x = ({ s with all := s.all ++ [{ x with pn := s.all.length, state := 1, used := false }] }, (s.all.length : Int), 0) := by
    unfold LS.send LS.give
    rw [if_neg (by omega), if_neg (by omega), if_neg (by rw [h.room]; omega)]
  rw [e]
  have hm : ({ s with all := s.all ++ [{ x with pn := s.all.length, state := 1, used := false }] } : LS).maySettle s.all.length 2 := by
    refine ⟨⟨?_, ?_⟩, .inl ⟨rfl, .inl ?_⟩⟩
    · simp [LS.low]; omega
    · simp; omega
    · simp [LS.at']
  have e2 : ({ s with all := s.all ++ [{ x with pn := s.all.length, state := 1, used := false }] } : LS).settle s.all.length 2 = _ := if_pos hm
  rw [e2]
  refine ⟨rfl, rfl, ?_, by simp [LS.put], rfl, rfl⟩
  intro y hy
  simp only [LS.put, Int.toNat_natCast] at hy
  rw [List.set_append_right _ _ (Nat.le_refl _)] at hy
  simp only [List.mem_append, Nat.sub_self, List.set_cons_zero, List.mem_singleton] at hy
  rcases hy with hy | rfl
  · exact h y hy
  · simp
theorem ends_over {s : LS} (hl : s.limit < (s.all.length : Int)) (x : Snt) (h1 : 1 ≤ x.len) (h2 : x.len ≤ 1500) (h3 : x.off ≤ 4611686018427387903) : s.send x = (s, 0, 8) ∧ s.skip = (s, 0, 8) := by
  unfold LS.send LS.skip LS.give
  rw [if_neg (by omega)]
  simp only [if_pos hl]
  exact ⟨trivial, trivial⟩
theorem ends_bad (s : LS) (x : Snt) (h : x.len < 1) : s.send x = (s, 0, 1) := by
  unfold LS.send
  rw [if_pos (.inl h)]
end LS
end Go.Proofs.Yteigflkpopcjkaa
