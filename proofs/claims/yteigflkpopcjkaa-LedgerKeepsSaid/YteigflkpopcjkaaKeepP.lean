/-
  Plain law of a ledger's room: so many more numbers, and no more.
-/
import Derived.Test.YteigflkpopcjkaaLedEndsP
namespace Go.Proofs.Yteigflkpopcjkaa
set_option linter.unusedSimpArgs false
set_option linter.unusedVariables false
set_option linter.unnecessarySimpa false
open Go.RowKit
namespace LS

theorem ahead_eq {l : List Snt} {k : Nat} (hk : k < l.length) (h1 : l[k].state = 1) (h2 : ∀ i, (h : i < k) → (l[i]'(by omega)).state ≠ 1) : ahead l = k := by
  rcases Nat.lt_trichotomy (ahead l) k with h | h | h
  · exact absurd (ahead_at (by omega)) (h2 _ h)
  · exact h
  · exact absurd h1 (ahead_lt h hk)
theorem fly_none {l : List Snt} (h : ∀ x ∈ l, x.state ≠ 1) : fly l = 0 := by
  induction l with
  | nil => rfl
  | cons x l ih =>
    simp only [fly]
    rw [if_neg (h x (by simp)), ih (fun y hy => h y (List.mem_cons_of_mem _ hy))]
    omega
theorem fly_append (a b : List Snt) : fly (a ++ b) = fly a + fly b := by
  induction a with
  | nil => simp [fly]
  | cons x a ih => simp only [List.cons_append, fly, ih]; omega
/-- Ahead of the first that flies nothing flies. -/
theorem fly_drop (l : List Snt) : fly l = fly (l.drop (ahead l)) := by
  have e := List.take_append_drop (ahead l) l
  have h : fly (l.take (ahead l)) = 0 := fly_none fun x hx => by
    obtain ⟨i, hi, rfl⟩ := List.mem_iff_getElem.1 hx
    simp at hi
    rw [List.getElem_take]
    exact ahead_lt (by omega) (by omega)
  conv => lhs; rw [← e, fly_append, h]
  omega
theorem flight_drop (s : LS) : s.flight = fly (s.all.drop s.least) := by
  unfold flight
  rw [fly_drop]
  unfold kept least
  rw [List.drop_drop]
  show fly (List.drop (s.low + ahead s.kept) s.all) = _
  rfl
theorem least_at {s : LS} (h : s.least < s.all.length) : (s.all[s.least]'h).state = 1 := by
  have hl : ahead s.kept < s.kept.length := by simp [least] at h; simp [kept] at h ⊢; omega
  have := ahead_at hl
  rw [kept_get] at this
  exact this
theorem least_none {s : LS} {i : Nat} (h1 : s.low ≤ i) (h2 : i < s.least) (h3 : i < s.all.length) : (s.all[i]'h3).state ≠ 1 := by
  have hk : i - s.low < s.kept.length := by simp [kept]; omega
  have := ahead_lt (l := s.kept) (i := i - s.low) (by unfold least at h2; omega) hk
  rw [kept_get] at this
  simpa [show s.low + (i - s.low) = i by omega] using this
theorem least_eq {s : LS} {m : Nat} (h0 : s.low ≤ m) (h1 : m < s.all.length) (h2 : (s.all[m]'h1).state = 1) (h3 : ∀ i, (hi : i < m) → s.low ≤ i → (s.all[i]'(by omega)).state ≠ 1) : s.least = m := by
  have hk : m - s.low < s.kept.length := by simp [kept]; omega
  have := ahead_eq (l := s.kept) (k := m - s.low) hk (by rw [kept_get]; simpa [show s.low + (m - s.low) = m by omega] using h2) (fun i hi => by rw [kept_get]; exact h3 _ (by omega) (by omega))
  unfold least
  omega

/-- While something flies and there is room, one more is given, and the room is less by one. -/
theorem send_room {s : LS} (g : s.Good) (hl : (s.all.length : Int) ≤ s.limit) (hf : s.least < s.all.length) (hr : 1 ≤ s.room) (x : Snt) (h1 : x.len = 1) (h3 : x.off ≤ 4611686018427387903) :
    (s.send x).2.2 = 0 ∧ (s.send x).1.least = s.least ∧ (s.send x).1.room = s.room - 1 ∧ (s.send x).1.flight = s.flight + 1 ∧ (s.send x).1.all.length = s.all.length + 1 ∧ (s.send x).1.limit = s.limit := by
  have e : s.send x = (({ s with all := s.all ++ [({ x with state := 1, used := false, pn := (s.all.length : Int) } : Snt)] } : LS), (s.all.length : Int), 0) := by
    unfold send
    rw [if_neg (by omega)]
    unfold give
    rw [if_neg (by omega), if_neg (by omega)]
  rw [e]
  clear e
  have hll := s.low_least
  have hrr : s.room = s.ring - ((s.all.length : Int) - s.least) := rfl
  have hat := least_at hf
  generalize hy : ({ x with state := 1, used := false, pn := (s.all.length : Int) } : Snt) = y
  have hy1 : y.state = 1 := by rw [← hy]
  have hy2 : y.len = 1 := by rw [← hy]; exact h1
  generalize hs' : ({ s with all := s.all ++ [y] } : LS) = s'
  have ea : s'.all = s.all ++ [y] := by rw [← hs']
  have er : s'.ring = s.ring := by rw [← hs']
  have em : s'.limit = s.limit := by rw [← hs']
  have en : s'.all.length = s.all.length + 1 := by rw [ea]; simp
  have elo : s'.low = s.all.length + 1 - s.ring := by unfold low; rw [en, er]
  have el0 : s.low = s.all.length - s.ring := rfl
  have hle : s'.least = s.least := by
    refine least_eq (by omega) (by omega) ?_ ?_
    · simp only [ea]; rw [List.getElem_append_left hf]; exact hat
    · intro i hi hlow
      simp only [ea]
      rw [List.getElem_append_left (by omega)]
      exact least_none (by omega) hi (by omega)
  refine ⟨rfl, hle, ?_, ?_, en, em⟩
  · unfold room; rw [hle, en, er]; push_cast; omega
  · rw [flight_drop, flight_drop, hle, ea, List.drop_append_of_le_length (by omega), fly_snoc, if_pos hy1, hy2]
theorem send_full {s : LS} (hl : (s.all.length : Int) ≤ s.limit) (hr : s.room < 1) (x : Snt) (h1 : x.len = 1) (h3 : x.off ≤ 4611686018427387903) : s.send x = (s, 0, 7) := by
  unfold send
  rw [if_neg (by omega)]
  unfold give
  rw [if_neg (by omega), if_pos hr]
theorem none_flies {s : LS} (h : s.kept.length ≤ ahead s.kept) : s.least = s.all.length ∧ s.room = s.ring ∧ s.flight = 0 := by
  have h1 : s.least = s.all.length := by
    have := s.low_le
    have := ahead_le s.kept
    have : s.kept.length = s.all.length - s.low := by simp [kept]
    unfold least
    omega
  refine ⟨h1, by unfold room; omega, ?_⟩
  unfold flight
  refine fly_none fun x hx => ?_
  obtain ⟨i, hi, rfl⟩ := List.mem_iff_getElem.1 hx
  exact ahead_lt (by omega) hi
theorem some_flies {s : LS} (h : ahead s.kept < s.kept.length) : s.least < s.all.length := by
  have := s.low_le
  have : s.kept.length = s.all.length - s.low := by simp [kept]
  unfold least
  omega
end LS
end Go.Proofs.Yteigflkpopcjkaa
