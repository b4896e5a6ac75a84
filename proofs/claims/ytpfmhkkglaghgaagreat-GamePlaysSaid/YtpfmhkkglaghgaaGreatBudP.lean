/-
  A budget of challenges, and a guard, plainly.
-/
import Derived.Test.YtpfmhkkglaghgaaGreatOctP
namespace Go.Proofs.YtpfmhkkglaghgaaGreat
set_option linter.unusedSimpArgs false
set_option linter.unusedVariables false
set_option linter.unnecessarySimpa false
open Go.RowKit

structure BS where
  most : Nat
  every : Int
  now : Int
  all : List Int
namespace BS
def new (most every : Int) : BS := ⟨(max 0 (min most 64)).toNat, every, 0, []⟩
def still (every n : Int) (l : List Int) : List Int := l.filter fun t => decide (n - t < every)
def ask (s : BS) (n : Int) : BS × Bool :=
  if s.most ≤ (still s.every (max s.now n) s.all).length then ({ s with now := max s.now n }, false) else ({ s with now := max s.now n, all := s.all ++ [max s.now n] }, true)
structure Good (s : BS) : Prop where
  le : ∀ t ∈ s.all, 0 ≤ t ∧ t ≤ s.now
  n0 : isU64 s.now
  e0 : isU64 s.every
  m0 : s.most ≤ 64
theorem Good.new {most every : Int} (h : isU64 every) : (BS.new most every).Good := ⟨fun t ht => by simp [BS.new] at ht, by show isU64 0; unfold isU64; omega, h, by show (max 0 (min most 64)).toNat ≤ 64; omega⟩
theorem Good.ask {s : BS} (g : s.Good) {n : Int} (hn : isU64 n) : (s.ask n).1.Good := by
  have hn0 := hn.1
  have hn1 := hn.2
  have g0 := g.n0.1
  have g1 := g.n0.2
  unfold BS.ask
  split
  · exact ⟨fun t ht => by have := g.le t ht; simp only; omega, ⟨by simp only; omega, by simp only; omega⟩, g.e0, g.m0⟩
  · refine ⟨fun t ht => ?_, ⟨by simp only; omega, by simp only; omega⟩, g.e0, g.m0⟩
    rcases List.mem_append.1 ht with h | h
    · have := g.le t h; simp only; omega
    · rw [List.mem_singleton.1 h]; simp only; omega
theorem ask_len (s : BS) (n : Int) : (s.ask n).1.all.length ≤ s.all.length + 1 ∧ (s.ask n).1.most = s.most ∧ (s.ask n).1.every = s.every := by
  unfold ask
  split
  · exact ⟨by simp only; omega, rfl, rfl⟩
  · exact ⟨by simp, rfl, rfl⟩
/-- What the program keeps serves as well as all of them. -/
def Keeps (s : BS) (l : List Int) : Prop := ∀ n, s.now ≤ n → still s.every n l = still s.every n s.all
theorem still_still (e : Int) {n m : Int} (h : n ≤ m) (l : List Int) : still e m (still e n l) = still e m l := by
  unfold still
  rw [List.filter_filter]
  congr 1
  funext t
  by_cases h1 : m - t < e
  · have h2 : n - t < e := by omega
    simp [h1, h2]
  · simp [h1]
theorem Keeps.ask {s : BS} {l : List Int} (h : s.Keeps l) (n : Int) :
    still s.every (max s.now n) l = still s.every (max s.now n) s.all ∧ ((s.ask n).2 = true → (s.ask n).1.Keeps (still s.every (max s.now n) l ++ [max s.now n])) ∧ ((s.ask n).2 = false → (s.ask n).1.Keeps (still s.every (max s.now n) l)) := by
  have h1 := h (max s.now n) (by omega)
  refine ⟨h1, fun ht => ?_, fun hf => ?_⟩
  · unfold BS.ask at ht ⊢
    split at ht
    · cases ht
    · rename_i hc
      rw [if_neg hc]
      intro m hm
      simp only at hm ⊢
      rw [h1]
      have e1 : still s.every m (still s.every (max s.now n) s.all ++ [max s.now n]) = still s.every m (still s.every (max s.now n) s.all) ++ still s.every m [max s.now n] := by simp [still]
      have e2 : still s.every m (s.all ++ [max s.now n]) = still s.every m s.all ++ still s.every m [max s.now n] := by simp [still]
      rw [e1, e2, still_still _ hm]
  · unfold BS.ask at hf ⊢
    split at hf
    · rename_i hc
      rw [if_pos hc]
      intro m hm
      simp only at hm ⊢
      rw [h1, still_still _ hm]
    · cases hf
end BS
end Go.Proofs.YtpfmhkkglaghgaaGreat
