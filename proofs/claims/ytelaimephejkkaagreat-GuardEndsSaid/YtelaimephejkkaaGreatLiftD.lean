/-
  Arguments that are lists of deeds, opened to cells.
-/
import Derived.Test.YtelaimephejkkaaGreatLift
import Derived.Test.YtelaimephejkkaaGreatDo
namespace Go.Proofs.YtelaimephejkkaaGreat
set_option linter.unusedSimpArgs false
set_option linter.unusedVariables false
set_option linter.unnecessarySimpa false
open Go.RowKit
open Go.ChangeShapes Go.WideShapes Go.ChangeAt Go.Deep Go.Joins

theorem cellsDeed : Tryz.prog.cellsOf 90 = 3 := by kernel_rfl
theorem cellsInt : Tryz.prog.cellsOf 3 = 1 := by kernel_rfl
theorem cellsU64' : Tryz.prog.cellsOf 23 = 1 := by kernel_rfl

section
variable {H : Type} {enc : TypeId × Value → H} {W : World} {b0 : Nat} {v : Value} {d : DataW H} {p : List MemPlace}

theorem trod_u64' {spare : Nat → Bool} {n : Nat} {u : Value} {y : DataW H × List MemPlace} (h : DataW.trod enc Tryz.prog W 0 spare true n 23 [u] = some y) : ∃ x : Int, u = .int .u64 x ∧ isU64 x := by
  obtain ⟨x, h1, h2, h3⟩ := DataW.trod_int (k := .u64) Tryz.underlying23 h
  simp at h1
  exact ⟨x, h1, wf_u64 h3⟩
theorem trod_i64' {spare : Nat → Bool} {n : Nat} {u : Value} {y : DataW H × List MemPlace} (h : DataW.trod enc Tryz.prog W 0 spare true n 3 [u] = some y) : ∃ x : Int, u = .int .i64 x := by
  obtain ⟨x, h1, h2, h3⟩ := DataW.trod_int (k := .i64) Tryz.underlying3 h
  simp at h1
  exact ⟨x, h1⟩

set_option maxRecDepth 100000 in
theorem open_deeds (hval : Value.okWide Tryz.prog W .any b0 22 v) (h : DataW.Trod enc Tryz.prog W 0 (fun _ => true) true 22 v d p) :
    ∃ (A : Option Addr) (n c : Nat) (l : List Dd), v = .slice A n c ∧ Rd W 3 A n c (Ds l) ∧ ∀ e ∈ l, e.ok := by
  obtain ⟨a0, len, cap, rfl⟩ := okWide_slice Tryz.underlying22 hval
  obtain ⟨fuel, hf⟩ := h
  rcases open_slice Tryz.underlying22 hf with ⟨hcs, _⟩ | ⟨a, len', cap', m, n, D, Pl, hcs, _, hl, hm, hmm, _, hi⟩
  · simp [Value.cells] at hcs
    obtain ⟨rfl, rfl, rfl⟩ := hcs
    exact ⟨none, 0, 0, [], rfl, Rd.nil_ _ _, (fun s hs => by cases hs)⟩
  · simp [Value.cells] at hcs
    obtain ⟨rfl, rfl, rfl⟩ := hcs
    simp only [if_true] at hmm
    subst hmm
    rw [cellsDeed] at hi
    have each : ∀ i, i < m → ∃ e : Dd, W.cell? (a.add (i * 3)) = some (.int .i64 e.kind) ∧ W.cell? (a.add (i * 3 + 1)) = some (.int .u64 e.a) ∧ W.cell? (a.add (i * 3 + 2)) = some (.int .u64 e.b) ∧ e.ok := fun i him => by
      obtain ⟨cs, h1, h2⟩ := hi i him
      obtain ⟨_, hlen, hcell⟩ := World.cells?_some h1
      obtain ⟨xs, k, _, _, _, hxl, hg⟩ := DataW.trod_struct Tryz.underlying90 h2
      match cs, hlen, xs, hxl with
      | [v0, v1, v2], _, [y0, y1, y2], _ =>
        have g0 := hg 0 _ rfl
        have g1 := hg 1 _ rfl
        have g2 := hg 2 _ rfl
        simp [cellsInt, cellsU64'] at g0 g1 g2
        obtain ⟨x0, rfl⟩ := trod_i64' g0
        obtain ⟨x1, rfl, u1⟩ := trod_u64' g1
        obtain ⟨x2, rfl, u2⟩ := trod_u64' g2
        have c0 := hcell 0 (by omega)
        have c1 := hcell 1 (by omega)
        have c2 := hcell 2 (by omega)
        rw [Go.Deep.add_add] at c0 c1 c2
        exact ⟨⟨x0, x1, x2⟩, by simpa using c0, by simpa using c1, by simpa using c2, u1, u2⟩
    have pick : ∃ f : Nat → Dd, ∀ i, i < m → W.cell? (a.add (i * 3)) = some (.int .i64 (f i).kind) ∧ W.cell? (a.add (i * 3 + 1)) = some (.int .u64 (f i).a) ∧ W.cell? (a.add (i * 3 + 2)) = some (.int .u64 (f i).b) ∧ (f i).ok :=
      ⟨fun i => if h : i < m then Classical.choose (each i h) else ⟨0, 0, 0⟩, fun i him => by simp only [him, dif_pos]; exact Classical.choose_spec (each i him)⟩
    obtain ⟨f, hf'⟩ := pick
    have hle : len ≤ m := hl
    refine ⟨some a, len, m, (List.range len).map f, rfl, rd_of_cells hl hm _ 3 (by omega) ?_ ?_, ?_⟩
    · rw [show Ds ((List.range len).map f) = ((List.range len).map f).flatMap Dd.vals from rfl, flat_len _ 3 (fun _ => rfl)]
      simp
    · intro j u hu
      have hj : j < len * 3 := by
        have := (List.getElem?_eq_some_iff.1 hu).1
        rw [show Ds ((List.range len).map f) = ((List.range len).map f).flatMap Dd.vals from rfl, flat_len _ 3 (fun _ => rfl)] at this
        simpa using this
      have hq : j / 3 < ((List.range len).map f).length := by simp; omega
      have g := flat_get Dd.vals 3 (fun _ => rfl) ((List.range len).map f) (j / 3) (j % 3) hq (by omega)
      have ej : j / 3 * 3 + j % 3 = j := by omega
      rw [ej] at g
      rw [show Ds ((List.range len).map f) = ((List.range len).map f).flatMap Dd.vals from rfl, g] at hu
      obtain ⟨c0, c1, c2, _⟩ := hf' (j / 3) (by omega)
      simp only [List.getElem_map, List.getElem_range] at hu
      rcases (show j % 3 = 0 ∨ j % 3 = 1 ∨ j % 3 = 2 by omega) with h | h | h
      · rw [h] at hu ej
        rw [← ej, ← hu]
        exact c0
      · rw [h] at hu ej
        rw [← ej, ← hu]
        exact c1
      · rw [h] at hu ej
        rw [← ej, ← hu]
        exact c2
    · intro e he
      obtain ⟨i, hi', rfl⟩ := List.mem_map.1 he
      exact (hf' i (by have := List.mem_range.1 hi'; omega)).2.2.2
end
end Go.Proofs.YtelaimephejkkaaGreat
