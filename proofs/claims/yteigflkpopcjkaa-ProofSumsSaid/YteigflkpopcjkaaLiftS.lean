/-
  Arguments that are spans or lists of spans, opened to cells.
-/
import Derived.Test.YteigflkpopcjkaaLift
import Derived.Test.YteigflkpopcjkaaSpanP
namespace Go.Proofs.Yteigflkpopcjkaa
set_option linter.unusedSimpArgs false
set_option linter.unusedVariables false
set_option linter.unnecessarySimpa false
open Go.ChangeShapes Go.WideShapes Go.ChangeAt Go.RowKit Go.Deep Go.Joins

theorem cellsU64 : Try.prog.cellsOf 25 = 1 := by kernel_rfl
theorem cellsSpan : Try.prog.cellsOf 96 = 2 := by kernel_rfl
theorem bytesSpan : Try.prog.bytesOf 96 = 16 := by kernel_rfl
theorem oneSpan : oneCellFields Try.prog (match Try.prog.underlying 96 with | some (.struct fs) => fs | _ => #[]) = true := by kernel_rfl

section
variable {H : Type} {enc : TypeId × Value → H} {W : World} {b0 : Nat} {v : Value} {d : DataW H} {p : List MemPlace}

theorem trod_u64 {spare : Nat → Bool} {n : Nat} {u : Value} {y : DataW H × List MemPlace} (h : DataW.trod enc Try.prog W 0 spare true n 25 [u] = some y) : ∃ x : Int, u = .int .u64 x ∧ isU64 x := by
  obtain ⟨x, h1, h2, h3⟩ := DataW.trod_int (k := .u64) Try.underlying25 h
  simp at h1
  exact ⟨x, h1, wf_u64 h3⟩

set_option maxRecDepth 100000 in
theorem open_span (hval : Value.okWide Try.prog W .any b0 96 v) (h : DataW.Trod enc Try.prog W 0 (fun _ => true) true 96 v d p) :
    ∃ x y : Int, v = .agg #[.int .u64 x, .int .u64 y] ∧ isU64 x ∧ isU64 y := by
  obtain ⟨v0, v1, y0, y1, n, rfl, _, _, t0, t1⟩ := open_agg2 Try.underlying96 oneSpan cellsSpan hval h
  obtain ⟨x, rfl, hx⟩ := trod_u64 t0
  obtain ⟨y, rfl, hy⟩ := trod_u64 t1
  exact ⟨x, y, rfl, hx, hy⟩

set_option maxRecDepth 100000 in
theorem open_spans (hval : Value.okWide Try.prog W .any b0 69 v) (h : DataW.Trod enc Try.prog W 0 (fun _ => true) true 69 v d p) (hw : ∀ n ∈ d.weights Try.prog 69, n ≤ reachBytes) :
    ∃ (A : Option Addr) (n c : Nat) (l : List Sp), v = .slice A n c ∧ Rd W 2 A n c (Ss l) ∧ U2s l ∧ c ≤ 8796093021952 := by
  obtain ⟨a0, len, cap, rfl⟩ := okWide_slice Try.underlying69 hval
  obtain ⟨fuel, hf⟩ := h
  rcases open_slice_pairs Try.underlying69 Try.underlying96 cellsSpan rfl rfl cellsU64 cellsU64 hf with ⟨hcs, hx⟩ | ⟨a, len', cap', m, n, V0, V1, D0, D1, P0, P1, hcs, _, hl, hm, hmm, hx, hi⟩
  · simp [Value.cells] at hcs
    obtain ⟨rfl, rfl, rfl⟩ := hcs
    exact ⟨none, 0, 0, [], rfl, Rd.nil_ _ _, (fun s hs => by cases hs), by omega⟩
  · simp [Value.cells] at hcs
    obtain ⟨rfl, rfl, rfl⟩ := hcs
    simp only [Prod.mk.injEq] at hx
    obtain ⟨rfl, rfl⟩ := hx
    simp only [if_true] at hmm
    subst hmm
    have each : ∀ i, i < m → ∃ s : Sp, V0 i = .int .u64 s.1 ∧ V1 i = .int .u64 s.2 ∧ U2 s := fun i him => by
      obtain ⟨_, _, t0, t1⟩ := hi i him
      obtain ⟨x, hx, ux⟩ := trod_u64 t0
      obtain ⟨y, hy, uy⟩ := trod_u64 t1
      exact ⟨(x, y), hx, hy, ux, uy⟩
    have pick : ∃ f : Nat → Sp, ∀ i, i < m → V0 i = .int .u64 (f i).1 ∧ V1 i = .int .u64 (f i).2 ∧ U2 (f i) :=
      ⟨fun i => if h : i < m then Classical.choose (each i h) else (0, 0), fun i him => by simp only [him, dif_pos]; exact Classical.choose_spec (each i him)⟩
    obtain ⟨f, hf'⟩ := pick
    have hle : len ≤ m := hl
    refine ⟨some a, len, m, (List.range len).map f, rfl, rd_of_cells hl hm _ 2 (by omega) (by simp) ?_, ?_, ?_⟩
    · intro j u hu
      have hj : j < len * 2 := by have := (List.getElem?_eq_some_iff.1 hu).1; simpa using this
      obtain ⟨g1, g2⟩ := Ss_get ((List.range len).map f) (j / 2) (by simp; omega)
      obtain ⟨c0, c1, _, _⟩ := hi (j / 2) (by omega)
      obtain ⟨e0, e1, _⟩ := hf' (j / 2) (by omega)
      rcases Nat.mod_two_eq_zero_or_one j with hp | hp
      · have ej : j / 2 * 2 = j := by omega
        rw [ej] at g1 c0
        rw [g1] at hu
        rw [c0, e0, ← hu]
        simp
      · have ej : j / 2 * 2 + 1 = j := by omega
        rw [ej] at g2 c1
        rw [g2] at hu
        rw [c1, e1, ← hu]
        simp
    · intro s hs
      obtain ⟨i, hi', rfl⟩ := List.mem_map.1 hs
      exact (hf' i (by have := List.mem_range.1 hi'; omega)).2.2
    · have := hw ((len + (m - len)) * Try.prog.bytesOf 96) (by simp [DataW.weights, Try.underlying69])
      rw [bytesSpan] at this
      simp only [reachBytes] at this
      omega
end
end Go.Proofs.Yteigflkpopcjkaa
