/-
  Arguments that are acknowledgments or four drawn numbers, opened to cells.
-/
import Derived.Test.YteigflkpopcjkaaLiftD
import Derived.Test.YteigflkpopcjkaaAck
import Derived.Laws.IdiomArrays
namespace Go.Proofs.Yteigflkpopcjkaa
set_option linter.unusedSimpArgs false
set_option linter.unusedVariables false
set_option linter.unnecessarySimpa false
open Go.RowKit
open Go.ChangeShapes Go.WideShapes Go.ChangeAt Go.Deep Go.Joins

theorem cellsSpan : Try.prog.cellsOf 96 = 2 := by kernel_rfl
theorem cellsSpans : Try.prog.cellsOf 69 = 1 := by kernel_rfl
theorem cellsBool' : Try.prog.cellsOf 4 = 1 := by kernel_rfl
theorem cellsAck : Try.prog.cellsOf 71 = 5 := by kernel_rfl
theorem cellsW : Try.prog.cellsOf 65 = 1 := by kernel_rfl

section
variable {H : Type} {enc : TypeId × Value → H} {W : World} {b0 : Nat} {v : Value} {d : DataW H} {p : List MemPlace}

theorem trod_spans {fuel : Nat} {u : Value} {y : DataW H × List MemPlace} (hf : DataW.trod enc Try.prog W 0 (fun _ => true) true fuel 69 [u] = some y) :
    ∃ (A : Option Addr) (c : Nat) (l : List Sp), u = .slice A l.length c ∧ Rd W 2 A l.length c (Ss l) ∧ U2s l := by
  rcases open_slice_pairs Try.underlying69 Try.underlying96 cellsSpan rfl rfl cellsU64' cellsU64' hf with ⟨hcs, hx⟩ | ⟨a, len, cap, m, n, V0, V1, D0, D1, P0, P1, hcs, _, hl, hm, hmm, hx, hi⟩
  · simp at hcs
    exact ⟨none, 0, [], hcs, Rd.nil_ _ _, (fun s hs => by cases hs)⟩
  · simp at hcs
    simp only [if_true] at hmm
    subst hmm
    have each : ∀ i, i < m → ∃ s : Sp, V0 i = .int .u64 s.1 ∧ V1 i = .int .u64 s.2 ∧ U2 s := fun i him => by
      obtain ⟨_, _, t0, t1⟩ := hi i him
      obtain ⟨x, hx, ux⟩ := trod_u64' t0
      obtain ⟨y, hy, uy⟩ := trod_u64' t1
      exact ⟨(x, y), hx, hy, ux, uy⟩
    have pick : ∃ f : Nat → Sp, ∀ i, i < m → V0 i = .int .u64 (f i).1 ∧ V1 i = .int .u64 (f i).2 ∧ U2 (f i) :=
      ⟨fun i => if h : i < m then Classical.choose (each i h) else (0, 0), fun i him => by simp only [him, dif_pos]; exact Classical.choose_spec (each i him)⟩
    obtain ⟨f, hf'⟩ := pick
    have hle : len ≤ m := hl
    have hlen : ((List.range len).map f).length = len := by simp
    refine ⟨some a, m, (List.range len).map f, by rw [hlen]; exact hcs, ?_, ?_⟩
    · rw [hlen]
      refine rd_of_cells hl hm _ 2 (by omega) (by simp) ?_
      intro j u hu
      have hj : j < len * 2 := by have := (List.getElem?_eq_some_iff.1 hu).1; simpa using this
      obtain ⟨g1, g2⟩ := Ss_get ((List.range len).map f) (j / 2) (by simp; omega)
      obtain ⟨c0, c1, _, _⟩ := hi (j / 2) (by omega)
      obtain ⟨e0, e1, _⟩ := hf' (j / 2) (by omega)
      rcases Nat.mod_two_eq_zero_or_one j with hp | hp
      · have ej : j / 2 * 2 = j := by omega
        rw [ej] at g1 c0
        rw [g1] at hu
        rw [c0, e0, ← hu]
        simp
      · have ej : j / 2 * 2 + 1 = j := by omega
        rw [ej] at g2 c1
        rw [g2] at hu
        rw [c1, e1, ← hu]
        simp
    · intro s hs
      obtain ⟨i, hi', rfl⟩ := List.mem_map.1 hs
      exact (hf' i (by have := List.mem_range.1 hi'; omega)).2.2

set_option maxRecDepth 100000 in
theorem open_ack (hval : Value.okWide Try.prog W .any b0 71 v) (h : DataW.Trod enc Try.prog W 0 (fun _ => true) true 71 v d p) :
    ∃ a : Ak, v = a.val ∧ AkR W a := by
  obtain ⟨⟨cs⟩, rfl, hsz⟩ := okWide_struct Try.underlying71 hval
  have hc : cs.length = 5 := hsz.trans cellsAck
  obtain ⟨fuel, hf⟩ := h
  obtain ⟨xs, k, _, _, _, hxl, hg⟩ := DataW.trod_struct Try.underlying71 hf
  match cs, hc, xs, hxl with
  | [v0, v1, v2, v3, v4], _, [y0, y1, y2, y3, y4], _ =>
    have g0 := hg 0 _ rfl
    have g1 := hg 1 _ rfl
    have g2 := hg 2 _ rfl
    have g3 := hg 3 _ rfl
    have g4 := hg 4 _ rfl
    simp [Value.cells, cellsSpans, cellsU64', cellsBool'] at g0 g1 g2 g3 g4
    obtain ⟨A, c, sp, rfl, R0, u0⟩ := trod_spans g0
    obtain ⟨B, d, mm, rfl, R1, u1⟩ := trod_spans g1
    obtain ⟨x2, rfl, u2⟩ := trod_u64' g2
    obtain ⟨x3, rfl, u3⟩ := trod_u64' g3
    obtain ⟨o, h4, _⟩ := DataW.trod_bool Try.underlying4 g4
    simp at h4
    subst h4
    exact ⟨⟨A, c, B, d, sp, mm, x2, x3, o⟩, rfl, R0, R1, u0, u1, u2, u3⟩

end
end Go.Proofs.Yteigflkpopcjkaa
