/-
  Arguments that are four drawn numbers, opened to cells.
-/
import Derived.Test.YtelaimephejkkaaGreatLiftD
import Derived.Test.YtelaimephejkkaaGreatAskR
import Derived.Laws.IdiomArrays
namespace Go.Proofs.YtelaimephejkkaaGreat
set_option linter.unusedSimpArgs false
set_option linter.unusedVariables false
set_option linter.unnecessarySimpa false
open Go.RowKit
open Go.ChangeShapes Go.WideShapes Go.ChangeAt Go.Deep Go.Joins

theorem cellsW16 : Tryz.prog.cellsOf 39 = 1 := by kernel_rfl
theorem cellsW4 : Tryz.prog.cellsOf 40 = 4 := by kernel_rfl
theorem okWide_array {P : Program} {w : World} {r : Reach} {base : Nat} {t e : TypeId} {n : Nat} {v : Value} (ht : P.underlying t = some (.array n e)) (h : Value.okWide P w r base t v) : ∃ cs, v = .agg cs ∧ cs.size = P.cellsOf t := by
  simp only [Value.okWide, ht] at h
  obtain ⟨cs, h1, h2, _⟩ := h
  exact ⟨cs, h1, h2⟩
section
variable {H : Type} {enc : TypeId × Value → H} {W : World} {b0 : Nat} {v : Value} {d : DataW H} {p : List MemPlace}
theorem trod_u16' {spare : Nat → Bool} {n : Nat} {u : Value} {y : DataW H × List MemPlace} (h : DataW.trod enc Tryz.prog W 0 spare true n 39 [u] = some y) : ∃ x : Int, u = .int .u16 x ∧ 0 ≤ x ∧ x ≤ 65535 := by
  obtain ⟨x, h1, h2, h3⟩ := DataW.trod_int (k := .u16) Tryz.underlying39 h
  simp at h1
  exact ⟨x, h1, wf_u16 h3⟩
set_option maxRecDepth 100000 in
theorem open_w4 (hval : Value.okWide Tryz.prog W .any b0 40 v) (h : DataW.Trod enc Tryz.prog W 0 (fun _ => true) true 40 v d p) :
    ∃ k : W4, v = k.val ∧ k.ok := by
  obtain ⟨⟨cs⟩, rfl, hsz⟩ := okWide_array Tryz.underlying40 hval
  have hc : cs.length = 4 := hsz.trans cellsW4
  obtain ⟨fuel, hf⟩ := h
  match cs, hc with
  | [v0, v1, v2, v3], _ =>
    obtain ⟨y0, y1, y2, y3, n, _, g0, g1, g2, g3⟩ := trod_array4 Tryz.underlying40 cellsW16 (by simpa [Value.cells] using hf)
    obtain ⟨x0, rfl, r0⟩ := trod_u16' g0
    obtain ⟨x1, rfl, r1⟩ := trod_u16' g1
    obtain ⟨x2, rfl, r2⟩ := trod_u16' g2
    obtain ⟨x3, rfl, r3⟩ := trod_u16' g3
    exact ⟨⟨x0, x1, x2, x3⟩, rfl, r0, r1, r2, r3⟩
end
end Go.Proofs.YtelaimephejkkaaGreat
