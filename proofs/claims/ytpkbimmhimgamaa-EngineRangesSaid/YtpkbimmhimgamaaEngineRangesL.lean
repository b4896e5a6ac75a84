/-
  EngineRanges: for every input the law returns true and leaves its arguments as they were. No condition.
-/
import Derived.Test.YtpkbimmhimgamaaPBC
import Derived.Test.YtpkbimmhimgamaaFacts
namespace Go.Proofs.Ytpkbimmhimgamaa.engineRanges
set_option linter.unusedSimpArgs false
set_option linter.unusedVariables false
set_option linter.unnecessarySimpa false
open Go.ChangeShapes Go.WideShapes Go.ChangeAt Go.RowKit

theorem cells_uint64 : Try.prog.cellsOf 22 = 1 := by kernel_rfl
theorem bytes_uint64 : Try.prog.bytesOf 22 = 8 := by kernel_rfl

set_option maxRecDepth 100000 in
theorem lifted (os : Os) (started : os.Started) (H : Type) (enc : TypeId × Value → H) :
    ReturnsInHanded {} Try.checked os 3 .any (Rows.engineRangesSpec.pre6 enc Try.prog Try.f3 Rows.engineRangesRow.domain false) (Rows.engineRangesSpec.post enc Try.prog Try.f3 false true false false) := by
  refine returnsInHanded_of_change_sized (C := Try.checked) own started (by kernel_rfl) Try.func3
    (ChangeSpec.witness6 (enc := enc) (C := Try.checked) false ⟨#[], #[.agg #[.int .i64 0, .int .u64 0, .int .i64 0, .int .u64 0, .int .i64 0, .int .u64 0, .int .u64 0, .int .u64 0, .int .u64 0, .int .i64 0, .int .u64 0, .int .u64 0, .int .u64 0, .int .u64 0, .int .u64 0, .int .i64 0, .int .u64 0], .slice none 0 0], []⟩ 8 (by kernel_rfl) (by kernel_rfl) (by kernel_rfl) (by kernel_rfl)) ?_
  intro W base args ds gs before hval0 hW _ hsz0 _
  have hsz : (DataW.weightsEach Try.prog (Try.f3.params.toList ++ Rows.engineRangesSpec.plain.varTypes Try.prog) (ds ++ gs)).all (· ≤ reachBytes) = true := hsz0
  clear hsz0
  have hval : ∀ (j : Nat) t v, Try.f3.params[j]? = some t → args[j]? = some v → Value.okWide Try.prog W .any base t v := hval0
  have hW' := hW
  obtain ⟨p, q, hA0, hV, rfl, _, _⟩ := hW
  have hA : DataW.TrodAll enc Try.prog W 0 (fun _ => true) true Try.f3.params.toList args.toList ds p := hA0
  rw [Try.params3] at hA hval hsz
  obtain ⟨rfl, rfl⟩ := trodVars_none hV
  obtain ⟨v0, vs0, d0, ds0, p0, q0, hargs, rfl, rfl, h0, hA⟩ := trodAll_cons hA
  obtain ⟨v1, vs1, d1, ds1, p1, q1, rfl, rfl, rfl, h1, hA⟩ := trodAll_cons hA
  obtain ⟨rfl, rfl, rfl⟩ := trodAll_nil hA
  obtain rfl : args = #[v0, v1] := by cases args; simp_all
  obtain ⟨c0, rfl, T0, M0⟩ := open_cfg (hval 0 _ v0 rfl rfl) h0
  obtain ⟨A1, n1, c1, l1, rfl, R1, wf1, s1⟩ := open_is (k := .u64) Try.underlying25 Try.underlying22 cells_uint64 (hval 1 _ v1 rfl rfl) h1 (weights_at hsz (j := 1) rfl rfl)
  rw [bytes_uint64] at s1
  have e1 := R1.cap
  have m1 := R1.max
  unfold maxLen at m1
  simp only [reachBytes] at s1
  obtain rfl : l1.length = n1 := by
    have h := R1.len
    simpa using h
  refine (engineRanges_any A1 c1 c0 l1 W T0 M0 R1 (by omega) (fun x hx => wf_u64 (wf1 x hx))).mono fun e W' ⟨he, hb⟩ => ?_
  subst he
  exact ⟨_, rfl, law_post laidOut (by kernel_rfl) rfl rfl Try.underlying4 rfl hW' hb⟩

set_option maxRecDepth 100000 in
theorem closed : joinedFacts Try.prog 3 Try.f3 Rows.engineRangesSpec Rows.engineRangesRow = true := by
  unfold joinedFacts
  with_reducible repeat' (apply and2)
  all_goals first | (with_reducible exact fact_mayEnter) | ((with_reducible refine fact_lifted ?_); rfl) | ((with_reducible refine fact_made ?_); rfl) | kernel_rfl

theorem proved : Rows.EngineRangesSaid :=
  OpenClaim.holds_of_wide 3 Try.f3 rfl rfl rfl rfl rfl rfl rfl ⟨rfl, rfl, rfl, rfl, rfl⟩ rfl rfl rfl rfl rfl (by kernel_rfl) Try.func3 closed
    (of_decide_eq_true (by kernel_rfl)) (by unfold Func.isWrapper; first | (rw [if_pos (by decide +kernel)]; kernel_rfl) | (rw [if_neg (by decide +kernel)]; exact ⟨rfl, rfl⟩))
    (fun os started H enc _ => lifted os started H enc)
end Go.Proofs.Ytpkbimmhimgamaa.engineRanges
