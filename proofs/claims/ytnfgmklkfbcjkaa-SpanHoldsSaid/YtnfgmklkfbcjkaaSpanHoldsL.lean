/-
  SpanHolds: for every input the law returns true and leaves its arguments as they were. No condition.
-/
import Derived.Test.YtnfgmklkfbcjkaaSpanHolds
import Derived.Test.YtnfgmklkfbcjkaaLift
namespace Go.Proofs.Ytnfgmklkfbcjkaa.spanHolds
set_option linter.unusedSimpArgs false
set_option linter.unusedVariables false
set_option linter.unnecessarySimpa false
open Go.ChangeShapes Go.WideShapes Go.ChangeAt Go.RowKit

theorem cells_uint16 : Try.prog.cellsOf 35 = 1 := by kernel_rfl
theorem bytes_uint16 : Try.prog.bytesOf 35 = 2 := by kernel_rfl

set_option maxRecDepth 100000 in
theorem lifted (os : Os) (started : os.Started) (H : Type) (enc : TypeId × Value → H) :
    ReturnsInHanded {} Try.checked os 10 .any (Rows.spanHoldsSpec.pre6 enc Try.prog Try.f10 Rows.spanHoldsRow.domain false) (Rows.spanHoldsSpec.post enc Try.prog Try.f10 false true false false) := by
  refine returnsInHanded_of_change_sized (C := Try.checked) own started (by kernel_rfl) Try.func10
    (ChangeSpec.witness6 (enc := enc) (C := Try.checked) false ⟨#[], #[.slice none 0 0, .int .u8 0, .int .u8 0, .int .u8 0], []⟩ 8 (by kernel_rfl) (by kernel_rfl) (by kernel_rfl) (by kernel_rfl)) ?_
  intro W base args ds gs before hval0 hW _ hsz0 _
  have hsz : (DataW.weightsEach Try.prog (Try.f10.params.toList ++ Rows.spanHoldsSpec.plain.varTypes Try.prog) (ds ++ gs)).all (· ≤ reachBytes) = true := hsz0
  clear hsz0
  have hval : ∀ (j : Nat) t v, Try.f10.params[j]? = some t → args[j]? = some v → Value.okWide Try.prog W .any base t v := hval0
  have hW' := hW
  obtain ⟨p, q, hA0, hV, rfl, _, _⟩ := hW
  have hA : DataW.TrodAll enc Try.prog W 0 (fun _ => true) true Try.f10.params.toList args.toList ds p := hA0
  rw [Try.params10] at hA hval hsz
  obtain ⟨rfl, rfl⟩ := trodVars_none hV
  obtain ⟨v0, vs0, d0, ds0, p0, q0, hargs, rfl, rfl, h0, hA⟩ := trodAll_cons hA
  obtain ⟨v1, vs1, d1, ds1, p1, q1, rfl, rfl, rfl, h1, hA⟩ := trodAll_cons hA
  obtain ⟨v2, vs2, d2, ds2, p2, q2, rfl, rfl, rfl, h2, hA⟩ := trodAll_cons hA
  obtain ⟨v3, vs3, d3, ds3, p3, q3, rfl, rfl, rfl, h3, hA⟩ := trodAll_cons hA
  obtain ⟨rfl, rfl, rfl⟩ := trodAll_nil hA
  obtain rfl : args = #[v0, v1, v2, v3] := by cases args; simp_all
  obtain ⟨A0, n0, c0, l0, rfl, R0, wf0, s0⟩ := open_is (k := .u16) Try.underlying38 Try.underlying35 cells_uint16 (hval 0 _ v0 rfl rfl) h0 (weights_at hsz (j := 0) rfl rfl)
  rw [bytes_uint16] at s0
  have e0 := R0.cap
  have m0 := R0.max
  unfold maxLen at m0
  simp only [reachBytes] at s0
  obtain ⟨a1, rfl, rfl, rfl, wf1⟩ := open_int (k := .u8) Try.underlying5 (hval 1 _ v1 rfl rfl) h1
  have b1 := wf_u8 wf1
  obtain ⟨a2, rfl, rfl, rfl, wf2⟩ := open_int (k := .u8) Try.underlying5 (hval 2 _ v2 rfl rfl) h2
  have b2 := wf_u8 wf2
  obtain ⟨a3, rfl, rfl, rfl, wf3⟩ := open_int (k := .u8) Try.underlying5 (hval 3 _ v3 rfl rfl) h3
  have b3 := wf_u8 wf3
  refine (spanHolds_any A0 n0 c0 l0 a1 a2 a3 W R0 (fun x hx => wf_u16 (wf0 x hx)) b1 b2 b3).mono fun e W' ⟨he, hb⟩ => ?_
  subst he
  exact ⟨_, rfl, law_post laidOut (by kernel_rfl) rfl rfl Try.underlying4 rfl hW' hb⟩

theorem proved : Rows.SpanHoldsSaid :=
  OpenClaim.holds_of_wide 10 Try.f10 rfl rfl rfl rfl rfl rfl rfl ⟨rfl, rfl, rfl, rfl, rfl⟩ rfl rfl rfl rfl rfl (by kernel_rfl) Try.func10 (by kernel_rfl)
    (of_decide_eq_true (by kernel_rfl)) (by unfold Func.isWrapper; first | (rw [if_pos (by decide +kernel)]; kernel_rfl) | (rw [if_neg (by decide +kernel)]; exact ⟨rfl, rfl⟩))
    (fun os started H enc _ => lifted os started H enc)
end Go.Proofs.Ytnfgmklkfbcjkaa.spanHolds
