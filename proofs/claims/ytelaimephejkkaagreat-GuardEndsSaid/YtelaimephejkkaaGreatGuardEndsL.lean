/-
  GuardEnds: for every input the law returns true and leaves its arguments as they were. No condition.
-/
import Derived.Test.YtelaimephejkkaaGreatGuEnds
import Derived.Test.YtelaimephejkkaaGreatLiftH
import Derived.Test.YtelaimephejkkaaGreatLiftW
import Derived.Test.YtelaimephejkkaaGreatFacts
namespace Go.Proofs.YtelaimephejkkaaGreat.guardEnds
set_option linter.unusedSimpArgs false
set_option linter.unusedVariables false
set_option linter.unnecessarySimpa false
open Go.ChangeShapes Go.WideShapes Go.ChangeAt Go.RowKit


set_option maxRecDepth 100000 in
theorem lifted (os : Os) (started : os.Started) (H : Type) (enc : TypeId × Value → H) :
    ReturnsInHanded {} Tryz.checked os 5 .any (Rows.guardEndsSpec.pre6 enc Tryz.prog Tryz.f5 Rows.guardEndsRow.domain false) (Rows.guardEndsSpec.post enc Tryz.prog Tryz.f5 false true false false) := by
  refine returnsInHanded_of_change_sized (C := Tryz.checked) own started (by kernel_rfl) Tryz.func5
    (ChangeSpec.witness6 (enc := enc) (C := Tryz.checked) false ⟨#[], #[.int .u8 0, .slice none 0 0, .agg #[.int .u16 0, .int .u16 0, .int .u16 0, .int .u16 0], .int .u64 0, .slice none 0 0], []⟩ 8 (by kernel_rfl) (by kernel_rfl) (by kernel_rfl) (by kernel_rfl)) ?_
  intro W base args ds gs before hval0 hW _ hsz0 _
  have hsz : (DataW.weightsEach Tryz.prog (Tryz.f5.params.toList ++ Rows.guardEndsSpec.plain.varTypes Tryz.prog) (ds ++ gs)).all (· ≤ reachBytes) = true := hsz0
  clear hsz0
  have hval : ∀ (j : Nat) t v, Tryz.f5.params[j]? = some t → args[j]? = some v → Value.okWide Tryz.prog W .any base t v := hval0
  have hW' := hW
  obtain ⟨p, q, hA0, hV, rfl, _, _⟩ := hW
  have hA : DataW.TrodAll enc Tryz.prog W 0 (fun _ => true) true Tryz.f5.params.toList args.toList ds p := hA0
  rw [Tryz.params5] at hA hval hsz
  obtain ⟨rfl, rfl⟩ := trodVars_none hV
  obtain ⟨v0, vs0, d0, ds0, p0, q0, hargs, rfl, rfl, h0, hA⟩ := trodAll_cons hA
  obtain ⟨v1, vs1, d1, ds1, p1, q1, rfl, rfl, rfl, h1, hA⟩ := trodAll_cons hA
  obtain ⟨v2, vs2, d2, ds2, p2, q2, rfl, rfl, rfl, h2, hA⟩ := trodAll_cons hA
  obtain ⟨v3, vs3, d3, ds3, p3, q3, rfl, rfl, rfl, h3, hA⟩ := trodAll_cons hA
  obtain ⟨v4, vs4, d4, ds4, p4, q4, rfl, rfl, rfl, h4, hA⟩ := trodAll_cons hA
  obtain ⟨rfl, rfl, rfl⟩ := trodAll_nil hA
  obtain rfl : args = #[v0, v1, v2, v3, v4] := by cases args; simp_all
  obtain ⟨a0, rfl, rfl, rfl, wf0⟩ := open_int (k := .u8) Tryz.underlying5 (hval 0 _ v0 rfl rfl) h0
  have b0 := wf_u8 wf0
  obtain ⟨A1, n1, c1, l1, rfl, R1, wf1⟩ := open_deeds (hval 1 _ v1 rfl rfl) h1
  obtain ⟨k2, rfl, K2⟩ := open_w4 (hval 2 _ v2 rfl rfl) h2
  obtain ⟨a3, rfl, rfl, rfl, wf3⟩ := open_int (k := .u64) Tryz.underlying23 (hval 3 _ v3 rfl rfl) h3
  have b3 := wf_u64 wf3
  obtain ⟨A4, n4, c4, l4, rfl, R4⟩ := open_shots (hval 4 _ v4 rfl rfl) h4
  refine (guardEnds_any a0 A1 n1 c1 l1 k2 a3 A4 n4 c4 l4 W R1 wf1 K2 b3 R4 b0).mono fun e W' ⟨he, hb⟩ => ?_
  subst he
  exact ⟨_, rfl, law_post laidOut (by kernel_rfl) rfl rfl Tryz.underlying4 rfl hW' hb⟩

set_option maxRecDepth 100000 in
theorem closed : joinedFacts Tryz.prog 5 Tryz.f5 Rows.guardEndsSpec Rows.guardEndsRow = true := by
  unfold joinedFacts
  with_reducible repeat' (apply and2)
  all_goals first | (with_reducible exact fact_mayEnter) | ((with_reducible refine fact_lifted ?_); rfl) | ((with_reducible refine fact_made ?_); rfl) | kernel_rfl

theorem proved : Rows.GuardEndsSaid :=
  OpenClaim.holds_of_wide 5 Tryz.f5 rfl rfl rfl rfl rfl rfl rfl ⟨rfl, rfl, rfl, rfl, rfl⟩ rfl rfl rfl rfl rfl (by kernel_rfl) Tryz.func5 closed
    (of_decide_eq_true (by kernel_rfl)) (by unfold Func.isWrapper; first | (rw [if_pos (by decide +kernel)]; kernel_rfl) | (rw [if_neg (by decide +kernel)]; exact ⟨rfl, rfl⟩))
    (fun os started H enc _ => lifted os started H enc)
end Go.Proofs.YtelaimephejkkaaGreat.guardEnds
