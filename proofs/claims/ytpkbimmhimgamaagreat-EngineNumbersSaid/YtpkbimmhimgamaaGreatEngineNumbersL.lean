/-
  EngineNumbers: for every input the law returns true and leaves its arguments as they were. No condition.
-/
import Derived.Test.YtpkbimmhimgamaaGreatPBI
import Derived.Test.YtpkbimmhimgamaaGreatPBJ
import Derived.Test.YtpkbimmhimgamaaGreatFacts
namespace Go.Proofs.YtpkbimmhimgamaaGreat.engineNumbers
set_option linter.unusedSimpArgs false
set_option linter.unusedVariables false
set_option linter.unnecessarySimpa false
open Go.ChangeShapes Go.WideShapes Go.ChangeAt Go.RowKit

theorem cells_uint32 : Tryz.prog.cellsOf 51 = 1 := by kernel_rfl
theorem bytes_uint32 : Tryz.prog.bytesOf 51 = 4 := by kernel_rfl
theorem cells_uint64 : Tryz.prog.cellsOf 24 = 1 := by kernel_rfl
theorem bytes_uint64 : Tryz.prog.bytesOf 24 = 8 := by kernel_rfl

set_option maxRecDepth 100000 in
theorem lifted (os : Os) (started : os.Started) (H : Type) (enc : TypeId × Value → H) :
    ReturnsInHanded {} Tryz.checked os 3 .any (Rows.engineNumbersSpec.pre6 enc Tryz.prog Tryz.f3 Rows.engineNumbersRow.domain false) (Rows.engineNumbersSpec.post enc Tryz.prog Tryz.f3 false true false false) := by
  refine returnsInHanded_of_change_sized (C := Tryz.checked) own started (by kernel_rfl) Tryz.func3
    (ChangeSpec.witness6 (enc := enc) (C := Tryz.checked) false ⟨#[], #[.slice none 0 0, .slice none 0 0, .int .u8 0], []⟩ 8 (by kernel_rfl) (by kernel_rfl) (by kernel_rfl) (by kernel_rfl)) ?_
  intro W base args ds gs before hval0 hW _ hsz0 _
  have hsz : (DataW.weightsEach Tryz.prog (Tryz.f3.params.toList ++ Rows.engineNumbersSpec.plain.varTypes Tryz.prog) (ds ++ gs)).all (· ≤ reachBytes) = true := hsz0
  clear hsz0
  have hval : ∀ (j : Nat) t v, Tryz.f3.params[j]? = some t → args[j]? = some v → Value.okWide Tryz.prog W .any base t v := hval0
  have hW' := hW
  obtain ⟨p, q, hA0, hV, rfl, _, _⟩ := hW
  have hA : DataW.TrodAll enc Tryz.prog W 0 (fun _ => true) true Tryz.f3.params.toList args.toList ds p := hA0
  rw [Tryz.params3] at hA hval hsz
  obtain ⟨rfl, rfl⟩ := trodVars_none hV
  obtain ⟨v0, vs0, d0, ds0, p0, q0, hargs, rfl, rfl, h0, hA⟩ := trodAll_cons hA
  obtain ⟨v1, vs1, d1, ds1, p1, q1, rfl, rfl, rfl, h1, hA⟩ := trodAll_cons hA
  obtain ⟨v2, vs2, d2, ds2, p2, q2, rfl, rfl, rfl, h2, hA⟩ := trodAll_cons hA
  obtain ⟨rfl, rfl, rfl⟩ := trodAll_nil hA
  obtain rfl : args = #[v0, v1, v2] := by cases args; simp_all
  obtain ⟨A0, n0, c0, l0, rfl, R0, wf0, s0⟩ := open_is (k := .u32) Tryz.underlying22 Tryz.underlying51 cells_uint32 (hval 0 _ v0 rfl rfl) h0 (weights_at hsz (j := 0) rfl rfl)
  rw [bytes_uint32] at s0
  have e0 := R0.cap
  have m0 := R0.max
  unfold maxLen at m0
  simp only [reachBytes] at s0
  obtain ⟨A1, n1, c1, l1, rfl, R1, wf1, s1⟩ := open_is (k := .u64) Tryz.underlying23 Tryz.underlying24 cells_uint64 (hval 1 _ v1 rfl rfl) h1 (weights_at hsz (j := 1) rfl rfl)
  rw [bytes_uint64] at s1
  have e1 := R1.cap
  have m1 := R1.max
  unfold maxLen at m1
  simp only [reachBytes] at s1
  obtain ⟨a2, rfl, rfl, rfl, wf2⟩ := open_int (k := .u8) Tryz.underlying5 (hval 2 _ v2 rfl rfl) h2
  have b2 := wf_u8 wf2
  obtain rfl : l0.length = n0 := by
    have h := R0.len
    simpa using h
  obtain rfl : l1.length = n1 := by
    have h := R1.len
    simpa using h
  refine (engineNumbers_any A0 A1 c0 c1 l0 l1 a2 W R0 (fun x hx => wf_u32 (wf0 x hx)) R1 (fun x hx => wf_u64 (wf1 x hx)) b2).mono fun e W' ⟨he, hb⟩ => ?_
  subst he
  exact ⟨_, rfl, law_post laidOut (by kernel_rfl) rfl rfl Tryz.underlying4 rfl hW' hb⟩

set_option maxRecDepth 100000 in
theorem closed : joinedFacts Tryz.prog 3 Tryz.f3 Rows.engineNumbersSpec Rows.engineNumbersRow = true := by
  unfold joinedFacts
  with_reducible repeat' (apply and2)
  all_goals first | (with_reducible exact fact_mayEnter) | ((with_reducible refine fact_lifted ?_); rfl) | ((with_reducible refine fact_made ?_); rfl) | kernel_rfl

theorem proved : Rows.EngineNumbersSaid :=
  OpenClaim.holds_of_wide 3 Tryz.f3 rfl rfl rfl rfl rfl rfl rfl ⟨rfl, rfl, rfl, rfl, rfl⟩ rfl rfl rfl rfl rfl (by kernel_rfl) Tryz.func3 closed
    (of_decide_eq_true (by kernel_rfl)) (by unfold Func.isWrapper; first | (rw [if_pos (by decide +kernel)]; kernel_rfl) | (rw [if_neg (by decide +kernel)]; exact ⟨rfl, rfl⟩))
    (fun os started H enc _ => lifted os started H enc)
end Go.Proofs.YtpkbimmhimgamaaGreat.engineNumbers
