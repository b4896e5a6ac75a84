/-
  PeerReads: for every input the law returns true and leaves its arguments as they were. No condition.
-/
import Derived.Test.YtkedfipeebjcjaaPlReads
import Derived.Test.YtkedfipeebjcjaaLift
namespace Go.Proofs.Ytkedfipeebjcjaa.peerReads
set_option linter.unusedSimpArgs false
set_option linter.unusedVariables false
set_option linter.unnecessarySimpa false
open Go.ChangeShapes Go.WideShapes Go.ChangeAt Go.RowKit

theorem cells_uint16 : Try.prog.cellsOf 34 = 1 := by kernel_rfl
theorem bytes_uint16 : Try.prog.bytesOf 34 = 2 := by kernel_rfl
theorem cells_uint8 : Try.prog.cellsOf 5 = 1 := by kernel_rfl
theorem bytes_uint8 : Try.prog.bytesOf 5 = 1 := by kernel_rfl

set_option maxRecDepth 100000 in
theorem lifted (os : Os) (started : os.Started) (H : Type) (enc : TypeId × Value → H) :
    ReturnsInHanded {} Try.checked os 3 .any (Rows.peerReadsSpec.pre6 enc Try.prog Try.f3 Rows.peerReadsRow.domain false) (Rows.peerReadsSpec.post enc Try.prog Try.f3 false true false false) := by
  refine returnsInHanded_of_change_sized (C := Try.checked) own started (by kernel_rfl) Try.func3
    (ChangeSpec.witness6 (enc := enc) (C := Try.checked) false ⟨#[], #[.slice none 0 0, .slice none 0 0, .slice none 0 0], []⟩ 8 (by kernel_rfl) (by kernel_rfl) (by kernel_rfl) (by kernel_rfl)) ?_
  intro W base args ds gs before hval0 hW _ hsz0 _
  have hsz : (DataW.weightsEach Try.prog (Try.f3.params.toList ++ Rows.peerReadsSpec.plain.varTypes Try.prog) (ds ++ gs)).all (· ≤ reachBytes) = true := hsz0
  clear hsz0
  have hval : ∀ (j : Nat) t v, Try.f3.params[j]? = some t → args[j]? = some v → Value.okWide Try.prog W .any base t v := hval0
  have hW' := hW
  obtain ⟨p, q, hA0, hV, rfl, _, _⟩ := hW
  have hA : DataW.TrodAll enc Try.prog W 0 (fun _ => true) true Try.f3.params.toList args.toList ds p := hA0
  rw [Try.params3] at hA hval hsz
  obtain ⟨rfl, rfl⟩ := trodVars_none hV
  obtain ⟨v0, vs0, d0, ds0, p0, q0, hargs, rfl, rfl, h0, hA⟩ := trodAll_cons hA
  obtain ⟨v1, vs1, d1, ds1, p1, q1, rfl, rfl, rfl, h1, hA⟩ := trodAll_cons hA
  obtain ⟨v2, vs2, d2, ds2, p2, q2, rfl, rfl, rfl, h2, hA⟩ := trodAll_cons hA
  obtain ⟨rfl, rfl, rfl⟩ := trodAll_nil hA
  obtain rfl : args = #[v0, v1, v2] := by cases args; simp_all
  obtain ⟨A0, n0, c0, l0, rfl, R0, wf0, s0⟩ := open_is (k := .u8) Try.underlying22 Try.underlying5 cells_uint8 (hval 0 _ v0 rfl rfl) h0 (weights_at hsz (j := 0) rfl rfl)
  rw [bytes_uint8] at s0
  have e0 := R0.cap
  have m0 := R0.max
  unfold maxLen at m0
  simp only [reachBytes] at s0
  obtain ⟨A1, n1, c1, l1, rfl, R1, wf1, s1⟩ := open_is (k := .u8) Try.underlying22 Try.underlying5 cells_uint8 (hval 1 _ v1 rfl rfl) h1 (weights_at hsz (j := 1) rfl rfl)
  rw [bytes_uint8] at s1
  have e1 := R1.cap
  have m1 := R1.max
  unfold maxLen at m1
  simp only [reachBytes] at s1
  obtain ⟨A2, n2, c2, l2, rfl, R2, wf2, s2⟩ := open_is (k := .u16) Try.underlying23 Try.underlying34 cells_uint16 (hval 2 _ v2 rfl rfl) h2 (weights_at hsz (j := 2) rfl rfl)
  rw [bytes_uint16] at s2
  have e2 := R2.cap
  have m2 := R2.max
  unfold maxLen at m2
  simp only [reachBytes] at s2
  obtain rfl : l0.length = n0 := by
    have h := R0.len
    simpa using h
  obtain rfl : l1.length = n1 := by
    have h := R1.len
    simpa using h
  obtain rfl : l2.length = n2 := by
    have h := R2.len
    simpa using h
  refine (peerReads_any A0 A1 A2 c0 c1 c2 l0 l1 l2 W R0 R1 R2 (fun x hx => wf_u8 (wf0 x hx)) (fun x hx => wf_u8 (wf1 x hx)) (fun x hx => wf_u16 (wf2 x hx))).mono fun e W' ⟨he, hb⟩ => ?_
  subst he
  exact ⟨_, rfl, law_post laidOut (by kernel_rfl) rfl rfl Try.underlying4 rfl hW' hb⟩

theorem proved : Rows.PeerReadsSaid :=
  OpenClaim.holds_of_wide 3 Try.f3 rfl rfl rfl rfl rfl rfl rfl ⟨rfl, rfl, rfl, rfl, rfl⟩ rfl rfl rfl rfl rfl (by kernel_rfl) Try.func3 (by kernel_rfl)
    (of_decide_eq_true (by kernel_rfl)) (by unfold Func.isWrapper; first | (rw [if_pos (by decide +kernel)]; kernel_rfl) | (rw [if_neg (by decide +kernel)]; exact ⟨rfl, rfl⟩))
    (fun os started H enc _ => lifted os started H enc)
end Go.Proofs.Ytkedfipeebjcjaa.peerReads
