/-
  No cell of these rows narrows 'for every input' (looked for: loops, veiled, ifaces, maps, wideKeys, modest, calm, conditions, laid).
  DERIVED. THE GIVEN ROWS OF THIS SEAT. 18 by the template 'for every input the law returns true; each argument reads behind the call as it read before'; 0 by the template 'total and deterministic' (their statements: YteigflkpopcjkaaTotals.lean).
  GIVEN WITH THE SEED: the statements are not yours to turn. If you find one false, say at which input.
  Laid BY PROGRAM, IN A SANDBOX (cutbox-rows.mjs): the forced cells as the released guide's own fill.sh prints them over the translation e52d6c479c1786b9… (all of the seat's roots in one cut). By AI agents, Wed Nov 11 2026. No macro, syntax, notation, axiom, sorry.
-/
import Derived.Test.YteigflkpopcjkaaChecked
import GoSem.Claim
import GoSem.ClaimJoined
import GoSem.ClaimMapViews
import Derived.JoinedTies
import Derived.KernelRfl
namespace Go.Proofs.Yteigflkpopcjkaa
/- THE CELL 'sum', in the pinned program and in every row, IS THE sha256 OF THE DUMP (.gsa) THAT YteigflkpopcjkaaProg.lean LOADS. Nothing in Lean hashes anything: it is a label: what it is worth is what the hold of that sum in a sandbox is worth. -/
noncomputable def Try.pinned : Pinned := { name := "yteigflkpopcjkaa", sum := "e52d6c479c1786b9e0b890442e9e5853833d56eb809b9a4853251caaad07a046", checked := Try.checked }
namespace Rows
def none {H : Type} : Left H := { results := [], args := [] }

/-- 'splittallylaw12.LedgerEnds': WHATEVER THE INPUT: true; the input reads as it did. -/
def ledgerEndsSpec : ChangeSpec := { name := "ledgerEnds", fn := fun _ => fun
  | [d1, d2] => { results := [.lit (.bool true)], args := [d1, d2] }
  | _ => none }
def ledgerEndsRow : OpenClaim := { program := "yteigflkpopcjkaa", sum := "e52d6c479c1786b9e0b890442e9e5853833d56eb809b9a4853251caaad07a046", func := "splittally/splittallylaw12.LedgerEnds", spec := "ledgerEnds", inPlace := ["math/bits.Add64"], apart := false }
def LedgerEndsSaid : Prop := ledgerEndsRow.holds Try.pinned (OpenSpec.ofChange ledgerEndsSpec)

/-- ITS FALSE NEIGHBOUR: 'it returns false'. Refute it at one input. -/
def ledgerEndsWrong : ChangeSpec := { name := "ledgerEnds", fn := fun _ => fun
  | [d1, d2] => { results := [.lit (.bool false)], args := [d1, d2] }
  | _ => none }
def LedgerEndsWrongFalsely : Prop := ledgerEndsRow.holds Try.pinned (OpenSpec.ofChange ledgerEndsWrong)

/-- 'splittallylaw12.LedgerTells': WHATEVER THE INPUT: true; the input reads as it did. -/
def ledgerTellsSpec : ChangeSpec := { name := "ledgerTells", fn := fun _ => fun
  | [d1, d2, d3, d4] => { results := [.lit (.bool true)], args := [d1, d2, d3, d4] }
  | _ => none }
def ledgerTellsRow : OpenClaim := { program := "yteigflkpopcjkaa", sum := "e52d6c479c1786b9e0b890442e9e5853833d56eb809b9a4853251caaad07a046", func := "splittally/splittallylaw12.LedgerTells", spec := "ledgerTells", inPlace := ["math/bits.Add64"], apart := false }
def LedgerTellsSaid : Prop := ledgerTellsRow.holds Try.pinned (OpenSpec.ofChange ledgerTellsSpec)

/-- ITS FALSE NEIGHBOUR: 'it returns false'. Refute it at one input. -/
def ledgerTellsWrong : ChangeSpec := { name := "ledgerTells", fn := fun _ => fun
  | [d1, d2, d3, d4] => { results := [.lit (.bool false)], args := [d1, d2, d3, d4] }
  | _ => none }
def LedgerTellsWrongFalsely : Prop := ledgerTellsRow.holds Try.pinned (OpenSpec.ofChange ledgerTellsWrong)

/-- 'splittallylaw12.LedgerKeeps': WHATEVER THE INPUT: true; the input reads as it did. -/
def ledgerKeepsSpec : ChangeSpec := { name := "ledgerKeeps", fn := fun _ => fun
  | [d1, d2] => { results := [.lit (.bool true)], args := [d1, d2] }
  | _ => none }
def ledgerKeepsRow : OpenClaim := { program := "yteigflkpopcjkaa", sum := "e52d6c479c1786b9e0b890442e9e5853833d56eb809b9a4853251caaad07a046", func := "splittally/splittallylaw12.LedgerKeeps", spec := "ledgerKeeps", inPlace := ["math/bits.Add64"], apart := false }
def LedgerKeepsSaid : Prop := ledgerKeepsRow.holds Try.pinned (OpenSpec.ofChange ledgerKeepsSpec)

/-- ITS FALSE NEIGHBOUR: 'it returns false'. Refute it at one input. -/
def ledgerKeepsWrong : ChangeSpec := { name := "ledgerKeeps", fn := fun _ => fun
  | [d1, d2] => { results := [.lit (.bool false)], args := [d1, d2] }
  | _ => none }
def LedgerKeepsWrongFalsely : Prop := ledgerKeepsRow.holds Try.pinned (OpenSpec.ofChange ledgerKeepsWrong)

/-- 'splittallylaw12.LedgerSettles': WHATEVER THE INPUT: true; the input reads as it did. -/
def ledgerSettlesSpec : ChangeSpec := { name := "ledgerSettles", fn := fun _ => fun
  | [d1, d2, d3, d4] => { results := [.lit (.bool true)], args := [d1, d2, d3, d4] }
  | _ => none }
def ledgerSettlesRow : OpenClaim := { program := "yteigflkpopcjkaa", sum := "e52d6c479c1786b9e0b890442e9e5853833d56eb809b9a4853251caaad07a046", func := "splittally/splittallylaw12.LedgerSettles", spec := "ledgerSettles", inPlace := ["math/bits.Add64"], apart := false }
def LedgerSettlesSaid : Prop := ledgerSettlesRow.holds Try.pinned (OpenSpec.ofChange ledgerSettlesSpec)

/-- ITS FALSE NEIGHBOUR: 'it returns false'. Refute it at one input. -/
def ledgerSettlesWrong : ChangeSpec := { name := "ledgerSettles", fn := fun _ => fun
  | [d1, d2, d3, d4] => { results := [.lit (.bool false)], args := [d1, d2, d3, d4] }
  | _ => none }
def LedgerSettlesWrongFalsely : Prop := ledgerSettlesRow.holds Try.pinned (OpenSpec.ofChange ledgerSettlesWrong)

/-- 'splittallylaw12.LedgerForks': WHATEVER THE INPUT: true; the input reads as it did. -/
def ledgerForksSpec : ChangeSpec := { name := "ledgerForks", fn := fun _ => fun
  | [d1, d2, d3] => { results := [.lit (.bool true)], args := [d1, d2, d3] }
  | _ => none }
def ledgerForksRow : OpenClaim := { program := "yteigflkpopcjkaa", sum := "e52d6c479c1786b9e0b890442e9e5853833d56eb809b9a4853251caaad07a046", func := "splittally/splittallylaw12.LedgerForks", spec := "ledgerForks", inPlace := ["math/bits.Add64"], apart := false }
def LedgerForksSaid : Prop := ledgerForksRow.holds Try.pinned (OpenSpec.ofChange ledgerForksSpec)

/-- ITS FALSE NEIGHBOUR: 'it returns false'. Refute it at one input. -/
def ledgerForksWrong : ChangeSpec := { name := "ledgerForks", fn := fun _ => fun
  | [d1, d2, d3] => { results := [.lit (.bool false)], args := [d1, d2, d3] }
  | _ => none }
def LedgerForksWrongFalsely : Prop := ledgerForksRow.holds Try.pinned (OpenSpec.ofChange ledgerForksWrong)

/-- 'splittallylaw18.LossFinds': WHATEVER THE INPUT: true; the input reads as it did. -/
def lossFindsSpec : ChangeSpec := { name := "lossFinds", fn := fun _ => fun
  | [d1, d2, d3, d4, d5, d6] => { results := [.lit (.bool true)], args := [d1, d2, d3, d4, d5, d6] }
  | _ => none }
def lossFindsRow : OpenClaim := { program := "yteigflkpopcjkaa", sum := "e52d6c479c1786b9e0b890442e9e5853833d56eb809b9a4853251caaad07a046", func := "splittally/splittallylaw18.LossFinds", spec := "lossFinds", inPlace := ["math/bits.Add64"], apart := false }
def LossFindsSaid : Prop := lossFindsRow.holds Try.pinned (OpenSpec.ofChange lossFindsSpec)

/-- ITS FALSE NEIGHBOUR: 'it returns false'. Refute it at one input. -/
def lossFindsWrong : ChangeSpec := { name := "lossFinds", fn := fun _ => fun
  | [d1, d2, d3, d4, d5, d6] => { results := [.lit (.bool false)], args := [d1, d2, d3, d4, d5, d6] }
  | _ => none }
def LossFindsWrongFalsely : Prop := lossFindsRow.holds Try.pinned (OpenSpec.ofChange lossFindsWrong)

/-- 'splittallylaw18.LossTimes': WHATEVER THE INPUT: true; the input reads as it did. -/
def lossTimesSpec : ChangeSpec := { name := "lossTimes", fn := fun _ => fun
  | [d1, d2, d3, d4, d5] => { results := [.lit (.bool true)], args := [d1, d2, d3, d4, d5] }
  | _ => none }
def lossTimesRow : OpenClaim := { program := "yteigflkpopcjkaa", sum := "e52d6c479c1786b9e0b890442e9e5853833d56eb809b9a4853251caaad07a046", func := "splittally/splittallylaw18.LossTimes", spec := "lossTimes", inPlace := ["math/bits.Add64"], apart := false }
def LossTimesSaid : Prop := lossTimesRow.holds Try.pinned (OpenSpec.ofChange lossTimesSpec)

/-- ITS FALSE NEIGHBOUR: 'it returns false'. Refute it at one input. -/
def lossTimesWrong : ChangeSpec := { name := "lossTimes", fn := fun _ => fun
  | [d1, d2, d3, d4, d5] => { results := [.lit (.bool false)], args := [d1, d2, d3, d4, d5] }
  | _ => none }
def LossTimesWrongFalsely : Prop := lossTimesRow.holds Try.pinned (OpenSpec.ofChange lossTimesWrong)

/-- 'splittallylaw18.LossGrows': WHATEVER THE INPUT: true; the input reads as it did. -/
def lossGrowsSpec : ChangeSpec := { name := "lossGrows", fn := fun _ => fun
  | [d1, d2, d3, d4, d5, d6, d7] => { results := [.lit (.bool true)], args := [d1, d2, d3, d4, d5, d6, d7] }
  | _ => none }
def lossGrowsRow : OpenClaim := { program := "yteigflkpopcjkaa", sum := "e52d6c479c1786b9e0b890442e9e5853833d56eb809b9a4853251caaad07a046", func := "splittally/splittallylaw18.LossGrows", spec := "lossGrows", inPlace := ["math/bits.Add64"], apart := false }
def LossGrowsSaid : Prop := lossGrowsRow.holds Try.pinned (OpenSpec.ofChange lossGrowsSpec)

/-- ITS FALSE NEIGHBOUR: 'it returns false'. Refute it at one input. -/
def lossGrowsWrong : ChangeSpec := { name := "lossGrows", fn := fun _ => fun
  | [d1, d2, d3, d4, d5, d6, d7] => { results := [.lit (.bool false)], args := [d1, d2, d3, d4, d5, d6, d7] }
  | _ => none }
def LossGrowsWrongFalsely : Prop := lossGrowsRow.holds Try.pinned (OpenSpec.ofChange lossGrowsWrong)

/-- 'splittallylaw18.LossFlies': WHATEVER THE INPUT: true; the input reads as it did. -/
def lossFliesSpec : ChangeSpec := { name := "lossFlies", fn := fun _ => fun
  | [d1, d2, d3, d4, d5] => { results := [.lit (.bool true)], args := [d1, d2, d3, d4, d5] }
  | _ => none }
def lossFliesRow : OpenClaim := { program := "yteigflkpopcjkaa", sum := "e52d6c479c1786b9e0b890442e9e5853833d56eb809b9a4853251caaad07a046", func := "splittally/splittallylaw18.LossFlies", spec := "lossFlies", inPlace := ["math/bits.Add64"], apart := false }
def LossFliesSaid : Prop := lossFliesRow.holds Try.pinned (OpenSpec.ofChange lossFliesSpec)

/-- ITS FALSE NEIGHBOUR: 'it returns false'. Refute it at one input. -/
def lossFliesWrong : ChangeSpec := { name := "lossFlies", fn := fun _ => fun
  | [d1, d2, d3, d4, d5] => { results := [.lit (.bool false)], args := [d1, d2, d3, d4, d5] }
  | _ => none }
def LossFliesWrongFalsely : Prop := lossFliesRow.holds Try.pinned (OpenSpec.ofChange lossFliesWrong)

/-- 'splittallylaw13.TriggerLooks': WHATEVER THE INPUT: true; the input reads as it did. -/
def triggerLooksSpec : ChangeSpec := { name := "triggerLooks", fn := fun _ => fun
  | [d1, d2, d3] => { results := [.lit (.bool true)], args := [d1, d2, d3] }
  | _ => none }
def triggerLooksRow : OpenClaim := { program := "yteigflkpopcjkaa", sum := "e52d6c479c1786b9e0b890442e9e5853833d56eb809b9a4853251caaad07a046", func := "splittally/splittallylaw13.TriggerLooks", spec := "triggerLooks", inPlace := ["math/bits.Add64"], apart := false }
def TriggerLooksSaid : Prop := triggerLooksRow.holds Try.pinned (OpenSpec.ofChange triggerLooksSpec)

/-- ITS FALSE NEIGHBOUR: 'it returns false'. Refute it at one input. -/
def triggerLooksWrong : ChangeSpec := { name := "triggerLooks", fn := fun _ => fun
  | [d1, d2, d3] => { results := [.lit (.bool false)], args := [d1, d2, d3] }
  | _ => none }
def TriggerLooksWrongFalsely : Prop := triggerLooksRow.holds Try.pinned (OpenSpec.ofChange triggerLooksWrong)

/-- 'splittallylaw13.TriggerNear': WHATEVER THE INPUT: true; the input reads as it did. -/
def triggerNearSpec : ChangeSpec := { name := "triggerNear", fn := fun _ => fun
  | [d1, d2, d3, d4] => { results := [.lit (.bool true)], args := [d1, d2, d3, d4] }
  | _ => none }
def triggerNearRow : OpenClaim := { program := "yteigflkpopcjkaa", sum := "e52d6c479c1786b9e0b890442e9e5853833d56eb809b9a4853251caaad07a046", func := "splittally/splittallylaw13.TriggerNear", spec := "triggerNear", inPlace := ["math/bits.Add64"], apart := false }
def TriggerNearSaid : Prop := triggerNearRow.holds Try.pinned (OpenSpec.ofChange triggerNearSpec)

/-- ITS FALSE NEIGHBOUR: 'it returns false'. Refute it at one input. -/
def triggerNearWrong : ChangeSpec := { name := "triggerNear", fn := fun _ => fun
  | [d1, d2, d3, d4] => { results := [.lit (.bool false)], args := [d1, d2, d3, d4] }
  | _ => none }
def TriggerNearWrongFalsely : Prop := triggerNearRow.holds Try.pinned (OpenSpec.ofChange triggerNearWrong)

/-- 'splittallylaw13.TriggerOnce': WHATEVER THE INPUT: true; the input reads as it did. -/
def triggerOnceSpec : ChangeSpec := { name := "triggerOnce", fn := fun _ => fun
  | [d1, d2, d3, d4] => { results := [.lit (.bool true)], args := [d1, d2, d3, d4] }
  | _ => none }
def triggerOnceRow : OpenClaim := { program := "yteigflkpopcjkaa", sum := "e52d6c479c1786b9e0b890442e9e5853833d56eb809b9a4853251caaad07a046", func := "splittally/splittallylaw13.TriggerOnce", spec := "triggerOnce", inPlace := ["math/bits.Add64"], apart := false }
def TriggerOnceSaid : Prop := triggerOnceRow.holds Try.pinned (OpenSpec.ofChange triggerOnceSpec)

/-- ITS FALSE NEIGHBOUR: 'it returns false'. Refute it at one input. -/
def triggerOnceWrong : ChangeSpec := { name := "triggerOnce", fn := fun _ => fun
  | [d1, d2, d3, d4] => { results := [.lit (.bool false)], args := [d1, d2, d3, d4] }
  | _ => none }
def TriggerOnceWrongFalsely : Prop := triggerOnceRow.holds Try.pinned (OpenSpec.ofChange triggerOnceWrong)

/-- 'splittallylaw13.TriggerNone': WHATEVER THE INPUT: true; the input reads as it did. -/
def triggerNoneSpec : ChangeSpec := { name := "triggerNone", fn := fun _ => fun
  | [d1, d2, d3, d4] => { results := [.lit (.bool true)], args := [d1, d2, d3, d4] }
  | _ => none }
def triggerNoneRow : OpenClaim := { program := "yteigflkpopcjkaa", sum := "e52d6c479c1786b9e0b890442e9e5853833d56eb809b9a4853251caaad07a046", func := "splittally/splittallylaw13.TriggerNone", spec := "triggerNone", inPlace := ["math/bits.Add64"], apart := false }
def TriggerNoneSaid : Prop := triggerNoneRow.holds Try.pinned (OpenSpec.ofChange triggerNoneSpec)

/-- ITS FALSE NEIGHBOUR: 'it returns false'. Refute it at one input. -/
def triggerNoneWrong : ChangeSpec := { name := "triggerNone", fn := fun _ => fun
  | [d1, d2, d3, d4] => { results := [.lit (.bool false)], args := [d1, d2, d3, d4] }
  | _ => none }
def TriggerNoneWrongFalsely : Prop := triggerNoneRow.holds Try.pinned (OpenSpec.ofChange triggerNoneWrong)

/-- 'splittallylaw14.ProofSums': WHATEVER THE INPUT: true; the input reads as it did. -/
def proofSumsSpec : ChangeSpec := { name := "proofSums", fn := fun _ => fun
  | [d1, d2, d3, d4] => { results := [.lit (.bool true)], args := [d1, d2, d3, d4] }
  | _ => none }
def proofSumsRow : OpenClaim := { program := "yteigflkpopcjkaa", sum := "e52d6c479c1786b9e0b890442e9e5853833d56eb809b9a4853251caaad07a046", func := "splittally/splittallylaw14.ProofSums", spec := "proofSums", inPlace := ["math/bits.Add64"], apart := false }
def ProofSumsSaid : Prop := proofSumsRow.holds Try.pinned (OpenSpec.ofChange proofSumsSpec)

/-- ITS FALSE NEIGHBOUR: 'it returns false'. Refute it at one input. -/
def proofSumsWrong : ChangeSpec := { name := "proofSums", fn := fun _ => fun
  | [d1, d2, d3, d4] => { results := [.lit (.bool false)], args := [d1, d2, d3, d4] }
  | _ => none }
def ProofSumsWrongFalsely : Prop := proofSumsRow.holds Try.pinned (OpenSpec.ofChange proofSumsWrong)

/-- 'splittallylaw14.ProofChecks': WHATEVER THE INPUT: true; the input reads as it did. -/
def proofChecksSpec : ChangeSpec := { name := "proofChecks", fn := fun _ => fun
  | [d1, d2, d3, d4, d5] => { results := [.lit (.bool true)], args := [d1, d2, d3, d4, d5] }
  | _ => none }
def proofChecksRow : OpenClaim := { program := "yteigflkpopcjkaa", sum := "e52d6c479c1786b9e0b890442e9e5853833d56eb809b9a4853251caaad07a046", func := "splittally/splittallylaw14.ProofChecks", spec := "proofChecks", inPlace := ["math/bits.Add64"], apart := false }
def ProofChecksSaid : Prop := proofChecksRow.holds Try.pinned (OpenSpec.ofChange proofChecksSpec)

/-- ITS FALSE NEIGHBOUR: 'it returns false'. Refute it at one input. -/
def proofChecksWrong : ChangeSpec := { name := "proofChecks", fn := fun _ => fun
  | [d1, d2, d3, d4, d5] => { results := [.lit (.bool false)], args := [d1, d2, d3, d4, d5] }
  | _ => none }
def ProofChecksWrongFalsely : Prop := proofChecksRow.holds Try.pinned (OpenSpec.ofChange proofChecksWrong)

/-- 'splittallylaw14.ProofHolds': WHATEVER THE INPUT: true; the input reads as it did. -/
def proofHoldsSpec : ChangeSpec := { name := "proofHolds", fn := fun _ => fun
  | [d1, d2, d3, d4, d5] => { results := [.lit (.bool true)], args := [d1, d2, d3, d4, d5] }
  | _ => none }
def proofHoldsRow : OpenClaim := { program := "yteigflkpopcjkaa", sum := "e52d6c479c1786b9e0b890442e9e5853833d56eb809b9a4853251caaad07a046", func := "splittally/splittallylaw14.ProofHolds", spec := "proofHolds", inPlace := ["math/bits.Add64"], apart := false }
def ProofHoldsSaid : Prop := proofHoldsRow.holds Try.pinned (OpenSpec.ofChange proofHoldsSpec)

/-- ITS FALSE NEIGHBOUR: 'it returns false'. Refute it at one input. -/
def proofHoldsWrong : ChangeSpec := { name := "proofHolds", fn := fun _ => fun
  | [d1, d2, d3, d4, d5] => { results := [.lit (.bool false)], args := [d1, d2, d3, d4, d5] }
  | _ => none }
def ProofHoldsWrongFalsely : Prop := proofHoldsRow.holds Try.pinned (OpenSpec.ofChange proofHoldsWrong)

/-- 'splittallylaw14.ProofJoins': WHATEVER THE INPUT: true; the input reads as it did. -/
def proofJoinsSpec : ChangeSpec := { name := "proofJoins", fn := fun _ => fun
  | [d1, d2, d3, d4, d5] => { results := [.lit (.bool true)], args := [d1, d2, d3, d4, d5] }
  | _ => none }
def proofJoinsRow : OpenClaim := { program := "yteigflkpopcjkaa", sum := "e52d6c479c1786b9e0b890442e9e5853833d56eb809b9a4853251caaad07a046", func := "splittally/splittallylaw14.ProofJoins", spec := "proofJoins", inPlace := ["math/bits.Add64"], apart := false }
def ProofJoinsSaid : Prop := proofJoinsRow.holds Try.pinned (OpenSpec.ofChange proofJoinsSpec)

/-- ITS FALSE NEIGHBOUR: 'it returns false'. Refute it at one input. -/
def proofJoinsWrong : ChangeSpec := { name := "proofJoins", fn := fun _ => fun
  | [d1, d2, d3, d4, d5] => { results := [.lit (.bool false)], args := [d1, d2, d3, d4, d5] }
  | _ => none }
def ProofJoinsWrongFalsely : Prop := proofJoinsRow.holds Try.pinned (OpenSpec.ofChange proofJoinsWrong)

/-- 'splittallylaw14.ProofTraps': WHATEVER THE INPUT: true; the input reads as it did. -/
def proofTrapsSpec : ChangeSpec := { name := "proofTraps", fn := fun _ => fun
  | [d1, d2, d3, d4, d5] => { results := [.lit (.bool true)], args := [d1, d2, d3, d4, d5] }
  | _ => none }
def proofTrapsRow : OpenClaim := { program := "yteigflkpopcjkaa", sum := "e52d6c479c1786b9e0b890442e9e5853833d56eb809b9a4853251caaad07a046", func := "splittally/splittallylaw14.ProofTraps", spec := "proofTraps", inPlace := ["math/bits.Add64"], apart := false }
def ProofTrapsSaid : Prop := proofTrapsRow.holds Try.pinned (OpenSpec.ofChange proofTrapsSpec)

/-- ITS FALSE NEIGHBOUR: 'it returns false'. Refute it at one input. -/
def proofTrapsWrong : ChangeSpec := { name := "proofTraps", fn := fun _ => fun
  | [d1, d2, d3, d4, d5] => { results := [.lit (.bool false)], args := [d1, d2, d3, d4, d5] }
  | _ => none }
def ProofTrapsWrongFalsely : Prop := proofTrapsRow.holds Try.pinned (OpenSpec.ofChange proofTrapsWrong)

/- THE SECOND FORM. 'bulk': how many values and letters a reading holds, each counted each time it is reached (what is shared counts as often as it is met; a slice's spare places count too). A statement '..UptoSaid' is the law's where the arguments, and the package variables that the reading takes, are together of bulk at most 1048576: NARROWER than '..Said'. Prove '..Said' where nothing that the law and all that it calls make is longer than what came in: it says more and counts as full. Else prove '..UptoSaid'. A law counts once. -/
mutual
def uptoBulk {H : Type} : DataW H → Nat
  | .lit (.string bytes) => bytes.length + 1
  | .lit _ => 1
  | .nil => 1
  | .ptr d => uptoBulk d + 1
  | .slice elems spare => uptoBulkAll elems + uptoBulkAll spare + 1
  | .agg parts => uptoBulkAll parts + 1
  | .iface _ d => uptoBulk d + 1
  | .map entries => uptoBulkEntries entries + 1
  | .held _ => 1
def uptoBulkAll {H : Type} : List (DataW H) → Nat
  | [] => 0
  | d :: r => uptoBulk d + uptoBulkAll r
def uptoBulkEntries {H : Type} : List (Lit × DataW H) → Nat
  | [] => 0
  | x :: r => uptoBulkEntry x + uptoBulkEntries r
def uptoBulkEntry {H : Type} : Lit × DataW H → Nat
  | (.string bytes, d) => bytes.length + uptoBulk d + 1
  | (_, d) => uptoBulk d + 1
 end
def uptoSmall : (H : Type) → List (DataW H) → Bool := fun _ ds => decide (uptoBulkAll ds ≤ 1048576)
def OpenSpec.upto (s : _root_.Go.ChangeSpec) : _root_.Go.OpenSpec := { _root_.Go.OpenSpec.ofChange s with cond := some uptoSmall }

/-- 'splittallylaw12.LedgerEnds', WHERE WHAT IT READS IS OF BULK AT MOST 1048576: true; the input reads as it did. -/
def ledgerEndsUptoRow : OpenClaim := { program := "yteigflkpopcjkaa", sum := "e52d6c479c1786b9e0b890442e9e5853833d56eb809b9a4853251caaad07a046", func := "splittally/splittallylaw12.LedgerEnds", spec := "ledgerEnds", inPlace := ["math/bits.Add64"], apart := false, narrowed := true }
def LedgerEndsUptoSaid : Prop := ledgerEndsUptoRow.holds Try.pinned (OpenSpec.upto ledgerEndsSpec)

/-- 'splittallylaw12.LedgerTells', WHERE WHAT IT READS IS OF BULK AT MOST 1048576: true; the input reads as it did. -/
def ledgerTellsUptoRow : OpenClaim := { program := "yteigflkpopcjkaa", sum := "e52d6c479c1786b9e0b890442e9e5853833d56eb809b9a4853251caaad07a046", func := "splittally/splittallylaw12.LedgerTells", spec := "ledgerTells", inPlace := ["math/bits.Add64"], apart := false, narrowed := true }
def LedgerTellsUptoSaid : Prop := ledgerTellsUptoRow.holds Try.pinned (OpenSpec.upto ledgerTellsSpec)

/-- 'splittallylaw12.LedgerKeeps', WHERE WHAT IT READS IS OF BULK AT MOST 1048576: true; the input reads as it did. -/
def ledgerKeepsUptoRow : OpenClaim := { program := "yteigflkpopcjkaa", sum := "e52d6c479c1786b9e0b890442e9e5853833d56eb809b9a4853251caaad07a046", func := "splittally/splittallylaw12.LedgerKeeps", spec := "ledgerKeeps", inPlace := ["math/bits.Add64"], apart := false, narrowed := true }
def LedgerKeepsUptoSaid : Prop := ledgerKeepsUptoRow.holds Try.pinned (OpenSpec.upto ledgerKeepsSpec)

/-- 'splittallylaw12.LedgerSettles', WHERE WHAT IT READS IS OF BULK AT MOST 1048576: true; the input reads as it did. -/
def ledgerSettlesUptoRow : OpenClaim := { program := "yteigflkpopcjkaa", sum := "e52d6c479c1786b9e0b890442e9e5853833d56eb809b9a4853251caaad07a046", func := "splittally/splittallylaw12.LedgerSettles", spec := "ledgerSettles", inPlace := ["math/bits.Add64"], apart := false, narrowed := true }
def LedgerSettlesUptoSaid : Prop := ledgerSettlesUptoRow.holds Try.pinned (OpenSpec.upto ledgerSettlesSpec)

/-- 'splittallylaw12.LedgerForks', WHERE WHAT IT READS IS OF BULK AT MOST 1048576: true; the input reads as it did. -/
def ledgerForksUptoRow : OpenClaim := { program := "yteigflkpopcjkaa", sum := "e52d6c479c1786b9e0b890442e9e5853833d56eb809b9a4853251caaad07a046", func := "splittally/splittallylaw12.LedgerForks", spec := "ledgerForks", inPlace := ["math/bits.Add64"], apart := false, narrowed := true }
def LedgerForksUptoSaid : Prop := ledgerForksUptoRow.holds Try.pinned (OpenSpec.upto ledgerForksSpec)

/-- 'splittallylaw18.LossFinds', WHERE WHAT IT READS IS OF BULK AT MOST 1048576: true; the input reads as it did. -/
def lossFindsUptoRow : OpenClaim := { program := "yteigflkpopcjkaa", sum := "e52d6c479c1786b9e0b890442e9e5853833d56eb809b9a4853251caaad07a046", func := "splittally/splittallylaw18.LossFinds", spec := "lossFinds", inPlace := ["math/bits.Add64"], apart := false, narrowed := true }
def LossFindsUptoSaid : Prop := lossFindsUptoRow.holds Try.pinned (OpenSpec.upto lossFindsSpec)

/-- 'splittallylaw18.LossTimes', WHERE WHAT IT READS IS OF BULK AT MOST 1048576: true; the input reads as it did. -/
def lossTimesUptoRow : OpenClaim := { program := "yteigflkpopcjkaa", sum := "e52d6c479c1786b9e0b890442e9e5853833d56eb809b9a4853251caaad07a046", func := "splittally/splittallylaw18.LossTimes", spec := "lossTimes", inPlace := ["math/bits.Add64"], apart := false, narrowed := true }
def LossTimesUptoSaid : Prop := lossTimesUptoRow.holds Try.pinned (OpenSpec.upto lossTimesSpec)

/-- 'splittallylaw18.LossGrows', WHERE WHAT IT READS IS OF BULK AT MOST 1048576: true; the input reads as it did. -/
def lossGrowsUptoRow : OpenClaim := { program := "yteigflkpopcjkaa", sum := "e52d6c479c1786b9e0b890442e9e5853833d56eb809b9a4853251caaad07a046", func := "splittally/splittallylaw18.LossGrows", spec := "lossGrows", inPlace := ["math/bits.Add64"], apart := false, narrowed := true }
def LossGrowsUptoSaid : Prop := lossGrowsUptoRow.holds Try.pinned (OpenSpec.upto lossGrowsSpec)

/-- 'splittallylaw18.LossFlies', WHERE WHAT IT READS IS OF BULK AT MOST 1048576: true; the input reads as it did. -/
def lossFliesUptoRow : OpenClaim := { program := "yteigflkpopcjkaa", sum := "e52d6c479c1786b9e0b890442e9e5853833d56eb809b9a4853251caaad07a046", func := "splittally/splittallylaw18.LossFlies", spec := "lossFlies", inPlace := ["math/bits.Add64"], apart := false, narrowed := true }
def LossFliesUptoSaid : Prop := lossFliesUptoRow.holds Try.pinned (OpenSpec.upto lossFliesSpec)

/-- 'splittallylaw13.TriggerLooks', WHERE WHAT IT READS IS OF BULK AT MOST 1048576: true; the input reads as it did. -/
def triggerLooksUptoRow : OpenClaim := { program := "yteigflkpopcjkaa", sum := "e52d6c479c1786b9e0b890442e9e5853833d56eb809b9a4853251caaad07a046", func := "splittally/splittallylaw13.TriggerLooks", spec := "triggerLooks", inPlace := ["math/bits.Add64"], apart := false, narrowed := true }
def TriggerLooksUptoSaid : Prop := triggerLooksUptoRow.holds Try.pinned (OpenSpec.upto triggerLooksSpec)

/-- 'splittallylaw13.TriggerNear', WHERE WHAT IT READS IS OF BULK AT MOST 1048576: true; the input reads as it did. -/
def triggerNearUptoRow : OpenClaim := { program := "yteigflkpopcjkaa", sum := "e52d6c479c1786b9e0b890442e9e5853833d56eb809b9a4853251caaad07a046", func := "splittally/splittallylaw13.TriggerNear", spec := "triggerNear", inPlace := ["math/bits.Add64"], apart := false, narrowed := true }
def TriggerNearUptoSaid : Prop := triggerNearUptoRow.holds Try.pinned (OpenSpec.upto triggerNearSpec)

/-- 'splittallylaw13.TriggerOnce', WHERE WHAT IT READS IS OF BULK AT MOST 1048576: true; the input reads as it did. -/
def triggerOnceUptoRow : OpenClaim := { program := "yteigflkpopcjkaa", sum := "e52d6c479c1786b9e0b890442e9e5853833d56eb809b9a4853251caaad07a046", func := "splittally/splittallylaw13.TriggerOnce", spec := "triggerOnce", inPlace := ["math/bits.Add64"], apart := false, narrowed := true }
def TriggerOnceUptoSaid : Prop := triggerOnceUptoRow.holds Try.pinned (OpenSpec.upto triggerOnceSpec)

/-- 'splittallylaw13.TriggerNone', WHERE WHAT IT READS IS OF BULK AT MOST 1048576: true; the input reads as it did. -/
def triggerNoneUptoRow : OpenClaim := { program := "yteigflkpopcjkaa", sum := "e52d6c479c1786b9e0b890442e9e5853833d56eb809b9a4853251caaad07a046", func := "splittally/splittallylaw13.TriggerNone", spec := "triggerNone", inPlace := ["math/bits.Add64"], apart := false, narrowed := true }
def TriggerNoneUptoSaid : Prop := triggerNoneUptoRow.holds Try.pinned (OpenSpec.upto triggerNoneSpec)

/-- 'splittallylaw14.ProofSums', WHERE WHAT IT READS IS OF BULK AT MOST 1048576: true; the input reads as it did. -/
def proofSumsUptoRow : OpenClaim := { program := "yteigflkpopcjkaa", sum := "e52d6c479c1786b9e0b890442e9e5853833d56eb809b9a4853251caaad07a046", func := "splittally/splittallylaw14.ProofSums", spec := "proofSums", inPlace := ["math/bits.Add64"], apart := false, narrowed := true }
def ProofSumsUptoSaid : Prop := proofSumsUptoRow.holds Try.pinned (OpenSpec.upto proofSumsSpec)

/-- 'splittallylaw14.ProofChecks', WHERE WHAT IT READS IS OF BULK AT MOST 1048576: true; the input reads as it did. -/
def proofChecksUptoRow : OpenClaim := { program := "yteigflkpopcjkaa", sum := "e52d6c479c1786b9e0b890442e9e5853833d56eb809b9a4853251caaad07a046", func := "splittally/splittallylaw14.ProofChecks", spec := "proofChecks", inPlace := ["math/bits.Add64"], apart := false, narrowed := true }
def ProofChecksUptoSaid : Prop := proofChecksUptoRow.holds Try.pinned (OpenSpec.upto proofChecksSpec)

/-- 'splittallylaw14.ProofHolds', WHERE WHAT IT READS IS OF BULK AT MOST 1048576: true; the input reads as it did. -/
def proofHoldsUptoRow : OpenClaim := { program := "yteigflkpopcjkaa", sum := "e52d6c479c1786b9e0b890442e9e5853833d56eb809b9a4853251caaad07a046", func := "splittally/splittallylaw14.ProofHolds", spec := "proofHolds", inPlace := ["math/bits.Add64"], apart := false, narrowed := true }
def ProofHoldsUptoSaid : Prop := proofHoldsUptoRow.holds Try.pinned (OpenSpec.upto proofHoldsSpec)

/-- 'splittallylaw14.ProofJoins', WHERE WHAT IT READS IS OF BULK AT MOST 1048576: true; the input reads as it did. -/
def proofJoinsUptoRow : OpenClaim := { program := "yteigflkpopcjkaa", sum := "e52d6c479c1786b9e0b890442e9e5853833d56eb809b9a4853251caaad07a046", func := "splittally/splittallylaw14.ProofJoins", spec := "proofJoins", inPlace := ["math/bits.Add64"], apart := false, narrowed := true }
def ProofJoinsUptoSaid : Prop := proofJoinsUptoRow.holds Try.pinned (OpenSpec.upto proofJoinsSpec)

/-- 'splittallylaw14.ProofTraps', WHERE WHAT IT READS IS OF BULK AT MOST 1048576: true; the input reads as it did. -/
def proofTrapsUptoRow : OpenClaim := { program := "yteigflkpopcjkaa", sum := "e52d6c479c1786b9e0b890442e9e5853833d56eb809b9a4853251caaad07a046", func := "splittally/splittallylaw14.ProofTraps", spec := "proofTraps", inPlace := ["math/bits.Add64"], apart := false, narrowed := true }
def ProofTrapsUptoSaid : Prop := proofTrapsUptoRow.holds Try.pinned (OpenSpec.upto proofTrapsSpec)

end Rows
end Go.Proofs.Yteigflkpopcjkaa
