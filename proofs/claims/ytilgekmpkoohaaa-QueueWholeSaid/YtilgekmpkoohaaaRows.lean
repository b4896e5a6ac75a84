/-
  No cell of these rows narrows 'for every input' (looked for: loops, veiled, ifaces, maps, wideKeys, modest, calm, conditions, laid).
  DERIVED. THE GIVEN ROWS OF THIS SEAT. 5 by the template 'for every input the law returns true; each argument reads behind the call as it read before'; 0 by the template 'total and deterministic' (their statements: YtilgekmpkoohaaaTotals.lean).
  GIVEN WITH THE SEED: the statements are not yours to turn. If you find one false, say at which input.
  Laid BY PROGRAM, IN A SANDBOX (cutbox-rows.mjs): the forced cells as the released guide's own fill.sh prints them over the translation 0709408b9474ce9a… (all of the seat's roots in one cut). By AI agents, Wed Nov 11 2026. No macro, syntax, notation, axiom, sorry.
-/
import Derived.Test.YtilgekmpkoohaaaChecked
import GoSem.Claim
import GoSem.ClaimJoined
import GoSem.ClaimMapViews
import Derived.JoinedTies
import Derived.KernelRfl
namespace Go.Proofs.Ytilgekmpkoohaaa
/- THE CELL 'sum', in the pinned program and in every row, IS THE sha256 OF THE DUMP (.gsa) THAT YtilgekmpkoohaaaProg.lean LOADS. Nothing in Lean hashes anything: it is a label: what it is worth is what the hold of that sum in a sandbox is worth. -/
noncomputable def Try.pinned : Pinned := { name := "ytilgekmpkoohaaa", sum := "0709408b9474ce9aa34c178d5bee6975ff8cd3d5cae5c1d237a7f86a60e028d7", checked := Try.checked }
namespace Rows
def none {H : Type} : Left H := { results := [], args := [] }

/-- 'splittallylaw25.QueueTells': WHATEVER THE INPUT: true; the input reads as it did. -/
def queueTellsSpec : ChangeSpec := { name := "queueTells", fn := fun _ => fun
  | [d1, d2, d3] => { results := [.lit (.bool true)], args := [d1, d2, d3] }
  | _ => none }
def queueTellsRow : OpenClaim := { program := "ytilgekmpkoohaaa", sum := "0709408b9474ce9aa34c178d5bee6975ff8cd3d5cae5c1d237a7f86a60e028d7", func := "splittally/splittallylaw25.QueueTells", spec := "queueTells", apart := false }
def QueueTellsSaid : Prop := queueTellsRow.holds Try.pinned (OpenSpec.ofChange queueTellsSpec)

/-- ITS FALSE NEIGHBOUR: 'it returns false'. Refute it at one input. -/
def queueTellsWrong : ChangeSpec := { name := "queueTells", fn := fun _ => fun
  | [d1, d2, d3] => { results := [.lit (.bool false)], args := [d1, d2, d3] }
  | _ => none }
def QueueTellsWrongFalsely : Prop := queueTellsRow.holds Try.pinned (OpenSpec.ofChange queueTellsWrong)

/-- 'splittallylaw25.QueueWhole': WHATEVER THE INPUT: true; the input reads as it did. -/
def queueWholeSpec : ChangeSpec := { name := "queueWhole", fn := fun _ => fun
  | [d1, d2, d3] => { results := [.lit (.bool true)], args := [d1, d2, d3] }
  | _ => none }
def queueWholeRow : OpenClaim := { program := "ytilgekmpkoohaaa", sum := "0709408b9474ce9aa34c178d5bee6975ff8cd3d5cae5c1d237a7f86a60e028d7", func := "splittally/splittallylaw25.QueueWhole", spec := "queueWhole", apart := false }
def QueueWholeSaid : Prop := queueWholeRow.holds Try.pinned (OpenSpec.ofChange queueWholeSpec)

/-- ITS FALSE NEIGHBOUR: 'it returns false'. Refute it at one input. -/
def queueWholeWrong : ChangeSpec := { name := "queueWhole", fn := fun _ => fun
  | [d1, d2, d3] => { results := [.lit (.bool false)], args := [d1, d2, d3] }
  | _ => none }
def QueueWholeWrongFalsely : Prop := queueWholeRow.holds Try.pinned (OpenSpec.ofChange queueWholeWrong)

/-- 'splittallylaw25.QueueRoom': WHATEVER THE INPUT: true; the input reads as it did. -/
def queueRoomSpec : ChangeSpec := { name := "queueRoom", fn := fun _ => fun
  | [d1, d2, d3] => { results := [.lit (.bool true)], args := [d1, d2, d3] }
  | _ => none }
def queueRoomRow : OpenClaim := { program := "ytilgekmpkoohaaa", sum := "0709408b9474ce9aa34c178d5bee6975ff8cd3d5cae5c1d237a7f86a60e028d7", func := "splittally/splittallylaw25.QueueRoom", spec := "queueRoom", apart := false }
def QueueRoomSaid : Prop := queueRoomRow.holds Try.pinned (OpenSpec.ofChange queueRoomSpec)

/-- ITS FALSE NEIGHBOUR: 'it returns false'. Refute it at one input. -/
def queueRoomWrong : ChangeSpec := { name := "queueRoom", fn := fun _ => fun
  | [d1, d2, d3] => { results := [.lit (.bool false)], args := [d1, d2, d3] }
  | _ => none }
def QueueRoomWrongFalsely : Prop := queueRoomRow.holds Try.pinned (OpenSpec.ofChange queueRoomWrong)

/-- 'splittallylaw25.QueueArrives': WHATEVER THE INPUT: true; the input reads as it did. -/
def queueArrivesSpec : ChangeSpec := { name := "queueArrives", fn := fun _ => fun
  | [d1, d2, d3] => { results := [.lit (.bool true)], args := [d1, d2, d3] }
  | _ => none }
def queueArrivesRow : OpenClaim := { program := "ytilgekmpkoohaaa", sum := "0709408b9474ce9aa34c178d5bee6975ff8cd3d5cae5c1d237a7f86a60e028d7", func := "splittally/splittallylaw25.QueueArrives", spec := "queueArrives", apart := false }
def QueueArrivesSaid : Prop := queueArrivesRow.holds Try.pinned (OpenSpec.ofChange queueArrivesSpec)

/-- ITS FALSE NEIGHBOUR: 'it returns false'. Refute it at one input. -/
def queueArrivesWrong : ChangeSpec := { name := "queueArrives", fn := fun _ => fun
  | [d1, d2, d3] => { results := [.lit (.bool false)], args := [d1, d2, d3] }
  | _ => none }
def QueueArrivesWrongFalsely : Prop := queueArrivesRow.holds Try.pinned (OpenSpec.ofChange queueArrivesWrong)

/-- 'splittallylaw25.QueueForks': WHATEVER THE INPUT: true; the input reads as it did. -/
def queueForksSpec : ChangeSpec := { name := "queueForks", fn := fun _ => fun
  | [d1, d2, d3] => { results := [.lit (.bool true)], args := [d1, d2, d3] }
  | _ => none }
def queueForksRow : OpenClaim := { program := "ytilgekmpkoohaaa", sum := "0709408b9474ce9aa34c178d5bee6975ff8cd3d5cae5c1d237a7f86a60e028d7", func := "splittally/splittallylaw25.QueueForks", spec := "queueForks", apart := false }
def QueueForksSaid : Prop := queueForksRow.holds Try.pinned (OpenSpec.ofChange queueForksSpec)

/-- ITS FALSE NEIGHBOUR: 'it returns false'. Refute it at one input. -/
def queueForksWrong : ChangeSpec := { name := "queueForks", fn := fun _ => fun
  | [d1, d2, d3] => { results := [.lit (.bool false)], args := [d1, d2, d3] }
  | _ => none }
def QueueForksWrongFalsely : Prop := queueForksRow.holds Try.pinned (OpenSpec.ofChange queueForksWrong)

/- THE SECOND FORM. 'bulk': how many values and letters a reading holds, each counted each time it is reached (what is shared counts as often as it is met; a slice's spare places count too). A statement '..UptoSaid' is the law's where the arguments, and the package variables that the reading takes, are together of bulk at most 1048576: NARROWER than '..Said'. Prove '..Said' where nothing that the law and all that it calls make is longer than what came in: it says more and counts as full. Else prove '..UptoSaid'. A law counts once. -/
mutual
def uptoBulk {H : Type} : DataW H → Nat
  | .lit (.string bytes) => bytes.length + 1
  | .lit _ => 1
  | .nil => 1
  | .ptr d => uptoBulk d + 1
  | .slice elems spare => uptoBulkAll elems + uptoBulkAll spare + 1
  | .agg parts => uptoBulkAll parts + 1
  | .iface _ d => uptoBulk d + 1
  | .map entries => uptoBulkEntries entries + 1
  | .held _ => 1
def uptoBulkAll {H : Type} : List (DataW H) → Nat
  | [] => 0
  | d :: r => uptoBulk d + uptoBulkAll r
def uptoBulkEntries {H : Type} : List (Lit × DataW H) → Nat
  | [] => 0
  | x :: r => uptoBulkEntry x + uptoBulkEntries r
def uptoBulkEntry {H : Type} : Lit × DataW H → Nat
  | (.string bytes, d) => bytes.length + uptoBulk d + 1
  | (_, d) => uptoBulk d + 1
 end
def uptoSmall : (H : Type) → List (DataW H) → Bool := fun _ ds => decide (uptoBulkAll ds ≤ 1048576)
def OpenSpec.upto (s : _root_.Go.ChangeSpec) : _root_.Go.OpenSpec := { _root_.Go.OpenSpec.ofChange s with cond := some uptoSmall }

/-- 'splittallylaw25.QueueTells', WHERE WHAT IT READS IS OF BULK AT MOST 1048576: true; the input reads as it did. -/
def queueTellsUptoRow : OpenClaim := { program := "ytilgekmpkoohaaa", sum := "0709408b9474ce9aa34c178d5bee6975ff8cd3d5cae5c1d237a7f86a60e028d7", func := "splittally/splittallylaw25.QueueTells", spec := "queueTells", apart := false, narrowed := true }
def QueueTellsUptoSaid : Prop := queueTellsUptoRow.holds Try.pinned (OpenSpec.upto queueTellsSpec)

/-- 'splittallylaw25.QueueWhole', WHERE WHAT IT READS IS OF BULK AT MOST 1048576: true; the input reads as it did. -/
def queueWholeUptoRow : OpenClaim := { program := "ytilgekmpkoohaaa", sum := "0709408b9474ce9aa34c178d5bee6975ff8cd3d5cae5c1d237a7f86a60e028d7", func := "splittally/splittallylaw25.QueueWhole", spec := "queueWhole", apart := false, narrowed := true }
def QueueWholeUptoSaid : Prop := queueWholeUptoRow.holds Try.pinned (OpenSpec.upto queueWholeSpec)

/-- 'splittallylaw25.QueueRoom', WHERE WHAT IT READS IS OF BULK AT MOST 1048576: true; the input reads as it did. -/
def queueRoomUptoRow : OpenClaim := { program := "ytilgekmpkoohaaa", sum := "0709408b9474ce9aa34c178d5bee6975ff8cd3d5cae5c1d237a7f86a60e028d7", func := "splittally/splittallylaw25.QueueRoom", spec := "queueRoom", apart := false, narrowed := true }
def QueueRoomUptoSaid : Prop := queueRoomUptoRow.holds Try.pinned (OpenSpec.upto queueRoomSpec)

/-- 'splittallylaw25.QueueArrives', WHERE WHAT IT READS IS OF BULK AT MOST 1048576: true; the input reads as it did. -/
def queueArrivesUptoRow : OpenClaim := { program := "ytilgekmpkoohaaa", sum := "0709408b9474ce9aa34c178d5bee6975ff8cd3d5cae5c1d237a7f86a60e028d7", func := "splittally/splittallylaw25.QueueArrives", spec := "queueArrives", apart := false, narrowed := true }
def QueueArrivesUptoSaid : Prop := queueArrivesUptoRow.holds Try.pinned (OpenSpec.upto queueArrivesSpec)

/-- 'splittallylaw25.QueueForks', WHERE WHAT IT READS IS OF BULK AT MOST 1048576: true; the input reads as it did. -/
def queueForksUptoRow : OpenClaim := { program := "ytilgekmpkoohaaa", sum := "0709408b9474ce9aa34c178d5bee6975ff8cd3d5cae5c1d237a7f86a60e028d7", func := "splittally/splittallylaw25.QueueForks", spec := "queueForks", apart := false, narrowed := true }
def QueueForksUptoSaid : Prop := queueForksUptoRow.holds Try.pinned (OpenSpec.upto queueForksSpec)

end Rows
end Go.Proofs.Ytilgekmpkoohaaa
