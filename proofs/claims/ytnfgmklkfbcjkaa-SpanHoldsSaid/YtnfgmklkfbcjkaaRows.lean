/-
  No cell of these rows narrows 'for every input' (looked for: loops, veiled, ifaces, maps, wideKeys, modest, calm, conditions, laid).
  DERIVED. THE GIVEN ROWS OF THIS SEAT. 9 by the template 'for every input the law returns true; each argument reads behind the call as it read before'; 0 by the template 'total and deterministic' (their statements: YtnfgmklkfbcjkaaTotals.lean).
  GIVEN WITH THE SEED: the statements are not yours to turn. If you find one false, say at which input.
  Laid BY PROGRAM, IN A SANDBOX (cutbox-rows.mjs): the forced cells as the released guide's own fill.sh prints them over the translation a681d77139d0f20d… (all of the seat's roots in one cut). By AI agents, Wed Nov 11 2026. No macro, syntax, notation, axiom, sorry.
-/
import Derived.Test.YtnfgmklkfbcjkaaChecked
import GoSem.Claim
import GoSem.ClaimJoined
import GoSem.ClaimMapViews
import Derived.JoinedTies
import Derived.KernelRfl
namespace Go.Proofs.Ytnfgmklkfbcjkaa
/- THE CELL 'sum', in the pinned program and in every row, IS THE sha256 OF THE DUMP (.gsa) THAT YtnfgmklkfbcjkaaProg.lean LOADS. Nothing in Lean hashes anything: it is a label: what it is worth is what the hold of that sum in a sandbox is worth. -/
noncomputable def Try.pinned : Pinned := { name := "ytnfgmklkfbcjkaa", sum := "a681d77139d0f20d162ea47dd43650ae7f2f1ecb28d48051b816213fea722e33", checked := Try.checked }
namespace Rows
def none {H : Type} : Left H := { results := [], args := [] }

/-- 'splittallylaw10.FoldTells': WHATEVER THE INPUT: true; the input reads as it did. -/
def foldTellsSpec : ChangeSpec := { name := "foldTells", fn := fun _ => fun
  | [d1, d2] => { results := [.lit (.bool true)], args := [d1, d2] }
  | _ => none }
def foldTellsRow : OpenClaim := { program := "ytnfgmklkfbcjkaa", sum := "a681d77139d0f20d162ea47dd43650ae7f2f1ecb28d48051b816213fea722e33", func := "splittally/splittallylaw10.FoldTells", spec := "foldTells", apart := false }
def FoldTellsSaid : Prop := foldTellsRow.holds Try.pinned (OpenSpec.ofChange foldTellsSpec)

/-- ITS FALSE NEIGHBOUR: 'it returns false'. Refute it at one input. -/
def foldTellsWrong : ChangeSpec := { name := "foldTells", fn := fun _ => fun
  | [d1, d2] => { results := [.lit (.bool false)], args := [d1, d2] }
  | _ => none }
def FoldTellsWrongFalsely : Prop := foldTellsRow.holds Try.pinned (OpenSpec.ofChange foldTellsWrong)

/-- 'splittallylaw10.FoldPlaces': WHATEVER THE INPUT: true; the input reads as it did. -/
def foldPlacesSpec : ChangeSpec := { name := "foldPlaces", fn := fun _ => fun
  | [d1, d2, d3, d4] => { results := [.lit (.bool true)], args := [d1, d2, d3, d4] }
  | _ => none }
def foldPlacesRow : OpenClaim := { program := "ytnfgmklkfbcjkaa", sum := "a681d77139d0f20d162ea47dd43650ae7f2f1ecb28d48051b816213fea722e33", func := "splittally/splittallylaw10.FoldPlaces", spec := "foldPlaces", apart := false }
def FoldPlacesSaid : Prop := foldPlacesRow.holds Try.pinned (OpenSpec.ofChange foldPlacesSpec)

/-- ITS FALSE NEIGHBOUR: 'it returns false'. Refute it at one input. -/
def foldPlacesWrong : ChangeSpec := { name := "foldPlaces", fn := fun _ => fun
  | [d1, d2, d3, d4] => { results := [.lit (.bool false)], args := [d1, d2, d3, d4] }
  | _ => none }
def FoldPlacesWrongFalsely : Prop := foldPlacesRow.holds Try.pinned (OpenSpec.ofChange foldPlacesWrong)

/-- 'splittallylaw10.FoldParts': WHATEVER THE INPUT: true; the input reads as it did. -/
def foldPartsSpec : ChangeSpec := { name := "foldParts", fn := fun _ => fun
  | [d1, d2, d3, d4] => { results := [.lit (.bool true)], args := [d1, d2, d3, d4] }
  | _ => none }
def foldPartsRow : OpenClaim := { program := "ytnfgmklkfbcjkaa", sum := "a681d77139d0f20d162ea47dd43650ae7f2f1ecb28d48051b816213fea722e33", func := "splittally/splittallylaw10.FoldParts", spec := "foldParts", apart := false }
def FoldPartsSaid : Prop := foldPartsRow.holds Try.pinned (OpenSpec.ofChange foldPartsSpec)

/-- ITS FALSE NEIGHBOUR: 'it returns false'. Refute it at one input. -/
def foldPartsWrong : ChangeSpec := { name := "foldParts", fn := fun _ => fun
  | [d1, d2, d3, d4] => { results := [.lit (.bool false)], args := [d1, d2, d3, d4] }
  | _ => none }
def FoldPartsWrongFalsely : Prop := foldPartsRow.holds Try.pinned (OpenSpec.ofChange foldPartsWrong)

/-- 'splittallylaw10.FoldTurns': WHATEVER THE INPUT: true; the input reads as it did. -/
def foldTurnsSpec : ChangeSpec := { name := "foldTurns", fn := fun _ => fun
  | [d1, d2, d3, d4] => { results := [.lit (.bool true)], args := [d1, d2, d3, d4] }
  | _ => none }
def foldTurnsRow : OpenClaim := { program := "ytnfgmklkfbcjkaa", sum := "a681d77139d0f20d162ea47dd43650ae7f2f1ecb28d48051b816213fea722e33", func := "splittally/splittallylaw10.FoldTurns", spec := "foldTurns", apart := false }
def FoldTurnsSaid : Prop := foldTurnsRow.holds Try.pinned (OpenSpec.ofChange foldTurnsSpec)

/-- ITS FALSE NEIGHBOUR: 'it returns false'. Refute it at one input. -/
def foldTurnsWrong : ChangeSpec := { name := "foldTurns", fn := fun _ => fun
  | [d1, d2, d3, d4] => { results := [.lit (.bool false)], args := [d1, d2, d3, d4] }
  | _ => none }
def FoldTurnsWrongFalsely : Prop := foldTurnsRow.holds Try.pinned (OpenSpec.ofChange foldTurnsWrong)

/-- 'splittallylaw7.SpanOrder': WHATEVER THE INPUT: true; the input reads as it did. -/
def spanOrderSpec : ChangeSpec := { name := "spanOrder", fn := fun _ => fun
  | [d] => { results := [.lit (.bool true)], args := [d] }
  | _ => none }
def spanOrderRow : OpenClaim := { program := "ytnfgmklkfbcjkaa", sum := "a681d77139d0f20d162ea47dd43650ae7f2f1ecb28d48051b816213fea722e33", func := "splittally/splittallylaw7.SpanOrder", spec := "spanOrder", inPlace := ["math/bits.Add64"], apart := false }
def SpanOrderSaid : Prop := spanOrderRow.holds Try.pinned (OpenSpec.ofChange spanOrderSpec)

/-- ITS FALSE NEIGHBOUR: 'it returns false'. Refute it at one input. -/
def spanOrderWrong : ChangeSpec := { name := "spanOrder", fn := fun _ => fun
  | [d] => { results := [.lit (.bool false)], args := [d] }
  | _ => none }
def SpanOrderWrongFalsely : Prop := spanOrderRow.holds Try.pinned (OpenSpec.ofChange spanOrderWrong)

/-- 'splittallylaw7.SpanChanges': WHATEVER THE INPUT: true; the input reads as it did. -/
def spanChangesSpec : ChangeSpec := { name := "spanChanges", fn := fun _ => fun
  | [d1, d2] => { results := [.lit (.bool true)], args := [d1, d2] }
  | _ => none }
def spanChangesRow : OpenClaim := { program := "ytnfgmklkfbcjkaa", sum := "a681d77139d0f20d162ea47dd43650ae7f2f1ecb28d48051b816213fea722e33", func := "splittally/splittallylaw7.SpanChanges", spec := "spanChanges", inPlace := ["math/bits.Add64"], apart := false }
def SpanChangesSaid : Prop := spanChangesRow.holds Try.pinned (OpenSpec.ofChange spanChangesSpec)

/-- ITS FALSE NEIGHBOUR: 'it returns false'. Refute it at one input. -/
def spanChangesWrong : ChangeSpec := { name := "spanChanges", fn := fun _ => fun
  | [d1, d2] => { results := [.lit (.bool false)], args := [d1, d2] }
  | _ => none }
def SpanChangesWrongFalsely : Prop := spanChangesRow.holds Try.pinned (OpenSpec.ofChange spanChangesWrong)

/-- 'splittallylaw7.SpanTells': WHATEVER THE INPUT: true; the input reads as it did. -/
def spanTellsSpec : ChangeSpec := { name := "spanTells", fn := fun _ => fun
  | [d1, d2, d3, d4] => { results := [.lit (.bool true)], args := [d1, d2, d3, d4] }
  | _ => none }
def spanTellsRow : OpenClaim := { program := "ytnfgmklkfbcjkaa", sum := "a681d77139d0f20d162ea47dd43650ae7f2f1ecb28d48051b816213fea722e33", func := "splittally/splittallylaw7.SpanTells", spec := "spanTells", inPlace := ["math/bits.Add64"], apart := false }
def SpanTellsSaid : Prop := spanTellsRow.holds Try.pinned (OpenSpec.ofChange spanTellsSpec)

/-- ITS FALSE NEIGHBOUR: 'it returns false'. Refute it at one input. -/
def spanTellsWrong : ChangeSpec := { name := "spanTells", fn := fun _ => fun
  | [d1, d2, d3, d4] => { results := [.lit (.bool false)], args := [d1, d2, d3, d4] }
  | _ => none }
def SpanTellsWrongFalsely : Prop := spanTellsRow.holds Try.pinned (OpenSpec.ofChange spanTellsWrong)

/-- 'splittallylaw7.SpanHolds': WHATEVER THE INPUT: true; the input reads as it did. -/
def spanHoldsSpec : ChangeSpec := { name := "spanHolds", fn := fun _ => fun
  | [d1, d2, d3, d4] => { results := [.lit (.bool true)], args := [d1, d2, d3, d4] }
  | _ => none }
def spanHoldsRow : OpenClaim := { program := "ytnfgmklkfbcjkaa", sum := "a681d77139d0f20d162ea47dd43650ae7f2f1ecb28d48051b816213fea722e33", func := "splittally/splittallylaw7.SpanHolds", spec := "spanHolds", inPlace := ["math/bits.Add64"], apart := false }
def SpanHoldsSaid : Prop := spanHoldsRow.holds Try.pinned (OpenSpec.ofChange spanHoldsSpec)

/-- ITS FALSE NEIGHBOUR: 'it returns false'. Refute it at one input. -/
def spanHoldsWrong : ChangeSpec := { name := "spanHolds", fn := fun _ => fun
  | [d1, d2, d3, d4] => { results := [.lit (.bool false)], args := [d1, d2, d3, d4] }
  | _ => none }
def SpanHoldsWrongFalsely : Prop := spanHoldsRow.holds Try.pinned (OpenSpec.ofChange spanHoldsWrong)

/-- 'splittallylaw7.SpanMade': WHATEVER THE INPUT: true; the input reads as it did. -/
def spanMadeSpec : ChangeSpec := { name := "spanMade", fn := fun _ => fun
  | [d1, d2, d3, d4, d5] => { results := [.lit (.bool true)], args := [d1, d2, d3, d4, d5] }
  | _ => none }
def spanMadeRow : OpenClaim := { program := "ytnfgmklkfbcjkaa", sum := "a681d77139d0f20d162ea47dd43650ae7f2f1ecb28d48051b816213fea722e33", func := "splittally/splittallylaw7.SpanMade", spec := "spanMade", inPlace := ["math/bits.Add64"], apart := false }
def SpanMadeSaid : Prop := spanMadeRow.holds Try.pinned (OpenSpec.ofChange spanMadeSpec)

/-- ITS FALSE NEIGHBOUR: 'it returns false'. Refute it at one input. -/
def spanMadeWrong : ChangeSpec := { name := "spanMade", fn := fun _ => fun
  | [d1, d2, d3, d4, d5] => { results := [.lit (.bool false)], args := [d1, d2, d3, d4, d5] }
  | _ => none }
def SpanMadeWrongFalsely : Prop := spanMadeRow.holds Try.pinned (OpenSpec.ofChange spanMadeWrong)

/- THE SECOND FORM. 'bulk': how many values and letters a reading holds, each counted each time it is reached (what is shared counts as often as it is met; a slice's spare places count too). A statement '..UptoSaid' is the law's where the arguments, and the package variables that the reading takes, are together of bulk at most 1048576: NARROWER than '..Said'. Prove '..Said' where nothing that the law and all that it calls make is longer than what came in: it says more and counts as full. Else prove '..UptoSaid'. A law counts once. -/
mutual
def uptoBulk {H : Type} : DataW H → Nat
  | .lit (.string bytes) => bytes.length + 1
  | .lit _ => 1
  | .nil => 1
  | .ptr d => uptoBulk d + 1
  | .slice elems spare => uptoBulkAll elems + uptoBulkAll spare + 1
  | .agg parts => uptoBulkAll parts + 1
  | .iface _ d => uptoBulk d + 1
  | .map entries => uptoBulkEntries entries + 1
  | .held _ => 1
def uptoBulkAll {H : Type} : List (DataW H) → Nat
  | [] => 0
  | d :: r => uptoBulk d + uptoBulkAll r
def uptoBulkEntries {H : Type} : List (Lit × DataW H) → Nat
  | [] => 0
  | x :: r => uptoBulkEntry x + uptoBulkEntries r
def uptoBulkEntry {H : Type} : Lit × DataW H → Nat
  | (.string bytes, d) => bytes.length + uptoBulk d + 1
  | (_, d) => uptoBulk d + 1
 end
def uptoSmall : (H : Type) → List (DataW H) → Bool := fun _ ds => decide (uptoBulkAll ds ≤ 1048576)
def OpenSpec.upto (s : _root_.Go.ChangeSpec) : _root_.Go.OpenSpec := { _root_.Go.OpenSpec.ofChange s with cond := some uptoSmall }

/-- 'splittallylaw10.FoldTells', WHERE WHAT IT READS IS OF BULK AT MOST 1048576: true; the input reads as it did. -/
def foldTellsUptoRow : OpenClaim := { program := "ytnfgmklkfbcjkaa", sum := "a681d77139d0f20d162ea47dd43650ae7f2f1ecb28d48051b816213fea722e33", func := "splittally/splittallylaw10.FoldTells", spec := "foldTells", apart := false, narrowed := true }
def FoldTellsUptoSaid : Prop := foldTellsUptoRow.holds Try.pinned (OpenSpec.upto foldTellsSpec)

/-- 'splittallylaw10.FoldPlaces', WHERE WHAT IT READS IS OF BULK AT MOST 1048576: true; the input reads as it did. -/
def foldPlacesUptoRow : OpenClaim := { program := "ytnfgmklkfbcjkaa", sum := "a681d77139d0f20d162ea47dd43650ae7f2f1ecb28d48051b816213fea722e33", func := "splittally/splittallylaw10.FoldPlaces", spec := "foldPlaces", apart := false, narrowed := true }
def FoldPlacesUptoSaid : Prop := foldPlacesUptoRow.holds Try.pinned (OpenSpec.upto foldPlacesSpec)

/-- 'splittallylaw10.FoldParts', WHERE WHAT IT READS IS OF BULK AT MOST 1048576: true; the input reads as it did. -/
def foldPartsUptoRow : OpenClaim := { program := "ytnfgmklkfbcjkaa", sum := "a681d77139d0f20d162ea47dd43650ae7f2f1ecb28d48051b816213fea722e33", func := "splittally/splittallylaw10.FoldParts", spec := "foldParts", apart := false, narrowed := true }
def FoldPartsUptoSaid : Prop := foldPartsUptoRow.holds Try.pinned (OpenSpec.upto foldPartsSpec)

/-- 'splittallylaw10.FoldTurns', WHERE WHAT IT READS IS OF BULK AT MOST 1048576: true; the input reads as it did. -/
def foldTurnsUptoRow : OpenClaim := { program := "ytnfgmklkfbcjkaa", sum := "a681d77139d0f20d162ea47dd43650ae7f2f1ecb28d48051b816213fea722e33", func := "splittally/splittallylaw10.FoldTurns", spec := "foldTurns", apart := false, narrowed := true }
def FoldTurnsUptoSaid : Prop := foldTurnsUptoRow.holds Try.pinned (OpenSpec.upto foldTurnsSpec)

/-- 'splittallylaw7.SpanOrder', WHERE WHAT IT READS IS OF BULK AT MOST 1048576: true; the input reads as it did. -/
def spanOrderUptoRow : OpenClaim := { program := "ytnfgmklkfbcjkaa", sum := "a681d77139d0f20d162ea47dd43650ae7f2f1ecb28d48051b816213fea722e33", func := "splittally/splittallylaw7.SpanOrder", spec := "spanOrder", inPlace := ["math/bits.Add64"], apart := false, narrowed := true }
def SpanOrderUptoSaid : Prop := spanOrderUptoRow.holds Try.pinned (OpenSpec.upto spanOrderSpec)

/-- 'splittallylaw7.SpanChanges', WHERE WHAT IT READS IS OF BULK AT MOST 1048576: true; the input reads as it did. -/
def spanChangesUptoRow : OpenClaim := { program := "ytnfgmklkfbcjkaa", sum := "a681d77139d0f20d162ea47dd43650ae7f2f1ecb28d48051b816213fea722e33", func := "splittally/splittallylaw7.SpanChanges", spec := "spanChanges", inPlace := ["math/bits.Add64"], apart := false, narrowed := true }
def SpanChangesUptoSaid : Prop := spanChangesUptoRow.holds Try.pinned (OpenSpec.upto spanChangesSpec)

/-- 'splittallylaw7.SpanTells', WHERE WHAT IT READS IS OF BULK AT MOST 1048576: true; the input reads as it did. -/
def spanTellsUptoRow : OpenClaim := { program := "ytnfgmklkfbcjkaa", sum := "a681d77139d0f20d162ea47dd43650ae7f2f1ecb28d48051b816213fea722e33", func := "splittally/splittallylaw7.SpanTells", spec := "spanTells", inPlace := ["math/bits.Add64"], apart := false, narrowed := true }
def SpanTellsUptoSaid : Prop := spanTellsUptoRow.holds Try.pinned (OpenSpec.upto spanTellsSpec)

/-- 'splittallylaw7.SpanHolds', WHERE WHAT IT READS IS OF BULK AT MOST 1048576: true; the input reads as it did. -/
def spanHoldsUptoRow : OpenClaim := { program := "ytnfgmklkfbcjkaa", sum := "a681d77139d0f20d162ea47dd43650ae7f2f1ecb28d48051b816213fea722e33", func := "splittally/splittallylaw7.SpanHolds", spec := "spanHolds", inPlace := ["math/bits.Add64"], apart := false, narrowed := true }
def SpanHoldsUptoSaid : Prop := spanHoldsUptoRow.holds Try.pinned (OpenSpec.upto spanHoldsSpec)

/-- 'splittallylaw7.SpanMade', WHERE WHAT IT READS IS OF BULK AT MOST 1048576: true; the input reads as it did. -/
def spanMadeUptoRow : OpenClaim := { program := "ytnfgmklkfbcjkaa", sum := "a681d77139d0f20d162ea47dd43650ae7f2f1ecb28d48051b816213fea722e33", func := "splittally/splittallylaw7.SpanMade", spec := "spanMade", inPlace := ["math/bits.Add64"], apart := false, narrowed := true }
def SpanMadeUptoSaid : Prop := spanMadeUptoRow.holds Try.pinned (OpenSpec.upto spanMadeSpec)

end Rows
end Go.Proofs.Ytnfgmklkfbcjkaa
