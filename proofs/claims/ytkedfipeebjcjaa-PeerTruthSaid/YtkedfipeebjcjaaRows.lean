/-
  No cell of these rows narrows 'for every input' (looked for: loops, veiled, ifaces, maps, wideKeys, modest, calm, conditions, laid).
  DERIVED. THE GIVEN ROWS OF THIS SEAT. 5 by the template 'for every input the law returns true; each argument reads behind the call as it read before'; 0 by the template 'total and deterministic' (their statements: YtkedfipeebjcjaaTotals.lean).
  GIVEN WITH THE SEED: the statements are not yours to turn. If you find one false, say at which input.
  Laid BY PROGRAM, IN A SANDBOX (cutbox-rows.mjs): the forced cells as the released guide's own fill.sh prints them over the translation 3a6ab9e3b7a99188… (all of the seat's roots in one cut). By AI agents, Wed Nov 11 2026. No macro, syntax, notation, axiom, sorry.
-/
import Derived.Test.YtkedfipeebjcjaaChecked
import GoSem.Claim
import GoSem.ClaimJoined
import GoSem.ClaimMapViews
import Derived.JoinedTies
import Derived.KernelRfl
namespace Go.Proofs.Ytkedfipeebjcjaa
/- THE CELL 'sum', in the pinned program and in every row, IS THE sha256 OF THE DUMP (.gsa) THAT YtkedfipeebjcjaaProg.lean LOADS. Nothing in Lean hashes anything: it is a label: what it is worth is what the hold of that sum in a sandbox is worth. -/
noncomputable def Try.pinned : Pinned := { name := "ytkedfipeebjcjaa", sum := "3a6ab9e3b7a99188839cc927eea2478a8897bec0f17fdbbe7c28645a3b2c0e29", checked := Try.checked }
namespace Rows
def none {H : Type} : Left H := { results := [], args := [] }

/-- 'splittallylaw27.PeerReads': WHATEVER THE INPUT: true; the input reads as it did. -/
def peerReadsSpec : ChangeSpec := { name := "peerReads", fn := fun _ => fun
  | [d1, d2, d3] => { results := [.lit (.bool true)], args := [d1, d2, d3] }
  | _ => none }
def peerReadsRow : OpenClaim := { program := "ytkedfipeebjcjaa", sum := "3a6ab9e3b7a99188839cc927eea2478a8897bec0f17fdbbe7c28645a3b2c0e29", func := "splittally/splittallylaw27.PeerReads", spec := "peerReads", inPlace := ["math/bits.Add64"], unfollowed := true, recurses := true, apart := false }
def PeerReadsSaid : Prop := peerReadsRow.holds Try.pinned (OpenSpec.ofChange peerReadsSpec)

/-- ITS FALSE NEIGHBOUR: 'it returns false'. Refute it at one input. -/
def peerReadsWrong : ChangeSpec := { name := "peerReads", fn := fun _ => fun
  | [d1, d2, d3] => { results := [.lit (.bool false)], args := [d1, d2, d3] }
  | _ => none }
def PeerReadsWrongFalsely : Prop := peerReadsRow.holds Try.pinned (OpenSpec.ofChange peerReadsWrong)

/-- 'splittallylaw27.PeerTruth': WHATEVER THE INPUT: true; the input reads as it did. -/
def peerTruthSpec : ChangeSpec := { name := "peerTruth", fn := fun _ => fun
  | [d1, d2] => { results := [.lit (.bool true)], args := [d1, d2] }
  | _ => none }
def peerTruthRow : OpenClaim := { program := "ytkedfipeebjcjaa", sum := "3a6ab9e3b7a99188839cc927eea2478a8897bec0f17fdbbe7c28645a3b2c0e29", func := "splittally/splittallylaw27.PeerTruth", spec := "peerTruth", inPlace := ["math/bits.Add64"], unfollowed := true, recurses := true, apart := false }
def PeerTruthSaid : Prop := peerTruthRow.holds Try.pinned (OpenSpec.ofChange peerTruthSpec)

/-- ITS FALSE NEIGHBOUR: 'it returns false'. Refute it at one input. -/
def peerTruthWrong : ChangeSpec := { name := "peerTruth", fn := fun _ => fun
  | [d1, d2] => { results := [.lit (.bool false)], args := [d1, d2] }
  | _ => none }
def PeerTruthWrongFalsely : Prop := peerTruthRow.holds Try.pinned (OpenSpec.ofChange peerTruthWrong)

/-- 'splittallylaw27.PeerTells': WHATEVER THE INPUT: true; the input reads as it did. -/
def peerTellsSpec : ChangeSpec := { name := "peerTells", fn := fun _ => fun
  | [d1, d2] => { results := [.lit (.bool true)], args := [d1, d2] }
  | _ => none }
def peerTellsRow : OpenClaim := { program := "ytkedfipeebjcjaa", sum := "3a6ab9e3b7a99188839cc927eea2478a8897bec0f17fdbbe7c28645a3b2c0e29", func := "splittally/splittallylaw27.PeerTells", spec := "peerTells", inPlace := ["math/bits.Add64"], unfollowed := true, recurses := true, apart := false }
def PeerTellsSaid : Prop := peerTellsRow.holds Try.pinned (OpenSpec.ofChange peerTellsSpec)

/-- ITS FALSE NEIGHBOUR: 'it returns false'. Refute it at one input. -/
def peerTellsWrong : ChangeSpec := { name := "peerTells", fn := fun _ => fun
  | [d1, d2] => { results := [.lit (.bool false)], args := [d1, d2] }
  | _ => none }
def PeerTellsWrongFalsely : Prop := peerTellsRow.holds Try.pinned (OpenSpec.ofChange peerTellsWrong)

/-- 'splittallylaw27.PeerForks': WHATEVER THE INPUT: true; the input reads as it did. -/
def peerForksSpec : ChangeSpec := { name := "peerForks", fn := fun _ => fun
  | [d1, d2, d3] => { results := [.lit (.bool true)], args := [d1, d2, d3] }
  | _ => none }
def peerForksRow : OpenClaim := { program := "ytkedfipeebjcjaa", sum := "3a6ab9e3b7a99188839cc927eea2478a8897bec0f17fdbbe7c28645a3b2c0e29", func := "splittally/splittallylaw27.PeerForks", spec := "peerForks", inPlace := ["math/bits.Add64"], unfollowed := true, recurses := true, apart := false }
def PeerForksSaid : Prop := peerForksRow.holds Try.pinned (OpenSpec.ofChange peerForksSpec)

/-- ITS FALSE NEIGHBOUR: 'it returns false'. Refute it at one input. -/
def peerForksWrong : ChangeSpec := { name := "peerForks", fn := fun _ => fun
  | [d1, d2, d3] => { results := [.lit (.bool false)], args := [d1, d2, d3] }
  | _ => none }
def PeerForksWrongFalsely : Prop := peerForksRow.holds Try.pinned (OpenSpec.ofChange peerForksWrong)

/-- 'splittallylaw27.PeerSoon': WHATEVER THE INPUT: true; the input reads as it did. -/
def peerSoonSpec : ChangeSpec := { name := "peerSoon", fn := fun _ => fun
  | [d1, d2] => { results := [.lit (.bool true)], args := [d1, d2] }
  | _ => none }
def peerSoonRow : OpenClaim := { program := "ytkedfipeebjcjaa", sum := "3a6ab9e3b7a99188839cc927eea2478a8897bec0f17fdbbe7c28645a3b2c0e29", func := "splittally/splittallylaw27.PeerSoon", spec := "peerSoon", inPlace := ["math/bits.Add64"], unfollowed := true, recurses := true, apart := false }
def PeerSoonSaid : Prop := peerSoonRow.holds Try.pinned (OpenSpec.ofChange peerSoonSpec)

/-- ITS FALSE NEIGHBOUR: 'it returns false'. Refute it at one input. -/
def peerSoonWrong : ChangeSpec := { name := "peerSoon", fn := fun _ => fun
  | [d1, d2] => { results := [.lit (.bool false)], args := [d1, d2] }
  | _ => none }
def PeerSoonWrongFalsely : Prop := peerSoonRow.holds Try.pinned (OpenSpec.ofChange peerSoonWrong)

/- THE SECOND FORM. 'bulk': how many values and letters a reading holds, each counted each time it is reached (what is shared counts as often as it is met; a slice's spare places count too). A statement '..UptoSaid' is the law's where the arguments, and the package variables that the reading takes, are together of bulk at most 1048576: NARROWER than '..Said'. Prove '..Said' where nothing that the law and all that it calls make is longer than what came in: it says more and counts as full. Else prove '..UptoSaid'. A law counts once. -/
mutual
def uptoBulk {H : Type} : DataW H → Nat
  | .lit (.string bytes) => bytes.length + 1
  | .lit _ => 1
  | .nil => 1
  | .ptr d => uptoBulk d + 1
  | .slice elems spare => uptoBulkAll elems + uptoBulkAll spare + 1
  | .agg parts => uptoBulkAll parts + 1
  | .iface _ d => uptoBulk d + 1
  | .map entries => uptoBulkEntries entries + 1
  | .held _ => 1
def uptoBulkAll {H : Type} : List (DataW H) → Nat
  | [] => 0
  | d :: r => uptoBulk d + uptoBulkAll r
def uptoBulkEntries {H : Type} : List (Lit × DataW H) → Nat
  | [] => 0
  | x :: r => uptoBulkEntry x + uptoBulkEntries r
def uptoBulkEntry {H : Type} : Lit × DataW H → Nat
  | (.string bytes, d) => bytes.length + uptoBulk d + 1
  | (_, d) => uptoBulk d + 1
 end
def uptoSmall : (H : Type) → List (DataW H) → Bool := fun _ ds => decide (uptoBulkAll ds ≤ 1048576)
def OpenSpec.upto (s : _root_.Go.ChangeSpec) : _root_.Go.OpenSpec := { _root_.Go.OpenSpec.ofChange s with cond := some uptoSmall }

/-- 'splittallylaw27.PeerReads', WHERE WHAT IT READS IS OF BULK AT MOST 1048576: true; the input reads as it did. -/
def peerReadsUptoRow : OpenClaim := { program := "ytkedfipeebjcjaa", sum := "3a6ab9e3b7a99188839cc927eea2478a8897bec0f17fdbbe7c28645a3b2c0e29", func := "splittally/splittallylaw27.PeerReads", spec := "peerReads", inPlace := ["math/bits.Add64"], unfollowed := true, recurses := true, apart := false, narrowed := true }
def PeerReadsUptoSaid : Prop := peerReadsUptoRow.holds Try.pinned (OpenSpec.upto peerReadsSpec)

/-- 'splittallylaw27.PeerTruth', WHERE WHAT IT READS IS OF BULK AT MOST 1048576: true; the input reads as it did. -/
def peerTruthUptoRow : OpenClaim := { program := "ytkedfipeebjcjaa", sum := "3a6ab9e3b7a99188839cc927eea2478a8897bec0f17fdbbe7c28645a3b2c0e29", func := "splittally/splittallylaw27.PeerTruth", spec := "peerTruth", inPlace := ["math/bits.Add64"], unfollowed := true, recurses := true, apart := false, narrowed := true }
def PeerTruthUptoSaid : Prop := peerTruthUptoRow.holds Try.pinned (OpenSpec.upto peerTruthSpec)

/-- 'splittallylaw27.PeerTells', WHERE WHAT IT READS IS OF BULK AT MOST 1048576: true; the input reads as it did. -/
def peerTellsUptoRow : OpenClaim := { program := "ytkedfipeebjcjaa", sum := "3a6ab9e3b7a99188839cc927eea2478a8897bec0f17fdbbe7c28645a3b2c0e29", func := "splittally/splittallylaw27.PeerTells", spec := "peerTells", inPlace := ["math/bits.Add64"], unfollowed := true, recurses := true, apart := false, narrowed := true }
def PeerTellsUptoSaid : Prop := peerTellsUptoRow.holds Try.pinned (OpenSpec.upto peerTellsSpec)

/-- 'splittallylaw27.PeerForks', WHERE WHAT IT READS IS OF BULK AT MOST 1048576: true; the input reads as it did. -/
def peerForksUptoRow : OpenClaim := { program := "ytkedfipeebjcjaa", sum := "3a6ab9e3b7a99188839cc927eea2478a8897bec0f17fdbbe7c28645a3b2c0e29", func := "splittally/splittallylaw27.PeerForks", spec := "peerForks", inPlace := ["math/bits.Add64"], unfollowed := true, recurses := true, apart := false, narrowed := true }
def PeerForksUptoSaid : Prop := peerForksUptoRow.holds Try.pinned (OpenSpec.upto peerForksSpec)

/-- 'splittallylaw27.PeerSoon', WHERE WHAT IT READS IS OF BULK AT MOST 1048576: true; the input reads as it did. -/
def peerSoonUptoRow : OpenClaim := { program := "ytkedfipeebjcjaa", sum := "3a6ab9e3b7a99188839cc927eea2478a8897bec0f17fdbbe7c28645a3b2c0e29", func := "splittally/splittallylaw27.PeerSoon", spec := "peerSoon", inPlace := ["math/bits.Add64"], unfollowed := true, recurses := true, apart := false, narrowed := true }
def PeerSoonUptoSaid : Prop := peerSoonUptoRow.holds Try.pinned (OpenSpec.upto peerSoonSpec)

end Rows
end Go.Proofs.Ytkedfipeebjcjaa
