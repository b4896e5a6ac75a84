/-
  No cell of these rows narrows 'for every input' (looked for: loops, veiled, ifaces, maps, wideKeys, modest, calm, conditions, laid).
  DERIVED. THE GIVEN ROWS OF THIS SEAT. 6 by the template 'for every input the law returns true; each argument reads behind the call as it read before'; 0 by the template 'total and deterministic' (their statements: YtelaimephejkkaaGreatTotals.lean).
  GIVEN WITH THE SEED: the statements are not yours to turn. If you find one false, say at which input.
  Laid BY PROGRAM, IN A SANDBOX (cutbox-rows.mjs): the forced cells as the released guide's own fill.sh prints them over the translation e7e9e56d79d64934… (all of the seat's roots in one cut). By AI agents, Wed Nov 11 2026. No macro, syntax, notation, axiom, sorry.
-/
import Derived.Test.YtelaimephejkkaaGreatChecked
import GoSem.Claim
import GoSem.ClaimJoined
import GoSem.ClaimMapViews
import Derived.JoinedTies
import Derived.KernelRfl
namespace Go.Proofs.YtelaimephejkkaaGreat
/- THE CELL 'sum', in the pinned program and in every row, IS THE sha256 OF THE DUMP (.gsa) THAT YtelaimephejkkaaGreatProg.lean LOADS. Nothing in Lean hashes anything: it is a label: what it is worth is what the hold of that sum in a sandbox is worth. -/
noncomputable def Tryz.pinned : Pinned := { name := "ytelaimephejkkaagreat", sum := "e7e9e56d79d64934fd78fdda04261a465a49c9ea68221fe45c1a4761bcdfe1c4", checked := Tryz.checked }
namespace Rows
def none {H : Type} : Left H := { results := [], args := [] }

/-- 'splittallylaw16.GuardTells': WHATEVER THE INPUT: true; the input reads as it did. -/
def guardTellsSpec : ChangeSpec := { name := "guardTells", fn := fun _ => fun
  | [d1, d2, d3, d4, d5] => { results := [.lit (.bool true)], args := [d1, d2, d3, d4, d5] }
  | _ => none }
def guardTellsRow : OpenClaim := { program := "ytelaimephejkkaagreat", sum := "e7e9e56d79d64934fd78fdda04261a465a49c9ea68221fe45c1a4761bcdfe1c4", func := "splittally/splittallylaw16.GuardTells", spec := "guardTells", inPlace := ["math/bits.Add64", "sync/atomic.LoadUint32", "sync/atomic.AddUint64", "sync/atomic.StoreUint32", "(*internal/sync.Mutex).Lock", "internal/race.Disable", "sync/atomic.CompareAndSwapInt32", "internal/race.Enable", "internal/race.Acquire", "(*internal/sync.Mutex).lockSlow", "internal/sync.runtime_canSpin", "internal/sync.runtime_doSpin", "internal/sync.throw", "internal/sync.runtime_nanotime", "internal/sync.runtime_SemacquireMutex", "sync/atomic.AddInt32", "(*internal/sync.Mutex).Unlock", "internal/race.ReleaseMerge", "(*internal/sync.Mutex).unlockSlow", "internal/sync.fatal", "internal/sync.runtime_Semrelease", "sync/atomic.LoadUint64"], unfollowed := true, recurses := true, apart := false }
def GuardTellsSaid : Prop := guardTellsRow.holds Tryz.pinned (OpenSpec.ofChange guardTellsSpec)

/-- ITS FALSE NEIGHBOUR: 'it returns false'. Refute it at one input. -/
def guardTellsWrong : ChangeSpec := { name := "guardTells", fn := fun _ => fun
  | [d1, d2, d3, d4, d5] => { results := [.lit (.bool false)], args := [d1, d2, d3, d4, d5] }
  | _ => none }
def GuardTellsWrongFalsely : Prop := guardTellsRow.holds Tryz.pinned (OpenSpec.ofChange guardTellsWrong)

/-- 'splittallylaw16.GuardDrops': WHATEVER THE INPUT: true; the input reads as it did. -/
def guardDropsSpec : ChangeSpec := { name := "guardDrops", fn := fun _ => fun
  | [d1, d2, d3, d4] => { results := [.lit (.bool true)], args := [d1, d2, d3, d4] }
  | _ => none }
def guardDropsRow : OpenClaim := { program := "ytelaimephejkkaagreat", sum := "e7e9e56d79d64934fd78fdda04261a465a49c9ea68221fe45c1a4761bcdfe1c4", func := "splittally/splittallylaw16.GuardDrops", spec := "guardDrops", inPlace := ["math/bits.Add64", "sync/atomic.LoadUint32", "sync/atomic.AddUint64", "sync/atomic.StoreUint32", "(*internal/sync.Mutex).Lock", "internal/race.Disable", "sync/atomic.CompareAndSwapInt32", "internal/race.Enable", "internal/race.Acquire", "(*internal/sync.Mutex).lockSlow", "internal/sync.runtime_canSpin", "internal/sync.runtime_doSpin", "internal/sync.throw", "internal/sync.runtime_nanotime", "internal/sync.runtime_SemacquireMutex", "sync/atomic.AddInt32", "(*internal/sync.Mutex).Unlock", "internal/race.ReleaseMerge", "(*internal/sync.Mutex).unlockSlow", "internal/sync.fatal", "internal/sync.runtime_Semrelease", "sync/atomic.LoadUint64"], unfollowed := true, recurses := true, apart := false }
def GuardDropsSaid : Prop := guardDropsRow.holds Tryz.pinned (OpenSpec.ofChange guardDropsSpec)

/-- ITS FALSE NEIGHBOUR: 'it returns false'. Refute it at one input. -/
def guardDropsWrong : ChangeSpec := { name := "guardDrops", fn := fun _ => fun
  | [d1, d2, d3, d4] => { results := [.lit (.bool false)], args := [d1, d2, d3, d4] }
  | _ => none }
def GuardDropsWrongFalsely : Prop := guardDropsRow.holds Tryz.pinned (OpenSpec.ofChange guardDropsWrong)

/-- 'splittallylaw16.GuardEnds': WHATEVER THE INPUT: true; the input reads as it did. -/
def guardEndsSpec : ChangeSpec := { name := "guardEnds", fn := fun _ => fun
  | [d1, d2, d3, d4, d5] => { results := [.lit (.bool true)], args := [d1, d2, d3, d4, d5] }
  | _ => none }
def guardEndsRow : OpenClaim := { program := "ytelaimephejkkaagreat", sum := "e7e9e56d79d64934fd78fdda04261a465a49c9ea68221fe45c1a4761bcdfe1c4", func := "splittally/splittallylaw16.GuardEnds", spec := "guardEnds", inPlace := ["math/bits.Add64", "sync/atomic.LoadUint32", "sync/atomic.AddUint64", "sync/atomic.StoreUint32", "(*internal/sync.Mutex).Lock", "internal/race.Disable", "sync/atomic.CompareAndSwapInt32", "internal/race.Enable", "internal/race.Acquire", "(*internal/sync.Mutex).lockSlow", "internal/sync.runtime_canSpin", "internal/sync.runtime_doSpin", "internal/sync.throw", "internal/sync.runtime_nanotime", "internal/sync.runtime_SemacquireMutex", "sync/atomic.AddInt32", "(*internal/sync.Mutex).Unlock", "internal/race.ReleaseMerge", "(*internal/sync.Mutex).unlockSlow", "internal/sync.fatal", "internal/sync.runtime_Semrelease", "sync/atomic.LoadUint64"], unfollowed := true, recurses := true, apart := false }
def GuardEndsSaid : Prop := guardEndsRow.holds Tryz.pinned (OpenSpec.ofChange guardEndsSpec)

/-- ITS FALSE NEIGHBOUR: 'it returns false'. Refute it at one input. -/
def guardEndsWrong : ChangeSpec := { name := "guardEnds", fn := fun _ => fun
  | [d1, d2, d3, d4, d5] => { results := [.lit (.bool false)], args := [d1, d2, d3, d4, d5] }
  | _ => none }
def GuardEndsWrongFalsely : Prop := guardEndsRow.holds Tryz.pinned (OpenSpec.ofChange guardEndsWrong)

/-- 'splittallylaw16.GuardTakes': WHATEVER THE INPUT: true; the input reads as it did. -/
def guardTakesSpec : ChangeSpec := { name := "guardTakes", fn := fun _ => fun
  | [d1, d2, d3, d4] => { results := [.lit (.bool true)], args := [d1, d2, d3, d4] }
  | _ => none }
def guardTakesRow : OpenClaim := { program := "ytelaimephejkkaagreat", sum := "e7e9e56d79d64934fd78fdda04261a465a49c9ea68221fe45c1a4761bcdfe1c4", func := "splittally/splittallylaw16.GuardTakes", spec := "guardTakes", inPlace := ["math/bits.Add64", "sync/atomic.LoadUint32", "sync/atomic.AddUint64", "sync/atomic.StoreUint32", "(*internal/sync.Mutex).Lock", "internal/race.Disable", "sync/atomic.CompareAndSwapInt32", "internal/race.Enable", "internal/race.Acquire", "(*internal/sync.Mutex).lockSlow", "internal/sync.runtime_canSpin", "internal/sync.runtime_doSpin", "internal/sync.throw", "internal/sync.runtime_nanotime", "internal/sync.runtime_SemacquireMutex", "sync/atomic.AddInt32", "(*internal/sync.Mutex).Unlock", "internal/race.ReleaseMerge", "(*internal/sync.Mutex).unlockSlow", "internal/sync.fatal", "internal/sync.runtime_Semrelease", "sync/atomic.LoadUint64"], unfollowed := true, recurses := true, apart := false }
def GuardTakesSaid : Prop := guardTakesRow.holds Tryz.pinned (OpenSpec.ofChange guardTakesSpec)

/-- ITS FALSE NEIGHBOUR: 'it returns false'. Refute it at one input. -/
def guardTakesWrong : ChangeSpec := { name := "guardTakes", fn := fun _ => fun
  | [d1, d2, d3, d4] => { results := [.lit (.bool false)], args := [d1, d2, d3, d4] }
  | _ => none }
def GuardTakesWrongFalsely : Prop := guardTakesRow.holds Tryz.pinned (OpenSpec.ofChange guardTakesWrong)

/-- 'splittallylaw16.GuardChallenges': WHATEVER THE INPUT: true; the input reads as it did. -/
def guardChallengesSpec : ChangeSpec := { name := "guardChallenges", fn := fun _ => fun
  | [d1, d2, d3, d4, d5, d6] => { results := [.lit (.bool true)], args := [d1, d2, d3, d4, d5, d6] }
  | _ => none }
def guardChallengesRow : OpenClaim := { program := "ytelaimephejkkaagreat", sum := "e7e9e56d79d64934fd78fdda04261a465a49c9ea68221fe45c1a4761bcdfe1c4", func := "splittally/splittallylaw16.GuardChallenges", spec := "guardChallenges", inPlace := ["math/bits.Add64", "sync/atomic.LoadUint32", "sync/atomic.AddUint64", "sync/atomic.StoreUint32", "(*internal/sync.Mutex).Lock", "internal/race.Disable", "sync/atomic.CompareAndSwapInt32", "internal/race.Enable", "internal/race.Acquire", "(*internal/sync.Mutex).lockSlow", "internal/sync.runtime_canSpin", "internal/sync.runtime_doSpin", "internal/sync.throw", "internal/sync.runtime_nanotime", "internal/sync.runtime_SemacquireMutex", "sync/atomic.AddInt32", "(*internal/sync.Mutex).Unlock", "internal/race.ReleaseMerge", "(*internal/sync.Mutex).unlockSlow", "internal/sync.fatal", "internal/sync.runtime_Semrelease", "sync/atomic.LoadUint64"], unfollowed := true, recurses := true, apart := false }
def GuardChallengesSaid : Prop := guardChallengesRow.holds Tryz.pinned (OpenSpec.ofChange guardChallengesSpec)

/-- ITS FALSE NEIGHBOUR: 'it returns false'. Refute it at one input. -/
def guardChallengesWrong : ChangeSpec := { name := "guardChallenges", fn := fun _ => fun
  | [d1, d2, d3, d4, d5, d6] => { results := [.lit (.bool false)], args := [d1, d2, d3, d4, d5, d6] }
  | _ => none }
def GuardChallengesWrongFalsely : Prop := guardChallengesRow.holds Tryz.pinned (OpenSpec.ofChange guardChallengesWrong)

/-- 'splittallylaw16.GuardForks': WHATEVER THE INPUT: true; the input reads as it did. -/
def guardForksSpec : ChangeSpec := { name := "guardForks", fn := fun _ => fun
  | [d1, d2, d3, d4] => { results := [.lit (.bool true)], args := [d1, d2, d3, d4] }
  | _ => none }
def guardForksRow : OpenClaim := { program := "ytelaimephejkkaagreat", sum := "e7e9e56d79d64934fd78fdda04261a465a49c9ea68221fe45c1a4761bcdfe1c4", func := "splittally/splittallylaw16.GuardForks", spec := "guardForks", inPlace := ["math/bits.Add64", "sync/atomic.LoadUint32", "sync/atomic.AddUint64", "sync/atomic.StoreUint32", "(*internal/sync.Mutex).Lock", "internal/race.Disable", "sync/atomic.CompareAndSwapInt32", "internal/race.Enable", "internal/race.Acquire", "(*internal/sync.Mutex).lockSlow", "internal/sync.runtime_canSpin", "internal/sync.runtime_doSpin", "internal/sync.throw", "internal/sync.runtime_nanotime", "internal/sync.runtime_SemacquireMutex", "sync/atomic.AddInt32", "(*internal/sync.Mutex).Unlock", "internal/race.ReleaseMerge", "(*internal/sync.Mutex).unlockSlow", "internal/sync.fatal", "internal/sync.runtime_Semrelease", "sync/atomic.LoadUint64", "sync/atomic.StoreUint64"], unfollowed := true, recurses := true, apart := false }
def GuardForksSaid : Prop := guardForksRow.holds Tryz.pinned (OpenSpec.ofChange guardForksSpec)

/-- ITS FALSE NEIGHBOUR: 'it returns false'. Refute it at one input. -/
def guardForksWrong : ChangeSpec := { name := "guardForks", fn := fun _ => fun
  | [d1, d2, d3, d4] => { results := [.lit (.bool false)], args := [d1, d2, d3, d4] }
  | _ => none }
def GuardForksWrongFalsely : Prop := guardForksRow.holds Tryz.pinned (OpenSpec.ofChange guardForksWrong)

/- THE SECOND FORM. 'bulk': how many values and letters a reading holds, each counted each time it is reached (what is shared counts as often as it is met; a slice's spare places count too). A statement '..UptoSaid' is the law's where the arguments, and the package variables that the reading takes, are together of bulk at most 1048576: NARROWER than '..Said'. Prove '..Said' where nothing that the law and all that it calls make is longer than what came in: it says more and counts as full. Else prove '..UptoSaid'. A law counts once. -/
mutual
def uptoBulk {H : Type} : DataW H → Nat
  | .lit (.string bytes) => bytes.length + 1
  | .lit _ => 1
  | .nil => 1
  | .ptr d => uptoBulk d + 1
  | .slice elems spare => uptoBulkAll elems + uptoBulkAll spare + 1
  | .agg parts => uptoBulkAll parts + 1
  | .iface _ d => uptoBulk d + 1
  | .map entries => uptoBulkEntries entries + 1
  | .held _ => 1
def uptoBulkAll {H : Type} : List (DataW H) → Nat
  | [] => 0
  | d :: r => uptoBulk d + uptoBulkAll r
def uptoBulkEntries {H : Type} : List (Lit × DataW H) → Nat
  | [] => 0
  | x :: r => uptoBulkEntry x + uptoBulkEntries r
def uptoBulkEntry {H : Type} : Lit × DataW H → Nat
  | (.string bytes, d) => bytes.length + uptoBulk d + 1
  | (_, d) => uptoBulk d + 1
 end
def uptoSmall : (H : Type) → List (DataW H) → Bool := fun _ ds => decide (uptoBulkAll ds ≤ 1048576)
def OpenSpec.upto (s : _root_.Go.ChangeSpec) : _root_.Go.OpenSpec := { _root_.Go.OpenSpec.ofChange s with cond := some uptoSmall }

/-- 'splittallylaw16.GuardTells', WHERE WHAT IT READS IS OF BULK AT MOST 1048576: true; the input reads as it did. -/
def guardTellsUptoRow : OpenClaim := { program := "ytelaimephejkkaagreat", sum := "e7e9e56d79d64934fd78fdda04261a465a49c9ea68221fe45c1a4761bcdfe1c4", func := "splittally/splittallylaw16.GuardTells", spec := "guardTells", inPlace := ["math/bits.Add64", "sync/atomic.LoadUint32", "sync/atomic.AddUint64", "sync/atomic.StoreUint32", "(*internal/sync.Mutex).Lock", "internal/race.Disable", "sync/atomic.CompareAndSwapInt32", "internal/race.Enable", "internal/race.Acquire", "(*internal/sync.Mutex).lockSlow", "internal/sync.runtime_canSpin", "internal/sync.runtime_doSpin", "internal/sync.throw", "internal/sync.runtime_nanotime", "internal/sync.runtime_SemacquireMutex", "sync/atomic.AddInt32", "(*internal/sync.Mutex).Unlock", "internal/race.ReleaseMerge", "(*internal/sync.Mutex).unlockSlow", "internal/sync.fatal", "internal/sync.runtime_Semrelease", "sync/atomic.LoadUint64"], unfollowed := true, recurses := true, apart := false, narrowed := true }
def GuardTellsUptoSaid : Prop := guardTellsUptoRow.holds Tryz.pinned (OpenSpec.upto guardTellsSpec)

/-- 'splittallylaw16.GuardDrops', WHERE WHAT IT READS IS OF BULK AT MOST 1048576: true; the input reads as it did. -/
def guardDropsUptoRow : OpenClaim := { program := "ytelaimephejkkaagreat", sum := "e7e9e56d79d64934fd78fdda04261a465a49c9ea68221fe45c1a4761bcdfe1c4", func := "splittally/splittallylaw16.GuardDrops", spec := "guardDrops", inPlace := ["math/bits.Add64", "sync/atomic.LoadUint32", "sync/atomic.AddUint64", "sync/atomic.StoreUint32", "(*internal/sync.Mutex).Lock", "internal/race.Disable", "sync/atomic.CompareAndSwapInt32", "internal/race.Enable", "internal/race.Acquire", "(*internal/sync.Mutex).lockSlow", "internal/sync.runtime_canSpin", "internal/sync.runtime_doSpin", "internal/sync.throw", "internal/sync.runtime_nanotime", "internal/sync.runtime_SemacquireMutex", "sync/atomic.AddInt32", "(*internal/sync.Mutex).Unlock", "internal/race.ReleaseMerge", "(*internal/sync.Mutex).unlockSlow", "internal/sync.fatal", "internal/sync.runtime_Semrelease", "sync/atomic.LoadUint64"], unfollowed := true, recurses := true, apart := false, narrowed := true }
def GuardDropsUptoSaid : Prop := guardDropsUptoRow.holds Tryz.pinned (OpenSpec.upto guardDropsSpec)

/-- 'splittallylaw16.GuardEnds', WHERE WHAT IT READS IS OF BULK AT MOST 1048576: true; the input reads as it did. -/
def guardEndsUptoRow : OpenClaim := { program := "ytelaimephejkkaagreat", sum := "e7e9e56d79d64934fd78fdda04261a465a49c9ea68221fe45c1a4761bcdfe1c4", func := "splittally/splittallylaw16.GuardEnds", spec := "guardEnds", inPlace := ["math/bits.Add64", "sync/atomic.LoadUint32", "sync/atomic.AddUint64", "sync/atomic.StoreUint32", "(*internal/sync.Mutex).Lock", "internal/race.Disable", "sync/atomic.CompareAndSwapInt32", "internal/race.Enable", "internal/race.Acquire", "(*internal/sync.Mutex).lockSlow", "internal/sync.runtime_canSpin", "internal/sync.runtime_doSpin", "internal/sync.throw", "internal/sync.runtime_nanotime", "internal/sync.runtime_SemacquireMutex", "sync/atomic.AddInt32", "(*internal/sync.Mutex).Unlock", "internal/race.ReleaseMerge", "(*internal/sync.Mutex).unlockSlow", "internal/sync.fatal", "internal/sync.runtime_Semrelease", "sync/atomic.LoadUint64"], unfollowed := true, recurses := true, apart := false, narrowed := true }
def GuardEndsUptoSaid : Prop := guardEndsUptoRow.holds Tryz.pinned (OpenSpec.upto guardEndsSpec)

/-- 'splittallylaw16.GuardTakes', WHERE WHAT IT READS IS OF BULK AT MOST 1048576: true; the input reads as it did. -/
def guardTakesUptoRow : OpenClaim := { program := "ytelaimephejkkaagreat", sum := "e7e9e56d79d64934fd78fdda04261a465a49c9ea68221fe45c1a4761bcdfe1c4", func := "splittally/splittallylaw16.GuardTakes", spec := "guardTakes", inPlace := ["math/bits.Add64", "sync/atomic.LoadUint32", "sync/atomic.AddUint64", "sync/atomic.StoreUint32", "(*internal/sync.Mutex).Lock", "internal/race.Disable", "sync/atomic.CompareAndSwapInt32", "internal/race.Enable", "internal/race.Acquire", "(*internal/sync.Mutex).lockSlow", "internal/sync.runtime_canSpin", "internal/sync.runtime_doSpin", "internal/sync.throw", "internal/sync.runtime_nanotime", "internal/sync.runtime_SemacquireMutex", "sync/atomic.AddInt32", "(*internal/sync.Mutex).Unlock", "internal/race.ReleaseMerge", "(*internal/sync.Mutex).unlockSlow", "internal/sync.fatal", "internal/sync.runtime_Semrelease", "sync/atomic.LoadUint64"], unfollowed := true, recurses := true, apart := false, narrowed := true }
def GuardTakesUptoSaid : Prop := guardTakesUptoRow.holds Tryz.pinned (OpenSpec.upto guardTakesSpec)

/-- 'splittallylaw16.GuardChallenges', WHERE WHAT IT READS IS OF BULK AT MOST 1048576: true; the input reads as it did. -/
def guardChallengesUptoRow : OpenClaim := { program := "ytelaimephejkkaagreat", sum := "e7e9e56d79d64934fd78fdda04261a465a49c9ea68221fe45c1a4761bcdfe1c4", func := "splittally/splittallylaw16.GuardChallenges", spec := "guardChallenges", inPlace := ["math/bits.Add64", "sync/atomic.LoadUint32", "sync/atomic.AddUint64", "sync/atomic.StoreUint32", "(*internal/sync.Mutex).Lock", "internal/race.Disable", "sync/atomic.CompareAndSwapInt32", "internal/race.Enable", "internal/race.Acquire", "(*internal/sync.Mutex).lockSlow", "internal/sync.runtime_canSpin", "internal/sync.runtime_doSpin", "internal/sync.throw", "internal/sync.runtime_nanotime", "internal/sync.runtime_SemacquireMutex", "sync/atomic.AddInt32", "(*internal/sync.Mutex).Unlock", "internal/race.ReleaseMerge", "(*internal/sync.Mutex).unlockSlow", "internal/sync.fatal", "internal/sync.runtime_Semrelease", "sync/atomic.LoadUint64"], unfollowed := true, recurses := true, apart := false, narrowed := true }
def GuardChallengesUptoSaid : Prop := guardChallengesUptoRow.holds Tryz.pinned (OpenSpec.upto guardChallengesSpec)

/-- 'splittallylaw16.GuardForks', WHERE WHAT IT READS IS OF BULK AT MOST 1048576: true; the input reads as it did. -/
def guardForksUptoRow : OpenClaim := { program := "ytelaimephejkkaagreat", sum := "e7e9e56d79d64934fd78fdda04261a465a49c9ea68221fe45c1a4761bcdfe1c4", func := "splittally/splittallylaw16.GuardForks", spec := "guardForks", inPlace := ["math/bits.Add64", "sync/atomic.LoadUint32", "sync/atomic.AddUint64", "sync/atomic.StoreUint32", "(*internal/sync.Mutex).Lock", "internal/race.Disable", "sync/atomic.CompareAndSwapInt32", "internal/race.Enable", "internal/race.Acquire", "(*internal/sync.Mutex).lockSlow", "internal/sync.runtime_canSpin", "internal/sync.runtime_doSpin", "internal/sync.throw", "internal/sync.runtime_nanotime", "internal/sync.runtime_SemacquireMutex", "sync/atomic.AddInt32", "(*internal/sync.Mutex).Unlock", "internal/race.ReleaseMerge", "(*internal/sync.Mutex).unlockSlow", "internal/sync.fatal", "internal/sync.runtime_Semrelease", "sync/atomic.LoadUint64", "sync/atomic.StoreUint64"], unfollowed := true, recurses := true, apart := false, narrowed := true }
def GuardForksUptoSaid : Prop := guardForksUptoRow.holds Tryz.pinned (OpenSpec.upto guardForksSpec)

end Rows
end Go.Proofs.YtelaimephejkkaaGreat
