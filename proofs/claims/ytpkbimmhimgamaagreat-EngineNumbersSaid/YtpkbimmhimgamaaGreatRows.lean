/-
  No cell of these rows narrows 'for every input' (looked for: loops, veiled, ifaces, maps, wideKeys, modest, calm, conditions, laid).
  DERIVED. THE GIVEN ROWS OF THIS SEAT. 8 by the template 'for every input the law returns true; each argument reads behind the call as it read before'; 0 by the template 'total and deterministic' (their statements: YtpkbimmhimgamaaGreatTotals.lean).
  GIVEN WITH THE SEED: the statements are not yours to turn. If you find one false, say at which input.
  Laid BY PROGRAM, IN A SANDBOX (cutbox-rows.mjs): the forced cells as the released guide's own fill.sh prints them over the translation 05462c9ec2169adc… (all of the seat's roots in one cut). By AI agents, Wed Nov 11 2026. No macro, syntax, notation, axiom, sorry.
-/
import Derived.Test.YtpkbimmhimgamaaGreatChecked
import GoSem.Claim
import GoSem.ClaimJoined
import GoSem.ClaimMapViews
import Derived.JoinedTies
import Derived.KernelRfl
namespace Go.Proofs.YtpkbimmhimgamaaGreat
/- THE CELL 'sum', in the pinned program and in every row, IS THE sha256 OF THE DUMP (.gsa) THAT YtpkbimmhimgamaaGreatProg.lean LOADS. Nothing in Lean hashes anything: it is a label: what it is worth is what the hold of that sum in a sandbox is worth. -/
noncomputable def Tryz.pinned : Pinned := { name := "ytpkbimmhimgamaagreat", sum := "05462c9ec2169adc8a397ae681fa3c48d178daca44d3e0cdbde27573a9b7f666", checked := Tryz.checked }
namespace Rows
def none {H : Type} : Left H := { results := [], args := [] }

/-- 'splittallylaw26.EngineNumbers': WHATEVER THE INPUT: true; the input reads as it did. -/
def engineNumbersSpec : ChangeSpec := { name := "engineNumbers", fn := fun _ => fun
  | [d1, d2, d3] => { results := [.lit (.bool true)], args := [d1, d2, d3] }
  | _ => none }
def engineNumbersRow : OpenClaim := { program := "ytpkbimmhimgamaagreat", sum := "05462c9ec2169adc8a397ae681fa3c48d178daca44d3e0cdbde27573a9b7f666", func := "splittally/splittallylaw26.EngineNumbers", spec := "engineNumbers", inPlace := ["math/bits.Add64", "sync/atomic.LoadUint64"], named := ["math/bits.divideError", "math/bits.overflowError"], apart := false }
def EngineNumbersSaid : Prop := engineNumbersRow.holds Tryz.pinned (OpenSpec.ofChange engineNumbersSpec)

/-- ITS FALSE NEIGHBOUR: 'it returns false'. Refute it at one input. -/
def engineNumbersWrong : ChangeSpec := { name := "engineNumbers", fn := fun _ => fun
  | [d1, d2, d3] => { results := [.lit (.bool false)], args := [d1, d2, d3] }
  | _ => none }
def EngineNumbersWrongFalsely : Prop := engineNumbersRow.holds Tryz.pinned (OpenSpec.ofChange engineNumbersWrong)

/-- 'splittallylaw26.EngineWindows': WHATEVER THE INPUT: true; the input reads as it did. -/
def engineWindowsSpec : ChangeSpec := { name := "engineWindows", fn := fun _ => fun
  | [d1, d2, d3] => { results := [.lit (.bool true)], args := [d1, d2, d3] }
  | _ => none }
def engineWindowsRow : OpenClaim := { program := "ytpkbimmhimgamaagreat", sum := "05462c9ec2169adc8a397ae681fa3c48d178daca44d3e0cdbde27573a9b7f666", func := "splittally/splittallylaw26.EngineWindows", spec := "engineWindows", inPlace := ["math/bits.Add64", "sync/atomic.LoadUint64", "sync/atomic.LoadUint32", "sync/atomic.AddUint64", "sync/atomic.StoreUint32", "(*internal/sync.Mutex).Lock", "internal/race.Disable", "sync/atomic.CompareAndSwapInt32", "internal/race.Enable", "internal/race.Acquire", "(*internal/sync.Mutex).lockSlow", "internal/sync.runtime_canSpin", "internal/sync.runtime_doSpin", "internal/sync.throw", "internal/sync.runtime_nanotime", "internal/sync.runtime_SemacquireMutex", "sync/atomic.AddInt32", "(*internal/sync.Mutex).Unlock", "internal/race.ReleaseMerge", "(*internal/sync.Mutex).unlockSlow", "internal/sync.fatal", "internal/sync.runtime_Semrelease"], unfollowed := true, recurses := true, named := ["math/bits.divideError", "math/bits.overflowError"], apart := false }
def EngineWindowsSaid : Prop := engineWindowsRow.holds Tryz.pinned (OpenSpec.ofChange engineWindowsSpec)

/-- ITS FALSE NEIGHBOUR: 'it returns false'. Refute it at one input. -/
def engineWindowsWrong : ChangeSpec := { name := "engineWindows", fn := fun _ => fun
  | [d1, d2, d3] => { results := [.lit (.bool false)], args := [d1, d2, d3] }
  | _ => none }
def EngineWindowsWrongFalsely : Prop := engineWindowsRow.holds Tryz.pinned (OpenSpec.ofChange engineWindowsWrong)

/-- 'splittallylaw26.EngineTells': WHATEVER THE INPUT: true; the input reads as it did. -/
def engineTellsSpec : ChangeSpec := { name := "engineTells", fn := fun _ => fun
  | [d1, d2, d3] => { results := [.lit (.bool true)], args := [d1, d2, d3] }
  | _ => none }
def engineTellsRow : OpenClaim := { program := "ytpkbimmhimgamaagreat", sum := "05462c9ec2169adc8a397ae681fa3c48d178daca44d3e0cdbde27573a9b7f666", func := "splittally/splittallylaw26.EngineTells", spec := "engineTells", inPlace := ["math/bits.Add64", "sync/atomic.LoadUint64", "sync/atomic.LoadUint32", "sync/atomic.AddUint64", "sync/atomic.StoreUint32", "(*internal/sync.Mutex).Lock", "internal/race.Disable", "sync/atomic.CompareAndSwapInt32", "internal/race.Enable", "internal/race.Acquire", "(*internal/sync.Mutex).lockSlow", "internal/sync.runtime_canSpin", "internal/sync.runtime_doSpin", "internal/sync.throw", "internal/sync.runtime_nanotime", "internal/sync.runtime_SemacquireMutex", "sync/atomic.AddInt32", "(*internal/sync.Mutex).Unlock", "internal/race.ReleaseMerge", "(*internal/sync.Mutex).unlockSlow", "internal/sync.fatal", "internal/sync.runtime_Semrelease"], unfollowed := true, recurses := true, named := ["math/bits.divideError", "math/bits.overflowError"], apart := false }
def EngineTellsSaid : Prop := engineTellsRow.holds Tryz.pinned (OpenSpec.ofChange engineTellsSpec)

/-- ITS FALSE NEIGHBOUR: 'it returns false'. Refute it at one input. -/
def engineTellsWrong : ChangeSpec := { name := "engineTells", fn := fun _ => fun
  | [d1, d2, d3] => { results := [.lit (.bool false)], args := [d1, d2, d3] }
  | _ => none }
def EngineTellsWrongFalsely : Prop := engineTellsRow.holds Tryz.pinned (OpenSpec.ofChange engineTellsWrong)

/-- 'splittallylaw26.EnginePackets': WHATEVER THE INPUT: true; the input reads as it did. -/
def enginePacketsSpec : ChangeSpec := { name := "enginePackets", fn := fun _ => fun
  | [d1, d2, d3] => { results := [.lit (.bool true)], args := [d1, d2, d3] }
  | _ => none }
def enginePacketsRow : OpenClaim := { program := "ytpkbimmhimgamaagreat", sum := "05462c9ec2169adc8a397ae681fa3c48d178daca44d3e0cdbde27573a9b7f666", func := "splittally/splittallylaw26.EnginePackets", spec := "enginePackets", inPlace := ["math/bits.Add64", "sync/atomic.LoadUint32", "sync/atomic.AddUint64", "sync/atomic.StoreUint32", "(*internal/sync.Mutex).Lock", "internal/race.Disable", "sync/atomic.CompareAndSwapInt32", "internal/race.Enable", "internal/race.Acquire", "(*internal/sync.Mutex).lockSlow", "internal/sync.runtime_canSpin", "internal/sync.runtime_doSpin", "internal/sync.throw", "internal/sync.runtime_nanotime", "internal/sync.runtime_SemacquireMutex", "sync/atomic.AddInt32", "(*internal/sync.Mutex).Unlock", "internal/race.ReleaseMerge", "(*internal/sync.Mutex).unlockSlow", "internal/sync.fatal", "internal/sync.runtime_Semrelease", "sync/atomic.LoadUint64"], unfollowed := true, recurses := true, named := ["math/bits.divideError", "math/bits.overflowError"], apart := false }
def EnginePacketsSaid : Prop := enginePacketsRow.holds Tryz.pinned (OpenSpec.ofChange enginePacketsSpec)

/-- ITS FALSE NEIGHBOUR: 'it returns false'. Refute it at one input. -/
def enginePacketsWrong : ChangeSpec := { name := "enginePackets", fn := fun _ => fun
  | [d1, d2, d3] => { results := [.lit (.bool false)], args := [d1, d2, d3] }
  | _ => none }
def EnginePacketsWrongFalsely : Prop := enginePacketsRow.holds Tryz.pinned (OpenSpec.ofChange enginePacketsWrong)

/-- 'splittallylaw26.EngineEnds': WHATEVER THE INPUT: true; the input reads as it did. -/
def engineEndsSpec : ChangeSpec := { name := "engineEnds", fn := fun _ => fun
  | [d1, d2, d3, d4] => { results := [.lit (.bool true)], args := [d1, d2, d3, d4] }
  | _ => none }
def engineEndsRow : OpenClaim := { program := "ytpkbimmhimgamaagreat", sum := "05462c9ec2169adc8a397ae681fa3c48d178daca44d3e0cdbde27573a9b7f666", func := "splittally/splittallylaw26.EngineEnds", spec := "engineEnds", inPlace := ["math/bits.Add64", "sync/atomic.LoadUint32", "sync/atomic.AddUint64", "sync/atomic.StoreUint32", "(*internal/sync.Mutex).Lock", "internal/race.Disable", "sync/atomic.CompareAndSwapInt32", "internal/race.Enable", "internal/race.Acquire", "(*internal/sync.Mutex).lockSlow", "internal/sync.runtime_canSpin", "internal/sync.runtime_doSpin", "internal/sync.throw", "internal/sync.runtime_nanotime", "internal/sync.runtime_SemacquireMutex", "sync/atomic.AddInt32", "(*internal/sync.Mutex).Unlock", "internal/race.ReleaseMerge", "(*internal/sync.Mutex).unlockSlow", "internal/sync.fatal", "internal/sync.runtime_Semrelease", "sync/atomic.LoadUint64"], unfollowed := true, recurses := true, named := ["math/bits.divideError", "math/bits.overflowError"], apart := false }
def EngineEndsSaid : Prop := engineEndsRow.holds Tryz.pinned (OpenSpec.ofChange engineEndsSpec)

/-- ITS FALSE NEIGHBOUR: 'it returns false'. Refute it at one input. -/
def engineEndsWrong : ChangeSpec := { name := "engineEnds", fn := fun _ => fun
  | [d1, d2, d3, d4] => { results := [.lit (.bool false)], args := [d1, d2, d3, d4] }
  | _ => none }
def EngineEndsWrongFalsely : Prop := engineEndsRow.holds Tryz.pinned (OpenSpec.ofChange engineEndsWrong)

/-- 'splittallylaw26.EngineQuiet': WHATEVER THE INPUT: true; the input reads as it did. -/
def engineQuietSpec : ChangeSpec := { name := "engineQuiet", fn := fun _ => fun
  | [d1, d2, d3, d4] => { results := [.lit (.bool true)], args := [d1, d2, d3, d4] }
  | _ => none }
def engineQuietRow : OpenClaim := { program := "ytpkbimmhimgamaagreat", sum := "05462c9ec2169adc8a397ae681fa3c48d178daca44d3e0cdbde27573a9b7f666", func := "splittally/splittallylaw26.EngineQuiet", spec := "engineQuiet", inPlace := ["math/bits.Add64", "sync/atomic.LoadUint32", "sync/atomic.AddUint64", "sync/atomic.StoreUint32", "(*internal/sync.Mutex).Lock", "internal/race.Disable", "sync/atomic.CompareAndSwapInt32", "internal/race.Enable", "internal/race.Acquire", "(*internal/sync.Mutex).lockSlow", "internal/sync.runtime_canSpin", "internal/sync.runtime_doSpin", "internal/sync.throw", "internal/sync.runtime_nanotime", "internal/sync.runtime_SemacquireMutex", "sync/atomic.AddInt32", "(*internal/sync.Mutex).Unlock", "internal/race.ReleaseMerge", "(*internal/sync.Mutex).unlockSlow", "internal/sync.fatal", "internal/sync.runtime_Semrelease", "sync/atomic.LoadUint64"], unfollowed := true, recurses := true, named := ["math/bits.divideError", "math/bits.overflowError"], apart := false }
def EngineQuietSaid : Prop := engineQuietRow.holds Tryz.pinned (OpenSpec.ofChange engineQuietSpec)

/-- ITS FALSE NEIGHBOUR: 'it returns false'. Refute it at one input. -/
def engineQuietWrong : ChangeSpec := { name := "engineQuiet", fn := fun _ => fun
  | [d1, d2, d3, d4] => { results := [.lit (.bool false)], args := [d1, d2, d3, d4] }
  | _ => none }
def EngineQuietWrongFalsely : Prop := engineQuietRow.holds Tryz.pinned (OpenSpec.ofChange engineQuietWrong)

/-- 'splittallylaw26.EngineDrops': WHATEVER THE INPUT: true; the input reads as it did. -/
def engineDropsSpec : ChangeSpec := { name := "engineDrops", fn := fun _ => fun
  | [d1, d2, d3, d4, d5] => { results := [.lit (.bool true)], args := [d1, d2, d3, d4, d5] }
  | _ => none }
def engineDropsRow : OpenClaim := { program := "ytpkbimmhimgamaagreat", sum := "05462c9ec2169adc8a397ae681fa3c48d178daca44d3e0cdbde27573a9b7f666", func := "splittally/splittallylaw26.EngineDrops", spec := "engineDrops", inPlace := ["math/bits.Add64", "sync/atomic.LoadUint32", "sync/atomic.AddUint64", "sync/atomic.StoreUint32", "(*internal/sync.Mutex).Lock", "internal/race.Disable", "sync/atomic.CompareAndSwapInt32", "internal/race.Enable", "internal/race.Acquire", "(*internal/sync.Mutex).lockSlow", "internal/sync.runtime_canSpin", "internal/sync.runtime_doSpin", "internal/sync.throw", "internal/sync.runtime_nanotime", "internal/sync.runtime_SemacquireMutex", "sync/atomic.AddInt32", "(*internal/sync.Mutex).Unlock", "internal/race.ReleaseMerge", "(*internal/sync.Mutex).unlockSlow", "internal/sync.fatal", "internal/sync.runtime_Semrelease", "sync/atomic.LoadUint64", "sync/atomic.StoreUint64"], unfollowed := true, recurses := true, named := ["math/bits.divideError", "math/bits.overflowError"], apart := false }
def EngineDropsSaid : Prop := engineDropsRow.holds Tryz.pinned (OpenSpec.ofChange engineDropsSpec)

/-- ITS FALSE NEIGHBOUR: 'it returns false'. Refute it at one input. -/
def engineDropsWrong : ChangeSpec := { name := "engineDrops", fn := fun _ => fun
  | [d1, d2, d3, d4, d5] => { results := [.lit (.bool false)], args := [d1, d2, d3, d4, d5] }
  | _ => none }
def EngineDropsWrongFalsely : Prop := engineDropsRow.holds Tryz.pinned (OpenSpec.ofChange engineDropsWrong)

/-- 'splittallylaw26.EngineForks': WHATEVER THE INPUT: true; the input reads as it did. -/
def engineForksSpec : ChangeSpec := { name := "engineForks", fn := fun _ => fun
  | [d1, d2, d3, d4] => { results := [.lit (.bool true)], args := [d1, d2, d3, d4] }
  | _ => none }
def engineForksRow : OpenClaim := { program := "ytpkbimmhimgamaagreat", sum := "05462c9ec2169adc8a397ae681fa3c48d178daca44d3e0cdbde27573a9b7f666", func := "splittally/splittallylaw26.EngineForks", spec := "engineForks", inPlace := ["math/bits.Add64", "sync/atomic.LoadUint32", "sync/atomic.AddUint64", "sync/atomic.StoreUint32", "(*internal/sync.Mutex).Lock", "internal/race.Disable", "sync/atomic.CompareAndSwapInt32", "internal/race.Enable", "internal/race.Acquire", "(*internal/sync.Mutex).lockSlow", "internal/sync.runtime_canSpin", "internal/sync.runtime_doSpin", "internal/sync.throw", "internal/sync.runtime_nanotime", "internal/sync.runtime_SemacquireMutex", "sync/atomic.AddInt32", "(*internal/sync.Mutex).Unlock", "internal/race.ReleaseMerge", "(*internal/sync.Mutex).unlockSlow", "internal/sync.fatal", "internal/sync.runtime_Semrelease", "sync/atomic.LoadUint64", "sync/atomic.StoreUint64"], unfollowed := true, recurses := true, named := ["math/bits.divideError", "math/bits.overflowError"], apart := false }
def EngineForksSaid : Prop := engineForksRow.holds Tryz.pinned (OpenSpec.ofChange engineForksSpec)

/-- ITS FALSE NEIGHBOUR: 'it returns false'. Refute it at one input. -/
def engineForksWrong : ChangeSpec := { name := "engineForks", fn := fun _ => fun
  | [d1, d2, d3, d4] => { results := [.lit (.bool false)], args := [d1, d2, d3, d4] }
  | _ => none }
def EngineForksWrongFalsely : Prop := engineForksRow.holds Tryz.pinned (OpenSpec.ofChange engineForksWrong)

/- THE SECOND FORM. 'bulk': how many values and letters a reading holds, each counted each time it is reached (what is shared counts as often as it is met; a slice's spare places count too). A statement '..UptoSaid' is the law's where the arguments, and the package variables that the reading takes, are together of bulk at most 1048576: NARROWER than '..Said'. Prove '..Said' where nothing that the law and all that it calls make is longer than what came in: it says more and counts as full. Else prove '..UptoSaid'. A law counts once. -/
mutual
def uptoBulk {H : Type} : DataW H → Nat
  | .lit (.string bytes) => bytes.length + 1
  | .lit _ => 1
  | .nil => 1
  | .ptr d => uptoBulk d + 1
  | .slice elems spare => uptoBulkAll elems + uptoBulkAll spare + 1
  | .agg parts => uptoBulkAll parts + 1
  | .iface _ d => uptoBulk d + 1
  | .map entries => uptoBulkEntries entries + 1
  | .held _ => 1
def uptoBulkAll {H : Type} : List (DataW H) → Nat
  | [] => 0
  | d :: r => uptoBulk d + uptoBulkAll r
def uptoBulkEntries {H : Type} : List (Lit × DataW H) → Nat
  | [] => 0
  | x :: r => uptoBulkEntry x + uptoBulkEntries r
def uptoBulkEntry {H : Type} : Lit × DataW H → Nat
  | (.string bytes, d) => bytes.length + uptoBulk d + 1
  | (_, d) => uptoBulk d + 1
 end
def uptoSmall : (H : Type) → List (DataW H) → Bool := fun _ ds => decide (uptoBulkAll ds ≤ 1048576)
def OpenSpec.upto (s : _root_.Go.ChangeSpec) : _root_.Go.OpenSpec := { _root_.Go.OpenSpec.ofChange s with cond := some uptoSmall }

/-- 'splittallylaw26.EngineNumbers', WHERE WHAT IT READS IS OF BULK AT MOST 1048576: true; the input reads as it did. -/
def engineNumbersUptoRow : OpenClaim := { program := "ytpkbimmhimgamaagreat", sum := "05462c9ec2169adc8a397ae681fa3c48d178daca44d3e0cdbde27573a9b7f666", func := "splittally/splittallylaw26.EngineNumbers", spec := "engineNumbers", inPlace := ["math/bits.Add64", "sync/atomic.LoadUint64"], named := ["math/bits.divideError", "math/bits.overflowError"], apart := false, narrowed := true }
def EngineNumbersUptoSaid : Prop := engineNumbersUptoRow.holds Tryz.pinned (OpenSpec.upto engineNumbersSpec)

/-- 'splittallylaw26.EngineWindows', WHERE WHAT IT READS IS OF BULK AT MOST 1048576: true; the input reads as it did. -/
def engineWindowsUptoRow : OpenClaim := { program := "ytpkbimmhimgamaagreat", sum := "05462c9ec2169adc8a397ae681fa3c48d178daca44d3e0cdbde27573a9b7f666", func := "splittally/splittallylaw26.EngineWindows", spec := "engineWindows", inPlace := ["math/bits.Add64", "sync/atomic.LoadUint64", "sync/atomic.LoadUint32", "sync/atomic.AddUint64", "sync/atomic.StoreUint32", "(*internal/sync.Mutex).Lock", "internal/race.Disable", "sync/atomic.CompareAndSwapInt32", "internal/race.Enable", "internal/race.Acquire", "(*internal/sync.Mutex).lockSlow", "internal/sync.runtime_canSpin", "internal/sync.runtime_doSpin", "internal/sync.throw", "internal/sync.runtime_nanotime", "internal/sync.runtime_SemacquireMutex", "sync/atomic.AddInt32", "(*internal/sync.Mutex).Unlock", "internal/race.ReleaseMerge", "(*internal/sync.Mutex).unlockSlow", "internal/sync.fatal", "internal/sync.runtime_Semrelease"], unfollowed := true, recurses := true, named := ["math/bits.divideError", "math/bits.overflowError"], apart := false, narrowed := true }
def EngineWindowsUptoSaid : Prop := engineWindowsUptoRow.holds Tryz.pinned (OpenSpec.upto engineWindowsSpec)

/-- 'splittallylaw26.EngineTells', WHERE WHAT IT READS IS OF BULK AT MOST 1048576: true; the input reads as it did. -/
def engineTellsUptoRow : OpenClaim := { program := "ytpkbimmhimgamaagreat", sum := "05462c9ec2169adc8a397ae681fa3c48d178daca44d3e0cdbde27573a9b7f666", func := "splittally/splittallylaw26.EngineTells", spec := "engineTells", inPlace := ["math/bits.Add64", "sync/atomic.LoadUint64", "sync/atomic.LoadUint32", "sync/atomic.AddUint64", "sync/atomic.StoreUint32", "(*internal/sync.Mutex).Lock", "internal/race.Disable", "sync/atomic.CompareAndSwapInt32", "internal/race.Enable", "internal/race.Acquire", "(*internal/sync.Mutex).lockSlow", "internal/sync.runtime_canSpin", "internal/sync.runtime_doSpin", "internal/sync.throw", "internal/sync.runtime_nanotime", "internal/sync.runtime_SemacquireMutex", "sync/atomic.AddInt32", "(*internal/sync.Mutex).Unlock", "internal/race.ReleaseMerge", "(*internal/sync.Mutex).unlockSlow", "internal/sync.fatal", "internal/sync.runtime_Semrelease"], unfollowed := true, recurses := true, named := ["math/bits.divideError", "math/bits.overflowError"], apart := false, narrowed := true }
def EngineTellsUptoSaid : Prop := engineTellsUptoRow.holds Tryz.pinned (OpenSpec.upto engineTellsSpec)

/-- 'splittallylaw26.EnginePackets', WHERE WHAT IT READS IS OF BULK AT MOST 1048576: true; the input reads as it did. -/
def enginePacketsUptoRow : OpenClaim := { program := "ytpkbimmhimgamaagreat", sum := "05462c9ec2169adc8a397ae681fa3c48d178daca44d3e0cdbde27573a9b7f666", func := "splittally/splittallylaw26.EnginePackets", spec := "enginePackets", inPlace := ["math/bits.Add64", "sync/atomic.LoadUint32", "sync/atomic.AddUint64", "sync/atomic.StoreUint32", "(*internal/sync.Mutex).Lock", "internal/race.Disable", "sync/atomic.CompareAndSwapInt32", "internal/race.Enable", "internal/race.Acquire", "(*internal/sync.Mutex).lockSlow", "internal/sync.runtime_canSpin", "internal/sync.runtime_doSpin", "internal/sync.throw", "internal/sync.runtime_nanotime", "internal/sync.runtime_SemacquireMutex", "sync/atomic.AddInt32", "(*internal/sync.Mutex).Unlock", "internal/race.ReleaseMerge", "(*internal/sync.Mutex).unlockSlow", "internal/sync.fatal", "internal/sync.runtime_Semrelease", "sync/atomic.LoadUint64"], unfollowed := true, recurses := true, named := ["math/bits.divideError", "math/bits.overflowError"], apart := false, narrowed := true }
def EnginePacketsUptoSaid : Prop := enginePacketsUptoRow.holds Tryz.pinned (OpenSpec.upto enginePacketsSpec)

/-- 'splittallylaw26.EngineEnds', WHERE WHAT IT READS IS OF BULK AT MOST 1048576: true; the input reads as it did. -/
def engineEndsUptoRow : OpenClaim := { program := "ytpkbimmhimgamaagreat", sum := "05462c9ec2169adc8a397ae681fa3c48d178daca44d3e0cdbde27573a9b7f666", func := "splittally/splittallylaw26.EngineEnds", spec := "engineEnds", inPlace := ["math/bits.Add64", "sync/atomic.LoadUint32", "sync/atomic.AddUint64", "sync/atomic.StoreUint32", "(*internal/sync.Mutex).Lock", "internal/race.Disable", "sync/atomic.CompareAndSwapInt32", "internal/race.Enable", "internal/race.Acquire", "(*internal/sync.Mutex).lockSlow", "internal/sync.runtime_canSpin", "internal/sync.runtime_doSpin", "internal/sync.throw", "internal/sync.runtime_nanotime", "internal/sync.runtime_SemacquireMutex", "sync/atomic.AddInt32", "(*internal/sync.Mutex).Unlock", "internal/race.ReleaseMerge", "(*internal/sync.Mutex).unlockSlow", "internal/sync.fatal", "internal/sync.runtime_Semrelease", "sync/atomic.LoadUint64"], unfollowed := true, recurses := true, named := ["math/bits.divideError", "math/bits.overflowError"], apart := false, narrowed := true }
def EngineEndsUptoSaid : Prop := engineEndsUptoRow.holds Tryz.pinned (OpenSpec.upto engineEndsSpec)

/-- 'splittallylaw26.EngineQuiet', WHERE WHAT IT READS IS OF BULK AT MOST 1048576: true; the input reads as it did. -/
def engineQuietUptoRow : OpenClaim := { program := "ytpkbimmhimgamaagreat", sum := "05462c9ec2169adc8a397ae681fa3c48d178daca44d3e0cdbde27573a9b7f666", func := "splittally/splittallylaw26.EngineQuiet", spec := "engineQuiet", inPlace := ["math/bits.Add64", "sync/atomic.LoadUint32", "sync/atomic.AddUint64", "sync/atomic.StoreUint32", "(*internal/sync.Mutex).Lock", "internal/race.Disable", "sync/atomic.CompareAndSwapInt32", "internal/race.Enable", "internal/race.Acquire", "(*internal/sync.Mutex).lockSlow", "internal/sync.runtime_canSpin", "internal/sync.runtime_doSpin", "internal/sync.throw", "internal/sync.runtime_nanotime", "internal/sync.runtime_SemacquireMutex", "sync/atomic.AddInt32", "(*internal/sync.Mutex).Unlock", "internal/race.ReleaseMerge", "(*internal/sync.Mutex).unlockSlow", "internal/sync.fatal", "internal/sync.runtime_Semrelease", "sync/atomic.LoadUint64"], unfollowed := true, recurses := true, named := ["math/bits.divideError", "math/bits.overflowError"], apart := false, narrowed := true }
def EngineQuietUptoSaid : Prop := engineQuietUptoRow.holds Tryz.pinned (OpenSpec.upto engineQuietSpec)

/-- 'splittallylaw26.EngineDrops', WHERE WHAT IT READS IS OF BULK AT MOST 1048576: true; the input reads as it did. -/
def engineDropsUptoRow : OpenClaim := { program := "ytpkbimmhimgamaagreat", sum := "05462c9ec2169adc8a397ae681fa3c48d178daca44d3e0cdbde27573a9b7f666", func := "splittally/splittallylaw26.EngineDrops", spec := "engineDrops", inPlace := ["math/bits.Add64", "sync/atomic.LoadUint32", "sync/atomic.AddUint64", "sync/atomic.StoreUint32", "(*internal/sync.Mutex).Lock", "internal/race.Disable", "sync/atomic.CompareAndSwapInt32", "internal/race.Enable", "internal/race.Acquire", "(*internal/sync.Mutex).lockSlow", "internal/sync.runtime_canSpin", "internal/sync.runtime_doSpin", "internal/sync.throw", "internal/sync.runtime_nanotime", "internal/sync.runtime_SemacquireMutex", "sync/atomic.AddInt32", "(*internal/sync.Mutex).Unlock", "internal/race.ReleaseMerge", "(*internal/sync.Mutex).unlockSlow", "internal/sync.fatal", "internal/sync.runtime_Semrelease", "sync/atomic.LoadUint64", "sync/atomic.StoreUint64"], unfollowed := true, recurses := true, named := ["math/bits.divideError", "math/bits.overflowError"], apart := false, narrowed := true }
def EngineDropsUptoSaid : Prop := engineDropsUptoRow.holds Tryz.pinned (OpenSpec.upto engineDropsSpec)

/-- 'splittallylaw26.EngineForks', WHERE WHAT IT READS IS OF BULK AT MOST 1048576: true; the input reads as it did. -/
def engineForksUptoRow : OpenClaim := { program := "ytpkbimmhimgamaagreat", sum := "05462c9ec2169adc8a397ae681fa3c48d178daca44d3e0cdbde27573a9b7f666", func := "splittally/splittallylaw26.EngineForks", spec := "engineForks", inPlace := ["math/bits.Add64", "sync/atomic.LoadUint32", "sync/atomic.AddUint64", "sync/atomic.StoreUint32", "(*internal/sync.Mutex).Lock", "internal/race.Disable", "sync/atomic.CompareAndSwapInt32", "internal/race.Enable", "internal/race.Acquire", "(*internal/sync.Mutex).lockSlow", "internal/sync.runtime_canSpin", "internal/sync.runtime_doSpin", "internal/sync.throw", "internal/sync.runtime_nanotime", "internal/sync.runtime_SemacquireMutex", "sync/atomic.AddInt32", "(*internal/sync.Mutex).Unlock", "internal/race.ReleaseMerge", "(*internal/sync.Mutex).unlockSlow", "internal/sync.fatal", "internal/sync.runtime_Semrelease", "sync/atomic.LoadUint64", "sync/atomic.StoreUint64"], unfollowed := true, recurses := true, named := ["math/bits.divideError", "math/bits.overflowError"], apart := false, narrowed := true }
def EngineForksUptoSaid : Prop := engineForksUptoRow.holds Tryz.pinned (OpenSpec.upto engineForksSpec)

end Rows
end Go.Proofs.YtpkbimmhimgamaaGreat
