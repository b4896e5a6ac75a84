/-
  A closed fact of the program: make.
-/
import Derived.Test.YteigflkpopcjkaaProg
import GoSem.ClaimJoined
import Derived.KernelRfl
namespace Go.Proofs.Yteigflkpopcjkaa
theorem fact_make : Try.prog.make = some Make.cut := by kernel_rfl
end Go.Proofs.Yteigflkpopcjkaa
