/-
  A closed fact of the program: mayEnter.
-/
import Derived.Test.YteigflkpopcjkaaProg
import GoSem.ClaimJoined
import Derived.KernelRfl
namespace Go.Proofs.Yteigflkpopcjkaa
theorem fact_mayEnter : Try.prog.mayEnter = true := by kernel_rfl
end Go.Proofs.Yteigflkpopcjkaa
