/-
  A closed fact of the program: liftsFinal.
-/
import Derived.Test.YteigflkpopcjkaaProg
import GoSem.ClaimJoined
import Derived.KernelRfl
namespace Go.Proofs.Yteigflkpopcjkaa
theorem fact_liftsFinal : Try.prog.liftsFinal = false := by kernel_rfl
end Go.Proofs.Yteigflkpopcjkaa
