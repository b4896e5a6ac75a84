/-
  A closed fact of the program: liftsFinal.
-/
import Derived.Test.YtilgekmpkoohaaaProg
import GoSem.ClaimJoined
import Derived.KernelRfl
namespace Go.Proofs.Ytilgekmpkoohaaa
theorem fact_liftsFinal : Try.prog.liftsFinal = false := by kernel_rfl
end Go.Proofs.Ytilgekmpkoohaaa
