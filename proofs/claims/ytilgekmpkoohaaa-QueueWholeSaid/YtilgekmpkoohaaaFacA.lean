/-
  A closed fact of the program: mayEnter.
-/
import Derived.Test.YtilgekmpkoohaaaProg
import GoSem.ClaimJoined
import Derived.KernelRfl
namespace Go.Proofs.Ytilgekmpkoohaaa
theorem fact_mayEnter : Try.prog.mayEnter = true := by kernel_rfl
end Go.Proofs.Ytilgekmpkoohaaa
