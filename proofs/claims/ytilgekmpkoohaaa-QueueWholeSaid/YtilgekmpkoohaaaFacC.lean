/-
  A closed fact of the program: make.
-/
import Derived.Test.YtilgekmpkoohaaaProg
import GoSem.ClaimJoined
import Derived.KernelRfl
namespace Go.Proofs.Ytilgekmpkoohaaa
theorem fact_make : Try.prog.make = some Make.cut := by kernel_rfl
end Go.Proofs.Ytilgekmpkoohaaa
