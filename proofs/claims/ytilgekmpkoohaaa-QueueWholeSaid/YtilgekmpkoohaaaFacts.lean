/-
  The closed facts of a row, one by one.
-/
import Derived.Test.YtilgekmpkoohaaaFacA
import Derived.Test.YtilgekmpkoohaaaFacB
import Derived.Test.YtilgekmpkoohaaaFacC
namespace Go.Proofs.Ytilgekmpkoohaaa
theorem and2 {a b : Bool} (ha : a = true) (hb : b = true) : (a && b) = true := by rw [ha, hb]; rfl
theorem fact_lifted {b : Bool} (h : b = false) : (b == Try.prog.liftsFinal) = true := by rw [fact_liftsFinal, h]; rfl
theorem fact_made {m : Make} (h : m = Make.cut) : (Try.prog.make == some m) = true := by rw [fact_make, h]; rfl
end Go.Proofs.Ytilgekmpkoohaaa
