/-
  A closed fact of the program: mayEnter. · A closed fact of the program: liftsFinal. · A closed fact of the program: make. · The closed facts of a row, one by one.
-/
import Derived.Test.YtpkbimmhimgamaaProg
import GoSem.ClaimJoined
import Derived.KernelRfl
namespace Go.Proofs.Ytpkbimmhimgamaa
theorem fact_mayEnter : Try.prog.mayEnter = true := by kernel_rfl
end Go.Proofs.Ytpkbimmhimgamaa

namespace Go.Proofs.Ytpkbimmhimgamaa
theorem fact_liftsFinal : Try.prog.liftsFinal = false := by kernel_rfl
end Go.Proofs.Ytpkbimmhimgamaa

namespace Go.Proofs.Ytpkbimmhimgamaa
theorem fact_make : Try.prog.make = some Make.cut := by kernel_rfl
end Go.Proofs.Ytpkbimmhimgamaa

namespace Go.Proofs.Ytpkbimmhimgamaa
theorem and2 {a b : Bool} (ha : a = true) (hb : b = true) : (a && b) = true := by rw [ha, hb]; rfl
theorem fact_lifted {b : Bool} (h : b = false) : (b == Try.prog.liftsFinal) = true := by rw [fact_liftsFinal, h]; rfl
theorem fact_made {m : Make} (h : m = Make.cut) : (Try.prog.make == some m) = true := by rw [fact_make, h]; rfl
end Go.Proofs.Ytpkbimmhimgamaa
