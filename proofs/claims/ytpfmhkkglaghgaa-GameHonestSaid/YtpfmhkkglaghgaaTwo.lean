/-
  Two ledgers alike: the program's and the reference's.
-/
import Derived.Test.YtpfmhkkglaghgaaLedP
import Derived.Test.YtpfmhkkglaghgaaLedR
import Derived.Test.YtpfmhkkglaghgaaSeq
namespace Go.Proofs.Ytpfmhkkglaghgaa
set_option linter.unusedSimpArgs false
set_option linter.unusedVariables false
set_option linter.unnecessarySimpa false
open Go.RowKit

theorem LedP.lt {w : World} {F : Nat → Prop} {b : Nat} {s : LS} (h : LedP w F b s) : b < w.heap.size := by
  obtain ⟨_, A, c, h1, _⟩ := h
  exact lt_of_block h1
theorem LedP.sub {w : World} {F G : Nat → Prop} {b : Nat} {s : LS} (h : LedP w F b s) (hs : ∀ k, k < w.heap.size → F k → G k) : LedP w G b s :=
  h.chg (Chg.refl (fun _ => False) w) (fun _ _ _ h => h) hs
end Go.Proofs.Ytpfmhkkglaghgaa
