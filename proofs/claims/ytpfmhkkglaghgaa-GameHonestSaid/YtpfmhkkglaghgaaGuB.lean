/-
  Same lists of spans, same acknowledgments, same evidences: the reference's tests. · Both guards and both ledgers: the law's pair; same. · Both guards and both ledgers: take.
-/
import Derived.Test.YtpfmhkkglaghgaaSpan
import Derived.Test.YtpfmhkkglaghgaaObj
import Derived.Test.YtpfmhkkglaghgaaBytes
import Derived.Test.YtpfmhkkglaghgaaGua1
import Derived.StillTailTactics
import Derived.Test.YtpfmhkkglaghgaaGuR
import Derived.Test.YtpfmhkkglaghgaaTwo
namespace Go.Proofs.Ytpfmhkkglaghgaa
set_option linter.unusedSimpArgs false
set_option linter.unusedVariables false
set_option linter.unnecessarySimpa false
open Go.RowKit

theorem size2 (w : World) (o o' : Obj) : ((w.alloc o).alloc o').heap.size = w.heap.size + 2 := by simp
end Go.Proofs.Ytpfmhkkglaghgaa

namespace Go.Proofs.Ytpfmhkkglaghgaa
set_option linter.unusedSimpArgs false
set_option linter.unusedVariables false
set_option linter.unnecessarySimpa false
open Go.RowKit

end Go.Proofs.Ytpfmhkkglaghgaa

namespace Go.Proofs.Ytpfmhkkglaghgaa
set_option linter.unusedSimpArgs false
set_option linter.unusedVariables false
set_option linter.unnecessarySimpa false
open Go.RowKit

theorem boxes2 (w : World) (o1 o2 : Obj) : ((w.alloc o1).alloc o2).heap[w.heap.size]? = some o1 ∧ ((w.alloc o1).alloc o2).heap[w.heap.size + 1]? = some o2 ∧ Below w.heap.size w ((w.alloc o1).alloc o2) ∧ ((w.alloc o1).alloc o2).heap.size = w.heap.size + 2 := by
  have n2 := heap_alloc_new (w.alloc o1) o2
  rw [World.size_alloc] at n2
  have b2 := box_below (w.alloc o1) o2
  exact ⟨(b2.block _ (by simp)).trans (heap_alloc_new w o1), n2, (box_below w o1).trans (b2.mono (by simp)), by simp⟩
theorem boxes3 (w : World) (o1 o2 o3 : Obj) : (((w.alloc o1).alloc o2).alloc o3).heap[w.heap.size]? = some o1 ∧ (((w.alloc o1).alloc o2).alloc o3).heap[w.heap.size + 1]? = some o2 ∧ (((w.alloc o1).alloc o2).alloc o3).heap[w.heap.size + 2]? = some o3 ∧ Below w.heap.size w (((w.alloc o1).alloc o2).alloc o3) ∧ (((w.alloc o1).alloc o2).alloc o3).heap.size = w.heap.size + 3 := by
  obtain ⟨h1, h2, h3, h4⟩ := boxes2 w o1 o2
  have n3 := heap_alloc_new ((w.alloc o1).alloc o2) o3
  rw [h4] at n3
  have b3 := box_below ((w.alloc o1).alloc o2) o3
  exact ⟨(b3.block _ (by rw [h4]; omega)).trans h1, (b3.block _ (by rw [h4]; omega)).trans h2, n3, h3.trans (b3.mono (by rw [h4]; omega)), by simp⟩

end Go.Proofs.Ytpfmhkkglaghgaa
