/-
  The reference's guard: the object; where its Take stands. · The reference's guard: NewGuard, Take, Fork.
-/
import Derived.Test.YtpfmhkkglaghgaaGua5
import Derived.Test.YtpfmhkkglaghgaaOct4
import Derived.Test.YtpfmhkkglaghgaaLookR
namespace Go.Proofs.Ytpfmhkkglaghgaa
set_option linter.unusedSimpArgs false
set_option linter.unusedVariables false
set_option linter.unnecessarySimpa false
open Go.RowKit

/-- The cells of the reference's guard. -/
def gurRow (qb : Nat) (g : GS) (a : Ak) : Array Value :=
  #[.pointer (some ⟨qb, 0, none⟩), .int .u64 g.mal, .int .u64 g.drp, .int .u64 g.tak, .int .u64 g.cha, .int .u64 g.lat, .bool g.over,
    .int .u64 g.ev.at_, .int .u64 g.ev.pn, .int .u64 g.ev.used, .int .i64 g.ev.why, .slice a.A a.sp.length a.c, .slice a.B a.mm.length a.d, .int .u64 a.tr, .int .u64 a.xo, .bool a.od]
structure TrB (w : World) (W : World) : Prop where
  q2 : W.heap[w.heap.size]? = some (.cells #[.int .i64 0, .int .i64 0, .int .u64 0, .bool false] 39 (0, 0))
  q3 : W.heap[w.heap.size + 1]? = some (.cells #[.slice none 0 0, .slice none 0 0, .int .u64 0, .int .u64 0, .bool false] 68 (0, 0))
theorem TrB.chg {w W W' : World} {G : Nat → Prop} (h : TrB w W) (hc : Chg G W W') (hG : ∀ k, G k → k < w.heap.size ∨ w.heap.size + 2 ≤ k) : TrB w W' :=
  ⟨hc.blk h.q2 (fun e => by have := hG _ e; omega), hc.blk h.q3 (fun e => by have := hG _ e; omega)⟩
theorem TrB.start (w : World) : TrB w ((w.alloc (.cells #[.int .i64 0, .int .i64 0, .int .u64 0, .bool false] 39)).alloc (.cells #[.slice none 0 0, .slice none 0 0, .int .u64 0, .int .u64 0, .bool false] 68)) ∧
    Below w.heap.size w ((w.alloc (.cells #[.int .i64 0, .int .i64 0, .int .u64 0, .bool false] 39)).alloc (.cells #[.slice none 0 0, .slice none 0 0, .int .u64 0, .int .u64 0, .bool false] 68)) ∧
    ((w.alloc (.cells #[.int .i64 0, .int .i64 0, .int .u64 0, .bool false] 39)).alloc (.cells #[.slice none 0 0, .slice none 0 0, .int .u64 0, .int .u64 0, .bool false] 68)).heap.size = w.heap.size + 2 := by
  have n3 := heap_alloc_new w (.cells #[.int .i64 0, .int .i64 0, .int .u64 0, .bool false] 39)
  have b3 := box_below w (.cells #[.int .i64 0, .int .i64 0, .int .u64 0, .bool false] 39)
  generalize hw3 : w.alloc (.cells #[.int .i64 0, .int .i64 0, .int .u64 0, .bool false] 39) = w3 at *
  have s3 : w3.heap.size = w.heap.size + 1 := by rw [← hw3]; simp
  have n4 := heap_alloc_new w3 (.cells #[.slice none 0 0, .slice none 0 0, .int .u64 0, .int .u64 0, .bool false] 68)
  have b4 := box_below w3 (.cells #[.slice none 0 0, .slice none 0 0, .int .u64 0, .int .u64 0, .bool false] 68)
  rw [s3] at n4
  exact ⟨⟨(b4.block _ (by omega)).trans n3, n4⟩, b3.trans (b4.mono (by omega)), by simp [s3]⟩

end Go.Proofs.Ytpfmhkkglaghgaa

namespace Go.Proofs.Ytpfmhkkglaghgaa
set_option linter.unusedSimpArgs false
set_option linter.unusedVariables false
set_option linter.unnecessarySimpa false
open Go.RowKit

end Go.Proofs.Ytpfmhkkglaghgaa
