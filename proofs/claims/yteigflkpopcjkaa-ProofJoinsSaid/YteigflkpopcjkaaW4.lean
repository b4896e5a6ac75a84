/-
  Four drawn numbers.
-/
import Derived.Test.YteigflkpopcjkaaBase
namespace Go.Proofs.Yteigflkpopcjkaa
set_option linter.unusedSimpArgs false
set_option linter.unusedVariables false
set_option linter.unnecessarySimpa false
open Go.RowKit

structure W4 where
  a : Int
  b : Int
  c : Int
  d : Int
def W4.cells (k : W4) : Array Value := #[.int .u16 k.a, .int .u16 k.b, .int .u16 k.c, .int .u16 k.d]
def W4.val (k : W4) : Value := .agg k.cells
structure W4.ok (k : W4) : Prop where
  a : 0 ≤ k.a ∧ k.a ≤ 65535
  b : 0 ≤ k.b ∧ k.b ≤ 65535
  c : 0 ≤ k.c ∧ k.c ≤ 65535
  d : 0 ≤ k.d ∧ k.d ≤ 65535

end Go.Proofs.Yteigflkpopcjkaa
