/-
  Lists of deeds of drawn numbers in memory.
-/
import Derived.Test.YtilgekmpkoohaaaObj
namespace Go.Proofs.Ytilgekmpkoohaaa
set_option linter.unusedSimpArgs false
set_option linter.unusedVariables false
set_option linter.unnecessarySimpa false
open Go.RowKit

structure Dd where
  kind : Int
  a : Int
  b : Int
def Dd.vals (d : Dd) : List Value := [.int .i64 d.kind, .int .u64 d.a, .int .u64 d.b]
def Ds (l : List Dd) : List Value := l.flatMap Dd.vals
def Dd.ok (d : Dd) : Prop := isU64 d.a ∧ isU64 d.b
theorem Rd.deed {w : World} {A : Option Addr} {n c : Nat} {l : List Dd} (h : Rd w 3 A n c (Ds l)) {i : Nat} (hi : i < l.length) :
    ∃ b off, A = some ⟨b, off, none⟩ ∧ w.cell? ⟨b, off + i * 3, none⟩ = some (.int .i64 l[i].kind) ∧ w.cell? ⟨b, off + i * 3 + 1, none⟩ = some (.int .u64 l[i].a) ∧ w.cell? ⟨b, off + i * 3 + 2, none⟩ = some (.int .u64 l[i].b) := by
  obtain ⟨b, off, e, hc⟩ := Rd.elem (f := Dd.vals) (k := 3) (fun _ => rfl) h (by omega) hi
  exact ⟨b, off, e, hc 0 _ rfl, hc 1 _ rfl, hc 2 _ rfl⟩
theorem Rd.deeds {w : World} {A : Option Addr} {n c : Nat} {l : List Dd} (h : Rd w 3 A n c (Ds l)) : l.length = n := Rd.count (f := Dd.vals) (k := 3) (fun _ => rfl) h (by omega)

/-- The blocks behind w's, but two. -/
def Own (w : World) (g : Nat) : Nat → Prop := fun j => w.heap.size ≤ j ∧ j ≠ w.heap.size ∧ j ≠ g
/-- The blocks behind w's. -/
def Beh (w : World) : Nat → Prop := fun j => w.heap.size ≤ j
theorem beh_step {w v v' : World} (hb : Below w.heap.size w v) (hc : Chg (Beh w) v v') : Below w.heap.size w v' := hb.trans (hc.below hb.size (fun k hk h => by unfold Beh at h; omega))
theorem beh_grow {w v : World} (hb : Below w.heap.size w v) {k : Nat} (h : Grow (Beh w) v k) : Beh w k := by
  rcases h with h | h
  · exact h
  · exact Nat.le_trans hb.size h
/-- The blocks behind w's, but one. -/
def But (w : World) (g : Nat) : Nat → Prop := fun j => w.heap.size ≤ j ∧ j ≠ g

end Go.Proofs.Ytilgekmpkoohaaa
