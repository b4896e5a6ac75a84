/-
  A deed on both ledgers. · Lists of deeds of drawn numbers in memory. · Two ledgers behind deeds of drawn numbers. · The examples of the ledger's chapter; what a ledger's own blocks are. · The walk of LedgerTells.
-/
import Derived.Test.YtkedfipeebjcjaaLedR
import Derived.Deep.DeepCutAuto
import Derived.Laws.Closers25b
import Derived.Test.YtkedfipeebjcjaaObj
namespace Go.Proofs.Ytkedfipeebjcjaa
set_option linter.unusedSimpArgs false
set_option linter.unusedVariables false
set_option linter.unnecessarySimpa false
open Go.RowKit

namespace LS
/-- States are states, times are small. -/
def Small (s : LS) : Prop := ∀ x ∈ s.all, (1 ≤ x.state ∧ x.state ≤ 4) ∧ x.at_ < 5000
def Next (raw : Bool) (s s' : LS) : Prop := s'.ring = s.ring ∧ s'.limit = s.limit ∧ s.all.length ≤ s'.all.length ∧ s'.all.length ≤ s.all.length + 1 ∧ (raw = false → s.Small → s'.Small)
theorem Next.refl (raw : Bool) (s : LS) : Next raw s s := ⟨rfl, rfl, Nat.le_refl _, Nat.le_succ _, fun _ h => h⟩
theorem next_give (raw : Bool) (s : LS) (x : Snt) (h : raw = false → (1 ≤ x.state ∧ x.state ≤ 4) ∧ x.at_ < 5000) : Next raw s (s.give x).1 := by
  unfold give
  split
  · exact Next.refl raw s
  · split
    · exact Next.refl raw s
    · refine ⟨rfl, rfl, by simp, by simp, fun hr hs y hy => ?_⟩
      simp only [List.mem_append, List.mem_singleton] at hy
      rcases hy with hy | rfl
      · exact hs y hy
      · exact h hr
theorem next_send (raw : Bool) (s : LS) (x : Snt) (h : raw = false → x.at_ < 5000) : Next raw s (s.send x).1 := by
  unfold send
  split
  · exact Next.refl raw s
  · exact next_give raw s _ (fun hr => ⟨⟨by simp, by simp⟩, h hr⟩)
theorem next_skip (raw : Bool) (s : LS) : Next raw s s.skip.1 := next_give raw s _ (fun _ => by simp [skipped])
theorem next_put (raw : Bool) (s : LS) (pn : Int) (x : Snt) (h : raw = false → s.Small → (1 ≤ x.state ∧ x.state ≤ 4) ∧ x.at_ < 5000) : Next raw s (s.put pn x) :=
  ⟨rfl, rfl, by simp [put], by simp [put], fun hr hs y hy => by
    rcases List.mem_or_eq_of_mem_set hy with hy | rfl
    · exact hs y hy
    · exact h hr hs⟩
theorem Small.at' {s : LS} (h : s.Small) {pn : Int} (hp : s.has pn) : (1 ≤ (s.at' pn).state ∧ (s.at' pn).state ≤ 4) ∧ (s.at' pn).at_ < 5000 := by
  rw [at'_eq hp]
  exact h _ (List.getElem_mem _)
theorem next_use (raw : Bool) (s : LS) (pn : Int) : Next raw s (s.use pn).1 := by
  unfold use
  split
  · rename_i hm
    exact next_put _ _ _ _ (fun _ hs => hs.at' hm.1)
  · exact Next.refl raw s
theorem next_settle (raw : Bool) (s : LS) (pn state : Int) : Next raw s (s.settle pn state).1 := by
  unfold settle
  split
  · rename_i hm
    exact next_put _ _ _ _ (fun _ hs => ⟨by rcases hm.2 with h | h <;> simp only [h.1] <;> omega, (hs.at' hm.1).2⟩)
  · exact Next.refl raw s
end LS

theorem three_boxes (w : World) (o1 o2 o3 : Obj) (n : Nat) : ((((w.alloc o1).alloc o2).alloc o3).drewN n).heap[w.heap.size]? = some o1 ∧ ((((w.alloc o1).alloc o2).alloc o3).drewN n).heap[w.heap.size + 1]? = some o2 ∧
    ((((w.alloc o1).alloc o2).alloc o3).drewN n).heap[w.heap.size + 1 + 1]? = some o3 ∧ Below w.heap.size w ((((w.alloc o1).alloc o2).alloc o3).drewN n) := by
  have e1 := heap_alloc_new w o1
  have e2 := heap_alloc_new (w.alloc o1) o2
  have e3 := heap_alloc_new ((w.alloc o1).alloc o2) o3
  have s1 : (w.alloc o1).heap.size = w.heap.size + 1 := by simp
  have s2 : ((w.alloc o1).alloc o2).heap.size = w.heap.size + 2 := by simp
  rw [s1] at e2
  rw [s2] at e3
  refine ⟨?_, ?_, e3, ?_⟩
  · exact (Below.heap_alloc _ _ _ (by omega)).trans ((Below.heap_alloc _ _ _ (by omega)).trans e1)
  · exact (Below.heap_alloc _ _ _ (by omega)).trans e2
  · exact below_drewN (((Below.refl _ _).alloc (Nat.le_refl _) _ |>.alloc (by omega) _).alloc (by omega) _) _

theorem ok_of {pn off len nonce at_ state : Int} {coin used : Bool} (h1 : isU64 pn) (h2 : isU64 off) (h3 : isU64 len) (h4 : isU64 nonce) (h5 : isU64 at_) (h6 : isI64 state) : Snt.ok ⟨pn, off, len, nonce, at_, coin, used, state⟩ := ⟨h1, h2, h3, h4, h5, h6⟩
theorem u64_bits (op : BinOp) (a b : Int) : isU64 (bits op .u64 a b) := ⟨bits_lo_u64 op a b, by have := bits_hi_u64 op a b; omega⟩
theorem i64_wrap (a : Int) : isI64 (wrap64 a) := by
  unfold isI64 wrap64
  omega

end Go.Proofs.Ytkedfipeebjcjaa

namespace Go.Proofs.Ytkedfipeebjcjaa
set_option linter.unusedSimpArgs false
set_option linter.unusedVariables false
set_option linter.unnecessarySimpa false
open Go.RowKit

structure Dd where
  kind : Int
  a : Int
  b : Int
def Dd.vals (d : Dd) : List Value := [.int .i64 d.kind, .int .u64 d.a, .int .u64 d.b]
def Ds (l : List Dd) : List Value := l.flatMap Dd.vals
def Dd.ok (d : Dd) : Prop := isU64 d.a ∧ isU64 d.b
theorem Rd.deed {w : World} {A : Option Addr} {n c : Nat} {l : List Dd} (h : Rd w 3 A n c (Ds l)) {i : Nat} (hi : i < l.length) :
    ∃ b off, A = some ⟨b, off, none⟩ ∧ w.cell? ⟨b, off + i * 3, none⟩ = some (.int .i64 l[i].kind) ∧ w.cell? ⟨b, off + i * 3 + 1, none⟩ = some (.int .u64 l[i].a) ∧ w.cell? ⟨b, off + i * 3 + 2, none⟩ = some (.int .u64 l[i].b) := by
  obtain ⟨b, off, e, hc⟩ := Rd.elem (f := Dd.vals) (k := 3) (fun _ => rfl) h (by omega) hi
  exact ⟨b, off, e, hc 0 _ rfl, hc 1 _ rfl, hc 2 _ rfl⟩
theorem Rd.deeds {w : World} {A : Option Addr} {n c : Nat} {l : List Dd} (h : Rd w 3 A n c (Ds l)) : l.length = n := Rd.count (f := Dd.vals) (k := 3) (fun _ => rfl) h (by omega)

/-- The blocks behind w's, but two. -/
def Own (w : World) (g : Nat) : Nat → Prop := fun j => w.heap.size ≤ j ∧ j ≠ w.heap.size ∧ j ≠ g
/-- The blocks behind w's. -/
def Beh (w : World) : Nat → Prop := fun j => w.heap.size ≤ j
theorem beh_step {w v v' : World} (hb : Below w.heap.size w v) (hc : Chg (Beh w) v v') : Below w.heap.size w v' := hb.trans (hc.below hb.size (fun k hk h => by unfold Beh at h; omega))
theorem beh_grow {w v : World} (hb : Below w.heap.size w v) {k : Nat} (h : Grow (Beh w) v k) : Beh w k := by
  rcases h with h | h
  · exact h
  · exact Nat.le_trans hb.size h
/-- The blocks behind w's, but one. -/
def But (w : World) (g : Nat) : Nat → Prop := fun j => w.heap.size ≤ j ∧ j ≠ g

end Go.Proofs.Ytkedfipeebjcjaa

namespace Go.Proofs.Ytkedfipeebjcjaa
set_option linter.unusedSimpArgs false
set_option linter.unusedVariables false
set_option linter.unnecessarySimpa false
open Go.RowKit

end Go.Proofs.Ytkedfipeebjcjaa

namespace Go.Proofs.Ytkedfipeebjcjaa
set_option linter.unusedSimpArgs false
set_option linter.unusedVariables false
set_option linter.unnecessarySimpa false
open Go.RowKit

def aSt : Nat → LS
  | 0 => LS.new 4 9
  | k + 1 => ((aSt k).send ⟨0, k, 5, 0, 0, false, false, 0⟩).1
theorem aSt_ok : ∀ k, k < 4 → ((aSt k).send ⟨0, k, 5, 0, 0, false, false, 0⟩).2.1 = (k : Int) ∧ ((aSt k).send ⟨0, k, 5, 0, 0, false, false, 0⟩).2.2 = 0 := by decide +kernel
def a5 : LS := ((aSt 4).send ⟨0, 0, 5, 0, 0, false, false, 0⟩).1
def a6 : LS := (a5.settle 0 2).1
def a7 : LS := a6.skip.1
def a8 : LS := (a7.use 1).1
def a9 : LS := (a8.use 1).1
def a10 : LS := (a9.use 4).1
theorem aVals : (aSt 0).room = 4 ∧ ((aSt 4).send ⟨0, 0, 5, 0, 0, false, false, 0⟩).2.1 = 0 ∧ ((aSt 4).send ⟨0, 0, 5, 0, 0, false, false, 0⟩).2.2 = 7 ∧ (a5.settle 0 2).2 = true ∧ a6.skip.2.1 = 4 ∧ a6.skip.2.2 = 0 ∧ a7.low = 1 ∧ a7.all.length = 5 ∧ a7.least = 1 ∧ a7.flight = 15 ∧ (a7.use 1).2 = true ∧ (a8.use 1).2 = false ∧ (a9.use 4).2 = false ∧ a10.kept.length = 4 := by decide +kernel

theorem ok0 (off len : Int) (h1 : isU64 off) (h2 : isU64 len) : Snt.ok ⟨0, off, len, 0, 0, false, false, 0⟩ :=
  ⟨⟨by simp, by simp⟩, h1, h2, ⟨by simp, by simp⟩, ⟨by simp, by simp⟩, ⟨by simp, by simp⟩⟩

end Go.Proofs.Ytkedfipeebjcjaa

namespace Go.Proofs.Ytkedfipeebjcjaa
set_option linter.unusedSimpArgs false
set_option linter.unusedVariables false
set_option linter.unnecessarySimpa false
open Go.RowKit

end Go.Proofs.Ytkedfipeebjcjaa
