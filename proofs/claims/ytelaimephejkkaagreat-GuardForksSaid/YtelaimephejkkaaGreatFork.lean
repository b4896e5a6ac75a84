/-
  A pair of objects and another one behind it, each in a box: for any two kinds of object.
-/
import Derived.Test.YtelaimephejkkaaGreatPair
import Derived.Test.YtelaimephejkkaaGreatLedP
namespace Go.Proofs.YtelaimephejkkaaGreat
set_option linter.unusedSimpArgs false
set_option linter.unusedVariables false
set_option linter.unnecessarySimpa false
open Go.RowKit

theorem bcell2 {W w1 : World} (hb : Below W.heap.size W w1) : (∀ b o, b < W.heap.size → w1.cell? ⟨b, o, none⟩ = W.cell? ⟨b, o, none⟩) ∧ (∀ b o, b < W.heap.size → w1.frozen? ⟨b, o, none⟩ = W.frozen? ⟨b, o, none⟩) :=
  ⟨fun b o h => hb.cell (p := ⟨b, o, none⟩) h, fun b o h => hb.frozen (p := ⟨b, o, none⟩) h⟩
section
variable {P R P' R' : World → (Nat → Prop) → Prop}
/-- Behind the two forks. -/
structure ForkMid2 (P R : World → (Nat → Prop) → Prop) (T : TypeId) (w3 : World) (q t h : Nat) (v : World) : Prop where
  two : Tw P R v (fun j => w3.heap.size ≤ j ∧ j ≠ h)
  b2 : v.heap[h]? = some (.cells #[.pointer (some ⟨q, 0, none⟩), .pointer (some ⟨t, 0, none⟩)] T (0, 0))
  bel : Below w3.heap.size w3 v
  ge : w3.heap.size ≤ h
theorem ForkMid2.mk_ {T : TypeId} {w3 vB : World} {G H : Nat → Prop} {q t h : Nat} (sp : Stays P) (sr : Stays R) (hp : P vB G) (hr : R vB H) (dj : ∀ k, k < vB.heap.size → G k → ¬ H k)
    (hG : ∀ k, k < vB.heap.size → G k → w3.heap.size ≤ k ∧ k ≠ h) (hH : ∀ k, k < vB.heap.size → H k → w3.heap.size ≤ k ∧ k ≠ h) (hx : vB.heap[h]? = some (.cells #[.pointer none, .pointer none] T (0, 0))) (bel : Below w3.heap.size w3 vB) (ge : w3.heap.size ≤ h) :
    ForkMid2 P R T w3 q t h ((vB.setCell ⟨h, 0, none⟩ (.pointer (some ⟨q, 0, none⟩))).setCell ⟨h, 1, none⟩ (.pointer (some ⟨t, 0, none⟩))) := by
  have hC : Chg (fun j => j = h) vB ((vB.setCell ⟨h, 0, none⟩ (.pointer (some ⟨q, 0, none⟩))).setCell ⟨h, 1, none⟩ (.pointer (some ⟨t, 0, none⟩))) :=
    ((Chg.refl (fun j => j = h) vB).setCell (p := ⟨h, 0, none⟩) (.inl rfl) _).setCell (p := ⟨h, 1, none⟩) (.inl rfl) _
  have PP : Prs P R vB (fun k => G k ∧ k < vB.heap.size) (fun k => H k ∧ k < vB.heap.size) :=
    ⟨sp.sub hp fun k hk hg => ⟨hg, hk⟩, sr.sub hr fun k hk hg => ⟨hg, hk⟩, fun k hk hh => dj k hk.2 hk.1 hh.1⟩
  refine ⟨⟨_, _, PP.chg sp sr hC (fun k hk e => (hG k hk.2 hk.1).2 e) (fun k hk e => (hH k hk.2 hk.1).2 e), fun k hk => ?_⟩, ?_, bel.trans (hC.below bel.size (fun j hj e => by omega)), ge⟩
  · have hs := hC.size
    rcases hk with hk | hk
    · exact ⟨hG k hk.2 hk.1, Nat.lt_of_lt_of_le hk.2 hs⟩
    · exact ⟨hH k hk.2 hk.1, Nat.lt_of_lt_of_le hk.2 hs⟩
  · simpa using heap_setCell_same _ h 1 _ _ (.pointer (some ⟨t, 0, none⟩)) (heap_setCell_same vB h 0 _ _ (.pointer (some ⟨q, 0, none⟩)) hx)
theorem ForkMid2.last {T : TypeId} {w3 vB : World} {G H : Nat → Prop} {q t : Nat} (sp : Stays P) (sr : Stays R) (hp : P vB G) (hr : R vB H) (dj : ∀ k, k < vB.heap.size → G k → ¬ H k)
    (hG : ∀ k, k < vB.heap.size → G k → w3.heap.size ≤ k) (hH : ∀ k, k < vB.heap.size → H k → w3.heap.size ≤ k) (bel : Below w3.heap.size w3 vB) :
    ForkMid2 P R T w3 q t vB.heap.size (vB.alloc (.cells #[.pointer (some ⟨q, 0, none⟩), .pointer (some ⟨t, 0, none⟩)] T)) := by
  have eb := box_below vB (.cells #[.pointer (some ⟨q, 0, none⟩), .pointer (some ⟨t, 0, none⟩)] T)
  have PP : Prs P R vB (fun k => G k ∧ k < vB.heap.size) (fun k => H k ∧ k < vB.heap.size) :=
    ⟨sp.sub hp fun k hk hg => ⟨hg, hk⟩, sr.sub hr fun k hk hg => ⟨hg, hk⟩, fun k hk hh => dj k hk.2 hk.1 hh.1⟩
  refine ⟨⟨_, _, PP.below sp sr eb, fun k hk => ?_⟩, heap_alloc_new vB _, bel.trans (eb.mono bel.size), bel.size⟩
  have hs := eb.size
  rcases hk with hk | hk
  · exact ⟨⟨hG k hk.2 hk.1, by omega⟩, Nat.lt_of_lt_of_le hk.2 hs⟩
  · exact ⟨⟨hH k hk.2 hk.1, by omega⟩, Nat.lt_of_lt_of_le hk.2 hs⟩

/-- Both pairs. -/
structure ForkRel2 (P R P' R' : World → (Nat → Prop) → Prop) (T : TypeId) (w w3 : World) (p r g q t h : Nat) (v : World) : Prop where
  one : Tw P R v (fun j => w.heap.size ≤ j ∧ j < g)
  two : Tw P' R' v (fun j => w3.heap.size ≤ j ∧ j ≠ h)
  b1 : v.heap[g]? = some (.cells #[.pointer (some ⟨p, 0, none⟩), .pointer (some ⟨r, 0, none⟩)] T (0, 0))
  b2 : v.heap[h]? = some (.cells #[.pointer (some ⟨q, 0, none⟩), .pointer (some ⟨t, 0, none⟩)] T (0, 0))
  bel : Below w.heap.size w v
  o1 : w.heap.size ≤ g
  o2 : g < w3.heap.size
  o3 : w3.heap.size ≤ h
theorem ForkRel2.below {T : TypeId} {w w3 v v' : World} {p r g q t h : Nat} (X : ForkRel2 P R P' R' T w w3 p r g q t h v) (sp : Stays P) (sr : Stays R) (sp' : Stays P') (sr' : Stays R') (b : Below v.heap.size v v') : ForkRel2 P R P' R' T w w3 p r g q t h v' :=
  ⟨X.one.below sp sr b, X.two.below sp' sr' b, (b.block _ (lt_of_block X.b1)).trans X.b1, (b.block _ (lt_of_block X.b2)).trans X.b2, X.bel.trans (b.mono X.bel.size), X.o1, X.o2, X.o3⟩
theorem ForkRel2.did {P2 R2 : World → (Nat → Prop) → Prop} {T : TypeId} {w w3 v v' : World} {p r g q t h : Nat} (X : ForkRel2 P R P' R' T w w3 p r g q t h v) (sp : Stays P) (sr : Stays R)
    (hT : Tw P2 R2 v' (Grow (fun j => w3.heap.size ≤ j ∧ j ≠ h) v)) (hC : Chg (fun j => w3.heap.size ≤ j ∧ j ≠ h) v v') : ForkRel2 P R P2 R2 T w w3 p r g q t h v' := by
  have hg := lt_of_block X.b1
  have hh := lt_of_block X.b2
  have o1 := X.o1
  have o2 := X.o2
  have o3 := X.o3
  refine ⟨X.one.chg sp sr hC (fun j _ hf he => by omega), hT.sub (fun j hj hf => ?_), hC.blk X.b1 (fun e => by omega), hC.blk X.b2 (fun e => e.2 rfl), X.bel.trans (hC.below X.bel.size (fun j hj e => by omega)), o1, o2, o3⟩
  rcases hf with hf | hf
  · exact hf
  · exact ⟨by omega, by omega⟩
end
end Go.Proofs.YtelaimephejkkaaGreat
