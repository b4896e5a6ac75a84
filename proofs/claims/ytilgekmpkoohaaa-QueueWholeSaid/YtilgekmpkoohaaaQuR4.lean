/-
  The reference's queue: Write.
-/
import Derived.Test.YtilgekmpkoohaaaQuR3
import Derived.Deep.RegionLaw
namespace Go.Proofs.Ytilgekmpkoohaaa
set_option linter.unusedSimpArgs false
set_option linter.unusedVariables false
set_option linter.unnecessarySimpa false
open Go.RowKit
attribute [local go_sem ↓] run_min_int run_max_int

section
variable {W w1 w5 : World} {F : Nat → Prop} {q : Nat} {s : QS} {A A1 A2 A5 : Option Addr} {c c1 c2 c5 : Nat}
theorem grown_own {w w' : World} {base size n : Nat} {e : TypeId} {v : Value} {xs : List Value} {row : Option Nat} (h : w.ownsRow base e size v n xs) (hg : w.grownBy w' row) (hr : ∀ g, v.ownBlock = some g → row ≠ some g) : w'.ownsRow base e size v n xs := by
  refine ⟨h.1, ?_⟩
  rcases h.2 with h2 | ⟨g, cap, cur, rfl, hb, hh, r⟩
  · exact .inl h2
  · exact .inr ⟨g, cap, cur, rfl, hb, (hg.block g (lt_of_block hh) (fun e => hr g rfl e.symm)).trans hh, r⟩
theorem QuRC.app0 {xs : List Int} (h : QuRC W F q s A c A1 c1 A2 c2) (b : Below W.heap.size W w1) (hg : w1.grownBy w5 (Value.slice A s.b.length c).ownBlock) (ho : w5.ownsRow 0 5 1 (.slice A5 (s.b ++ xs).length c5) (s.b ++ xs).length (U8 (s.b ++ xs)))
    (hv : (Value.slice A5 (s.b ++ xs).length c5).ownBlock = (Value.slice A s.b.length c).ownBlock ∨ (Value.slice A5 (s.b ++ xs).length c5).ownBlock = some w1.heap.size) (hF : ∀ k, W.heap.size ≤ k → F k) :
    QuRC (w5.setCell ⟨q, 1, none⟩ (.slice A5 (s.b ++ xs).length c5)) F q { s with b := s.b ++ xs } A5 c5 A1 c1 A2 c2 := by
  have hq := lt_of_block h.t
  have hs := b.size
  have h1 := h.below b
  have hT : w5.heap[q]? = _ := (hg.block q (lt_of_block h1.t) (fun e => (h.fo q e.symm).2 rfl)).trans h1.t
  have hC : Chg (fun j => j = q) w5 (w5.setCell ⟨q, 1, none⟩ (.slice A5 (s.b ++ xs).length c5)) := (Chg.refl (fun j => j = q) w5).setCell (p := ⟨q, 1, none⟩) (.inl rfl) _
  have new : ∀ g, (Value.slice A5 (s.b ++ xs).length c5).ownBlock = some g → (Value.slice A s.b.length c).ownBlock = some g ∨ g = w1.heap.size := fun g e => by
    rcases hv with e' | e'
    · exact .inl (e'.symm.trans e)
    · rw [e] at e'; exact .inr (Option.some.inj e')
  have hfo : ∀ g, (Value.slice A5 (s.b ++ xs).length c5).ownBlock = some g → F g ∧ g ≠ q := fun g e => by
    rcases new g e with e' | rfl
    · exact h.fo g e'
    · exact ⟨hF _ hs, by omega⟩
  refine ⟨by simpa using heap_setCell_same w5 q 1 _ _ (.slice A5 (s.b ++ xs).length c5) hT, own_chg ho hC (fun k hk e => (hfo k hk).2 e), own_chg (grown_own h1.o1 hg (fun g e => (h.fo1 g e).2.2)) hC (fun k hk e => (h.fo1 k hk).2.1 e), own_chg (grown_own h1.o2 hg (fun g e => (h.fo2 g e).2.2.1)) hC (fun k hk e => (h.fo2 k hk).2.1 e), h.fq, hfo, ?_, ?_⟩
  · intro g e
    obtain ⟨f1, f2, f3⟩ := h.fo1 g e
    have := (h.o1.lt g e).2
    exact ⟨f1, f2, fun e' => by rcases new g e' with e' | e'; exact f3 e'; omega⟩
  · intro g e
    obtain ⟨f1, f2, f3, f4⟩ := h.fo2 g e
    have := (h.o2.lt g e).2
    exact ⟨f1, f2, fun e' => by rcases new g e' with e' | e'; exact f3 e'; omega, f4⟩
theorem QuRC.app1 {xs : List Bool} (h : QuRC W F q s A c A1 c1 A2 c2) (b : Below W.heap.size W w1) (hg : w1.grownBy w5 (Value.slice A1 s.ak.length c1).ownBlock) (ho : w5.ownsRow 0 4 1 (.slice A5 (s.ak ++ xs).length c5) (s.ak ++ xs).length (Bs (s.ak ++ xs)))
    (hv : (Value.slice A5 (s.ak ++ xs).length c5).ownBlock = (Value.slice A1 s.ak.length c1).ownBlock ∨ (Value.slice A5 (s.ak ++ xs).length c5).ownBlock = some w1.heap.size) (hF : ∀ k, W.heap.size ≤ k → F k) :
    QuRC (w5.setCell ⟨q, 2, none⟩ (.slice A5 (s.ak ++ xs).length c5)) F q { s with ak := s.ak ++ xs } A c A5 c5 A2 c2 := by
  have hq := lt_of_block h.t
  have hs := b.size
  have h1 := h.below b
  have hT : w5.heap[q]? = _ := (hg.block q (lt_of_block h1.t) (fun e => (h.fo1 q e.symm).2.1 rfl)).trans h1.t
  have hC : Chg (fun j => j = q) w5 (w5.setCell ⟨q, 2, none⟩ (.slice A5 (s.ak ++ xs).length c5)) := (Chg.refl (fun j => j = q) w5).setCell (p := ⟨q, 2, none⟩) (.inl rfl) _
  have new : ∀ g, (Value.slice A5 (s.ak ++ xs).length c5).ownBlock = some g → (Value.slice A1 s.ak.length c1).ownBlock = some g ∨ g = w1.heap.size := fun g e => by
    rcases hv with e' | e'
    · exact .inl (e'.symm.trans e)
    · rw [e] at e'; exact .inr (Option.some.inj e')
  have hfo : ∀ g, (Value.slice A5 (s.ak ++ xs).length c5).ownBlock = some g → F g ∧ g ≠ q ∧ (Value.slice A s.b.length c).ownBlock ≠ some g := fun g e => by
    rcases new g e with e' | rfl
    · exact h.fo1 g e'
    · exact ⟨hF _ hs, by omega, fun e' => by have := (h.o.lt _ e').2; omega⟩
  refine ⟨by simpa using heap_setCell_same w5 q 2 _ _ (.slice A5 (s.ak ++ xs).length c5) hT, own_chg (grown_own h1.o hg (fun g e e' => (h.fo1 g e').2.2 e)) hC (fun k hk e => (h.fo k hk).2 e), own_chg ho hC (fun k hk e => (hfo k hk).2.1 e), own_chg (grown_own h1.o2 hg (fun g e => (h.fo2 g e).2.2.2)) hC (fun k hk e => (h.fo2 k hk).2.1 e), h.fq, h.fo, hfo, ?_⟩
  intro g e
  obtain ⟨f1, f2, f3, f4⟩ := h.fo2 g e
  have := (h.o2.lt g e).2
  exact ⟨f1, f2, f3, fun e' => by rcases new g e' with e' | e'; exact f4 e'; omega⟩
theorem QuRC.app2 {xs : List Bool} (h : QuRC W F q s A c A1 c1 A2 c2) (b : Below W.heap.size W w1) (hg : w1.grownBy w5 (Value.slice A2 s.ow.length c2).ownBlock) (ho : w5.ownsRow 0 4 1 (.slice A5 (s.ow ++ xs).length c5) (s.ow ++ xs).length (Bs (s.ow ++ xs)))
    (hv : (Value.slice A5 (s.ow ++ xs).length c5).ownBlock = (Value.slice A2 s.ow.length c2).ownBlock ∨ (Value.slice A5 (s.ow ++ xs).length c5).ownBlock = some w1.heap.size) (hF : ∀ k, W.heap.size ≤ k → F k) :
    QuRC (w5.setCell ⟨q, 3, none⟩ (.slice A5 (s.ow ++ xs).length c5)) F q { s with ow := s.ow ++ xs } A c A1 c1 A5 c5 := by
  have hq := lt_of_block h.t
  have hs := b.size
  have h1 := h.below b
  have hT : w5.heap[q]? = _ := (hg.block q (lt_of_block h1.t) (fun e => (h.fo2 q e.symm).2.1 rfl)).trans h1.t
  have hC : Chg (fun j => j = q) w5 (w5.setCell ⟨q, 3, none⟩ (.slice A5 (s.ow ++ xs).length c5)) := (Chg.refl (fun j => j = q) w5).setCell (p := ⟨q, 3, none⟩) (.inl rfl) _
  have new : ∀ g, (Value.slice A5 (s.ow ++ xs).length c5).ownBlock = some g → (Value.slice A2 s.ow.length c2).ownBlock = some g ∨ g = w1.heap.size := fun g e => by
    rcases hv with e' | e'
    · exact .inl (e'.symm.trans e)
    · rw [e] at e'; exact .inr (Option.some.inj e')
  have hfo : ∀ g, (Value.slice A5 (s.ow ++ xs).length c5).ownBlock = some g → F g ∧ g ≠ q ∧ (Value.slice A s.b.length c).ownBlock ≠ some g ∧ (Value.slice A1 s.ak.length c1).ownBlock ≠ some g := fun g e => by
    rcases new g e with e' | rfl
    · exact h.fo2 g e'
    · exact ⟨hF _ hs, by omega, fun e' => by have := (h.o.lt _ e').2; omega, fun e' => by have := (h.o1.lt _ e').2; omega⟩
  exact ⟨by simpa using heap_setCell_same w5 q 3 _ _ (.slice A5 (s.ow ++ xs).length c5) hT, own_chg (grown_own h1.o hg (fun g e e' => (h.fo2 g e').2.2.1 e)) hC (fun k hk e => (h.fo k hk).2 e), own_chg (grown_own h1.o1 hg (fun g e e' => (h.fo2 g e').2.2.2 e)) hC (fun k hk e => (h.fo1 k hk).2.1 e), own_chg ho hC (fun k hk e => (hfo k hk).2.1 e), h.fq, h.fo, h.fo1, hfo⟩
end

end Go.Proofs.Ytilgekmpkoohaaa
