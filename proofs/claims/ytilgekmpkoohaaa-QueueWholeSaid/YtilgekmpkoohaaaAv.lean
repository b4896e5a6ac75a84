/-
  Objects that keep clear of some boxes.
-/
import Derived.Test.YtilgekmpkoohaaaPair
import Derived.Test.YtilgekmpkoohaaaTail
namespace Go.Proofs.Ytilgekmpkoohaaa
set_option linter.unusedSimpArgs false
set_option linter.unusedVariables false
set_option linter.unnecessarySimpa false
open Go.RowKit

/-- An object in blocks from B on, none of them in N. -/
structure Av (P : World → (Nat → Prop) → Prop) (B : Nat) (N : List Nat) (w : World) : Prop where
  ex : ∃ F, P w F ∧ ∀ k, k < w.heap.size → F k → B ≤ k ∧ k ∉ N
  lt : ∀ k ∈ N, k < w.heap.size
  ge : B ≤ w.heap.size
section
variable {P P' : World → (Nat → Prop) → Prop} {w w' : World} {B : Nat} {N : List Nat}
theorem Av.below (h : Av P B N w) (sp : Stays P) (b : Below w.heap.size w w') : Av P B N w' := by
  obtain ⟨⟨F, hP, hF⟩, h2, h3⟩ := h
  exact ⟨⟨fun k => F k ∧ k < w.heap.size, sp.below (sp.sub hP fun k hk hf => ⟨hf, hk⟩) b, fun k _ hf => hF k hf.2 hf.1⟩, fun k hk => Nat.lt_of_lt_of_le (h2 k hk) b.size, Nat.le_trans h3 b.size⟩
theorem Av.box (h : Av P B N w) (sp : Stays P) (o : Obj) : Av P B (w.heap.size :: N) (w.alloc o) := by
  obtain ⟨⟨F, hP, hF⟩, h2, h3⟩ := h
  refine ⟨⟨fun k => F k ∧ k < w.heap.size, sp.below (sp.sub hP fun k hk hf => ⟨hf, hk⟩) (box_below w o), fun k _ hf => ⟨(hF k hf.2 hf.1).1, fun hm => ?_⟩⟩, fun k hk => ?_, by simp; omega⟩
  · rcases List.mem_cons.1 hm with h | h
    · have := hf.2; omega
    · exact (hF k hf.2 hf.1).2 h
  · rcases List.mem_cons.1 hk with h | h
    · simp; omega
    · have := h2 k h; simp; omega
theorem Av.step {F : Nat → Prop} (h2 : ∀ k ∈ N, k < w.heap.size) (h3 : B ≤ w.heap.size) (hF : ∀ k, k < w.heap.size → F k → B ≤ k ∧ k ∉ N) (hP : P' w' (Grow F w)) (hs : w.heap.size ≤ w'.heap.size) : Av P' B N w' := by
  refine ⟨⟨_, hP, fun k _ hk => ?_⟩, fun k hk => Nat.lt_of_lt_of_le (h2 k hk) hs, Nat.le_trans h3 hs⟩
  rcases Nat.lt_or_ge k w.heap.size with h | h
  · rcases hk with hk | hk
    · exact hF k h hk
    · omega
  · exact ⟨Nat.le_trans h3 h, fun hm => by have := h2 k hm; omega⟩
/-- What stands in N stays as it was, when the object turns. -/
theorem Av.blk {F : Nat → Prop} (hF : ∀ k, k < w.heap.size → F k → B ≤ k ∧ k ∉ N) (hC : Chg F w w') {g : Nat} {o : Obj} (ho : w.heap[g]? = some o) (hg : g ∈ N) : w'.heap[g]? = some o :=
  hC.blk ho fun h => (hF g (Array.getElem?_eq_some_iff.1 ho).1 h).2 hg
theorem Av.bel {F : Nat → Prop} {v : World} (hF : ∀ k, k < w.heap.size → F k → B ≤ k ∧ k ∉ N) (hb : Below B v w) (hB : B ≤ w.heap.size) (hC : Chg F w w') : Below B v w' :=
  hb.trans (hC.below hB fun k hk h => by have := (hF k (by omega) h).1; omega)
end

theorem Rd.lit_fz (w : World) (size : Nat) (cs : Array Value) (t : TypeId) (fr : Nat × Nat) (n : Nat) (xs : List Value) (hx : cs.toList = xs) (hs : xs.length = n * size) (hn : n ≤ maxLen) :
    Rd (w.alloc (.cells cs t fr)) size (some ⟨w.heap.size, 0, none⟩) n n xs := by
  subst hx
  refine ⟨hs, Nat.le_refl _, hn, fun _ => ⟨_, _, rfl, fun j u hu => ?_⟩⟩
  rw [cell_of_row _ w.heap.size (0 + j) cs t fr (heap_alloc_new w _)]
  simpa using hu

theorem Av.more {P : World → (Nat → Prop) → Prop} {w w' : World} {B : Nat} {N : List Nat} (h : Av P B N w) (sp : Stays P) (b : Below w.heap.size w w') {g : Nat} (h1 : w.heap.size ≤ g) (h2 : g < w'.heap.size) : Av P B (g :: N) w' := by
  obtain ⟨⟨F, hP, hF⟩, hl, h3⟩ := h
  refine ⟨⟨fun k => F k ∧ k < w.heap.size, sp.below (sp.sub hP fun k hk hf => ⟨hf, hk⟩) b, fun k _ hf => ⟨(hF k hf.2 hf.1).1, fun hm => ?_⟩⟩, fun k hk => ?_, Nat.le_trans h3 b.size⟩
  · rcases List.mem_cons.1 hm with h | h
    · have := hf.2; omega
    · exact (hF k hf.2 hf.1).2 h
  · rcases List.mem_cons.1 hk with h | h
    · omega
    · exact Nat.lt_of_lt_of_le (hl k h) b.size
theorem Rd.same {w w' : World} {size bb off n c : Nat} {xs : List Value} (h : Rd w size (some ⟨bb, off, none⟩) n c xs) (hb : ∀ o, w.heap[bb]? = some o → w'.heap[bb]? = some o) : Rd w' size (some ⟨bb, off, none⟩) n c xs := by
  refine ⟨h.len, h.cap, h.max, fun hn => ?_⟩
  obtain ⟨b, o, e, hk⟩ := h.on_ hn
  injection e with e
  injection e with e1 e2
  subst e1 e2
  refine ⟨_, _, rfl, fun j u hu => ?_⟩
  have hc := hk j u hu
  have hl := block_lt_of_cell hc
  exact (World.cell?_of_block (w := w) (a := ⟨bb, off + j, none⟩) ((hb _ (Array.getElem?_eq_getElem hl)).trans (Array.getElem?_eq_getElem hl).symm)).trans hc
end Go.Proofs.Ytilgekmpkoohaaa
