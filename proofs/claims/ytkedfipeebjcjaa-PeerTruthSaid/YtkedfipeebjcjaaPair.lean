/-
  Two objects side by side, each in blocks of its own: plainly, for any two kinds of object. · Objects that keep clear of some boxes.
-/
import Derived.Test.YtkedfipeebjcjaaObj
import Derived.Test.YtkedfipeebjcjaaLedP
namespace Go.Proofs.Ytkedfipeebjcjaa
set_option linter.unusedSimpArgs false
set_option linter.unusedVariables false
set_option linter.unnecessarySimpa false
open Go.RowKit

/-- What is said of an object in blocks of F stands as long as none of them turns. -/
def Stays (P : World → (Nat → Prop) → Prop) : Prop :=
  ∀ (w w' : World) (F G H : Nat → Prop), P w F → Chg G w w' → (∀ k, k < w.heap.size → F k → ¬ G k) → (∀ k, k < w.heap.size → F k → H k) → P w' H
section
variable {P P' R R' : World → (Nat → Prop) → Prop} {w w' : World} {G H : Nat → Prop}
theorem Stays.below (h : Stays P) {w w' : World} {F : Nat → Prop} (hp : P w F) (b : Below w.heap.size w w') : P w' F :=
  h w w' F (fun _ => False) F hp (chg_below b) (fun _ _ _ h => h) (fun _ _ h => h)
theorem Stays.sub (h : Stays P) {w : World} {F G : Nat → Prop} (hp : P w F) (hs : ∀ k, k < w.heap.size → F k → G k) : P w G :=
  h w w F (fun _ => False) G hp (Chg.refl _ w) (fun _ _ _ h => h) hs
theorem Stays.chg (h : Stays P) {w w' : World} {F G : Nat → Prop} (hp : P w F) (hc : Chg G w w') (hd : ∀ k, k < w.heap.size → F k → ¬ G k) : P w' F := h w w' F G F hp hc hd (fun _ _ h => h)

structure Prs (P R : World → (Nat → Prop) → Prop) (w : World) (G H : Nat → Prop) : Prop where
  p : P w G
  r : R w H
  dj : ∀ k, G k → ¬ H k
theorem Prs.below (h : Prs P R w G H) (sp : Stays P) (sr : Stays R) (b : Below w.heap.size w w') : Prs P R w' G H := ⟨sp.below h.p b, sr.below h.r b, h.dj⟩
theorem Prs.chg {F : Nat → Prop} (h : Prs P R w G H) (sp : Stays P) (sr : Stays R) (b : Chg F w w') (h1 : ∀ k, G k → ¬ F k) (h2 : ∀ k, H k → ¬ F k) : Prs P R w' G H :=
  ⟨sp.chg h.p b (fun k _ => h1 k), sr.chg h.r b (fun k _ => h2 k), h.dj⟩
theorem Prs.movP {G' : Nat → Prop} (h : Prs P R w G H) (sr : Stays R) (hP : P' w' G') (hG : ∀ k, G' k → Grow G w k) (hC : Chg G w w') : Prs P' R w' G' (fun k => H k ∧ k < w.heap.size) :=
  ⟨hP, sr w w' H G _ h.r hC (fun k _ hk hg => h.dj k hg hk) (fun k hk hh => ⟨hh, hk⟩), fun k hk hh => (hG k hk).elim (fun hg => h.dj k hg hh.1) (fun hs => by have := hh.2; omega)⟩
theorem Prs.movR {H' : Nat → Prop} (h : Prs P R w G H) (sp : Stays P) (hR : R' w' H') (hH : ∀ k, H' k → Grow H w k) (hC : Chg H w w') : Prs P R' w' (fun k => G k ∧ k < w.heap.size) H' :=
  ⟨sp w w' G H _ h.p hC (fun k _ hk hg => h.dj k hk hg) (fun k hk hh => ⟨hh, hk⟩), hR, fun k hk hh => (hH k hh).elim (fun hg => h.dj k hk.1 hg) (fun hs => by have := hk.2; omega)⟩

/-- Both in blocks of F. -/
def Tw (P R : World → (Nat → Prop) → Prop) (w : World) (F : Nat → Prop) : Prop := ∃ G H, Prs P R w G H ∧ ∀ k, G k ∨ H k → F k ∧ k < w.heap.size
theorem Prs.shut {F : Nat → Prop} (h : Prs P R w G H) (sp : Stays P) (sr : Stays R) (hF : ∀ k, k < w.heap.size → G k ∨ H k → F k) : Tw P R w F :=
  ⟨fun k => G k ∧ k < w.heap.size, fun k => H k ∧ k < w.heap.size, ⟨sp.sub h.p fun k hk hg => ⟨hg, hk⟩, sr.sub h.r fun k hk hg => ⟨hg, hk⟩, fun k hk hh => h.dj k hk.1 hh.1⟩,
   fun k hk => hk.elim (fun h => ⟨hF k h.2 (.inl h.1), h.2⟩) (fun h => ⟨hF k h.2 (.inr h.1), h.2⟩)⟩
theorem Tw.below {F : Nat → Prop} (h : Tw P R w F) (sp : Stays P) (sr : Stays R) (b : Below w.heap.size w w') : Tw P R w' F := by
  obtain ⟨G, H, hp, hF⟩ := h
  exact ⟨G, H, hp.below sp sr b, fun k hk => ⟨(hF k hk).1, Nat.lt_of_lt_of_le (hF k hk).2 b.size⟩⟩
theorem Tw.chg {F F' : Nat → Prop} (h : Tw P R w F) (sp : Stays P) (sr : Stays R) (b : Chg F' w w') (hd : ∀ k, k < w.heap.size → F k → ¬ F' k) : Tw P R w' F := by
  obtain ⟨G, H, hp, hF⟩ := h
  exact ⟨G, H, hp.chg sp sr b (fun k hk => hd k (hF k (.inl hk)).2 (hF k (.inl hk)).1) (fun k hk => hd k (hF k (.inr hk)).2 (hF k (.inr hk)).1), fun k hk => ⟨(hF k hk).1, Nat.lt_of_lt_of_le (hF k hk).2 b.size⟩⟩
theorem Tw.sub {F F' : Nat → Prop} (h : Tw P R w F) (hs : ∀ k, k < w.heap.size → F k → F' k) : Tw P R w F' := by
  obtain ⟨G, H, hp, hF⟩ := h
  exact ⟨G, H, hp, fun k hk => ⟨hs k (hF k hk).2 (hF k hk).1, (hF k hk).2⟩⟩
/-- Both have gone on, the one behind the other. -/
theorem Prs.did {F : Nat → Prop} {w wx v1 v2 v3 : World} {G H : Nat → Prop} (sr : Stays R) (sp' : Stays P') (sr' : Stays R') (hF : ∀ k, G k ∨ H k → F k ∧ k < w.heap.size) (bel : Below w.heap.size w wx) (hp : Prs P R wx G H)
    (hL : P' v1 (Grow G wx)) (hC : Chg G wx v1) (hR : R' v2 (Grow (fun k => H k ∧ k < wx.heap.size) v1)) (hC2 : Chg (fun k => H k ∧ k < wx.heap.size) v1 v2) (hb : Below v2.heap.size v2 v3) : Tw P' R' v3 (Grow F w) ∧ Chg F w v3 := by
  have h1 : Prs P' R v1 _ _ := hp.movP sr hL (fun k h => h) hC
  have h2 : Prs P' R' v2 _ _ := h1.movR sp' hR (fun k h => h) hC2
  refine ⟨(h2.shut sp' sr' (F := Grow F w) fun k _ hk => ?_).below sp' sr' hb, (((chg_below bel).step hC (fun k hk h => (hF k (.inl h)).1)).step hC2 (fun k hk h => (hF k (.inr h.1)).1)).thenBelow hb (Nat.le_trans (Nat.le_trans bel.size hC.size) hC2.size)⟩
  rcases hk with ⟨hk | hk, _⟩ | (hk | hk)
  · exact .inl (hF k (.inl hk)).1
  · exact .inr (Nat.le_trans bel.size hk)
  · exact .inl (hF k (.inr hk.1)).1
  · exact .inr (Nat.le_trans (Nat.le_trans bel.size hC.size) hk)
theorem Tw.stays (sp : Stays P) (sr : Stays R) : Stays (Tw P R) := by
  intro w w' F F' F2 h hc hd hs
  obtain ⟨G, H, hp, hF⟩ := h
  exact ⟨G, H, hp.chg sp sr hc (fun k hk => hd k (hF k (.inl hk)).2 (hF k (.inl hk)).1) (fun k hk => hd k (hF k (.inr hk)).2 (hF k (.inr hk)).1), fun k hk => ⟨hs k (hF k hk).2 (hF k hk).1, Nat.lt_of_lt_of_le (hF k hk).2 hc.size⟩⟩
end
end Go.Proofs.Ytkedfipeebjcjaa

namespace Go.Proofs.Ytkedfipeebjcjaa
set_option linter.unusedSimpArgs false
set_option linter.unusedVariables false
set_option linter.unnecessarySimpa false
open Go.RowKit

/-- An object in blocks from B on, none of them in N. -/
structure Av (P : World → (Nat → Prop) → Prop) (B : Nat) (N : List Nat) (w : World) : Prop where
  ex : ∃ F, P w F ∧ ∀ k, k < w.heap.size → F k → B ≤ k ∧ k ∉ N
  lt : ∀ k ∈ N, k < w.heap.size
  ge : B ≤ w.heap.size
section
variable {P P' : World → (Nat → Prop) → Prop} {w w' : World} {B : Nat} {N : List Nat}
theorem Av.below (h : Av P B N w) (sp : Stays P) (b : Below w.heap.size w w') : Av P B N w' := by
  obtain ⟨⟨F, hP, hF⟩, h2, h3⟩ := h
  exact ⟨⟨fun k => F k ∧ k < w.heap.size, sp.below (sp.sub hP fun k hk hf => ⟨hf, hk⟩) b, fun k _ hf => hF k hf.2 hf.1⟩, fun k hk => Nat.lt_of_lt_of_le (h2 k hk) b.size, Nat.le_trans h3 b.size⟩
theorem Av.box (h : Av P B N w) (sp : Stays P) (o : Obj) : Av P B (w.heap.size :: N) (w.alloc o) := by
  obtain ⟨⟨F, hP, hF⟩, h2, h3⟩ := h
  refine ⟨⟨fun k => F k ∧ k < w.heap.size, sp.below (sp.sub hP fun k hk hf => ⟨hf, hk⟩) (box_below w o), fun k _ hf => ⟨(hF k hf.2 hf.1).1, fun hm => ?_⟩⟩, fun k hk => ?_, by simp; omega⟩
  · rcases List.mem_cons.1 hm with h | h
    · have := hf.2; omega
    · exact (hF k hf.2 hf.1).2 h
  · rcases List.mem_cons.1 hk with h | h
    · simp; omega
    · have := h2 k h; simp; omega
theorem Av.step {F : Nat → Prop} (h2 : ∀ k ∈ N, k < w.heap.size) (h3 : B ≤ w.heap.size) (hF : ∀ k, k < w.heap.size → F k → B ≤ k ∧ k ∉ N) (hP : P' w' (Grow F w)) (hs : w.heap.size ≤ w'.heap.size) : Av P' B N w' := by
  refine ⟨⟨_, hP, fun k _ hk => ?_⟩, fun k hk => Nat.lt_of_lt_of_le (h2 k hk) hs, Nat.le_trans h3 hs⟩
  rcases Nat.lt_or_ge k w.heap.size with h | h
  · rcases hk with hk | hk
    · exact hF k h hk
    · omega
  · exact ⟨Nat.le_trans h3 h, fun hm => by have := h2 k hm; omega⟩
/-- What stands in N stays as it was, when the object turns. -/
theorem Av.blk {F : Nat → Prop} (hF : ∀ k, k < w.heap.size → F k → B ≤ k ∧ k ∉ N) (hC : Chg F w w') {g : Nat} {o : Obj} (ho : w.heap[g]? = some o) (hg : g ∈ N) : w'.heap[g]? = some o :=
  hC.blk ho fun h => (hF g (Array.getElem?_eq_some_iff.1 ho).1 h).2 hg
theorem Av.bel {F : Nat → Prop} {v : World} (hF : ∀ k, k < w.heap.size → F k → B ≤ k ∧ k ∉ N) (hb : Below B v w) (hB : B ≤ w.heap.size) (hC : Chg F w w') : Below B v w' :=
  hb.trans (hC.below hB fun k hk h => by have := (hF k (by omega) h).1; omega)
end

theorem Rd.lit_fz (w : World) (size : Nat) (cs : Array Value) (t : TypeId) (fr : Nat × Nat) (n : Nat) (xs : List Value) (hx : cs.toList = xs) (hs : xs.length = n * size) (hn : n ≤ maxLen) :
    Rd (w.alloc (.cells cs t fr)) size (some ⟨w.heap.size, 0, none⟩) n n xs := by
  subst hx
  refine ⟨hs, Nat.le_refl _, hn, fun _ => ⟨_, _, rfl, fun j u hu => ?_⟩⟩
  rw [cell_of_row _ w.heap.size (0 + j) cs t fr (heap_alloc_new w _)]
  simpa using hu

theorem Av.more {P : World → (Nat → Prop) → Prop} {w w' : World} {B : Nat} {N : List Nat} (h : Av P B N w) (sp : Stays P) (b : Below w.heap.size w w') {g : Nat} (h1 : w.heap.size ≤ g) (h2 : g < w'.heap.size) : Av P B (g :: N) w' := by
  obtain ⟨⟨F, hP, hF⟩, hl, h3⟩ := h
  refine ⟨⟨fun k => F k ∧ k < w.heap.size, sp.below (sp.sub hP fun k hk hf => ⟨hf, hk⟩) b, fun k _ hf => ⟨(hF k hf.2 hf.1).1, fun hm => ?_⟩⟩, fun k hk => ?_, Nat.le_trans h3 b.size⟩
  · rcases List.mem_cons.1 hm with h | h
    · have := hf.2; omega
    · exact (hF k hf.2 hf.1).2 h
  · rcases List.mem_cons.1 hk with h | h
    · omega
    · exact Nat.lt_of_lt_of_le (hl k h) b.size
theorem Rd.same {w w' : World} {size bb off n c : Nat} {xs : List Value} (h : Rd w size (some ⟨bb, off, none⟩) n c xs) (hb : ∀ o, w.heap[bb]? = some o → w'.heap[bb]? = some o) : Rd w' size (some ⟨bb, off, none⟩) n c xs := by
  refine ⟨h.len, h.cap, h.max, fun hn => ?_⟩
  obtain ⟨b, o, e, hk⟩ := h.on_ hn
  injection e with e
  injection e with e1 e2
  subst e1 e2
  refine ⟨_, _, rfl, fun j u hu => ?_⟩
  have hc := hk j u hu
  have hl := block_lt_of_cell hc
  exact (World.cell?_of_block (w := w) (a := ⟨bb, off + j, none⟩) ((hb _ (Array.getElem?_eq_getElem hl)).trans (Array.getElem?_eq_getElem hl).symm)).trans hc
end Go.Proofs.Ytkedfipeebjcjaa
