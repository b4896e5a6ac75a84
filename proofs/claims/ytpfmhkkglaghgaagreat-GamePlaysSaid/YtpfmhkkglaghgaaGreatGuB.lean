/-
  Same lists of spans, same acknowledgments, same evidences: the reference's tests. · Both guards and both ledgers: the law's pair; same. · Both guards and both ledgers: take.
-/
import Derived.Test.YtpfmhkkglaghgaaGreatSpan
import Derived.Test.YtpfmhkkglaghgaaGreatObj
import Derived.Test.YtpfmhkkglaghgaaGreatBytes
import Derived.Test.YtpfmhkkglaghgaaGreatGua1
import Derived.StillTailTactics
import Derived.Test.YtpfmhkkglaghgaaGreatGuR
import Derived.Test.YtpfmhkkglaghgaaGreatTwo
namespace Go.Proofs.YtpfmhkkglaghgaaGreat
set_option linter.unusedSimpArgs false
set_option linter.unusedVariables false
set_option linter.unnecessarySimpa false
open Go.RowKit

theorem size2 (w : World) (o o' : Obj) : ((w.alloc o).alloc o').heap.size = w.heap.size + 2 := by simp
end Go.Proofs.YtpfmhkkglaghgaaGreat

namespace Go.Proofs.YtpfmhkkglaghgaaGreat
set_option linter.unusedSimpArgs false
set_option linter.unusedVariables false
set_option linter.unnecessarySimpa false
open Go.RowKit

/-- Both ledgers hold s, both guards hold g, in blocks of X; what was kept as evidence lies in blocks of E. -/
structure BothC (w : World) (X E : Nat → Prop) (p r a b : Nat) (s : LS) (g : GS) (G H F1 F2 : Nat → Prop) : Prop where
  lp : LedP w G p s
  lr : LedR w H r s
  gp : GuaP w F1 E a g
  gr : GuRP w F2 E b g
  d1 : ∀ k, G k → ¬ H k ∧ ¬ F1 k ∧ ¬ F2 k
  d2 : ∀ k, H k → ¬ F1 k ∧ ¬ F2 k
  d3 : ∀ k, F1 k → ¬ F2 k
  sub : ∀ k, G k ∨ H k ∨ F1 k ∨ F2 k → X k ∧ k < w.heap.size
  ev : ∀ k, E k → ¬ X k ∧ k < w.heap.size
def BothG (w : World) (X E : Nat → Prop) (p r a b : Nat) (s : LS) (g : GS) : Prop := ∃ G H F1 F2, BothC w X E p r a b s g G H F1 F2
theorem GuRP.good_ {w : World} {F E : Nat → Prop} {b : Nat} {g : GS} (h : GuRP w F E b g) : g.Good := h.good
theorem BothC.below {w w' : World} {X E : Nat → Prop} {p r a b : Nat} {s : LS} {g : GS} {G H F1 F2 : Nat → Prop} (h : BothC w X E p r a b s g G H F1 F2) (q : Below w.heap.size w w') : BothC w' X E p r a b s g G H F1 F2 :=
  ⟨h.lp.below q, h.lr.below q, h.gp.below q, h.gr.below q, h.d1, h.d2, h.d3, fun k hk => ⟨(h.sub k hk).1, Nat.lt_of_lt_of_le (h.sub k hk).2 q.size⟩, fun k hk => ⟨(h.ev k hk).1, Nat.lt_of_lt_of_le (h.ev k hk).2 q.size⟩⟩
theorem BothG.below {w w' : World} {X E : Nat → Prop} {p r a b : Nat} {s : LS} {g : GS} (h : BothG w X E p r a b s g) (q : Below w.heap.size w w') : BothG w' X E p r a b s g := by
  obtain ⟨G, H, F1, F2, hC⟩ := h
  exact ⟨G, H, F1, F2, hC.below q⟩
/-- What turns other blocks alone. -/
theorem BothG.chg {w w' : World} {X E Z : Nat → Prop} {p r a b : Nat} {s : LS} {g : GS} (h : BothG w X E p r a b s g) (hc : Chg Z w w') (hd : ∀ k, k < w.heap.size → X k ∨ E k → ¬ Z k) : BothG w' X E p r a b s g := by
  obtain ⟨G, H, F1, F2, hC⟩ := h
  have hs := hc.size
  refine ⟨G, H, F1, F2, hC.lp.chg hc (fun k hk hg => hd k hk (.inl (hC.sub k (.inl hg)).1)) (fun _ _ h => h), hC.lr.chg hc (fun k hk hg => hd k hk (.inl (hC.sub k (.inr (.inl hg))).1)) (fun _ _ h => h),
    hC.gp.chg hc (fun k hk hg => hg.elim (fun hg => hd k hk (.inl (hC.sub k (.inr (.inr (.inl hg)))).1)) (fun he => hd k hk (.inr he))) (fun _ _ h => h) (fun _ _ h => h) hC.gp.dj,
    hC.gr.chg hc (fun k hk hg => hg.elim (fun hg => hd k hk (.inl (hC.sub k (.inr (.inr (.inr hg)))).1)) (fun he => hd k hk (.inr he))) (fun _ _ h => h) (fun _ _ h => h) hC.gr.dj,
    hC.d1, hC.d2, hC.d3, fun k hk => ⟨(hC.sub k hk).1, Nat.lt_of_lt_of_le (hC.sub k hk).2 hs⟩, fun k hk => ⟨(hC.ev k hk).1, Nat.lt_of_lt_of_le (hC.ev k hk).2 hs⟩⟩
theorem BothG.two {w : World} {X E : Nat → Prop} {p r a b : Nat} {s : LS} {g : GS} (h : BothG w X E p r a b s g) : Two w X p r s := by
  obtain ⟨G, H, F1, F2, hC⟩ := h
  exact ⟨G, H, ⟨hC.lp, hC.lr, fun k h1 h2 => (hC.d1 k h1).1 h2⟩, fun k hk => hC.sub k (hk.elim .inl (fun h => .inr (.inl h)))⟩
theorem BothG.sgood {w : World} {X E : Nat → Prop} {p r a b : Nat} {s : LS} {g : GS} (h : BothG w X E p r a b s g) : s.Good := h.two.good
theorem BothG.ggood {w : World} {X E : Nat → Prop} {p r a b : Nat} {s : LS} {g : GS} (h : BothG w X E p r a b s g) : g.Good := by
  obtain ⟨G, H, F1, F2, hC⟩ := h
  exact hC.gp.good
/-- More blocks, or none but these. -/
theorem BothG.sub {w : World} {X X' E : Nat → Prop} {p r a b : Nat} {s : LS} {g : GS} (h : BothG w X E p r a b s g) (hX : ∀ k, k < w.heap.size → X k → X' k) (hE : ∀ k, E k → ¬ X' k) : BothG w X' E p r a b s g := by
  obtain ⟨G, H, F1, F2, hC⟩ := h
  exact ⟨G, H, F1, F2, hC.lp, hC.lr, hC.gp, hC.gr, hC.d1, hC.d2, hC.d3, fun k hk => ⟨hX k (hC.sub k hk).2 (hC.sub k hk).1, (hC.sub k hk).2⟩, fun k hk => ⟨hE k hk, (hC.ev k hk).2⟩⟩

end Go.Proofs.YtpfmhkkglaghgaaGreat

namespace Go.Proofs.YtpfmhkkglaghgaaGreat
set_option linter.unusedSimpArgs false
set_option linter.unusedVariables false
set_option linter.unnecessarySimpa false
open Go.RowKit

/-- Both have taken a frame. -/
theorem BothC.took {w w1 w2 w3 w4 : World} {X E : Nat → Prop} {p r a b : Nat} {s s' : LS} {g g' : GS} {G H F1 F2 F1' E1' F2' E2' : Nat → Prop} (h : BothC w X E p r a b s g G H F1 F2) (s1 : w.heap.size ≤ w1.heap.size)
    (lp : LedP w2 G p s') (gp : GuaP w2 F1' E1' a g') (f1 : ∀ k, F1' k → Grow F1 w1 k) (e1 : ∀ k, E1' k → Grow E w1 k) (c2 : Chg (fun k => G k ∨ F1 k) w1 w2) (b3 : Below w2.heap.size w2 w3)
    (lr : LedR w4 H r s') (gr : GuRP w4 F2' E2' b g') (f2 : ∀ k, F2' k → Grow F2 w3 k) (e2 : ∀ k, E2' k → Grow E w3 k) (c4 : Chg (fun k => H k ∨ F2 k) w3 w4) :
    ∃ X' E', BothG w4 X' E' p r a b s' g' ∧ (∀ k, X' k → (X k ∧ k < w.heap.size) ∨ w1.heap.size ≤ k) ∧ (∀ k, E' k → (E k ∧ k < w.heap.size) ∨ w1.heap.size ≤ k) := by
  have hs2 := c2.size
  have hs3 := b3.size
  have hs4 := c4.size
  have xG : ∀ k, G k → k < w.heap.size ∧ X k := fun k hk => ⟨(h.sub k (.inl hk)).2, (h.sub k (.inl hk)).1⟩
  have xH : ∀ k, H k → k < w.heap.size ∧ X k := fun k hk => ⟨(h.sub k (.inr (.inl hk))).2, (h.sub k (.inr (.inl hk))).1⟩
  have x1 : ∀ k, F1 k → k < w.heap.size ∧ X k := fun k hk => ⟨(h.sub k (.inr (.inr (.inl hk)))).2, (h.sub k (.inr (.inr (.inl hk)))).1⟩
  have x2 : ∀ k, F2 k → k < w.heap.size ∧ X k := fun k hk => ⟨(h.sub k (.inr (.inr (.inr hk)))).2, (h.sub k (.inr (.inr (.inr hk)))).1⟩
  -- what the program's guard holds, cut to the world behind its call
  have gp2 : GuaP w2 (fun k => F1' k ∧ k < w2.heap.size) (fun k => E1' k ∧ k < w2.heap.size) a g' := gp.sub (fun k hk hf => ⟨hf, hk⟩) (fun k hk he => ⟨he, hk⟩) (fun k hk hf => gp.dj k hk.1 hf.1)
  have gr4 : GuRP w4 (fun k => F2' k ∧ k < w4.heap.size) (fun k => E2' k ∧ k < w4.heap.size) b g' := gr.sub (fun k hk hf => ⟨hf, hk⟩) (fun k hk he => ⟨he, hk⟩) (fun k hk hf => gr.dj k hk.1 hf.1)
  -- it stays through the other's call
  have c24 : Chg (fun k => H k ∨ F2 k) w2 w4 := (chg_below b3).step c4 (fun _ _ h => h)
  have nF : ∀ k, F1' k ∧ k < w2.heap.size → ¬ (H k ∨ F2 k) := fun k hk hh => by
    rcases f1 k hk.1 with hf | hf
    · exact hh.elim (fun hh => (h.d2 k hh).1 hf) (fun hh => h.d3 k hf hh)
    · exact hh.elim (fun hh => by have := (xH k hh).1; omega) (fun hh => by have := (x2 k hh).1; omega)
  have nE : ∀ k, E1' k ∧ k < w2.heap.size → ¬ (H k ∨ F2 k) := fun k hk hh => by
    rcases e1 k hk.1 with hf | hf
    · exact hh.elim (fun hh => (h.ev k hf).1 (xH k hh).2) (fun hh => (h.ev k hf).1 (x2 k hh).2)
    · exact hh.elim (fun hh => by have := (xH k hh).1; omega) (fun hh => by have := (x2 k hh).1; omega)
  have dj1 : ∀ k, (E1' k ∧ k < w2.heap.size) ∨ (E2' k ∧ k < w4.heap.size) → ¬ (F1' k ∧ k < w2.heap.size) := fun k hk hf => by
    rcases hk with hk | hk
    · exact gp.dj k hk.1 hf.1
    · rcases e2 k hk.1 with he | he
      · rcases f1 k hf.1 with hf' | hf'
        · exact (h.ev k he).1 (x1 k hf').2
        · have := (h.ev k he).2; omega
      · have := hf.2; omega
  have dj2 : ∀ k, (E1' k ∧ k < w2.heap.size) ∨ (E2' k ∧ k < w4.heap.size) → ¬ (F2' k ∧ k < w4.heap.size) := fun k hk hf => by
    rcases hk with hk | hk
    · rcases e1 k hk.1 with he | he
      · rcases f2 k hf.1 with hf' | hf'
        · exact (h.ev k he).1 (x2 k hf').2
        · have := (h.ev k he).2; omega
      · rcases f2 k hf.1 with hf' | hf'
        · have := (x2 k hf').1; omega
        · have := hk.2; omega
    · exact gr.dj k hk.1 hf.1
  have gp4 : GuaP w4 (fun k => F1' k ∧ k < w2.heap.size) (fun k => (E1' k ∧ k < w2.heap.size) ∨ (E2' k ∧ k < w4.heap.size)) a g' := gp2.chg c24 (fun k _ hk => hk.elim (nF k) (nE k)) (fun _ _ h => h) (fun _ _ h => .inl h) dj1
  have gr5 : GuRP w4 (fun k => F2' k ∧ k < w4.heap.size) (fun k => (E1' k ∧ k < w2.heap.size) ∨ (E2' k ∧ k < w4.heap.size)) b g' := gr4.sub (fun _ _ h => h) (fun _ _ h => .inr h) dj2
  have lp4 : LedP w4 G p s' := lp.chg c24 (fun k _ hg hh => hh.elim (h.d1 k hg).1 (h.d1 k hg).2.2) (fun _ _ h => h)
  refine ⟨fun k => G k ∨ H k ∨ (F1' k ∧ k < w2.heap.size) ∨ (F2' k ∧ k < w4.heap.size), fun k => (E1' k ∧ k < w2.heap.size) ∨ (E2' k ∧ k < w4.heap.size), ⟨G, H, _, _, lp4, lr, gp4, gr5, ?_, ?_, ?_, ?_, ?_⟩, ?_, ?_⟩
  · intro k hg
    have hx := (xG k hg).1
    exact ⟨(h.d1 k hg).1, fun hf => (f1 k hf.1).elim (h.d1 k hg).2.1 (fun e => by omega), fun hf => (f2 k hf.1).elim (h.d1 k hg).2.2 (fun e => by omega)⟩
  · intro k hh
    have hx := (xH k hh).1
    exact ⟨fun hf => (f1 k hf.1).elim (h.d2 k hh).1 (fun e => by omega), fun hf => (f2 k hf.1).elim (h.d2 k hh).2 (fun e => by omega)⟩
  · intro k hf hf2
    rcases f2 k hf2.1 with e | e
    · rcases f1 k hf.1 with e' | e'
      · exact h.d3 k e' e
      · have := (x2 k e).1; omega
    · have := hf.2; omega
  · intro k hk
    refine ⟨hk, ?_⟩
    rcases hk with hk | hk | hk | hk
    · have := (xG k hk).1; omega
    · have := (xH k hk).1; omega
    · have := hk.2; omega
    · exact hk.2
  · intro k hk
    refine ⟨fun hx => ?_, hk.elim (fun e => by have := e.2; omega) (fun e => e.2)⟩
    rcases hx with hx | hx | hx | hx
    · have h1 := xG k hx
      rcases hk with hk | hk
      · exact (e1 k hk.1).elim (fun e => (h.ev k e).1 h1.2) (fun e => by omega)
      · exact (e2 k hk.1).elim (fun e => (h.ev k e).1 h1.2) (fun e => by omega)
    · have h1 := xH k hx
      rcases hk with hk | hk
      · exact (e1 k hk.1).elim (fun e => (h.ev k e).1 h1.2) (fun e => by omega)
      · exact (e2 k hk.1).elim (fun e => (h.ev k e).1 h1.2) (fun e => by omega)
    · exact dj1 k hk hx
    · exact dj2 k hk hx
  · intro k hk
    rcases hk with hk | hk | hk | hk
    · exact .inl ⟨(xG k hk).2, (xG k hk).1⟩
    · exact .inl ⟨(xH k hk).2, (xH k hk).1⟩
    · exact (f1 k hk.1).elim (fun e => .inl ⟨(x1 k e).2, (x1 k e).1⟩) (fun e => .inr (by omega))
    · exact (f2 k hk.1).elim (fun e => .inl ⟨(x2 k e).2, (x2 k e).1⟩) (fun e => .inr (by omega))
  · intro k hk
    rcases hk with hk | hk
    · exact (e1 k hk.1).elim (fun e => .inl ⟨e, (h.ev k e).2⟩) (fun e => .inr (by omega))
    · exact (e2 k hk.1).elim (fun e => .inl ⟨e, (h.ev k e).2⟩) (fun e => .inr (by omega))

theorem boxes2 (w : World) (o1 o2 : Obj) : ((w.alloc o1).alloc o2).heap[w.heap.size]? = some o1 ∧ ((w.alloc o1).alloc o2).heap[w.heap.size + 1]? = some o2 ∧ Below w.heap.size w ((w.alloc o1).alloc o2) ∧ ((w.alloc o1).alloc o2).heap.size = w.heap.size + 2 := by
  have n2 := heap_alloc_new (w.alloc o1) o2
  rw [World.size_alloc] at n2
  have b2 := box_below (w.alloc o1) o2
  exact ⟨(b2.block _ (by simp)).trans (heap_alloc_new w o1), n2, (box_below w o1).trans (b2.mono (by simp)), by simp⟩
theorem boxes3 (w : World) (o1 o2 o3 : Obj) : (((w.alloc o1).alloc o2).alloc o3).heap[w.heap.size]? = some o1 ∧ (((w.alloc o1).alloc o2).alloc o3).heap[w.heap.size + 1]? = some o2 ∧ (((w.alloc o1).alloc o2).alloc o3).heap[w.heap.size + 2]? = some o3 ∧ Below w.heap.size w (((w.alloc o1).alloc o2).alloc o3) ∧ (((w.alloc o1).alloc o2).alloc o3).heap.size = w.heap.size + 3 := by
  obtain ⟨h1, h2, h3, h4⟩ := boxes2 w o1 o2
  have n3 := heap_alloc_new ((w.alloc o1).alloc o2) o3
  rw [h4] at n3
  have b3 := box_below ((w.alloc o1).alloc o2) o3
  exact ⟨(b3.block _ (by rw [h4]; omega)).trans h1, (b3.block _ (by rw [h4]; omega)).trans h2, n3, h3.trans (b3.mono (by rw [h4]; omega)), by simp⟩

end Go.Proofs.YtpfmhkkglaghgaaGreat
