/-
  Two objects side by side, each in blocks of its own: plainly, for any two kinds of object.
-/
import Derived.Test.YtilgekmpkoohaaaObj
namespace Go.Proofs.Ytilgekmpkoohaaa
set_option linter.unusedSimpArgs false
set_option linter.unusedVariables false
set_option linter.unnecessarySimpa false
open Go.RowKit

/-- What is said of an object in blocks of F stands as long as none of them turns. -/
def Stays (P : World → (Nat → Prop) → Prop) : Prop :=
  ∀ (w w' : World) (F G H : Nat → Prop), P w F → Chg G w w' → (∀ k, k < w.heap.size → F k → ¬ G k) → (∀ k, k < w.heap.size → F k → H k) → P w' H
section
variable {P P' R R' : World → (Nat → Prop) → Prop} {w w' : World} {G H : Nat → Prop}
theorem Stays.below (h : Stays P) {w w' : World} {F : Nat → Prop} (hp : P w F) (b : Below w.heap.size w w') : P w' F :=
  h w w' F (fun _ => False) F hp (chg_below b) (fun _ _ _ h => h) (fun _ _ h => h)
theorem Stays.sub (h : Stays P) {w : World} {F G : Nat → Prop} (hp : P w F) (hs : ∀ k, k < w.heap.size → F k → G k) : P w G :=
  h w w F (fun _ => False) G hp (Chg.refl _ w) (fun _ _ _ h => h) hs
theorem Stays.chg (h : Stays P) {w w' : World} {F G : Nat → Prop} (hp : P w F) (hc : Chg G w w') (hd : ∀ k, k < w.heap.size → F k → ¬ G k) : P w' F := h w w' F G F hp hc hd (fun _ _ h => h)

structure Prs (P R : World → (Nat → Prop) → Prop) (w : World) (G H : Nat → Prop) : Prop where
  p : P w G
  r : R w H
  dj : ∀ k, G k → ¬ H k
theorem Prs.below (h : Prs P R w G H) (sp : Stays P) (sr : Stays R) (b : Below w.heap.size w w') : Prs P R w' G H := ⟨sp.below h.p b, sr.below h.r b, h.dj⟩
theorem Prs.chg {F : Nat → Prop} (h : Prs P R w G H) (sp : Stays P) (sr : Stays R) (b : Chg F w w') (h1 : ∀ k, G k → ¬ F k) (h2 : ∀ k, H k → ¬ F k) : Prs P R w' G H :=
  ⟨sp.chg h.p b (fun k _ => h1 k), sr.chg h.r b (fun k _ => h2 k), h.dj⟩
theorem Prs.movP {G' : Nat → Prop} (h : Prs P R w G H) (sr : Stays R) (hP : P' w' G') (hG : ∀ k, G' k → Grow G w k) (hC : Chg G w w') : Prs P' R w' G' (fun k => H k ∧ k < w.heap.size) :=
  ⟨hP, sr w w' H G _ h.r hC (fun k _ hk hg => h.dj k hg hk) (fun k hk hh => ⟨hh, hk⟩), fun k hk hh => (hG k hk).elim (fun hg => h.dj k hg hh.1) (fun hs => by have := hh.2; omega)⟩
theorem Prs.movR {H' : Nat → Prop} (h : Prs P R w G H) (sp : Stays P) (hR : R' w' H') (hH : ∀ k, H' k → Grow H w k) (hC : Chg H w w') : Prs P R' w' (fun k => G k ∧ k < w.heap.size) H' :=
  ⟨sp w w' G H _ h.p hC (fun k _ hk hg => h.dj k hk hg) (fun k hk hh => ⟨hh, hk⟩), hR, fun k hk hh => (hH k hh).elim (fun hg => h.dj k hk.1 hg) (fun hs => by have := hk.2; omega)⟩

/-- Both in blocks of F. -/
def Tw (P R : World → (Nat → Prop) → Prop) (w : World) (F : Nat → Prop) : Prop := ∃ G H, Prs P R w G H ∧ ∀ k, G k ∨ H k → F k ∧ k < w.heap.size
theorem Prs.shut {F : Nat → Prop} (h : Prs P R w G H) (sp : Stays P) (sr : Stays R) (hF : ∀ k, k < w.heap.size → G k ∨ H k → F k) : Tw P R w F :=
  ⟨fun k => G k ∧ k < w.heap.size, fun k => H k ∧ k < w.heap.size, ⟨sp.sub h.p fun k hk hg => ⟨hg, hk⟩, sr.sub h.r fun k hk hg => ⟨hg, hk⟩, fun k hk hh => h.dj k hk.1 hh.1⟩,
   fun k hk => hk.elim (fun h => ⟨hF k h.2 (.inl h.1), h.2⟩) (fun h => ⟨hF k h.2 (.inr h.1), h.2⟩)⟩
theorem Tw.below {F : Nat → Prop} (h : Tw P R w F) (sp : Stays P) (sr : Stays R) (b : Below w.heap.size w w') : Tw P R w' F := by
  obtain ⟨G, H, hp, hF⟩ := h
  exact ⟨G, H, hp.below sp sr b, fun k hk => ⟨(hF k hk).1, Nat.lt_of_lt_of_le (hF k hk).2 b.size⟩⟩
theorem Tw.chg {F F' : Nat → Prop} (h : Tw P R w F) (sp : Stays P) (sr : Stays R) (b : Chg F' w w') (hd : ∀ k, k < w.heap.size → F k → ¬ F' k) : Tw P R w' F := by
  obtain ⟨G, H, hp, hF⟩ := h
  exact ⟨G, H, hp.chg sp sr b (fun k hk => hd k (hF k (.inl hk)).2 (hF k (.inl hk)).1) (fun k hk => hd k (hF k (.inr hk)).2 (hF k (.inr hk)).1), fun k hk => ⟨(hF k hk).1, Nat.lt_of_lt_of_le (hF k hk).2 b.size⟩⟩
theorem Tw.sub {F F' : Nat → Prop} (h : Tw P R w F) (hs : ∀ k, k < w.heap.size → F k → F' k) : Tw P R w F' := by
  obtain ⟨G, H, hp, hF⟩ := h
  exact ⟨G, H, hp, fun k hk => ⟨hs k (hF k hk).2 (hF k hk).1, (hF k hk).2⟩⟩
/-- Both have gone on, the one behind the other. -/
theorem Prs.did {F : Nat → Prop} {w wx v1 v2 v3 : World} {G H : Nat → Prop} (sr : Stays R) (sp' : Stays P') (sr' : Stays R') (hF : ∀ k, G k ∨ H k → F k ∧ k < w.heap.size) (bel : Below w.heap.size w wx) (hp : Prs P R wx G H)
    (hL : P' v1 (Grow G wx)) (hC : Chg G wx v1) (hR : R' v2 (Grow (fun k => H k ∧ k < wx.heap.size) v1)) (hC2 : Chg (fun k => H k ∧ k < wx.heap.size) v1 v2) (hb : Below v2.heap.size v2 v3) : Tw P' R' v3 (Grow F w) ∧ Chg F w v3 := by
  have h1 : Prs P' R v1 _ _ := hp.movP sr hL (fun k h => h) hC
  have h2 : Prs P' R' v2 _ _ := h1.movR sp' hR (fun k h => h) hC2
  refine ⟨(h2.shut sp' sr' (F := Grow F w) fun k _ hk => ?_).below sp' sr' hb, (((chg_below bel).step hC (fun k hk h => (hF k (.inl h)).1)).step hC2 (fun k hk h => (hF k (.inr h.1)).1)).thenBelow hb (Nat.le_trans (Nat.le_trans bel.size hC.size) hC2.size)⟩
  rcases hk with ⟨hk | hk, _⟩ | (hk | hk)
  · exact .inl (hF k (.inl hk)).1
  · exact .inr (Nat.le_trans bel.size hk)
  · exact .inl (hF k (.inr hk.1)).1
  · exact .inr (Nat.le_trans (Nat.le_trans bel.size hC.size) hk)
theorem Tw.stays (sp : Stays P) (sr : Stays R) : Stays (Tw P R) := by
  intro w w' F F' F2 h hc hd hs
  obtain ⟨G, H, hp, hF⟩ := h
  exact ⟨G, H, hp.chg sp sr hc (fun k hk => hd k (hF k (.inl hk)).2 (hF k (.inl hk)).1) (fun k hk => hd k (hF k (.inr hk)).2 (hF k (.inr hk)).1), fun k hk => ⟨hs k (hF k hk).2 (hF k hk).1, Nat.lt_of_lt_of_le (hF k hk).2 hc.size⟩⟩
end
end Go.Proofs.Ytilgekmpkoohaaa
