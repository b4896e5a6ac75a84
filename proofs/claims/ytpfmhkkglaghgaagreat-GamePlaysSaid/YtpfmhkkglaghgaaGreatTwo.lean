/-
  Two ledgers alike: the program's and the reference's.
-/
import Derived.Test.YtpfmhkkglaghgaaGreatLedP
import Derived.Test.YtpfmhkkglaghgaaGreatLedR
import Derived.Test.YtpfmhkkglaghgaaGreatSeq
namespace Go.Proofs.YtpfmhkkglaghgaaGreat
set_option linter.unusedSimpArgs false
set_option linter.unusedVariables false
set_option linter.unnecessarySimpa false
open Go.RowKit

theorem LedP.lt {w : World} {F : Nat → Prop} {b : Nat} {s : LS} (h : LedP w F b s) : b < w.heap.size := by
  obtain ⟨_, A, c, h1, _⟩ := h
  exact lt_of_block h1
theorem LedR.lt {w : World} {F : Nat → Prop} {b : Nat} {s : LS} (h : LedR w F b s) : b < w.heap.size := by
  obtain ⟨_, A, c, h1, _⟩ := h
  exact lt_of_block h1
theorem LedP.sub {w : World} {F G : Nat → Prop} {b : Nat} {s : LS} (h : LedP w F b s) (hs : ∀ k, k < w.heap.size → F k → G k) : LedP w G b s :=
  h.chg (Chg.refl (fun _ => False) w) (fun _ _ _ h => h) hs
theorem LedR.sub {w : World} {F G : Nat → Prop} {b : Nat} {s : LS} (h : LedR w F b s) (hs : ∀ k, k < w.heap.size → F k → G k) : LedR w G b s :=
  h.chg (Chg.refl (fun _ => False) w) (fun _ _ _ h => h) hs

/-- Both, in blocks of their own. -/
structure Pair (w : World) (G H : Nat → Prop) (p r : Nat) (s t : LS) : Prop where
  p : LedP w G p s
  r : LedR w H r t
  dj : ∀ k, G k → ¬ H k
theorem Pair.below {w w' : World} {G H : Nat → Prop} {p r : Nat} {s t : LS} (h : Pair w G H p r s t) (b : Below w.heap.size w w') : Pair w' G H p r s t :=
  ⟨h.p.below b, h.r.below b, h.dj⟩
theorem Pair.qt {w w' : World} {G H : Nat → Prop} {p r : Nat} {s t : LS} (h : Pair w G H p r s t) (b : Qt w w') : Pair w' G H p r s t := h.below b.below
/-- What else turns blocks of a third kind alone. -/
theorem Pair.chg {w w' : World} {F G H : Nat → Prop} {p r : Nat} {s t : LS} (h : Pair w G H p r s t) (b : Chg F w w') (h1 : ∀ k, G k → ¬ F k) (h2 : ∀ k, H k → ¬ F k) : Pair w' G H p r s t :=
  ⟨h.p.chg b (fun k _ => h1 k) (fun _ _ h => h), h.r.chg b (fun k _ => h2 k) (fun _ _ h => h), h.dj⟩
theorem Pair.movP {w w' : World} {G G' H : Nat → Prop} {p r : Nat} {s s' t : LS} (h : Pair w G H p r s t) (hP : LedP w' G' p s') (hG : ∀ k, G' k → Grow G w k) (hC : Chg G w w') :
    Pair w' G' (fun k => H k ∧ k < w.heap.size) p r s' t :=
  ⟨hP, h.r.chg hC (fun k _ hk hg => h.dj k hg hk) (fun k hk hh => ⟨hh, hk⟩), fun k hk hh => (hG k hk).elim (fun hg => h.dj k hg hh.1) (fun hs => by have := hh.2; omega)⟩
theorem Pair.movR {w w' : World} {G H H' : Nat → Prop} {p r : Nat} {s t t' : LS} (h : Pair w G H p r s t) (hR : LedR w' H' r t') (hH : ∀ k, H' k → Grow H w k) (hC : Chg H w w') :
    Pair w' (fun k => G k ∧ k < w.heap.size) H' p r s t' :=
  ⟨h.p.chg hC (fun k _ hk hg => h.dj k hk hg) (fun k hk hh => ⟨hh, hk⟩), hR, fun k hk hh => (hH k hh).elim (fun hg => h.dj k hk.1 hg) (fun hs => by have := hk.2; omega)⟩

def Two (w : World) (F : Nat → Prop) (p r : Nat) (s : LS) : Prop := ∃ G H, Pair w G H p r s s ∧ ∀ k, G k ∨ H k → F k ∧ k < w.heap.size
theorem Pair.shut {w : World} {F G H : Nat → Prop} {p r : Nat} {s : LS} (h : Pair w G H p r s s) (hF : ∀ k, k < w.heap.size → G k ∨ H k → F k) : Two w F p r s :=
  ⟨fun k => G k ∧ k < w.heap.size, fun k => H k ∧ k < w.heap.size, ⟨h.p.sub fun k hk hg => ⟨hg, hk⟩, h.r.sub fun k hk hg => ⟨hg, hk⟩, fun k hk hh => h.dj k hk.1 hh.1⟩,
   fun k hk => hk.elim (fun h => ⟨hF k h.2 (.inl h.1), h.2⟩) (fun h => ⟨hF k h.2 (.inr h.1), h.2⟩)⟩
theorem Two.below {w w' : World} {F : Nat → Prop} {p r : Nat} {s : LS} (h : Two w F p r s) (b : Below w.heap.size w w') : Two w' F p r s := by
  obtain ⟨G, H, hp, hF⟩ := h
  exact ⟨G, H, hp.below b, fun k hk => ⟨(hF k hk).1, Nat.lt_of_lt_of_le (hF k hk).2 b.size⟩⟩
theorem Two.chg {w w' : World} {F F' : Nat → Prop} {p r : Nat} {s : LS} (h : Two w F p r s) (b : Chg F' w w') (hd : ∀ k, k < w.heap.size → F k → ¬ F' k) : Two w' F p r s := by
  obtain ⟨G, H, hp, hF⟩ := h
  exact ⟨G, H, hp.chg b (fun k hk => hd k (hF k (.inl hk)).2 (hF k (.inl hk)).1) (fun k hk => hd k (hF k (.inr hk)).2 (hF k (.inr hk)).1), fun k hk => ⟨(hF k hk).1, Nat.lt_of_lt_of_le (hF k hk).2 b.size⟩⟩
theorem Two.sub {w : World} {F F' : Nat → Prop} {p r : Nat} {s : LS} (h : Two w F p r s) (hs : ∀ k, k < w.heap.size → F k → F' k) : Two w F' p r s := by
  obtain ⟨G, H, hp, hF⟩ := h
  exact ⟨G, H, hp, fun k hk => ⟨hs k (hF k hk).2 (hF k hk).1, (hF k hk).2⟩⟩
theorem Two.good {w : World} {F : Nat → Prop} {p r : Nat} {s : LS} (h : Two w F p r s) : s.Good := by
  obtain ⟨G, H, hp, -⟩ := h
  exact hp.p.good

end Go.Proofs.YtpfmhkkglaghgaaGreat
