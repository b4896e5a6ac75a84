/-
  A pair of ledgers in a box: the program's alone, or each of the two.
-/
import Derived.Test.YteigflkpopcjkaaLedTells
namespace Go.Proofs.Yteigflkpopcjkaa
set_option linter.unusedSimpArgs false
set_option linter.unusedVariables false
set_option linter.unnecessarySimpa false
open Go.RowKit

theorem LS.eq_new {s : LS} {ring limit : Int} (h1 : s.ring = (LS.new ring limit).ring) (h2 : s.limit = (LS.new ring limit).limit) (h3 : s.all.length ≤ ([] : List Dd).length) : s = LS.new ring limit := by
  cases s
  simp at h1 h2 h3
  simp [h1, h2, h3, LS.new]
/-- As PB, where the ledger may grow. -/
structure PG (w : World) (p r g : Nat) (s : LS) (v : World) : Prop where
  led : LedP v (But w g) p s
  t : v.heap[g]? = some (.cells #[.pointer (some ⟨p, 0, none⟩), .pointer (some ⟨r, 0, none⟩)] 41 (0, 0))
  ge : w.heap.size ≤ g
  bel : Below w.heap.size w v
theorem PG.below {w v v' : World} {p r g : Nat} {s : LS} (h : PG w p r g s v) (b : Below v.heap.size v v') : PG w p r g s v' :=
  ⟨h.led.below b, (b.block _ (lt_of_block h.t)).trans h.t, h.ge, h.bel.trans (b.mono h.bel.size)⟩
theorem PG.step {w v v' : World} {p r g : Nat} {s s' : LS} (h : PG w p r g s v) (hL : LedP v' (Grow (But w g) v) p s') (hC : Chg (But w g) v v') : PG w p r g s' v' := by
  have hg := lt_of_block h.t
  refine ⟨hL.sub (fun j _ hj => ?_), hC.blk h.t (fun e => e.2 rfl), h.ge, h.bel.trans (hC.below h.bel.size (fun k hk e => by have := e.1; omega))⟩
  rcases hj with hj | hj
  · exact hj
  · have := h.bel.size
    exact ⟨by omega, by omega⟩
theorem PG.of {w w1 : World} {p r : Nat} {s : LS} (hT : Two w1 (fun j => w.heap.size ≤ j) p r s) (hb : Below w.heap.size w w1) :
    PG w p r w1.heap.size s (w1.alloc (.cells #[.pointer (some ⟨p, 0, none⟩), .pointer (some ⟨r, 0, none⟩)] 41)) := by
  obtain ⟨G, H, hP, hF⟩ := hT
  have eb := box_below w1 (.cells #[.pointer (some ⟨p, 0, none⟩), .pointer (some ⟨r, 0, none⟩)] 41)
  exact ⟨(hP.p.below eb).sub (fun k hk hg => ⟨(hF k (.inl hg)).1, by have := (hF k (.inl hg)).2; omega⟩), heap_alloc_new w1 _, hb.size, hb.trans (eb.mono hb.size)⟩

theorem TellRel.of {w w1 : World} {p r : Nat} {s : LS} (hT : Two w1 (fun j => w.heap.size ≤ j) p r s) (hb : Below w.heap.size w w1) (hl : s.all.length ≤ 80) :
    TellRel w p r w1.heap.size 80 s (w1.alloc (.cells #[.pointer (some ⟨p, 0, none⟩), .pointer (some ⟨r, 0, none⟩)] 41)) := by
  have eb := box_below w1 (.cells #[.pointer (some ⟨p, 0, none⟩), .pointer (some ⟨r, 0, none⟩)] 41)
  refine ⟨?_, heap_alloc_new w1 _, hb.trans (eb.mono hb.size), hl⟩
  obtain ⟨G, H, hP, hF⟩ := hT
  exact ⟨G, H, hP.below eb, fun k hk => ⟨⟨(hF k hk).1, by have := (hF k hk).2; omega⟩, Nat.lt_of_lt_of_le (hF k hk).2 eb.size⟩⟩
theorem TellRel.led {w wr : World} {p r g k : Nat} {s : LS} (h : TellRel w p r g k s wr) : ∃ G, LedP wr G p s := by
  obtain ⟨G, H, hP, _⟩ := h.two
  exact ⟨G, hP.p⟩
theorem TellRel.ledR {w wr : World} {p r g k : Nat} {s : LS} (h : TellRel w p r g k s wr) : ∃ G, LedR wr G r s := by
  obtain ⟨G, H, hP, _⟩ := h.two
  exact ⟨H, hP.r⟩

theorem Rd.lit_at (w : World) (size : Nat) (cs : Array Value) (t : TypeId) (n : Nat) (xs : List Value) (g : Nat) (hg : g = w.heap.size) (hx : cs.toList = xs) (hs : xs.length = n * size) (hn : n ≤ maxLen) :
    Rd (w.alloc (.cells cs t)) size (some ⟨g, 0, none⟩) n n xs := by
  subst hg
  exact Rd.lit w size cs t n xs hx hs hn

end Go.Proofs.Yteigflkpopcjkaa
