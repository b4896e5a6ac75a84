/-
  What lies in memory behind Make, alive and Ask.
-/
import Derived.Test.YteigflkpopcjkaaAsk
import Derived.Test.YteigflkpopcjkaaTriP
namespace Go.Proofs.Yteigflkpopcjkaa
set_option linter.unusedSimpArgs false
set_option linter.unusedVariables false
set_option linter.unnecessarySimpa false
open Go.RowKit

structure TS0 (w : World) (k : W4) (p r g : Nat) (s : LS) (W : World) : Prop where
  two : Two W (fun j => w.heap.size + 1 ≤ j ∧ j < g) p r s
  kb : W.heap[w.heap.size]? = some (.cells #[.int .u16 k.a, .int .u16 k.b, .int .u16 k.c, .int .u16 k.d] 76 (0, 0))
  t : W.heap[g]? = some (.cells #[.pointer (some ⟨p, 0, none⟩), .pointer (some ⟨r, 0, none⟩)] 41 (0, 0))
  bel : Below w.heap.size w W
  len : s.all.length ≤ 80
  ring : 4 ≤ s.ring ∧ s.ring ≤ 39
  lg : w.heap.size < g
theorem TS0.below {w W W' : World} {k : W4} {p r g : Nat} {s : LS} (h : TS0 w k p r g s W) (b : Below W.heap.size W W') : TS0 w k p r g s W' :=
  ⟨h.two.below b, (b.block _ (lt_of_block h.kb)).trans h.kb, (b.block _ (lt_of_block h.t)).trans h.t, h.bel.trans (b.mono h.bel.size), h.len, h.ring, h.lg⟩
theorem TS0.of {w w2 : World} {k : W4} {p r : Nat} {s : LS} (hT : Two w2 (fun j => (w.alloc (.cells #[.int .u16 k.a, .int .u16 k.b, .int .u16 k.c, .int .u16 k.d] 76)).heap.size ≤ j) p r s)
    (b : Below (w.alloc (.cells #[.int .u16 k.a, .int .u16 k.b, .int .u16 k.c, .int .u16 k.d] 76)).heap.size (w.alloc (.cells #[.int .u16 k.a, .int .u16 k.b, .int .u16 k.c, .int .u16 k.d] 76)) w2) (hl : s.all.length ≤ 80) {ring lim : Int} (hr : s.ring = (LS.new ring lim).ring) (r0 : ring ≤ 39) :
    TS0 w k p r w2.heap.size s (w2.alloc (.cells #[.pointer (some ⟨p, 0, none⟩), .pointer (some ⟨r, 0, none⟩)] 41)) := by
  have b1 := box_below w (.cells #[.int .u16 k.a, .int .u16 k.b, .int .u16 k.c, .int .u16 k.d] 76)
  have k1 := heap_alloc_new w (.cells #[.int .u16 k.a, .int .u16 k.b, .int .u16 k.c, .int .u16 k.d] 76)
  have z1 : (w.alloc (.cells #[.int .u16 k.a, .int .u16 k.b, .int .u16 k.c, .int .u16 k.d] 76)).heap.size = w.heap.size + 1 := by simp
  generalize (w.alloc (.cells #[.int .u16 k.a, .int .u16 k.b, .int .u16 k.c, .int .u16 k.d] 76)) = w1 at *
  have b2 := box_below w2 (.cells #[.pointer (some ⟨p, 0, none⟩), .pointer (some ⟨r, 0, none⟩)] 41)
  have e2 := heap_alloc_new w2 (.cells #[.pointer (some ⟨p, 0, none⟩), .pointer (some ⟨r, 0, none⟩)] 41)
  have s1 := b.size
  have k2 := (b.block _ (lt_of_block k1)).trans k1
  refine ⟨(hT.sub (fun j hj h => ⟨by omega, hj⟩)).below b2, (b2.block _ (lt_of_block k2)).trans k2, e2, (b1.trans (b.mono b1.size)).trans (b2.mono (by omega)), hl, ?_, by omega⟩
  rw [hr]
  simp [LS.new]
  omega

structure TS (w : World) (k : W4) (p r g h : Nat) (s : LS) (a : Ak) (W : World) : Prop where
  z : TS0 w k p r g s W
  r : AkR W a
  x : W.heap[h]? = some (.cells a.cells 71 (0, 0))
  gh : g < h
  m : Asked a
  la : ∀ b off, a.A = some ⟨b, off, none⟩ → 0 < a.sp.length → b < h
  ga : ∀ b off, a.A = some ⟨b, off, none⟩ → g < b
theorem TS.below {w W W' : World} {k : W4} {p r g h : Nat} {s : LS} {a : Ak} (H : TS w k p r g h s a W) (b : Below W.heap.size W W') : TS w k p r g h s a W' :=
  ⟨H.z.below b, H.r.below b, (b.block _ (lt_of_block H.x)).trans H.x, H.gh, H.m, H.la, H.ga⟩
theorem TS.of {w W : World} {k : W4} {p r g : Nat} {s : LS} {a : Ak} (h : TS0 w k p r g s W) (hr : AkR W a) (m : Asked a) (ga : ∀ b off, a.A = some ⟨b, off, none⟩ → g < b) : TS w k p r g W.heap.size s a (W.alloc (.cells a.cells 71)) := by
  have b := box_below W (.cells a.cells 71)
  exact ⟨h.below b, hr.below b, heap_alloc_new W _, lt_of_block h.t, m, fun b off e hn => hr.rs.lt (by omega) hn b off e, ga⟩
theorem TS.ledP {w W : World} {k : W4} {p r g h : Nat} {s : LS} {a : Ak} (H : TS w k p r g h s a W) : ∃ G, LedP W G p s ∧ ∀ j, G j → w.heap.size + 1 ≤ j ∧ j < g := by
  obtain ⟨G, Q, hP, hF⟩ := H.z.two
  exact ⟨G, hP.p, fun j hj => (hF j (.inl hj)).1⟩
theorem TS.ledR {w W : World} {k : W4} {p r g h : Nat} {s : LS} {a : Ak} (H : TS w k p r g h s a W) : ∃ G, LedR W G r s := by
  obtain ⟨G, Q, hP, hF⟩ := H.z.two
  exact ⟨Q, hP.r⟩
/-- Another nonce is laid into it. -/
theorem TS.set_ {w W : World} {k : W4} {p r g h : Nat} {s : LS} {a : Ak} (H : TS w k p r g h s a W) (v : Int) (hv : isU64 v) : TS w k p r g h s { a with tr := v } (W.setCell ⟨h, 2, none⟩ (.int .u64 v)) := by
  have hC : Chg (fun j => j = h) W (W.setCell ⟨h, 2, none⟩ (.int .u64 v)) := (Chg.refl (fun j => j = h) W).setCell (p := ⟨h, 2, none⟩) (.inl rfl) _
  have hgh := H.gh
  have hlg := H.z.lg
  refine ⟨⟨H.z.two.chg hC (fun j _ hj e => by omega), hC.blk H.z.kb (by omega), hC.blk H.z.t (by omega), H.z.bel.trans (hC.below H.z.bel.size (fun j hj e => by omega)), H.z.len, H.z.ring, H.z.lg⟩, ⟨?_, ?_, H.r.us, H.r.um, hv, H.r.ux⟩, ?_, H.gh, ⟨H.m.good, H.m.one, H.m.two, H.m.mm⟩, H.la, H.ga⟩
  · exact H.r.rs.chg hC (fun b off e hn e' => by have := H.la b off e hn; omega)
  · exact H.r.rm.chg hC (fun b off e hn e' => by rw [H.m.mm] at hn; simp at hn)
  · simpa [Ak.cells] using heap_setCell_same W h 2 _ _ (.int .u64 v) H.x
/-- The program's ledger alone turns. -/
structure TP (w : World) (k : W4) (p g h : Nat) (s : LS) (a : Ak) (W : World) : Prop where
  led : LedP W (fun j => w.heap.size + 1 ≤ j ∧ j < g) p s
  t : ∃ r, W.heap[g]? = some (.cells #[.pointer (some ⟨p, 0, none⟩), .pointer (some ⟨r, 0, none⟩)] 41 (0, 0))
  bel : Below w.heap.size w W
  r : AkR W a
  x : W.heap[h]? = some (.cells a.cells 71 (0, 0))
  gh : g < h
  m : Asked a
  la : ∀ b off, a.A = some ⟨b, off, none⟩ → 0 < a.sp.length → b < h
  ga : ∀ b off, a.A = some ⟨b, off, none⟩ → g < b
  hw : w.heap.size < h
theorem TS.tp {w W : World} {k : W4} {p r g h : Nat} {s : LS} {a : Ak} (H : TS w k p r g h s a W) : TP w k p g h s a W := by
  obtain ⟨G, hL, hG⟩ := H.ledP
  exact ⟨hL.sub (fun j _ hj => hG j hj), ⟨r, H.z.t⟩, H.z.bel, H.r, H.x, H.gh, H.m, H.la, H.ga, Nat.lt_trans H.z.lg H.gh⟩
theorem TP.below {w W W' : World} {k : W4} {p g h : Nat} {s : LS} {a : Ak} (H : TP w k p g h s a W) (b : Below W.heap.size W W') : TP w k p g h s a W' := by
  obtain ⟨r, ht⟩ := H.t
  exact ⟨H.led.below b, ⟨r, (b.block _ (lt_of_block ht)).trans ht⟩, H.bel.trans (b.mono H.bel.size), H.r.below b, (b.block _ (lt_of_block H.x)).trans H.x, H.gh, H.m, H.la, H.ga, H.hw⟩
theorem TP.chg {w W W' : World} {k : W4} {p g h : Nat} {s s' : LS} {a : Ak} (H : TP w k p g h s a W) (hL : LedP W' (fun j => w.heap.size + 1 ≤ j ∧ j < g) p s') (hC : Chg (fun j => w.heap.size + 1 ≤ j ∧ j < g) W W') : TP w k p g h s' a W' := by
  obtain ⟨r, ht⟩ := H.t
  have := H.gh
  exact ⟨hL, ⟨r, hC.blk ht (by omega)⟩, H.bel.trans (hC.below H.bel.size (fun j hj e => by omega)), ⟨H.r.rs.chg hC (fun b off e _ e' => by have := H.ga b off e; omega), H.r.rm.chg hC (fun b off e hn e' => by rw [H.m.mm] at hn; simp at hn), H.r.us, H.r.um, H.r.ut, H.r.ux⟩, hC.blk H.x (by omega), H.gh, H.m, H.la, H.ga, H.hw⟩
theorem TP.grow {w W W' : World} {k : W4} {p g h : Nat} {s : LS} {a : Ak} (H : TP w k p g h s a W) (b : Below (h + 1) W W') : TP w k p g h s a W' := by
  obtain ⟨r, ht⟩ := H.t
  have gh := H.gh
  have hC : Chg (fun j => h + 1 ≤ j) W W' := ⟨b.os, b.tape, b.output, b.size, fun k _ hF => b.block k (by omega)⟩
  have hz : w.heap.size ≤ h + 1 := Nat.le_of_lt (Nat.lt_of_not_le fun e => by
    have := lt_of_block H.x
    have := H.hw
    omega)
  exact ⟨H.led.chg hC (fun j _ hj e => by omega) (fun _ _ h => h), ⟨r, hC.blk ht (by omega)⟩, H.bel.trans (b.mono hz), ⟨H.r.rs.chg hC (fun b off e hn e' => by have := H.la b off e hn; omega), H.r.rm.chg hC (fun b off e hn e' => by rw [H.m.mm] at hn; simp at hn), H.r.us, H.r.um, H.r.ut, H.r.ux⟩, hC.blk H.x (by omega), H.gh, H.m, H.la, H.ga, H.hw⟩

end Go.Proofs.Yteigflkpopcjkaa
