/-
  A row of spans read from bytes: the reference's getRow. · An acknowledgment read from bytes: the reference's GetAck.
-/
import Derived.Test.YtkedfipeebjcjaaOct1
import Derived.Test.YtkedfipeebjcjaaOct5
namespace Go.Proofs.Ytkedfipeebjcjaa
set_option linter.unusedSimpArgs false
set_option linter.unusedVariables false
set_option linter.unnecessarySimpa false
open Go.RowKit

/-- What getRow answers. -/
def RowVal (least : Int) (l : List Int) (at_ : Nat) (w w' : World) (e : Ending) : Prop := match spansP least (l.drop at_) with
  | .error er => ∃ x, e = .returned (.tuple #[.slice none 0 0, .int .i64 x, .int .i64 er]) ∧ Below w.heap.size w w'
  | .ok (L, r) => ∃ (A : Option Addr) (c at2 : Nat), e = .returned (.tuple #[.slice A L.length c, .int .i64 at2, .int .i64 0]) ∧ r = l.drop at2 ∧ at2 ≤ l.length ∧ Rd w' 2 A L.length c (Ss L) ∧ Below w.heap.size w w' ∧ (∀ b off, A = some ⟨b, off, none⟩ → 0 < L.length → w.heap.size ≤ b)
theorem numAt_err {l : List Int} {at_ : Nat} {er : Int} (h : numP (l.drop at_) = .error er) : numAt l at_ = .returned (.tuple #[.int .u64 0, .int .i64 at_, .int .i64 er]) := by unfold numAt; rw [h]
theorem numAt_ok {l : List Int} {at_ k : Nat} {n : Int} (h : numP (l.drop at_) = .ok (n, k)) : numAt l at_ = .returned (.tuple #[.int .u64 n, .int .i64 ((at_ : Int) + k), .int .i64 0]) := by unfold numAt; rw [h]

end Go.Proofs.Ytkedfipeebjcjaa

namespace Go.Proofs.Ytkedfipeebjcjaa
set_option linter.unusedSimpArgs false
set_option linter.unusedVariables false
set_option linter.unnecessarySimpa false
open Go.RowKit

/-- Where the walk stands. -/
structure DgS (w : World) (g0 g7 bk off c : Nat) (L : List Int) (a : Ak) (W : World) : Prop where
  rd : Rd W 1 (some ⟨bk, off, none⟩) L.length c (U8 L)
  lb : bk < w.heap.size
  z : W.heap[g0]? = some (.cells zAck 48 (0, 0))
  t : W.heap[g7]? = some (.cells #[.slice a.A a.sp.length a.c, .slice a.B a.mm.length a.d, .int .u64 a.tr, .int .u64 a.xo, .bool a.od] 48 (0, 0))
  rs : Rd W 2 a.A a.sp.length a.c (Ss a.sp)
  rm : Rd W 2 a.B a.mm.length a.d (Ss a.mm)
  na : ∀ b off, a.A = some ⟨b, off, none⟩ → 0 < a.sp.length → g7 < b
  nb : ∀ b off, a.B = some ⟨b, off, none⟩ → 0 < a.mm.length → g7 < b
  bel : Below w.heap.size w W
  l0 : w.heap.size ≤ g0
  l1 : g0 < g7
theorem DgS.below {w W W' : World} {g0 g7 bk off c : Nat} {L : List Int} {a : Ak} (h : DgS w g0 g7 bk off c L a W) (b : Below W.heap.size W W') : DgS w g0 g7 bk off c L a W' :=
  ⟨h.rd.below b, h.lb, (b.block _ (lt_of_block h.z)).trans h.z, (b.block _ (lt_of_block h.t)).trans h.t, h.rs.below b, h.rm.below b, h.na, h.nb, h.bel.trans (b.mono h.bel.size), h.l0, h.l1⟩
/-- One field of the acknowledgment has been stored. -/
theorem DgS.put {w W : World} {g0 g7 bk off c i : Nat} {L : List Int} {a a' : Ak} (v : Value) (h : DgS w g0 g7 bk off c L a W) (hc : a'.cells = a.cells.setIfInBounds i v)
    (h1 : Rd W 2 a'.A a'.sp.length a'.c (Ss a'.sp)) (h2 : Rd W 2 a'.B a'.mm.length a'.d (Ss a'.mm)) (h3 : ∀ b off, a'.A = some ⟨b, off, none⟩ → 0 < a'.sp.length → g7 < b) (h4 : ∀ b off, a'.B = some ⟨b, off, none⟩ → 0 < a'.mm.length → g7 < b) :
    DgS w g0 g7 bk off c L a' (W.setCell ⟨g7, i, none⟩ v) := by
  have e1 := h.l0; have e2 := h.l1; have e3 := h.lb
  have hC : Chg (fun j => j = g7) W (W.setCell ⟨g7, i, none⟩ v) := (Chg.refl (fun j => j = g7) W).setCell (p := ⟨g7, i, none⟩) (.inl rfl) _
  refine ⟨h.rd.chg hC (fun b off e hn hb => by cases e; omega), e3, hC.blk h.z (fun e => by omega), ?_, h1.chg hC (fun b off e hn hb => by have := h3 b off e hn; omega), h2.chg hC (fun b off e hn hb => by have := h4 b off e hn; omega), h3, h4,
    h.bel.trans (hC.below h.bel.size (fun k hk e => by omega)), e1, e2⟩
  show _ = some (Obj.cells a'.cells _ _)
  rw [hc]
  exact heap_setCell_same W g7 i _ _ v h.t
theorem DgS.err {w W W' : World} {g0 g7 bk off c : Nat} {L : List Int} {a : Ak} (h : DgS w g0 g7 bk off c L a W) (b : Below W.heap.size W W') (i : Nat) (v : Value) :
    W'.heap[g7]? = some (.cells #[.slice a.A a.sp.length a.c, .slice a.B a.mm.length a.d, .int .u64 a.tr, .int .u64 a.xo, .bool a.od] 48 (0, 0)) ∧ (W'.setCell ⟨g7, i, none⟩ v).heap[g0]? = some (.cells #[.slice none 0 0, .slice none 0 0, .int .u64 0, .int .u64 0, .bool false] 48 (0, 0)) ∧ Below w.heap.size w (W'.setCell ⟨g7, i, none⟩ v) := by
  have h' := h.below b
  have h1 := h.l0; have h2 := h.l1
  have hC2 : Chg (fun j => j = g7) W' (W'.setCell ⟨g7, i, none⟩ v) := (Chg.refl (fun j => j = g7) W').setCell (p := ⟨g7, i, none⟩) (.inl rfl) _
  exact ⟨h'.t, hC2.blk h'.z (fun e => by omega), h'.bel.trans (hC2.below h'.bel.size (fun k hk e => by omega))⟩
theorem DgS.lt {w W : World} {g0 g7 bk off c : Nat} {L : List Int} {a : Ak} (h : DgS w g0 g7 bk off c L a W) : g0 ≠ g7 ∧ g7 ≠ g0 ∧ g0 < W.heap.size ∧ g7 < W.heap.size := by
  have h2 := h.l1
  have := lt_of_block h.z
  have := lt_of_block h.t
  exact ⟨by omega, by omega, by omega, by omega⟩
theorem wordAt_err {l : List Int} {at_ : Nat} {er : Int} (h : wordP (l.drop at_) = .error er) : wordAt l at_ = .returned (.tuple #[.int .u64 0, .int .i64 at_, .int .i64 er]) := by unfold wordAt; rw [h]
theorem wordAt_ok {l : List Int} {at_ : Nat} {n : Int} (h : wordP (l.drop at_) = .ok n) : wordAt l at_ = .returned (.tuple #[.int .u64 n, .int .i64 ((at_ : Int) + 8), .int .i64 0]) := by unfold wordAt; rw [h]
theorem wordP_len {b : List Int} {n : Int} (h : wordP b = .ok n) : 8 ≤ b.length := by
  unfold wordP at h
  split at h
  · cases h
  · omega
