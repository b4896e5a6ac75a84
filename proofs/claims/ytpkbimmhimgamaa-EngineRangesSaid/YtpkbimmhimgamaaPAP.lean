/-
  Part of the proof of EngineRanges.
-/
import Derived.Test.YtpkbimmhimgamaaPAJ
import Derived.Test.YtpkbimmhimgamaaPAO
import Derived.Test.YtpkbimmhimgamaaPAN
import Derived.Test.YtpkbimmhimgamaaPAL
import Derived.Test.YtpkbimmhimgamaaPAI
import Derived.Test.YtpkbimmhimgamaaPAB
import Derived.Test.YtpkbimmhimgamaaPAE
import Derived.Deep.RegionLaw
import Derived.Deep.DeepCutAuto
import Derived.Test.YtpkbimmhimgamaaPAA
import Derived.Defers
import Derived.Laws.Pointers
import Derived.Laws.LoneSync
import Derived.Laws.NewBlocks
import Derived.RegionTactic
import Derived.RegionCalls
namespace Go.Proofs.Ytpkbimmhimgamaa
set_option linter.unusedSimpArgs false
set_option linter.unusedVariables false
set_option linter.unnecessarySimpa false
open Go.RowKit
end Go.Proofs.Ytpkbimmhimgamaa
namespace Go.Proofs.Ytpkbimmhimgamaa
set_option linter.unusedSimpArgs false
set_option linter.unusedVariables false
set_option linter.unnecessarySimpa false
open Go.RowKit
/-- Where the walk stands. -/
structure DgS (w : World) (g0 g7 bk off c : Nat) (L : List Int) (a : Ak) (W : World) : Prop where
  rd : Rd W 1 (some ⟨bk, off, none⟩) L.length c (U8 L)
  lb : bk < w.heap.size
  z : W.heap[g0]? = some (.cells zAck 106 (0, 0))
  t : W.heap[g7]? = some (.cells #[.slice a.A a.sp.length a.c, .slice a.B a.mm.length a.d, .int .u64 a.tr, .int .u64 a.xo, .bool a.od] 106 (0, 0))
  rs : Rd W 2 a.A a.sp.length a.c (Ss a.sp)
  rm : Rd W 2 a.B a.mm.length a.d (Ss a.mm)
  na : ∀ b off, a.A = some ⟨b, off, none⟩ → 0 < a.sp.length → g7 < b
  nb : ∀ b off, a.B = some ⟨b, off, none⟩ → 0 < a.mm.length → g7 < b
  bel : Below w.heap.size w W
  l0 : w.heap.size ≤ g0
  l1 : g0 < g7
theorem DgS.below {w W W' : World} {g0 g7 bk off c : Nat} {L : List Int} {a : Ak} (h : DgS w g0 g7 bk off c L a W) (b : Below W.heap.size W W') : DgS w g0 g7 bk off c L a W' :=
  ⟨h.rd.below b, h.lb, (b.block _ (lt_of_block h.z)).trans h.z, (b.block _ (lt_of_block h.t)).trans h.t, h.rs.below b, h.rm.below b, h.na, h.nb, h.bel.trans (b.mono h.bel.size), h.l0, h.l1⟩
/-- One field of the acknowledgment has been stored. -/
theorem DgS.put {w W : World} {g0 g7 bk off c i : Nat} {L : List Int} {a a' : Ak} (v : Value) (h : DgS w g0 g7 bk off c L a W) (hc : a'.cells = a.cells.setIfInBounds i v)
    (h1 : Rd W 2 a'.A a'.sp.length a'.c (Ss a'.sp)) (h2 : Rd W 2 a'.B a'.mm.length a'.d (Ss a'.mm)) (h3 : ∀ b off, a'.A = some ⟨b, off, none⟩ → 0 < a'.sp.length → g7 < b) (h4 : ∀ b off, a'.B = some ⟨b, off, none⟩ → 0 < a'.mm.length → g7 < b) :
    DgS w g0 g7 bk off c L a' (W.setCell ⟨g7, i, none⟩ v) := by
  have e1 := h.l0; have e2 := h.l1; have e3 := h.lb
  have hC : Chg (fun j => j = g7) W (W.setCell ⟨g7, i, none⟩ v) := (Chg.refl (fun j => j = g7) W).setCell (p := ⟨g7, i, none⟩) (.inl rfl) _
  refine ⟨h.rd.chg hC (fun b off e hn hb => by cases e; omega), e3, hC.blk h.z (fun e => by omega), ?_, h1.chg hC (fun b off e hn hb => by have := h3 b off e hn; omega), h2.chg hC (fun b off e hn hb => by have := h4 b off e hn; omega), h3, h4,
    h.bel.trans (hC.below h.bel.size (fun k hk e => by omega)), e1, e2⟩
  show _ = some (Obj.cells a'.cells _ _)
  rw [hc]
  exact heap_setCell_same W g7 i _ _ v h.t
theorem DgS.err {w W W' : World} {g0 g7 bk off c : Nat} {L : List Int} {a : Ak} (h : DgS w g0 g7 bk off c L a W) (b : Below W.heap.size W W') (i : Nat) (v : Value) :
    W'.heap[g7]? = some (.cells #[.slice a.A a.sp.length a.c, .slice a.B a.mm.length a.d, .int .u64 a.tr, .int .u64 a.xo, .bool a.od] 106 (0, 0)) ∧ (W'.setCell ⟨g7, i, none⟩ v).heap[g0]? = some (.cells #[.slice none 0 0, .slice none 0 0, .int .u64 0, .int .u64 0, .bool false] 106 (0, 0)) ∧ Below w.heap.size w (W'.setCell ⟨g7, i, none⟩ v) := by
  have h' := h.below b
  have h1 := h.l0; have h2 := h.l1
  have hC2 : Chg (fun j => j = g7) W' (W'.setCell ⟨g7, i, none⟩ v) := (Chg.refl (fun j => j = g7) W').setCell (p := ⟨g7, i, none⟩) (.inl rfl) _
  exact ⟨h'.t, hC2.blk h'.z (fun e => by omega), h'.bel.trans (hC2.below h'.bel.size (fun k hk e => by omega))⟩
theorem DgS.lt {w W : World} {g0 g7 bk off c : Nat} {L : List Int} {a : Ak} (h : DgS w g0 g7 bk off c L a W) : g0 ≠ g7 ∧ g7 ≠ g0 ∧ g0 < W.heap.size ∧ g7 < W.heap.size := by
  have h2 := h.l1
  have := lt_of_block h.z
  have := lt_of_block h.t
  exact ⟨by omega, by omega, by omega, by omega⟩
end Go.Proofs.Ytpkbimmhimgamaa
namespace Go.Proofs.Ytpkbimmhimgamaa
set_option linter.unusedSimpArgs false
set_option linter.unusedVariables false
set_option linter.unnecessarySimpa false
open Go.RowKit
/-- Where the walk stands. -/
structure DhS (w : World) (g0 g7 : Nat) (A : Option Addr) (c : Nat) (L : List Int) (d : DatD) (W : World) : Prop where
  rd : Rd W 1 A L.length c (U8 L)
  lb : ∀ b off, A = some ⟨b, off, none⟩ → 0 < L.length → b < w.heap.size
  z : W.heap[g0]? = some (.cells #[.int .u64 0, .int .u64 0, .int .u64 0, .int .u64 0, .int .i64 0, .slice none 0 0] 74 (0, 0))
  t : W.heap[g7]? = some (.cells #[.int .u64 d.pn, .int .u64 d.least, .int .u64 d.off, .int .u64 d.nonce, .int .i64 d.ecn, .slice none 0 0] 74 (0, 0))
  bel : Below w.heap.size w W
  l0 : w.heap.size ≤ g0
  l1 : g0 < g7
theorem DhS.put {w W : World} {g0 g7 c i : Nat} {A : Option Addr} {L : List Int} {a a' : DatD} (v : Value) (h : DhS w g0 g7 A c L a W) (hc : a'.cells none 0 0 = (a.cells none 0 0).setIfInBounds i v) :
    DhS w g0 g7 A c L a' (W.setCell ⟨g7, i, none⟩ v) := by
  have e1 := h.l0; have e2 := h.l1
  have hC : Chg (fun j => j = g7) W (W.setCell ⟨g7, i, none⟩ v) := (Chg.refl (fun j => j = g7) W).setCell (p := ⟨g7, i, none⟩) (.inl rfl) _
  refine ⟨h.rd.chg hC (fun b off e hn hb => by have := h.lb b off e hn; omega), h.lb, hC.blk h.z (fun e => by omega), ?_, h.bel.trans (hC.below h.bel.size (fun k hk e => by omega)), e1, e2⟩
  show _ = some (Obj.cells (a'.cells none 0 0) _ _)
  rw [hc]
  exact heap_setCell_same W g7 i _ _ v h.t
theorem DhS.err {w W : World} {g0 g7 c : Nat} {A : Option Addr} {L : List Int} {a : DatD} (h : DhS w g0 g7 A c L a W) (i : Nat) (v : Value) :
    (W.setCell ⟨g7, i, none⟩ v).heap[g0]? = some (.cells #[.int .u64 0, .int .u64 0, .int .u64 0, .int .u64 0, .int .i64 0, .slice none 0 0] 74 (0, 0)) ∧ Below w.heap.size w (W.setCell ⟨g7, i, none⟩ v) := by
  have h1 := h.l0; have h2 := h.l1
  have hC2 : Chg (fun j => j = g7) W (W.setCell ⟨g7, i, none⟩ v) := (Chg.refl (fun j => j = g7) W).setCell (p := ⟨g7, i, none⟩) (.inl rfl) _
  exact ⟨hC2.blk h.z (fun e => by omega), h.bel.trans (hC2.below h.bel.size (fun k hk e => by omega))⟩
theorem DhS.lt {w W : World} {g0 g7 c : Nat} {A : Option Addr} {L : List Int} {a : DatD} (h : DhS w g0 g7 A c L a W) : g0 ≠ g7 ∧ g7 ≠ g0 ∧ g0 < W.heap.size ∧ g7 < W.heap.size := by
  have h2 := h.l1
  have := lt_of_block h.z
  have := lt_of_block h.t
  exact ⟨by omega, by omega, by omega, by omega⟩

end Go.Proofs.Ytpkbimmhimgamaa
namespace Go.Proofs.Ytpkbimmhimgamaa
set_option linter.unusedSimpArgs false
set_option linter.unusedVariables false
set_option linter.unnecessarySimpa false
open Go.RowKit
def putDatP (d : DatD) : List Int := 1 :: d.ecn :: (putN d.pn ++ (putN d.least ++ (putN d.off ++ (eightN d.nonce ++ (putN d.body.length ++ d.body)))))
theorem putDat_u8 (d : DatD) (h : d.Ok) : ∀ x ∈ putDatP d, 0 ≤ x ∧ x ≤ 255 := by
  have h1 := h.le; have h2 := h.pn; have h3 := h.off; have h4 := h.len; have h5 := h.ecn
  have e1 := putN_u8 d.pn (by omega) (by omega)
  have e2 := putN_u8 d.least (by omega) (by omega)
  have e3 := putN_u8 d.off (by omega) (by omega)
  have e4 : ∀ x ∈ eightN d.nonce, 0 ≤ x ∧ x ≤ 255 := bytesN_u8 8 d.nonce
  have e5 := putN_u8 (d.body.length : Int) (by omega) (by omega)
  intro x hx
  unfold putDatP at hx
  simp only [List.mem_cons, List.mem_append] at hx
  rcases hx with rfl | rfl | hx | hx | hx | hx | hx | hx
  · omega
  · omega
  · exact e1 x hx
  · exact e2 x hx
  · exact e3 x hx
  · exact e4 x hx
  · exact e5 x hx
  · exact h.u8 x hx
theorem putDat_len (d : DatD) (h : d.Ok) : (putDatP d).length ≤ 2000 := by
  have h1 := h.le; have h2 := h.pn; have h3 := h.off; have h4 := h.len
  have e1 := putN_le d.pn (by omega) (by omega)
  have e2 := putN_le d.least (by omega) (by omega)
  have e3 := putN_le d.off (by omega) (by omega)
  have e5 := putN_le (d.body.length : Int) (by omega) (by omega)
  unfold putDatP
  simp [eightN]
  omega
/-- What is put reads back. -/
theorem datP_put (d : DatD) (h : d.Ok) : datP (putDatP d) = .ok d := by
  have h1 := h.le; have h2 := h.pn; have h3 := h.off; have h4 := h.len; have h5 := h.ecn
  have e1 := numP_putN d.pn (putN d.least ++ (putN d.off ++ (eightN d.nonce ++ (putN d.body.length ++ d.body)))) (by omega) (by omega)
  have e2 := numP_putN d.least (putN d.off ++ (eightN d.nonce ++ (putN d.body.length ++ d.body))) (by omega) (by omega)
  have e3 := numP_putN d.off (eightN d.nonce ++ (putN d.body.length ++ d.body)) (by omega) (by omega)
  have e4 := wordP_eight d.nonce (putN d.body.length ++ d.body) h.nonce
  have e5 := numP_putN (d.body.length : Int) d.body (by omega) (by omega)
  have l1 := putN_len d.pn (by omega) (by omega)
  have l2 := putN_len d.least (by omega) (by omega)
  have l3 := putN_len d.off (by omega) (by omega)
  have l5 := putN_len (d.body.length : Int) (by omega) (by omega)
  have l4 : (eightN d.nonce).length = 8 := by simp [eightN]
  unfold putDatP
  rw [datP_rest (by omega), dat1_k e1, ← l1, List.drop_left, dat2_k e2, if_neg (by omega), ← l2, List.drop_left, dat3_k e3, ← l3, List.drop_left, dat4_k e4]
  rw [← l4, List.drop_left, dat5_k e5, ← l5, List.drop_left, if_neg (by omega), if_neg (by omega), if_neg (by omega)]

/-- Where the walk stands. -/
structure PdS (w : World) (d : DatD) (A : Option Addr) (c : Nat) (v : Value) (D : List Int) (W : World) : Prop where
  own : W.ownsRow (w.heap.size + 1) 5 1 v D.length (U8 D)
  bel : Below (w.heap.size + 1) (w.alloc (.cells #[.int .u64 d.pn, .int .u64 d.least, .int .u64 d.off, .int .u64 d.nonce, .int .i64 d.ecn, .slice A d.body.length c] 74)) W
theorem PdS.t {w W : World} {d : DatD} {A : Option Addr} {c : Nat} {v : Value} {D : List Int} (h : PdS w d A c v D W) : W.heap[w.heap.size]? = some (.cells #[.int .u64 d.pn, .int .u64 d.least, .int .u64 d.off, .int .u64 d.nonce, .int .i64 d.ecn, .slice A d.body.length c] 74 (0, 0)) ∧ w.heap.size + 1 ≤ W.heap.size := by
  have e := h.bel.block w.heap.size (by omega)
  exact ⟨e.trans (heap_alloc_new w _), by have := h.bel.size; simp at this; omega⟩
theorem PdS.step {w W W' : World} {d : DatD} {A : Option Addr} {c : Nat} {v v' : Value} {D D' : List Int} (h : PdS w d A c v D W) (ho : W'.ownsRow (w.heap.size + 1) 5 1 v' D'.length (U8 D')) (hb : Below (w.heap.size + 1) W W') : PdS w d A c v' D' W' :=
  ⟨ho, h.bel.trans hb⟩

end Go.Proofs.Ytpkbimmhimgamaa
namespace Go.Proofs.Ytpkbimmhimgamaa
set_option linter.unusedSimpArgs false
set_option linter.unusedVariables false
set_option linter.unnecessarySimpa false
open Go.RowKit
def DatD.arr (d : DatD) (A : Option Addr) (c : Nat) : Array Value := #[.int .u64 d.pn, .int .u64 d.least, .int .u64 d.off, .int .u64 d.nonce, .int .i64 d.ecn, .slice A d.body.length c]
theorem head_coin (b : Bool) (w : World) :
    Calls Try.prog 72 #[.bool b] w fun e w' => e = .returned (.int .i64 (if b then 1 else 2)) ∧ Qt w w' := by
  cases b
  · go_enter Try.func72, Try.ntmps72
    go_wp2
    go_ret
    exact ⟨rfl, Qt.refl _⟩
  · go_enter Try.func72, Try.ntmps72
    go_wp2
    go_ret
    exact ⟨rfl, Qt.refl _⟩
theorem head_ecnP (x : Int) (w : World) (h : 1 ≤ x ∧ x ≤ 3) :
    Calls Try.prog 46 #[.int .i64 x] w fun e w' => e = .returned (.bool true) ∧ Qt w w' := by
  rcases (by omega : x = 1 ∨ x = 2 ∨ x = 3) with rfl | rfl | rfl <;>
  · go_enter Try.func46, Try.ntmps46
    go_wp2
    go_ret
    exact ⟨rfl, Qt.refl _⟩
theorem DatD.Ok.facts {d : DatD} (h : d.Ok) : decide (d.pn ≤ 4611686018427387903) = true ∧ decide (d.least ≤ d.pn) = true ∧ IntKind.u64.wrap (d.body.length : Int) = (d.body.length : Int) ∧ decide ((1 : Int) ≤ (d.body.length : Int)) = true ∧ decide ((d.body.length : Int) ≤ 1500) = true ∧ decide (1 ≤ d.body.length) = true ∧ decide (d.body.length ≤ 1500) = true ∧
    IntKind.u64.wrap (4611686018427387903 - (d.body.length : Int)) = 4611686018427387903 - (d.body.length : Int) ∧ decide (d.off ≤ 4611686018427387903 - (d.body.length : Int)) = true := by
  have h1 := h.pn
  have h2 := h.le
  have h3 := h.off
  have h4 := h.len
  refine ⟨by simp; omega, by simp; omega, IntWalk.u64_in _ (by omega), by simp; omega, by simp; omega, by simp; omega, by simp; omega, IntWalk.u64_in _ (by omega), by simp; omega⟩
set_option maxHeartbeats 2000000 in
set_option maxRecDepth 100000 in
theorem head_may (d : DatD) (A : Option Addr) (c : Nat) (w : World) (h : d.Ok) :
    Calls Try.prog 85 #[.agg (d.arr A c)] w fun e w' => e = .returned (.bool true) ∧ Below w.heap.size w w' := by
  have S := Bx.one w #[.int .u64 d.pn, .int .u64 d.least, .int .u64 d.off, .int .u64 d.nonce, .int .i64 d.ecn, .slice A d.body.length c] 74
  have f := h.facts
  have K := Lib.hid (fun w => head_ecnP d.ecn w h.ecn)
  unfold DatD.arr
  clear h
  go_enter Try.func85, Try.ntmps85
  go_upto_region 1 with fail
  generalize w.alloc (.cells #[.int .u64 d.pn, .int .u64 d.least, .int .u64 d.off, .int .u64 d.nonce, .int .i64 d.ecn, .slice A d.body.length c] 74) = w0 at *
  have a := cells_of (S.get 0 rfl)
  go_wp2_with fail
  refine (K.out _).mono ?_
  rintro e w1 ⟨rfl, q⟩
  replace S := S.stepQ q
  clear q a
  have a := cells_of (S.get 0 rfl)
  go_wp2
  go_ret
  exact ⟨rfl, S.bel⟩
theorem idx3 (a b c : Int) (w : World) : Sem.run Try.prog (Instr.index 166 (.agg #[.int .u64 a, .int .u64 b, .int .u64 c]) (.int .i64 0)) w = .ok (.int .u64 a) w ∧ Sem.run Try.prog (Instr.index 166 (.agg #[.int .u64 a, .int .u64 b, .int .u64 c]) (.int .i64 1)) w = .ok (.int .u64 b) w ∧ Sem.run Try.prog (Instr.index 166 (.agg #[.int .u64 a, .int .u64 b, .int .u64 c]) (.int .i64 2)) w = .ok (.int .u64 c) w := ⟨by kernel_rfl, by kernel_rfl, by kernel_rfl⟩
theorem idx3k (a b c : Int) (k : Nat) (hk : k < 3) : ∃ x, (x = a ∨ x = b ∨ x = c) ∧ ([a, b, c].take (k + 1)).flatMap putN = ([a, b, c].take k).flatMap putN ++ putN x ∧ ∀ w, Sem.run Try.prog (Instr.index 166 (.agg #[.int .u64 a, .int .u64 b, .int .u64 c]) (.int .i64 k)) w = .ok (.int .u64 x) w := by
  rcases (by omega : k = 0 ∨ k = 1 ∨ k = 2) with rfl | rfl | rfl
  · exact ⟨a, .inl rfl, by simp, fun w => (idx3 a b c w).1⟩
  · exact ⟨b, .inr (.inl rfl), by simp, fun w => (idx3 a b c w).2.1⟩
  · exact ⟨c, .inr (.inr rfl), by simp, fun w => (idx3 a b c w).2.2⟩
theorem EnSt.fresh {w W0 W : World} {hx : Nat} {bx : Obj} {v : Value} {D : List Int} {rs : List (Option Addr × Nat × List Int)} (h : EnSt w hx bx W0 W v D rs) : EnSt w hx bx W W v D [] := ⟨h.own, h.bel, h.box, Chg.refl _ _, h.nbx, fun r hr => by cases hr⟩
set_option maxHeartbeats 8000000 in
set_option maxRecDepth 100000 in
theorem head_encode (d : DatD) (A : Option Addr) (c : Nat) (w : World) (h : d.Ok) (hr : Rd w 1 A d.body.length c (U8 d.body)) :
    Calls Try.prog 71 #[.agg (d.arr A c)] w fun e w' => ∃ A' c', e = .returned (.tuple #[.slice A' (putDatP d).length c', .int .i64 0]) ∧ Rd8 w' w.heap.size A' (putDatP d).length c' (putDatP d) ∧ Below w.heap.size w w' := by
  obtain ⟨i0, hi0, hz0, hz1, hz2⟩ := info_parts infoByte
  have KM := Lib.hid (fun W => head_may d A c W h)
  have S := Bx.one w #[.int .u64 d.pn, .int .u64 d.least, .int .u64 d.off, .int .u64 d.nonce, .int .i64 d.ecn, .slice A d.body.length c] 74
  have we : IntKind.u8.wrap d.ecn = d.ecn := IntWalk.u8_in _ (by have := h.ecn; omega)
  have wl := h.facts.2.2.1
  have hlen := h.len
  have HO := Lib.hid h
  have HR := Lib.hid hr
  have PD : Hid (putDatP d = ((([1, d.ecn] ++ ([d.pn, d.least, d.off].take 3).flatMap putN) ++ eightN d.nonce) ++ putN d.body.length) ++ d.body) := Lib.hid (by simp [putDatP])
  unfold DatD.arr at *
  clear h hr
  go_enter Try.func71, Try.ntmps71
  go_upto_region 1 with fail
  generalize w.alloc (.cells #[.int .u64 d.pn, .int .u64 d.least, .int .u64 d.off, .int .u64 d.nonce, .int .i64 d.ecn, .slice A d.body.length c] 74) = w0 at *
  have a := cells_of (S.get 0 rfl)
  go_wp2_with fail
  refine (KM.out _).mono ?_
  rintro e w1 ⟨rfl, q⟩
  replace S := S.step q
  clear q a
  have a := cells_of (S.get 0 rfl)
  have B1 := Lib.hid (S.get 0 rfl)
  have L1 := Lib.hid S.bel
  have hl1 := L1.out.size
  have hb1 := lt_of_block B1.out
  clear KM S
  go_upto_region 4 with fail
  have b3 := box_below w1 (.cells #[.int .u8 1, .int .u8 d.ecn] 5)
  have E3 : Hid (EnSt w w.heap.size (.cells #[.int .u64 d.pn, .int .u64 d.least, .int .u64 d.off, .int .u64 d.nonce, .int .i64 d.ecn, .slice A d.body.length c] 74) (w1.alloc (.cells #[.int .u8 1, .int .u8 d.ecn] 5)) (w1.alloc (.cells #[.int .u8 1, .int .u8 d.ecn] 5)) (.slice (some ⟨w1.heap.size, 0, none⟩) 2 2) [1, d.ecn] []) := Lib.hid
    ⟨World.ownsRow_lit (base := w.heap.size) (e := 5) (size := 1) w1 #[.int .u8 1, .int .u8 d.ecn] 2 (by omega) (by unfold maxLen; omega) rfl, L1.out.trans (b3.mono (by omega)), (b3.block _ hb1).trans B1.out, Chg.refl _ _, fun e => by simp [Value.ownBlock] at e; omega, fun r hr => by cases hr⟩
  clear a b3 B1 L1
  generalize (w1.alloc (.cells #[.int .u8 1, .int .u8 d.ecn] 5)) = w2 at *
  have a := cells_of E3.out.box
  go_wp2
  clear a
  go_loopw [4, 6, 7, 8, 25] (fun s4 _ _ _ s25 wr => ∃ k : Nat, k ≤ 3 ∧ s25 = .int .i64 k ∧ Hid (EnSt w w.heap.size (.cells #[.int .u64 d.pn, .int .u64 d.least, .int .u64 d.off, .int .u64 d.nonce, .int .i64 d.ecn, .slice A d.body.length c] 74) wr wr s4 ([1, d.ecn] ++ ([d.pn, d.least, d.off].take k).flatMap putN) [])) (fun _ _ _ _ i _ => 3 - (intOf i).toNat)
  case atStart => exact ⟨0, by omega, rfl, E3⟩
  case round =>
    obtain ⟨k, hk, rfl, E⟩ := hrel
    by_cases hlt : k < 3
    · obtain ⟨x, hx, hD, hI⟩ := idx3k d.pn d.least d.off k hlt
      have hx0 : 0 ≤ x ∧ x ≤ 4611686018427387903 := by
        have h1 := HO.out.pn
        have h2 := HO.out.le
        have h3 := HO.out.off
        rcases hx with rfl | rfl | rfl <;> omega
      have HD := Lib.hid hD
      have C1 := Lib.hid (oct_put x wr hx0.1 hx0.2)
      have Lx := putN_le x hx0.1 hx0.2
      have LD : (([d.pn, d.least, d.off].take k).flatMap putN).length ≤ 24 := by
        have h1 := HO.out.pn
        have h2 := HO.out.le
        have h3 := HO.out.off
        have l1 := putN_le d.pn (by omega) (by omega)
        have l2 := putN_le d.least (by omega) (by omega)
        have l3 := putN_le d.off (by omega) (by omega)
        rcases (by omega : k = 0 ∨ k = 1 ∨ k = 2) with rfl | rfl | rfl <;> simp <;> omega
      have LE : ([1, d.ecn] ++ ([d.pn, d.least, d.off].take k).flatMap putN).length ≤ 26 := by simp only [List.length_append, List.length_cons, List.length_nil]; omega
      have e1 : decide ((k : Int) < 3) = true := decide_eq_true (by omega)
      generalize hDD : [1, d.ecn] ++ ([d.pn, d.least, d.off].take k).flatMap putN = D at *
      have HDD := Lib.hid hDD
      clear hD hx hx0 LD hDD
      go_wp2_with fail
      refine C1.out.mono ?_
      rintro e w5 ⟨A5, c5, rfl, r5, b5⟩
      have E5 := Lib.hid (E.out.call b5 r5)
      have R5 := Lib.hid r5.rd
      clear r5 b5 E C1
      go_wp2_with (
        at_builtin
        refine wpList_append_rd _ rfl (.tmp 33) (.tmp 34) 70 rfl w.heap.size 5 i0 _ 1 1 Try.underlying70 hi0 hz0 hz1 hz2 rfl (by decide) _ D.length (U8 D) rfl E5.out.own A5 (putN x).length c5 (U8 (putN x)) rfl R5.out (U8_one _) (by unfold maxLen; omega) (by omega) E5.out.bel.size ?_
        intro v6 w6 o6 g6 k6
        have E6 := Lib.hid (E5.out.app o6 g6 k6).fresh
        clear o6 g6 k6 E5 R5)
      refine ⟨⟨k + 1, by omega, by simp, ?_⟩, ?_⟩
      · rw [HD.out, ← List.append_assoc, HDD.out]
        exact E6
      · simp [intOf]
        omega
    · have e3 : k = 3 := by omega
      subst e3
      obtain ⟨D, hD⟩ : ∃ D, D = [1, d.ecn] ++ ([d.pn, d.least, d.off].take 3).flatMap putN := ⟨_, rfl⟩
      rw [← hD] at E PD
      have LE : D.length ≤ 26 := by
        have h1 := HO.out.pn
        have h2 := HO.out.le
        have h3 := HO.out.off
        have l1 := putN_le d.pn (by omega) (by omega)
        have l2 := putN_le d.least (by omega) (by omega)
        have l3 := putN_le d.off (by omega) (by omega)
        rw [hD]
        simp
        omega
      have h8 : (eightN d.nonce).length ≤ 8 := by simp [eightN, bytesN]
      have Lb := putN_le (d.body.length : Int) (by omega) (by omega)
      have K8 := Lib.hid (oct_eight d.nonce wr HO.out.nonce)
      have KL := Lib.hid (fun W => oct_put (d.body.length : Int) W (by omega) (by omega))
      have a := cells_of E.out.box
      clear hD
      go_wp2_with fail
      refine K8.out.mono ?_
      rintro e w5 ⟨A5, c5, rfl, r5, b5⟩
      have E5 := Lib.hid (E.out.call b5 r5)
      have R5 := Lib.hid r5.rd
      clear r5 b5 E K8 a
      have a := cells_of E5.out.box
      go_wp2_with (
        at_builtin
        refine wpList_append_rd _ rfl (.tmp 37) (.tmp 40) 70 rfl w.heap.size 5 i0 _ 1 1 Try.underlying70 hi0 hz0 hz1 hz2 rfl (by decide) _ D.length (U8 D) rfl E5.out.own A5 (eightN d.nonce).length c5 (U8 (eightN d.nonce)) rfl R5.out (U8_one _) (by unfold maxLen; omega) (by omega) E5.out.bel.size ?_
        intro v6 w6 o6 g6 k6
        have E6 := Lib.hid (E5.out.app o6 g6 k6).fresh
        clear o6 g6 k6 E5 R5 a
        have a := cells_of E6.out.box)
      have L6 : (D ++ eightN d.nonce).length ≤ 34 := by simp; omega
      go_wp2_with fail
      refine (KL.out _).mono ?_
      rintro e w7 ⟨A7, c7, rfl, r7, b7⟩
      have E7 := Lib.hid (E6.out.call b7 r7)
      have R7 := Lib.hid r7.rd
      clear r7 b7 E6 a
      have L8 : ((D ++ eightN d.nonce) ++ putN d.body.length).length ≤ 42 := by simp at L6 ⊢; omega
      go_upto_region 12 with fail
      have E7 := Lib.hid (E7.out.base)
      have E8 := Lib.hid E7.out.drew
      have Z := mixF_cell (F := fun k => w.heap.size ≤ k ∧ k ≠ w.heap.size) (v := .slice A d.body.length c) (cell_of_row w7 w.heap.size 5 _ _ _ E7.out.box) (fun e => e.2 rfl)
      clear R7
      refine wp_region_chg (fun k => w.heap.size ≤ k ∧ k ≠ w.heap.size) (by kernel_rfl) (by kernel_rfl) ?_
      repeat (refine wpMix_seg 1 _ _ rfl ?_; simp only [List.take_succ_cons, List.take_zero, List.drop_succ_cons, List.drop_zero]; go_big_quiet_step (fail); refine wpQuiet_nil ?_)
      have R8 := Lib.hid (E8.out.rs (A7, c7, putN (d.body.length : Int)) (by simp)).1
      simp only at R8
      refine wpMix_bar rfl (by rfl) ?_
      go_wp2_with (
        at_builtin
        refine wpList_append_rd _ rfl (.tmp 50) (.tmp 51) 70 rfl w.heap.size 5 i0 _ 1 1 Try.underlying70 hi0 hz0 hz1 hz2 rfl (by decide) _ (D ++ eightN d.nonce).length (U8 (D ++ eightN d.nonce)) rfl E8.out.own A7 (putN (d.body.length : Int)).length c7 (U8 (putN (d.body.length : Int))) rfl R8.out (U8_one _) (by unfold maxLen; omega) (by omega) E8.out.bel.size ?_
        intro v9 w9 o9 g9 k9
        have E9 := Lib.hid (E8.out.app o9 g9 k9)
        clear o9 g9 k9 E8 R8)
      refine ⟨chg_mixF E9.out.chg, ?_⟩
      repeat (refine wpMix_seg 1 _ _ rfl ?_; simp only [List.take_succ_cons, List.take_zero, List.drop_succ_cons, List.drop_zero]; go_big_quiet_step (fail); refine wpQuiet_nil ?_)
      refine wpMix_bar rfl (by rfl) ?_
      go_wp2_with (
        at_builtin
        refine wpList_append_rd _ rfl (.tmp 52) (.tmp 54) 70 rfl w.heap.size 5 i0 _ 1 1 Try.underlying70 hi0 hz0 hz1 hz2 rfl (by decide) _ ((D ++ eightN d.nonce) ++ putN (d.body.length : Int)).length (U8 ((D ++ eightN d.nonce) ++ putN (d.body.length : Int))) rfl E9.out.own A d.body.length c (U8 d.body) rfl (HR.out.below E9.out.bel) (U8_one _) (by unfold maxLen; omega) (by omega) E9.out.bel.size ?_
        intro v10 w10 o10 g10 k10
        have E10 := Lib.hid (E9.out.app o10 g10 k10)
        clear o10 g10 k10 E9)
      refine ⟨chg_mixF E10.out.chg, ?_⟩
      repeat (refine wpMix_seg 1 _ _ rfl ?_; simp only [List.take_succ_cons, List.take_zero, List.drop_succ_cons, List.drop_zero]; go_big_quiet_step (fail); refine wpQuiet_nil ?_)
      refine wpMix_nil ?_
      go_wp2
      have O := E10.out.own
      rw [← PD.out] at O
      obtain ⟨A', c', hv, -⟩ := own_slice O
      subst hv
      go_ret2
      exact ⟨A', c', rfl, Rd8.of_own O (Nat.le_refl _), E10.out.bel⟩
end Go.Proofs.Ytpkbimmhimgamaa
namespace Go.Proofs.Ytpkbimmhimgamaa
set_option linter.unusedSimpArgs false
set_option linter.unusedVariables false
set_option linter.unnecessarySimpa false
open Go.RowKit
set_option maxHeartbeats 2000000 in
set_option maxRecDepth 100000 in
theorem ack_challenge (n : Int) (w : World) (h0 : 0 ≤ n) (h1 : n ≤ 4611686018427387903) :
    Calls Try.prog 39 #[.int .u64 n] w fun e w' => ∃ A c, e = .returned (.tuple #[.slice A (3 :: putN n).length c, .bool true]) ∧ Rd8 w' w.heap.size A (3 :: putN n).length c (3 :: putN n) ∧ Below w.heap.size w w' := by
  obtain ⟨i0, hi0, hz0, hz1, hz2⟩ := info_parts infoByte
  have K := Lib.hid (oct_put n w h0 h1)
  have Ln := putN_le n h0 h1
  clear h0 h1
  go_enter Try.func39, Try.ntmps39
  go_wp2_with fail
  refine K.out.mono ?_
  rintro e w1 ⟨A5, c5, rfl, r5, b5⟩
  have b3 := box_below w1 (.cells #[.int .u8 3] 5)
  have hs := b5.size
  have R5 := Lib.hid (r5.rd.below b3)
  have O5 : Hid ((w1.alloc (.cells #[.int .u8 3] 5)).ownsRow w.heap.size 5 1 (.slice (some ⟨w1.heap.size, 0, none⟩) 1 1) 1 (U8 [3])) := Lib.hid (World.ownsRow_lit (base := w.heap.size) (e := 5) (size := 1) w1 #[.int .u8 3] 1 hs (by unfold maxLen; omega) rfl)
  have B5 := Lib.hid (b5.trans (b3.mono hs))
  clear r5 b5 b3
  go_wp2_with (
    at_builtin
    refine wpList_append_rd _ rfl (.tmp 13) (.tmp 14) 70 rfl w.heap.size 5 i0 _ 1 1 Try.underlying70 hi0 hz0 hz1 hz2 rfl (by decide) _ 1 (U8 [3]) rfl O5.out A5 (putN n).length c5 (U8 (putN n)) rfl R5.out (U8_one _) (by unfold maxLen; omega) (by omega) B5.out.size ?_
    intro v6 w6 o6 g6 k6
    have B6 := Lib.hid (B5.out.grown g6 B5.out.size (fun g hg => (O5.out.lt g hg).1))
    have O6 : Hid (w6.ownsRow w.heap.size 5 1 v6 (3 :: putN n).length (U8 (3 :: putN n))) := Lib.hid (by
      have := o6
      rw [Nat.add_comm] at this
      exact this)
    clear o6 g6 k6 O5 R5)
  obtain ⟨A', c', hv, -⟩ := own_slice O6.out
  subst hv
  go_ret2
  exact ⟨A', c', rfl, Rd8.of_own O6.out (Nat.le_refl _), B6.out⟩
end Go.Proofs.Ytpkbimmhimgamaa
namespace Go.Proofs.Ytpkbimmhimgamaa
set_option linter.unusedSimpArgs false
set_option linter.unusedVariables false
set_option linter.unnecessarySimpa false
open Go.RowKit
attribute [local go_sem ↓] run_min_int run_max_int
/-- An object of which one field, the third, is a row of numbers of its own. -/
structure BuC (w : World) (F : Nat → Prop) (q : Nat) (T : TypeId) (cs : Array Value) (A : Option Addr) (c : Nat) (l : List Int) : Prop where
  t : w.heap[q]? = some (.cells cs T (0, 0))
  e3 : cs[3]? = some (.slice A l.length c)
  o : w.ownsRow 0 22 1 (.slice A l.length c) l.length (Us l)
  fq : F q
  fo : ∀ g, (Value.slice A l.length c).ownBlock = some g → F g ∧ g ≠ q
theorem BuC.chg {w w' : World} {F G H : Nat → Prop} {q : Nat} {T : TypeId} {cs : Array Value} {A : Option Addr} {c : Nat} {l : List Int} (h : BuC w F q T cs A c l) (hc : Chg G w w') (hd : ∀ k, k < w.heap.size → F k → ¬ G k) (hs : ∀ k, k < w.heap.size → F k → H k) : BuC w' H q T cs A c l := by
  have hq := lt_of_block h.t
  exact ⟨hc.blk h.t (hd q hq h.fq), h.e3, own_chg h.o hc (fun k hk => hd k (h.o.lt k hk).2 (h.fo k hk).1), hs q hq h.fq, fun g hg => ⟨hs g (h.o.lt g hg).2 (h.fo g hg).1, (h.fo g hg).2⟩⟩
theorem BuC.below {w w' : World} {F : Nat → Prop} {q : Nat} {T : TypeId} {cs : Array Value} {A : Option Addr} {c : Nat} {l : List Int} (h : BuC w F q T cs A c l) (b : Below w.heap.size w w') : BuC w' F q T cs A c l :=
  h.chg (chg_below b (F := fun _ => False)) (fun _ _ _ h => h) (fun _ _ h => h)
/-- Another field has been stored. -/
theorem BuC.set {w : World} {F : Nat → Prop} {q : Nat} {T : TypeId} {cs : Array Value} {A : Option Addr} {c : Nat} {l : List Int} (h : BuC w F q T cs A c l) (i : Nat) (hi : i ≠ 3) (v : Value) : BuC (w.setCell ⟨q, i, none⟩ v) F q T (cs.setIfInBounds i v) A c l := by
  have hC : Chg (fun j => j = q) w (w.setCell ⟨q, i, none⟩ v) := (Chg.refl (fun j => j = q) w).setCell (p := ⟨q, i, none⟩) (.inl rfl) _
  exact ⟨heap_setCell_same w q i _ _ v h.t, by rw [Array.getElem?_setIfInBounds_ne hi]; exact h.e3, own_chg h.o hC (fun k hk e => (h.fo k hk).2 e), h.fq, h.fo⟩
/-- Another row stands in the third. -/
theorem BuC.put {w : World} {F G : Nat → Prop} {q : Nat} {T : TypeId} {cs : Array Value} {A A' : Option Addr} {c c' : Nat} {l l' : List Int} (h : BuC w F q T cs A c l) (ho : w.ownsRow 0 22 1 (.slice A' l'.length c') l'.length (Us l')) (hg : ∀ g, (Value.slice A' l'.length c').ownBlock = some g → G g ∧ g ≠ q) (hq : G q) :
    BuC (w.setCell ⟨q, 3, none⟩ (.slice A' l'.length c')) G q T (cs.setIfInBounds 3 (.slice A' l'.length c')) A' c' l' := by
  have hC : Chg (fun j => j = q) w (w.setCell ⟨q, 3, none⟩ (.slice A' l'.length c')) := (Chg.refl (fun j => j = q) w).setCell (p := ⟨q, 3, none⟩) (.inl rfl) _
  have h3 : 3 < cs.size := (Array.getElem?_eq_some_iff.1 h.e3).1
  exact ⟨heap_setCell_same w q 3 _ _ _ h.t, by rw [Array.getElem?_setIfInBounds_self_of_lt h3], own_chg ho hC (fun k hk e => (hg k hk).2 e), hq, hg⟩
/-- Its row has grown by one. -/
theorem BuC.app {W w1 w5 : World} {F : Nat → Prop} {q : Nat} {T : TypeId} {cs : Array Value} {A A5 : Option Addr} {c c5 : Nat} {l : List Int} {x : Int} (h : BuC W F q T cs A c l) (b : Below W.heap.size W w1) (hg : w1.grownBy w5 (Value.slice A l.length c).ownBlock)
    (ho : w5.ownsRow 0 22 1 (.slice A5 (l ++ [x]).length c5) (l ++ [x]).length (Us (l ++ [x])))
    (hv : (Value.slice A5 (l ++ [x]).length c5).ownBlock = (Value.slice A l.length c).ownBlock ∨ (Value.slice A5 (l ++ [x]).length c5).ownBlock = some w1.heap.size) (hF : ∀ k, W.heap.size ≤ k → F k) :
    BuC (w5.setCell ⟨q, 3, none⟩ (.slice A5 (l ++ [x]).length c5)) F q T (cs.setIfInBounds 3 (.slice A5 (l ++ [x]).length c5)) A5 c5 (l ++ [x]) := by
  have hq := lt_of_block h.t
  have hs := b.size
  have h1 := h.below b
  have hT : w5.heap[q]? = some (.cells cs T (0, 0)) := (hg.block q (lt_of_block h1.t) (fun e => (h.fo q e.symm).2 rfl)).trans h1.t
  have hC : Chg (fun j => j = q) w5 (w5.setCell ⟨q, 3, none⟩ (.slice A5 (l ++ [x]).length c5)) := (Chg.refl (fun j => j = q) w5).setCell (p := ⟨q, 3, none⟩) (.inl rfl) _
  have h3 : 3 < cs.size := (Array.getElem?_eq_some_iff.1 h.e3).1
  have hfo : ∀ g, (Value.slice A5 (l ++ [x]).length c5).ownBlock = some g → F g ∧ g ≠ q := fun g e => by
    rcases hv with e' | e'
    · exact h.fo g (e'.symm.trans e)
    · rw [e] at e'
      have := Option.some.inj e'
      exact ⟨hF _ (by omega), by omega⟩
  exact ⟨heap_setCell_same w5 q 3 _ _ _ hT, by rw [Array.getElem?_setIfInBounds_self_of_lt h3], own_chg ho hC (fun k hk e => (hfo k hk).2 e), h.fq, hfo⟩

def budRow (s : BS) (A : Option Addr) (n c : Nat) (g : Int) : Array Value := #[.int .i64 s.most, .int .u64 s.every, .int .u64 s.now, .slice A n c, .int .i64 g]
structure BudP (w : World) (F : Nat → Prop) (q : Nat) (s : BS) : Prop where
  good : s.Good
  ex : ∃ A c l g, BuC w F q 140 (budRow s A l.length c g) A c l ∧ s.Keeps l ∧ l.length ≤ s.most ∧ ∀ t ∈ l, 0 ≤ t ∧ t ≤ s.now
theorem BudP.chg {w w' : World} {F G H : Nat → Prop} {q : Nat} {s : BS} (h : BudP w F q s) (hc : Chg G w w') (hd : ∀ k, k < w.heap.size → F k → ¬ G k) (hs : ∀ k, k < w.heap.size → F k → H k) : BudP w' H q s := by
  obtain ⟨g, A, c, l, n, hC, r⟩ := h
  exact ⟨g, A, c, l, n, hC.chg hc hd hs, r⟩
theorem BudP.below {w w' : World} {F : Nat → Prop} {q : Nat} {s : BS} (h : BudP w F q s) (b : Below w.heap.size w w') : BudP w' F q s :=
  h.chg (chg_below b (F := fun _ => False)) (fun _ _ _ h => h) (fun _ _ h => h)
theorem BudP.sub {w : World} {F G : Nat → Prop} {q : Nat} {s : BS} (h : BudP w F q s) (hs : ∀ k, k < w.heap.size → F k → G k) : BudP w G q s := h.chg (Chg.refl (fun _ => False) w) (fun _ _ _ h => h) hs
theorem BudP.lt {w : World} {F : Nat → Prop} {q : Nat} {s : BS} (h : BudP w F q s) : q < w.heap.size ∧ F q := by
  obtain ⟨g, A, c, l, n, hC, r⟩ := h
  exact ⟨lt_of_block hC.t, hC.fq⟩

theorem bud_new (most every : Int) (w : World) (he : isU64 every) :
    Calls Try.prog 34 #[.int .i64 most, .int .u64 every] w fun e w' => e = .returned (.pointer (some ⟨w.heap.size, 0, none⟩)) ∧ BudP w' (fun k => k = w.heap.size) w.heap.size (BS.new most every) ∧ Below w.heap.size w w' := by
  have hr : ((BS.new most every).most : Int) = max 0 (min most 64) := by simp only [BS.new]; omega
  have HR := Lib.hid hr
  clear hr
  have HE := Lib.hid he
  clear he
  go_enter Try.func34, Try.ntmps34
  go_wp2
  go_ret
  refine ⟨rfl, ⟨BS.Good.new HE.out, none, 0, [], 0, ⟨?_, rfl, World.ownsRow_nil _ _ _ _, rfl, (fun g hg => by simp [Value.ownBlock] at hg)⟩, fun n _ => rfl, Nat.zero_le _, fun t ht => by cases ht⟩, box_below _ _⟩
  unfold budRow
  rw [HR.out]
  exact heap_alloc_new w _

end Go.Proofs.Ytpkbimmhimgamaa
namespace Go.Proofs.Ytpkbimmhimgamaa
set_option linter.unusedSimpArgs false
set_option linter.unusedVariables false
set_option linter.unnecessarySimpa false
open Go.RowKit
end Go.Proofs.Ytpkbimmhimgamaa
namespace Go.Proofs.Ytpkbimmhimgamaa
set_option linter.unusedSimpArgs false
set_option linter.unusedVariables false
set_option linter.unnecessarySimpa false
open Go.RowKit
end Go.Proofs.Ytpkbimmhimgamaa
namespace Go.Proofs.Ytpkbimmhimgamaa
set_option linter.unusedSimpArgs false
set_option linter.unusedVariables false
set_option linter.unnecessarySimpa false
open Go.RowKit
theorem u64_load (a : Addr) (x : Int) (w : World) (hc : w.cell? a = some (.int .u64 x)) :
    Calls Try.prog 52 #[.pointer (some a)] w fun e w' => e = .returned (.int .u64 x) ∧ w = w' := by
  have hl := run_call_load (P := Try.prog) Try.func75 (by kernel_rfl) (by kernel_rfl) (by kernel_rfl) .u64 (by kernel_rfl) hc
  go_enter Try.func52, Try.ntmps52
  go_wp2
  go_ret
  exact ⟨rfl, rfl⟩
end Go.Proofs.Ytpkbimmhimgamaa
namespace Go.Proofs.Ytpkbimmhimgamaa
set_option linter.unusedSimpArgs false
set_option linter.unusedVariables false
set_option linter.unnecessarySimpa false
open Go.RowKit
end Go.Proofs.Ytpkbimmhimgamaa
