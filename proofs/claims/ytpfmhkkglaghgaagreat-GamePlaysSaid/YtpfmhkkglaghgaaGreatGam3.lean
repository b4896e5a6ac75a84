/-
  Walks of the game: a move's frame.
-/
import Derived.Test.YtpfmhkkglaghgaaGreatGam2
import Derived.Test.YtpfmhkkglaghgaaGreatGua5
namespace Go.Proofs.YtpfmhkkglaghgaaGreat
set_option linter.unusedSimpArgs false
set_option linter.unusedVariables false
set_option linter.unnecessarySimpa false
open Go.RowKit

theorem bel_box {B : Nat} {a W : World} {o : Obj} (hp : B ≤ W.heap.size) (h : Below B a W) : Below B a (W.alloc o) := h.alloc hp o
theorem bel_set {B b i : Nat} {a W : World} {v : Value} (hp : B ≤ b) (h : Below B a W) : Below B a (W.setCell ⟨b, i, none⟩ v) := h.setCell hp v
theorem zAk_cells {W : World} {h : Nat} (q : W.heap[h]? = some (.cells #[.slice none 0 0, .slice none 0 0, .int .u64 0, .int .u64 0, .bool false] 74 (0, 0))) :
    (W.cell? ⟨h, 0, none⟩ = some (.slice none 0 0) ∧ W.cell? ⟨h, 1, none⟩ = some (.slice none 0 0) ∧ W.cell? ⟨h, 2, none⟩ = some (.int .u64 0) ∧ W.cell? ⟨h, 3, none⟩ = some (.int .u64 0) ∧ W.cell? ⟨h, 4, none⟩ = some (.bool false)) ∧
    (W.frozen? ⟨h, 0, none⟩ = false ∧ W.frozen? ⟨h, 1, none⟩ = false ∧ W.frozen? ⟨h, 2, none⟩ = false ∧ W.frozen? ⟨h, 3, none⟩ = false ∧ W.frozen? ⟨h, 4, none⟩ = false) ∧ h < W.heap.size :=
  ⟨⟨cell_of_row W h 0 _ _ _ q, cell_of_row W h 1 _ _ _ q, cell_of_row W h 2 _ _ _ q, cell_of_row W h 3 _ _ _ q, cell_of_row W h 4 _ _ _ q⟩, ⟨frozen_of_row W h 0 _ _ q, frozen_of_row W h 1 _ _ q, frozen_of_row W h 2 _ _ q, frozen_of_row W h 3 _ _ q, frozen_of_row W h 4 _ _ q⟩, lt_of_block q⟩
/-- Behind the making of the acknowledgment. -/
structure FrA (w3 : World) (sp mm : List Sp) (od : Bool) (ha : Nat) (A1 : Option Addr) (c1 : Nat) (A2 : Option Addr) (c2 : Nat) (W : World) : Prop where
  t : W.heap[ha]? = some (.cells #[.slice A1 sp.length c1, .slice A2 mm.length c2, .int .u64 0, .int .u64 0, .bool od] 74 (0, 0))
  r1 : Rd W 2 A1 sp.length c1 (Ss sp)
  r2 : Rd W 2 A2 mm.length c2 (Ss mm)
  bel : Below w3.heap.size w3 W
  ge : w3.heap.size ≤ ha
  n1 : ∀ b off, A1 = some ⟨b, off, none⟩ → 0 < sp.length → w3.heap.size ≤ b ∧ b ≠ ha
  n2 : ∀ b off, A2 = some ⟨b, off, none⟩ → 0 < mm.length → w3.heap.size ≤ b ∧ b ≠ ha
theorem FrA.last {w3 vA vB : World} {sp mm : List Sp} {od : Bool} {A1 A2 : Option Addr} {c1 c2 B1 B2 : Nat} (r1 : RdN vA B1 A1 sp.length c1 (Ss sp)) (r2 : RdN vB B2 A2 mm.length c2 (Ss mm)) (b1 : Below vA.heap.size vA vB) (h1 : w3.heap.size ≤ B1) (h2 : w3.heap.size ≤ B2) (bel : Below w3.heap.size w3 vB) :
    FrA w3 sp mm od vB.heap.size A1 c1 A2 c2 (vB.alloc (.cells #[.slice A1 sp.length c1, .slice A2 mm.length c2, .int .u64 0, .int .u64 0, .bool od] 74)) := by
  have eb := box_below vB (.cells #[.slice A1 sp.length c1, .slice A2 mm.length c2, .int .u64 0, .int .u64 0, .bool od] 74)
  have sb := b1.size
  refine ⟨heap_alloc_new vB _, (r1.rd.below b1).below eb, r2.rd.below eb, bel.trans (eb.mono bel.size), bel.size, fun b off e hn => ?_, fun b off e hn => ?_⟩
  · have := r1.nw b off e hn
    have := r1.rd.lt (by omega) hn b off e
    exact ⟨by omega, by omega⟩
  · have := r2.nw b off e hn
    have := r2.rd.lt (by omega) hn b off e
    exact ⟨by omega, by omega⟩
theorem FrA.fill {w3 vA vB : World} {sp mm : List Sp} {od : Bool} {A1 A2 : Option Addr} {c1 c2 B1 B2 ha : Nat} {o : Array Value} (ht : vB.heap[ha]? = some (.cells o 74 (0, 0))) (ho : o.size = 5) (r1 : RdN vA B1 A1 sp.length c1 (Ss sp)) (r2 : RdN vB B2 A2 mm.length c2 (Ss mm)) (b1 : Below vA.heap.size vA vB) (h1 : w3.heap.size ≤ B1) (h2 : ha < B2) (n1 : ha < B1 ∨ vA.heap.size ≤ ha) (ge : w3.heap.size ≤ ha) (bel : Below w3.heap.size w3 vB) :
    FrA w3 sp mm od ha A1 c1 A2 c2 (((((vB.setCell ⟨ha, 0, none⟩ (.slice A1 sp.length c1)).setCell ⟨ha, 1, none⟩ (.slice A2 mm.length c2)).setCell ⟨ha, 2, none⟩ (.int .u64 0)).setCell ⟨ha, 3, none⟩ (.int .u64 0)).setCell ⟨ha, 4, none⟩ (.bool od)) := by
  have q := fill_all [.slice A1 sp.length c1, .slice A2 mm.length c2, .int .u64 0, .int .u64 0, .bool od] ht (by rw [ho]; rfl)
  have hc := fill_chg ha [.slice A1 sp.length c1, .slice A2 mm.length c2, .int .u64 0, .int .u64 0, .bool od] vB 0
  simp only [fillFrom] at q hc
  have k1 : ∀ b off, A1 = some ⟨b, off, none⟩ → 0 < sp.length → w3.heap.size ≤ b ∧ b ≠ ha := fun b off e hn => by
    have := r1.nw b off e hn
    have := r1.rd.lt (by omega) hn b off e
    exact ⟨by omega, by omega⟩
  have k2 : ∀ b off, A2 = some ⟨b, off, none⟩ → 0 < mm.length → w3.heap.size ≤ b ∧ b ≠ ha := fun b off e hn => by
    have := r2.nw b off e hn
    exact ⟨by omega, by omega⟩
  exact ⟨q, (r1.rd.below b1).chg hc (fun b off e hn h => (k1 b off e hn).2 h), r2.rd.chg hc (fun b off e hn h => (k2 b off e hn).2 h), bel.trans (hc.below bel.size (fun k hk e => by omega)), ge, k1, k2⟩

/-- Where frame stands. -/
structure FrM (w w1 : World) (b B : Nat) (g : Gm) (k : Nat) (A : Option Addr) (c : Nat) (v : Int) (N : Option Addr) (nc : Nat) (C : Option Addr) (cc : Nat) (m : Mv) (ha : Nat) (A1 : Option Addr) (c1 : Nat) (A2 : Option Addr) (c2 : Nat) (tr xo : Int) (od : Bool) (W : World) : Prop where
  tab : TabC b B g A c (nsTo g k g.n) (csTo g k g.n) v N nc C cc w1 W
  hm : W.heap[w.heap.size]? = some (.cells #[.int .i64 m.claim, .int .i64 m.mark, .int .i64 m.fr, .bool m.guess, .bool m.flip, .int .u64 m.salt] 41 (0, 0))
  hr : W.heap[w.heap.size + 1]? = some (.cells #[.slice none 0 0, .slice none 0 0, .int .u64 0, .int .u64 0, .bool false] 74 (0, 0))
  hg : W.heap[w.heap.size + 2]? = some (.cells #[.int .i64 g.b, .int .i64 g.n, .int .i64 g.came, .int .i64 g.marked, .slice A g.moves.length c] 24 (0, 0))
  t : W.heap[ha]? = some (.cells #[.slice A1 (rowS m.claim g.n).length c1, .slice A2 (rowS m.mark g.n).length c2, .int .u64 tr, .int .u64 xo, .bool od] 74 (0, 0))
  r1 : Rd W 2 A1 (rowS m.claim g.n).length c1 (Ss (rowS m.claim g.n))
  r2 : Rd W 2 A2 (rowS m.mark g.n).length c2 (Ss (rowS m.mark g.n))
  bel : Below w.heap.size w W
  ge : w.heap.size + 3 ≤ ha
  n1 : ∀ b off, A1 = some ⟨b, off, none⟩ → 0 < (rowS m.claim g.n).length → w.heap.size + 3 ≤ b ∧ b ≠ ha
  n2 : ∀ b off, A2 = some ⟨b, off, none⟩ → 0 < (rowS m.mark g.n).length → w.heap.size + 3 ≤ b ∧ b ≠ ha
  lb : b < w.heap.size
  lN : ∀ j, (Value.slice N (nsTo g k g.n).length nc).ownBlock = some j → j < w.heap.size
  lC : ∀ j, (Value.slice C (csTo g k g.n).length cc).ownBlock = some j → j < w.heap.size
theorem TabC.chg_ {b B : Nat} {g : Gm} {A : Option Addr} {c : Nat} {ns : List Int} {cs : List Bool} {v : Int} {N : Option Addr} {nc : Nat} {C : Option Addr} {cc : Nat} {W1 W W' : World} {F : Nat → Prop} (h : TabC b B g A c ns cs v N nc C cc W1 W) (q : Chg F W W') (hb : ¬ F b) (hB : ∀ k, F k → B ≤ k) (hN : ∀ k, (Value.slice N ns.length nc).ownBlock = some k → ¬ F k) (hC : ∀ k, (Value.slice C cs.length cc).ownBlock = some k → ¬ F k) : TabC b B g A c ns cs v N nc C cc W1 W' :=
  ⟨q.blk h.t hb, own_chg h.on q hN, own_chg h.oc q hC, h.ne, h.lb, h.chg.step q (fun k _ e => .inr (hB k e)), Nat.le_trans h.sz q.size⟩
section
variable {w w1 : World} {b B : Nat} {g : Gm} {k : Nat} {A : Option Addr} {c : Nat} {v : Int} {N : Option Addr} {nc : Nat} {C : Option Addr} {cc : Nat} {m : Mv} {ha : Nat} {A1 : Option Addr} {c1 : Nat} {A2 : Option Addr} {c2 : Nat} {tr xo : Int} {od : Bool} {W W' : World}
theorem FrM.below (h : FrM w w1 b B g k A c v N nc C cc m ha A1 c1 A2 c2 tr xo od W) (q : Below W.heap.size W W') : FrM w w1 b B g k A c v N nc C cc m ha A1 c1 A2 c2 tr xo od W' :=
  ⟨h.tab.below q, (q.block _ (lt_of_block h.hm)).trans h.hm, (q.block _ (lt_of_block h.hr)).trans h.hr, (q.block _ (lt_of_block h.hg)).trans h.hg, (q.block _ (lt_of_block h.t)).trans h.t, h.r1.below q, h.r2.below q, h.bel.trans (q.mono h.bel.size), h.ge, h.n1, h.n2, h.lb, h.lN, h.lC⟩
theorem FrM.set {tr' xo' : Int} {od' : Bool} (h : FrM w w1 b B g k A c v N nc C cc m ha A1 c1 A2 c2 tr xo od W) (i : Nat) (u : Value) (hB : B ≤ w.heap.size) (hu : (#[.slice A1 (rowS m.claim g.n).length c1, .slice A2 (rowS m.mark g.n).length c2, .int .u64 tr, .int .u64 xo, .bool od] : Array Value).setIfInBounds i u = #[.slice A1 (rowS m.claim g.n).length c1, .slice A2 (rowS m.mark g.n).length c2, .int .u64 tr', .int .u64 xo', .bool od']) :
    FrM w w1 b B g k A c v N nc C cc m ha A1 c1 A2 c2 tr' xo' od' (W.setCell ⟨ha, i, none⟩ u) := by
  have hC : Chg (fun j => j = ha) W (W.setCell ⟨ha, i, none⟩ u) := (Chg.refl (fun j => j = ha) W).setCell (p := ⟨ha, i, none⟩) (.inl rfl) _
  have ge := h.ge
  have lb := h.lb
  refine ⟨h.tab.chg_ hC (by omega) (fun j e => by omega) (fun j e e' => by have := h.lN j e; omega) (fun j e e' => by have := h.lC j e; omega), hC.blk h.hm (by omega), hC.blk h.hr (by omega), hC.blk h.hg (by omega), ?_, h.r1.chg hC (fun j off e hn e' => (h.n1 j off e hn).2 e'), h.r2.chg hC (fun j off e hn e' => (h.n2 j off e hn).2 e'), h.bel.trans (hC.below h.bel.size (fun j hj e => by omega)), ge, h.n1, h.n2, lb, h.lN, h.lC⟩
  rw [← hu]
  exact heap_setCell_same W ha i _ _ u h.t
theorem FrM.set2 (h : FrM w w1 b B g k A c v N nc C cc m ha A1 c1 A2 c2 tr xo od W) (x : Int) (hB : B ≤ w.heap.size) : FrM w w1 b B g k A c v N nc C cc m ha A1 c1 A2 c2 x xo od (W.setCell ⟨ha, 2, none⟩ (.int .u64 x)) := h.set 2 _ hB rfl
theorem FrM.set3 (h : FrM w w1 b B g k A c v N nc C cc m ha A1 c1 A2 c2 tr xo od W) (x : Int) (hB : B ≤ w.heap.size) : FrM w w1 b B g k A c v N nc C cc m ha A1 c1 A2 c2 tr x od (W.setCell ⟨ha, 3, none⟩ (.int .u64 x)) := h.set 3 _ hB rfl
theorem FrM.set4 (h : FrM w w1 b B g k A c v N nc C cc m ha A1 c1 A2 c2 tr xo od W) (x : Bool) (hB : B ≤ w.heap.size) : FrM w w1 b B g k A c v N nc C cc m ha A1 c1 A2 c2 tr xo x (W.setCell ⟨ha, 4, none⟩ (.bool x)) := h.set 4 _ hB rfl
end

theorem xorTo_lt (g : Gm) (k : Nat) (m : Mv) (h : g.b ≤ 6) (i : Nat) : xorTo g k m i < 64 := by
  induction i with
  | zero => unfold xorTo; omega
  | succ i ih =>
    unfold xorTo
    split
    · exact Nat.xor_lt_two_pow (n := 6) ih (nonN_64 h k i)
    · exact ih
theorem lowN_64 {b : Nat} (h : b ≤ 6) (x : Int) : lowN x b < 64 := Nat.lt_of_lt_of_le (Nat.mod_lt _ (Nat.pow_pos (by decide))) (pow_le64 h)
theorem trigN_64 (g : Gm) (k : Nat) (m : Mv) (v : Int) (h : g.b ≤ 6) : trigN g k m v < 64 := by
  unfold trigN
  split
  · exact nonN_64 h k _
  · exact lowN_64 h _
theorem guessX_64 (g : Gm) (m : Mv) (v : Int) (h : g.b ≤ 6) : guessX g m v < 64 := by
  unfold guessX
  split
  · exact lowN_64 h _
  · omega
theorem xor_u64n {a b : Nat} (ha : a < 64) (hb : b < 64) : bits .xor .u64 (a : Int) (b : Int) = ((a ^^^ b : Nat) : Int) := u64_xor_nat a b (by omega) (by omega)
set_option maxHeartbeats 16000000 in
set_option maxRecDepth 100000 in
theorem gam_frame (g : Gm) (k : Nat) (m : Mv) (A : Option Addr) (c : Nat) (v : Int) (b B : Nat) (w w1 : World) (hg : g.ok) (hm : m.ok g.n) (hv : isU64 v) (hT : TabP b B g A c (nsTo g k g.n) (csTo g k g.n) v w1 w) :
    Calls Tryz.prog 27 #[.pointer (some ⟨b, 0, none⟩), .agg #[.int .i64 m.claim, .int .i64 m.mark, .int .i64 m.fr, .bool m.guess, .bool m.flip, .int .u64 m.salt]] w fun e w' => ∃ a : Ak, e = .returned a.val ∧ a.is (frameD g k m v) ∧ AkR w' a ∧ Below w.heap.size w w' := by
  obtain ⟨N, nc, C, cc, hT⟩ := hT
  obtain ⟨n1, n2, bb, s2⟩ := gbox2 w (.cells #[.int .i64 m.claim, .int .i64 m.mark, .int .i64 m.fr, .bool m.guess, .bool m.flip, .int .u64 m.salt] 41) (.cells #[.slice none 0 0, .slice none 0 0, .int .u64 0, .int .u64 0, .bool false] 74)
  have hBw := hT.sz
  have hbw := lt_of_block hT.t
  have n4 := hg.n4
  have b6 := hg.b6
  have b1 := hg.b1
  have p16 : 2 ^ g.n ≤ 16 := Nat.pow_le_pow_right (n := 2) (by decide) (j := 4) n4
  have hcl : m.claim < 16 := Nat.lt_of_lt_of_le hm.claim p16
  have hmk : m.mark < 16 := Nat.lt_of_le_of_lt (Nat.le_of_testBit hm.mark) hcl
  have hca : g.came < 16 := Nat.lt_of_lt_of_le hg.came p16
  have hma : g.marked < 16 := Nat.lt_of_le_of_lt (Nat.le_of_testBit hg.marked) hca
  have hfr := hm.fr
  have T0 := Lib.hid (hT.below bb)
  have LN := Lib.hid (fun j e => (hT.on.lt j e).2)
  have LC := Lib.hid (fun j e => (hT.oc.lt j e).2)
  have N1 := Lib.hid n1
  have N2 := Lib.hid n2
  have BB := Lib.hid bb
  have GO := Lib.hid hg
  have MO := Lib.hid hm
  have HV := Lib.hid hv
  clear hT n1 n2 bb hg hm hv
  go_enter Tryz.func27, Tryz.ntmps27
  go_upto_region 1 with fail
  generalize ((w.alloc (.cells #[.int .i64 m.claim, .int .i64 m.mark, .int .i64 m.fr, .bool m.guess, .bool m.flip, .int .u64 m.salt] 41)).alloc (.cells #[.slice none 0 0, .slice none 0 0, .int .u64 0, .int .u64 0, .bool false] 74)) = w2 at *
  have y0 : w2.cell? ⟨b, 0, none⟩ = some (.int .i64 g.b) := T0.out.cellAt 0 rfl
  have y1 : w2.cell? ⟨b, 1, none⟩ = some (.int .i64 g.n) := T0.out.cellAt 1 rfl
  have y2 : w2.cell? ⟨b, 2, none⟩ = some (.int .i64 g.came) := T0.out.cellAt 2 rfl
  have y3 : w2.cell? ⟨b, 3, none⟩ = some (.int .i64 g.marked) := T0.out.cellAt 3 rfl
  have y4 : w2.cell? ⟨b, 4, none⟩ = some (.slice A g.moves.length c) := T0.out.cellAt 4 rfl
  go_upto_region 2 with fail
  clear y0 y1 y2 y3 y4
  have e3 := box_below w2 (.cells #[.int .i64 g.b, .int .i64 g.n, .int .i64 g.came, .int .i64 g.marked, .slice A g.moves.length c] 24)
  have n3 := heap_alloc_new w2 (.cells #[.int .i64 g.b, .int .i64 g.n, .int .i64 g.came, .int .i64 g.marked, .slice A g.moves.length c] 24)
  rw [s2] at n3
  have T3 := Lib.hid (T0.out.below e3)
  have M1 := Lib.hid ((e3.block _ (lt_of_block N1.out)).trans N1.out)
  have M2 := Lib.hid ((e3.block _ (lt_of_block N2.out)).trans N2.out)
  have M3 := Lib.hid n3
  have B3 := Lib.hid (BB.out.trans (e3.mono (by omega)))
  have s3 : (w2.alloc (.cells #[.int .i64 g.b, .int .i64 g.n, .int .i64 g.came, .int .i64 g.marked, .slice A g.moves.length c] 24)).heap.size = w.heap.size + 3 := by simp [s2]
  clear e3 n3 T0 N1 N2 BB
  generalize (w2.alloc (.cells #[.int .i64 g.b, .int .i64 g.n, .int .i64 g.came, .int .i64 g.marked, .slice A g.moves.length c] 24)) = w3 at *
  have y0 : w3.cell? ⟨w.heap.size, 0, none⟩ = some (.int .i64 m.claim) := cell_of_row w3 w.heap.size 0 _ _ _ M1.out
  have y1 : w3.cell? ⟨w.heap.size, 1, none⟩ = some (.int .i64 m.mark) := cell_of_row w3 w.heap.size 1 _ _ _ M1.out
  have y4 : w3.cell? ⟨w.heap.size, 4, none⟩ = some (.bool m.flip) := cell_of_row w3 w.heap.size 4 _ _ _ M1.out
  have y9 : w3.cell? ⟨w.heap.size + 2, 1, none⟩ = some (.int .i64 g.n) := cell_of_row w3 (w.heap.size + 2) 1 _ _ _ M3.out
  have gB := Lib.hid (fun (W : World) (q : Below w3.heap.size w3 W) => (⟨(q.cell (block_lt_of_cell y0)).trans y0, (q.cell (block_lt_of_cell y1)).trans y1, (q.cell (block_lt_of_cell y4)).trans y4, (q.cell (block_lt_of_cell y9)).trans y9⟩ : W.cell? ⟨w.heap.size, 0, none⟩ = some (.int .i64 m.claim) ∧ W.cell? ⟨w.heap.size, 1, none⟩ = some (.int .i64 m.mark) ∧ W.cell? ⟨w.heap.size, 4, none⟩ = some (.bool m.flip) ∧ W.cell? ⟨w.heap.size + 2, 1, none⟩ = some (.int .i64 g.n)))
  have S3 := Lib.hid s3
  clear s3 s2
  go_cut [6] (fun s6 wx => ∃ ha A1 c1 A2 c2, s6 = .pointer (some ⟨ha, 0, none⟩) ∧ Hid (FrA w3 (rowS m.claim g.n) (rowS m.mark g.n) m.flip ha A1 c1 A2 c2 wx))
  case first =>
    go_region_held3 (fun W => W.cell? ⟨w.heap.size, 0, none⟩ = some (.int .i64 m.claim) ∧ W.cell? ⟨w.heap.size, 1, none⟩ = some (.int .i64 m.mark) ∧ W.cell? ⟨w.heap.size, 4, none⟩ = some (.bool m.flip) ∧ W.cell? ⟨w.heap.size + 2, 1, none⟩ = some (.int .i64 g.n))
      (first | ((refine gB.out _ ?_); (repeat (first | (with_reducible exact Below.refl _ _) | (with_reducible exact bB1) | (with_reducible exact bA1) | ((with_reducible refine bel_box ?_ ?_); focus (first | exact Nat.le_refl _ | (simp; done) | exact bA1.size | exact bB1.size | omega | (simp; omega) | (have := bA1.size; simp; omega))) | ((with_reducible refine bel_set ?_ ?_); focus (first | exact Nat.le_refl _ | exact bA1.size | exact bB1.size | omega | (simp; omega))) | (with_reducible refine Below.drew ?_))); done))
      (first
        | (go_at_call 47; (with_reducible refine Calls.mono (gam_row m.claim g.n _ hcl n4) ?_); rintro e vA ⟨A1, c1, rfl, rA, bA⟩; have bA1 : Below w3.heap.size w3 vA := Below.trans (by (repeat (first | (with_reducible exact Below.refl _ _) | (with_reducible exact bB1) | (with_reducible exact bA1) | ((with_reducible refine bel_box ?_ ?_); focus (first | exact Nat.le_refl _ | (simp; done) | exact bA1.size | exact bB1.size | omega | (simp; omega) | (have := bA1.size; simp; omega))) | (with_reducible refine Below.drew ?_)))) (bA.mono (by first | exact Nat.le_refl _ | (simp; done) | (simp; omega))))
        | (go_at_call 47; (with_reducible refine Calls.mono (gam_row m.mark g.n _ hmk n4) ?_); rintro e vB ⟨A2, c2, rfl, rB, bB⟩; have bB1 : Below w3.heap.size w3 vB := Below.trans (by (repeat (first | (with_reducible exact Below.refl _ _) | (with_reducible exact bB1) | (with_reducible exact bA1) | ((with_reducible refine bel_box ?_ ?_); focus (first | exact Nat.le_refl _ | (simp; done) | exact bA1.size | exact bB1.size | omega | (simp; omega) | (have := bA1.size; simp; omega))) | (with_reducible refine Below.drew ?_)))) (bB.mono (by first | exact bA1.size | (have := bA1.size; simp; omega))); (try (have hx : vB.heap[vA.heap.size]? = some (.cells #[.slice none 0 0, .slice none 0 0, .int .u64 0, .int .u64 0, .bool false] 74 (0, 0)) := (bB.block _ (by simp)).trans (heap_alloc_new vA _); have hq := zAk_cells hx; obtain ⟨⟨za0, za1, za2, za3, za4⟩, ⟨ya0, ya1, ya2, ya3, ya4⟩, la⟩ := hq)); (try (have hx0 : vA.heap[w3.heap.size]? = some (.cells #[.slice none 0 0, .slice none 0 0, .int .u64 0, .int .u64 0, .bool false] 74 (0, 0)) := (bA.block _ (by simp)).trans (heap_alloc_new w3.drew _); have hx := (bB.block _ (lt_of_block hx0)).trans hx0; have hq := zAk_cells hx; obtain ⟨⟨za0, za1, za2, za3, za4⟩, ⟨ya0, ya1, ya2, ya3, ya4⟩, la⟩ := hq))))
    · go_wp2_with fail
      go_meet
      exact ⟨_, A1, c1, A2, c2, rfl, Lib.hid (FrA.last rA rB bB (Nat.le_refl _) bA1.size bB1)⟩
    · go_wp2_with fail
      go_meet
      have hx := (bB.block _ (by simp)).trans (heap_alloc_new vA (.cells #[.slice none 0 0, .slice none 0 0, .int .u64 0, .int .u64 0, .bool false] 74))
      exact ⟨_, A1, c1, A2, c2, rfl, Lib.hid (FrA.fill hx rfl rA rB ((box_below vA _).trans (bB.mono (by simp))) (Nat.le_refl _) (by simp) (.inr (Nat.le_refl _)) bA1.size bB1)⟩
    · go_wp2_with fail
      go_meet
      have hx0 := (bA.block _ (by simp)).trans (heap_alloc_new w3.drew (.cells #[.slice none 0 0, .slice none 0 0, .int .u64 0, .int .u64 0, .bool false] 74))
      have hx := (bB.block _ (lt_of_block hx0)).trans hx0
      exact ⟨_, A1, c1, A2, c2, rfl, Lib.hid (FrA.fill hx rfl rA rB bB (by simp) (by have := bA.size; simp at this; show w3.heap.size < vA.heap.size; omega) (.inl (by simp)) (Nat.le_refl _) bB1)⟩
  case rest =>
    obtain ⟨ha, A1, c1, A2, c2, rfl, FA⟩ := hcut
    have zc := FA.out.bel.size
    have s3 := S3.out
    have M0 : Hid (FrM w w1 b B g k A c v N nc C cc m ha A1 c1 A2 c2 0 0 m.flip wc) := Lib.hid
      ⟨T3.out.below FA.out.bel, (FA.out.bel.block _ (lt_of_block M1.out)).trans M1.out, (FA.out.bel.block _ (lt_of_block M2.out)).trans M2.out, (FA.out.bel.block _ (lt_of_block M3.out)).trans M3.out, FA.out.t, FA.out.r1, FA.out.r2, B3.out.trans (FA.out.bel.mono B3.out.size), by have := FA.out.ge; omega, fun j off e hn => by have := FA.out.n1 j off e hn; exact ⟨by omega, this.2⟩, fun j off e hn => by have := FA.out.n2 j off e hn; exact ⟨by omega, this.2⟩, hbw, LN.out, LC.out⟩
    clear FA T3 M1 M2 M3 B3 y0 y1 y4 y9 gB
    have HW := Lib.hid hBw
    clear s3 S3 zc
    have y2 : wc.cell? ⟨w.heap.size + 2, 2, none⟩ = some (.int .i64 g.came) := cell_of_row wc (w.heap.size + 2) 2 _ _ _ M0.out.hg
    have yf : wc.cell? ⟨w.heap.size, 2, none⟩ = some (.int .i64 m.fr) := cell_of_row wc w.heap.size 2 _ _ _ M0.out.hm
    have yg : wc.cell? ⟨w.heap.size, 3, none⟩ = some (.bool m.guess) := cell_of_row wc w.heap.size 3 _ _ _ M0.out.hm
    have H3 := Lib.hid (gam_has g.came m.fr wc hca (by omega))
    have TR : Hid (trigN g k m v = if g.came.testBit m.fr && !m.guess then nonN g.b k m.fr else lowN (mixZ (xor64 m.salt v)) g.b) := Lib.hid rfl
    obtain ⟨hb, hhb⟩ : ∃ hb, hb = g.came.testBit m.fr := ⟨_, rfl⟩
    rw [← hhb] at H3 TR
    clear hhb
    obtain ⟨gs, hgs⟩ : ∃ gs, gs = m.guess := ⟨_, rfl⟩
    rw [← hgs] at yg TR
    have HGS := Lib.hid hgs
    clear hgs
    obtain ⟨bb, off, eN, hcn, ln, mn⟩ := M0.out.tab.nAt (j := m.fr) hfr
    have x5 : wc.cell? ⟨b, 5, none⟩ = some (.slice N (nsTo g k g.n).length nc) := M0.out.tab.cellAt 5 rfl
    have x7 : wc.cell? ⟨b, 7, none⟩ = some (.int .u64 v) := M0.out.tab.cellAt 7 rfl
    have xs : wc.cell? ⟨w.heap.size, 5, none⟩ = some (.int .u64 m.salt) := cell_of_row wc w.heap.size 5 _ _ _ M0.out.hm
    have xb : wc.cell? ⟨w.heap.size + 2, 0, none⟩ = some (.int .i64 g.b) := cell_of_row wc (w.heap.size + 2) 0 _ _ _ M0.out.hg
    rw [nsTo_len] at x5 ln
    unfold maxLen at mn
    have D0 : Hid (FrM w w1 b B g k A c v N nc C cc m ha A1 c1 A2 c2 0 0 m.flip wc.drew) := Lib.hid (M0.out.below (Below.refl _ _).drew)
    have EN := Lib.hid eN
    clear eN
    have hcase : (hb = true ∧ gs = false) ∨ (hb = true ∧ gs = true) ∨ hb = false := by cases hb <;> cases gs <;> simp
    rcases hcase with h | h | h
    case' inl =>
      obtain ⟨rfl, rfl⟩ := h
      have TR' : Hid (trigN g k m v = nonN g.b k m.fr) := Lib.hid (by have h := TR.out; simpa using h)
      rw [EN.out] at x5
      have m5 := mixF_cell (F := fun _ => False) x5 id
      have m6 := mixF_cell (F := fun _ => False) hcn id
      have m7 := mixF_cell (F := fun _ => False) yf id
      have f1 : (0 : Int) ≤ m.fr := by omega
      have f2 : (m.fr : Int) < g.n := by omega
      clear TR x5 x7 xs xb hcn
      go_upto_region 4 with (go_at_call 41; refine H3.out.mono ?_; rintro e w' ⟨rfl, rfl⟩)
      clear H3 yf yg y2
      refine wp_region_chgE (fun _ => False) (by kernel_rfl) (by kernel_rfl) ?_
      repeat (refine wpMixE_seg 1 _ _ rfl ?_; simp only [List.take_succ_cons, List.take_zero, List.drop_succ_cons, List.drop_zero]; go_big_quiet_step (fail); refine wpQuiet_nil ?_)
      generalize hwd : wc.drew = wd at *
      clear hwd
      have c2' := cell_of_row wd ha 2 _ _ _ D0.out.t
      have fc2 := frozen_of_row wd ha 2 _ _ D0.out.t
      have hlt := lt_of_block D0.out.t
      refine wpMixE_bar rfl (by rfl) ?_
      go_wp2
      refine mixGo_fin ?_
      have D1 := Lib.hid (D0.out.set2 (nonN g.b k m.fr : Nat) HW.out)
      generalize (wd.setCell ⟨ha, 2, none⟩ (.int .u64 (nonN g.b k m.fr : Nat))) = w7 at *
      rw [← TR'.out] at D1
      clear m5 m6 m7 c2' fc2 D0 TR' ln mn f1 f2 hlt EN M0
    case' inr.inl =>
      obtain ⟨rfl, rfl⟩ := h
      have TR' : Hid (trigN g k m v = lowN (mixZ (xor64 m.salt v)) g.b) := Lib.hid (by have h := TR.out; simpa using h)
      unfold lowN at TR'
      have m5 := mixF_cell (F := fun _ => False) xs id
      have m6 := mixF_cell (F := fun _ => False) x7 id
      have m7 := mixF_cell (F := fun _ => False) xb id
      clear TR x5 x7 xs xb hcn
      go_upto_region 5 with (go_at_call 41; refine H3.out.mono ?_; rintro e w' ⟨rfl, rfl⟩)
      clear H3 yf yg y2
      have K5 := Lib.hid (draw_mix (xor64 m.salt v) wc.drew (isU64_wrap _))
      have K6 := Lib.hid (draw_low (mixZ (xor64 m.salt v)) g.b wc.drew (mixZ_u64 _) b1 b6)
      generalize mixZ (xor64 m.salt v) = zz at *
      obtain ⟨nn, hnn⟩ : ∃ nn, nn = zz.toNat % 2 ^ g.b := ⟨_, rfl⟩
      rw [← hnn] at K6 TR'
      clear hnn
      unfold xor64 at K5
      refine wp_region_chgE (fun _ => False) (by kernel_rfl) (by kernel_rfl) ?_
      repeat (refine wpMixE_seg 1 _ _ rfl ?_; simp only [List.take_succ_cons, List.take_zero, List.drop_succ_cons, List.drop_zero]; go_big_quiet_step (fail); refine wpQuiet_nil ?_)
      generalize hwd : wc.drew = wd at *
      have Q0 : Hid (Chg (fun _ => False) wc wd) := Lib.hid (by rw [← hwd]; exact (Chg.refl _ _).drew)
      clear hwd
      refine wpMixE_bar rfl (by rfl) ?_
      go_wp2_with fail
      (with_reducible refine K5.out.mono ?_)
      rintro e w' ⟨rfl, rfl⟩
      go_wp2
      refine mixGo_in Q0.out ?_
      repeat (refine wpMixE_seg 1 _ _ rfl ?_; simp only [List.take_succ_cons, List.take_zero, List.drop_succ_cons, List.drop_zero]; go_big_quiet_step (fail); refine wpQuiet_nil ?_)
      refine wpMixE_bar rfl (by rfl) ?_
      go_wp2_with fail
      (with_reducible refine K6.out.mono ?_)
      rintro e w' ⟨rfl, rfl⟩
      go_wp2
      refine mixGo_in Q0.out ?_
      repeat (refine wpMixE_seg 1 _ _ rfl ?_; simp only [List.take_succ_cons, List.take_zero, List.drop_succ_cons, List.drop_zero]; go_big_quiet_step (fail); refine wpQuiet_nil ?_)
      have c2' := cell_of_row wd ha 2 _ _ _ D0.out.t
      have fc2 := frozen_of_row wd ha 2 _ _ D0.out.t
      have hlt := lt_of_block D0.out.t
      refine wpMixE_bar rfl (by rfl) ?_
      go_wp2
      refine mixGo_fin ?_
      have D1 := Lib.hid (D0.out.set2 (nn : Int) HW.out)
      generalize (wd.setCell ⟨ha, 2, none⟩ (.int .u64 (nn : Int))) = w7 at *
      rw [← TR'.out] at D1
      clear m5 m6 m7 c2' fc2 D0 TR' ln mn hlt EN M0 K5 K6 Q0
    case' inr.inr =>
      subst h
      have TR' : Hid (trigN g k m v = lowN (mixZ (xor64 m.salt v)) g.b) := Lib.hid (by have h := TR.out; simpa using h)
      unfold lowN at TR'
      have m5 := mixF_cell (F := fun _ => False) xs id
      have m6 := mixF_cell (F := fun _ => False) x7 id
      have m7 := mixF_cell (F := fun _ => False) xb id
      clear TR x5 x7 xs xb hcn
      go_upto_region 5 with (go_at_call 41; refine H3.out.mono ?_; rintro e w' ⟨rfl, rfl⟩)
      clear H3 yf yg y2
      have K5 := Lib.hid (draw_mix (xor64 m.salt v) wc.drew (isU64_wrap _))
      have K6 := Lib.hid (draw_low (mixZ (xor64 m.salt v)) g.b wc.drew (mixZ_u64 _) b1 b6)
      generalize mixZ (xor64 m.salt v) = zz at *
      obtain ⟨nn, hnn⟩ : ∃ nn, nn = zz.toNat % 2 ^ g.b := ⟨_, rfl⟩
      rw [← hnn] at K6 TR'
      clear hnn
      unfold xor64 at K5
      refine wp_region_chgE (fun _ => False) (by kernel_rfl) (by kernel_rfl) ?_
      repeat (refine wpMixE_seg 1 _ _ rfl ?_; simp only [List.take_succ_cons, List.take_zero, List.drop_succ_cons, List.drop_zero]; go_big_quiet_step (fail); refine wpQuiet_nil ?_)
      generalize hwd : wc.drew = wd at *
      have Q0 : Hid (Chg (fun _ => False) wc wd) := Lib.hid (by rw [← hwd]; exact (Chg.refl _ _).drew)
      clear hwd
      refine wpMixE_bar rfl (by rfl) ?_
      go_wp2_with fail
      (with_reducible refine K5.out.mono ?_)
      rintro e w' ⟨rfl, rfl⟩
      go_wp2
      refine mixGo_in Q0.out ?_
      repeat (refine wpMixE_seg 1 _ _ rfl ?_; simp only [List.take_succ_cons, List.take_zero, List.drop_succ_cons, List.drop_zero]; go_big_quiet_step (fail); refine wpQuiet_nil ?_)
      refine wpMixE_bar rfl (by rfl) ?_
      go_wp2_with fail
      (with_reducible refine K6.out.mono ?_)
      rintro e w' ⟨rfl, rfl⟩
      go_wp2
      refine mixGo_in Q0.out ?_
      repeat (refine wpMixE_seg 1 _ _ rfl ?_; simp only [List.take_succ_cons, List.take_zero, List.drop_succ_cons, List.drop_zero]; go_big_quiet_step (fail); refine wpQuiet_nil ?_)
      have c2' := cell_of_row wd ha 2 _ _ _ D0.out.t
      have fc2 := frozen_of_row wd ha 2 _ _ D0.out.t
      have hlt := lt_of_block D0.out.t
      refine wpMixE_bar rfl (by rfl) ?_
      go_wp2
      refine mixGo_fin ?_
      have D1 := Lib.hid (D0.out.set2 (nn : Int) HW.out)
      generalize (wd.setCell ⟨ha, 2, none⟩ (.int .u64 (nn : Int))) = w7 at *
      rw [← TR'.out] at D1
      clear m5 m6 m7 c2' fc2 D0 TR' ln mn hlt EN M0 K5 K6 Q0
    all_goals
      clear HGS
      have htl := trigN_64 g k m v b6
      obtain ⟨tr, htr⟩ : ∃ tr, tr = trigN g k m v := ⟨_, rfl⟩
      rw [← htr] at D1 htl
      have HTR := Lib.hid htr
      clear htr
      have z1 : w7.cell? ⟨w.heap.size + 2, 1, none⟩ = some (.int .i64 g.n) := cell_of_row w7 (w.heap.size + 2) 1 _ _ _ D1.out.hg
      go_upto_region 6 with fail
      go_wp2_with fail
      clear z1
      go_loopw [58] (fun iv wr => ∃ i : Nat, i ≤ g.n ∧ iv = .int .i64 i ∧ Hid (FrM w w1 b B g k A c v N nc C cc m ha A1 c1 A2 c2 (tr : Nat) (xorTo g k m i : Nat) (odTo g k m i) wr)) (fun iv _ => g.n - (intOf iv).toNat)
      case atStart => exact ⟨0, Nat.zero_le _, rfl, D1⟩
      case round =>
        obtain ⟨i, hi, rfl, M⟩ := hrel
        clear D1
        have hxl := xorTo_lt g k m b6 i
        have XS : Hid (xorTo g k m (i + 1) = if (m.claim &&& g.came).testBit i then xorTo g k m i ^^^ nonN g.b k i else xorTo g k m i) := Lib.hid rfl
        have OS : Hid (odTo g k m (i + 1) = if (m.claim &&& g.came).testBit i && (coinN g.b k i && !g.marked.testBit i && !m.mark.testBit i) then !odTo g k m i else odTo g k m i) := Lib.hid rfl
        have z1 : wr.cell? ⟨w.heap.size + 2, 2, none⟩ = some (.int .i64 g.came) := cell_of_row wr (w.heap.size + 2) 2 _ _ _ M.out.hg
        have z2 : wr.cell? ⟨w.heap.size, 0, none⟩ = some (.int .i64 m.claim) := cell_of_row wr w.heap.size 0 _ _ _ M.out.hm
        have hand := and_i64 m.claim hcl g.came hca
        have hcc := and_lt16 m.claim hcl g.came hca
        generalize m.claim &&& g.came = cc0 at *
        by_cases hlt : i < g.n
        · have i4 : i < 4 := by omega
          have H1 := Lib.hid (gam_has cc0 i wr hcc i4)
          obtain ⟨cb, hcb⟩ : ∃ cb, cb = cc0.testBit i := ⟨_, rfl⟩
          rw [← hcb] at XS OS H1
          clear hcb
          cases cb with
          | false =>
            have XS' : Hid (xorTo g k m (i + 1) = xorTo g k m i) := Lib.hid (by have h := XS.out; simpa using h)
            have OS' : Hid (odTo g k m (i + 1) = odTo g k m i) := Lib.hid (by have h := OS.out; simpa using h)
            clear XS OS
            go_wp2_with fail
            refine H1.out.mono ?_
            rintro e w' ⟨rfl, rfl⟩
            go_wp2
            go_roundw
            case rel => exact ⟨i + 1, by omega, by go_num, by rw [XS'.out, OS'.out]; exact M⟩
            case measure => simp [intOf]; omega
          | true =>
            have XS' : Hid (xorTo g k m (i + 1) = xorTo g k m i ^^^ nonN g.b k i) := Lib.hid (by have h := XS.out; simpa using h)
            obtain ⟨bb2, off2, eN, hcn, ln, mn⟩ := M.out.tab.nAt (j := i) hlt
            have x5 : wr.cell? ⟨b, 5, none⟩ = some (.slice N (nsTo g k g.n).length nc) := M.out.tab.cellAt 5 rfl
            rw [nsTo_len] at x5 ln
            rw [eN] at x5
            unfold maxLen at mn
            clear eN
            have hn64 := nonN_64 b6 k i
            have hxor := xor_u64n hxl hn64
            have hx2 : xorTo g k m i ^^^ nonN g.b k i < 64 := Nat.xor_lt_two_pow (n := 6) hxl hn64
            rw [← XS'.out] at hxor hx2
            clear XS XS'
            have z3 : wr.cell? ⟨ha, 3, none⟩ = some (.int .u64 (xorTo g k m i : Nat)) := cell_of_row wr ha 3 _ _ _ M.out.t
            have m3 := mixF_cell (F := fun _ => False) z3 id
            have m5 := mixF_cell (F := fun _ => False) x5 id
            have m6 := mixF_cell (F := fun _ => False) hcn id
            have f1 : (0 : Int) ≤ i := by omega
            have f2 : (i : Int) < g.n := by omega
            have D0 : Hid (FrM w w1 b B g k A c v N nc C cc m ha A1 c1 A2 c2 (tr : Nat) (xorTo g k m i : Nat) (odTo g k m i) wr.drew) := Lib.hid (M.out.below (Below.refl _ _).drew)
            clear x5 hcn z3
            go_upto_region 10 with (go_at_call 41; refine H1.out.mono ?_; rintro e w' ⟨rfl, rfl⟩)
            clear H1 z1 z2 M
            refine wp_region_chgE (fun _ => False) (by kernel_rfl) (by kernel_rfl) ?_
            repeat (refine wpMixE_seg 1 _ _ rfl ?_; simp only [List.take_succ_cons, List.take_zero, List.drop_succ_cons, List.drop_zero]; go_big_quiet_step (fail); refine wpQuiet_nil ?_)
            generalize hwd : wr.drew = wd at *
            clear hwd
            have c3' := cell_of_row wd ha 3 _ _ _ D0.out.t
            have fc3 := frozen_of_row wd ha 3 _ _ D0.out.t
            have hltb := lt_of_block D0.out.t
            refine wpMixE_bar rfl (by rfl) ?_
            go_wp2
            refine mixGo_fin ?_
            have D1 := Lib.hid (D0.out.set3 (xorTo g k m (i + 1) : Nat) HW.out)
            clear m3 m5 m6 c3' fc3 D0 ln mn hltb hxor
            generalize (wd.setCell ⟨ha, 3, none⟩ (.int .u64 (xorTo g k m (i + 1) : Nat))) = w9 at *
            obtain ⟨bb3, off3, eC, hcn, ln, mn⟩ := D1.out.tab.cAt (j := i) hlt
            have x6 : w9.cell? ⟨b, 6, none⟩ = some (.slice C (csTo g k g.n).length cc) := D1.out.tab.cellAt 6 rfl
            rw [csTo_len] at x6 ln
            rw [eC] at x6
            unfold maxLen at mn
            clear eC
            have y3 : w9.cell? ⟨w.heap.size + 2, 3, none⟩ = some (.int .i64 g.marked) := cell_of_row w9 (w.heap.size + 2) 3 _ _ _ D1.out.hg
            have y1 : w9.cell? ⟨w.heap.size, 1, none⟩ = some (.int .i64 m.mark) := cell_of_row w9 w.heap.size 1 _ _ _ D1.out.hm
            have y4 : w9.cell? ⟨ha, 4, none⟩ = some (.bool (odTo g k m i)) := cell_of_row w9 ha 4 _ _ _ D1.out.t
            have fy4 := frozen_of_row w9 ha 4 _ _ D1.out.t
            have hltb := lt_of_block D1.out.t
            have G1 := Lib.hid (gam_has g.marked i w9 hma i4)
            have G2 := Lib.hid (gam_has m.mark i w9 hmk i4)
            obtain ⟨ct, hct⟩ : ∃ ct, ct = coinN g.b k i := ⟨_, rfl⟩
            obtain ⟨mb, hmb⟩ : ∃ mb, mb = g.marked.testBit i := ⟨_, rfl⟩
            obtain ⟨kb, hkb⟩ : ∃ kb, kb = m.mark.testBit i := ⟨_, rfl⟩
            rw [← hct, ← hmb, ← hkb] at OS
            rw [← hct] at hcn
            rw [← hmb] at G1
            rw [← hkb] at G2
            clear hct hmb hkb
            generalize ho : odTo g k m i = o0 at *
            clear ho
            cases ct with
            | false =>
              have OS' : Hid (odTo g k m (i + 1) = o0) := Lib.hid (by have h := OS.out; simpa using h)
              clear OS
              go_wp2
              go_roundw
              case rel => exact ⟨i + 1, by omega, by go_num, by rw [OS'.out]; exact D1⟩
              case measure => simp [intOf]; omega
            | true =>
              cases mb with
              | true =>
                have OS' : Hid (odTo g k m (i + 1) = o0) := Lib.hid (by have h := OS.out; simpa using h)
                clear OS
                go_wp2_with (go_at_call 41; (with_reducible refine G1.out.mono ?_); rintro e w' ⟨rfl, rfl⟩)
                go_roundw
                case rel => exact ⟨i + 1, by omega, by go_num, by rw [OS'.out]; exact D1⟩
                case measure => simp [intOf]; omega
              | false =>
                cases kb with
                | true =>
                  have OS' : Hid (odTo g k m (i + 1) = o0) := Lib.hid (by have h := OS.out; simpa using h)
                  clear OS
                  go_wp2_with (first | (go_at_call 41; (with_reducible refine G1.out.mono ?_); rintro e w' ⟨rfl, rfl⟩) | (go_at_call 41; (with_reducible refine G2.out.mono ?_); rintro e w' ⟨rfl, rfl⟩))
                  go_roundw
                  case rel => exact ⟨i + 1, by omega, by go_num, by rw [OS'.out]; exact D1⟩
                  case measure => simp [intOf]; omega
                | false =>
                  have OS' : Hid (odTo g k m (i + 1) = !o0) := Lib.hid (by have h := OS.out; simpa using h)
                  have D2 := Lib.hid (D1.out.set4 (!o0) HW.out)
                  clear OS
                  go_wp2_with (first | (go_at_call 41; (with_reducible refine G1.out.mono ?_); rintro e w' ⟨rfl, rfl⟩) | (go_at_call 41; (with_reducible refine G2.out.mono ?_); rintro e w' ⟨rfl, rfl⟩))
                  go_roundw
                  case rel => exact ⟨i + 1, by omega, by go_num, by rw [OS'.out]; exact D2⟩
                  case measure => simp [intOf]; omega
        · obtain rfl : i = g.n := by omega
          clear XS OS hand hcc z1 z2
          have hcap := andNot_i64 m.claim hcl g.came hca
          have GX : Hid (guessX g m v = if m.guess || !(m.claim &&& (15 - g.came) == 0) then lowN (mixZ (xor64 (IntKind.u64.wrap (m.salt + 1)) v)) g.b else 0) := Lib.hid rfl
          have z0 : wr.cell? ⟨w.heap.size, 0, none⟩ = some (.int .i64 m.claim) := cell_of_row wr w.heap.size 0 _ _ _ M.out.hm
          have z3 : wr.cell? ⟨w.heap.size, 3, none⟩ = some (.bool m.guess) := cell_of_row wr w.heap.size 3 _ _ _ M.out.hm
          have z5 : wr.cell? ⟨w.heap.size, 5, none⟩ = some (.int .u64 m.salt) := cell_of_row wr w.heap.size 5 _ _ _ M.out.hm
          have z2 : wr.cell? ⟨w.heap.size + 2, 2, none⟩ = some (.int .i64 g.came) := cell_of_row wr (w.heap.size + 2) 2 _ _ _ M.out.hg
          have z6 : wr.cell? ⟨w.heap.size + 2, 0, none⟩ = some (.int .i64 g.b) := cell_of_row wr (w.heap.size + 2) 0 _ _ _ M.out.hg
          have z7 : wr.cell? ⟨b, 7, none⟩ = some (.int .u64 v) := M.out.tab.cellAt 7 rfl
          have z8 : wr.cell? ⟨ha, 3, none⟩ = some (.int .u64 (xorTo g k m g.n : Nat)) := cell_of_row wr ha 3 _ _ _ M.out.t
          generalize m.claim &&& (15 - g.came) = nt at *
          obtain ⟨gs, hgs⟩ : ∃ gs, gs = m.guess := ⟨_, rfl⟩
          rw [← hgs] at z3 GX
          clear hgs
          have hcase : (gs = true) ∨ (gs = false ∧ nt ≠ 0) ∨ (gs = false ∧ nt = 0) := by
            cases gs
            · by_cases h : nt = 0
              · exact .inr (.inr ⟨rfl, h⟩)
              · exact .inr (.inl ⟨rfl, h⟩)
            · exact .inl rfl
          rcases hcase with h | h | h
          case' inl =>
            subst h
            have GX' : Hid (guessX g m v = lowN (mixZ (xor64 (IntKind.u64.wrap (m.salt + 1)) v)) g.b) := Lib.hid (by have h := GX.out; simpa using h)
            unfold lowN at GX'
            have K5 := Lib.hid (draw_mix (xor64 (IntKind.u64.wrap (m.salt + 1)) v) wr.drew (isU64_wrap _))
            have K6 := Lib.hid (draw_low (mixZ (xor64 (IntKind.u64.wrap (m.salt + 1)) v)) g.b wr.drew (mixZ_u64 _) b1 b6)
            generalize mixZ (xor64 (IntKind.u64.wrap (m.salt + 1)) v) = zz at *
            have hnl : zz.toNat % 2 ^ g.b < 64 := Nat.lt_of_lt_of_le (Nat.mod_lt _ (Nat.pow_pos (by decide))) (pow_le64 b6)
            obtain ⟨nn, hnn⟩ : ∃ nn, nn = zz.toNat % 2 ^ g.b := ⟨_, rfl⟩
            rw [← hnn] at K6 GX' hnl
            clear hnn
            unfold xor64 at K5
            have hxor := xor_u64n hxl hnl
            have XF : Hid (xorTo g k m g.n ^^^ nn = xorTo g k m g.n ^^^ guessX g m v) := Lib.hid (by rw [GX'.out])
            have D0 : Hid (FrM w w1 b B g k A c v N nc C cc m ha A1 c1 A2 c2 (tr : Nat) (xorTo g k m g.n : Nat) (odTo g k m g.n) wr.drew) := Lib.hid (M.out.below (Below.refl _ _).drew)
            have q5 := mixF_cell (F := fun _ => False) z5 id
            have q6 := mixF_cell (F := fun _ => False) z6 id
            have q7 := mixF_cell (F := fun _ => False) z7 id
            have q8 := mixF_cell (F := fun _ => False) z8 id
            clear GX GX' z5 z6 z7 z8 M
            go_upto_region 15 with fail
            clear z0 z2 z3 hcap
            refine wp_region_chgE (fun _ => False) (by kernel_rfl) (by kernel_rfl) ?_
            repeat (refine wpMixE_seg 1 _ _ rfl ?_; simp only [List.take_succ_cons, List.take_zero, List.drop_succ_cons, List.drop_zero]; go_big_quiet_step (fail); refine wpQuiet_nil ?_)
            generalize hwd : wr.drew = wd at *
            have Q0 : Hid (Chg (fun _ => False) wr wd) := Lib.hid (by rw [← hwd]; exact (Chg.refl _ _).drew)
            clear hwd
            refine wpMixE_bar rfl (by rfl) ?_
            go_wp2_with fail
            (with_reducible refine K5.out.mono ?_)
            rintro e w' ⟨rfl, rfl⟩
            go_wp2
            refine mixGo_in Q0.out ?_
            repeat (refine wpMixE_seg 1 _ _ rfl ?_; simp only [List.take_succ_cons, List.take_zero, List.drop_succ_cons, List.drop_zero]; go_big_quiet_step (fail); refine wpQuiet_nil ?_)
            refine wpMixE_bar rfl (by rfl) ?_
            go_wp2_with fail
            (with_reducible refine K6.out.mono ?_)
            rintro e w' ⟨rfl, rfl⟩
            go_wp2
            refine mixGo_in Q0.out ?_
            repeat (refine wpMixE_seg 1 _ _ rfl ?_; simp only [List.take_succ_cons, List.take_zero, List.drop_succ_cons, List.drop_zero]; go_big_quiet_step (fail); refine wpQuiet_nil ?_)
            have c3' := cell_of_row wd ha 3 _ _ _ D0.out.t
            have fc3 := frozen_of_row wd ha 3 _ _ D0.out.t
            have hltb := lt_of_block D0.out.t
            refine wpMixE_bar rfl (by rfl) ?_
            go_wp2
            refine mixGo_fin ?_
            have M9 := Lib.hid (D0.out.set3 ((xorTo g k m g.n ^^^ nn : Nat) : Int) HW.out)
            generalize (wd.setCell ⟨ha, 3, none⟩ (.int .u64 ((xorTo g k m g.n ^^^ nn : Nat) : Int))) = w9 at *
            rw [XF.out] at M9
            clear q5 q6 q7 q8 c3' fc3 D0 hltb K5 K6 Q0 hxor XF hxl hnl
            go_upto_region 16 with fail
          case' inr.inl =>
            obtain ⟨rfl, hne⟩ := h
            have hne1 : ((nt : Int) != 0) = true := by simp; omega
            have hne2 : ((nt : Int) == 0) = false := by simp; omega
            have GX' : Hid (guessX g m v = lowN (mixZ (xor64 (IntKind.u64.wrap (m.salt + 1)) v)) g.b) := Lib.hid (by have h := GX.out; simp [hne] at h; exact h)
            unfold lowN at GX'
            have K5 := Lib.hid (draw_mix (xor64 (IntKind.u64.wrap (m.salt + 1)) v) wr.drew (isU64_wrap _))
            have K6 := Lib.hid (draw_low (mixZ (xor64 (IntKind.u64.wrap (m.salt + 1)) v)) g.b wr.drew (mixZ_u64 _) b1 b6)
            generalize mixZ (xor64 (IntKind.u64.wrap (m.salt + 1)) v) = zz at *
            have hnl : zz.toNat % 2 ^ g.b < 64 := Nat.lt_of_lt_of_le (Nat.mod_lt _ (Nat.pow_pos (by decide))) (pow_le64 b6)
            obtain ⟨nn, hnn⟩ : ∃ nn, nn = zz.toNat % 2 ^ g.b := ⟨_, rfl⟩
            rw [← hnn] at K6 GX' hnl
            clear hnn
            unfold xor64 at K5
            have hxor := xor_u64n hxl hnl
            have XF : Hid (xorTo g k m g.n ^^^ nn = xorTo g k m g.n ^^^ guessX g m v) := Lib.hid (by rw [GX'.out])
            have D0 : Hid (FrM w w1 b B g k A c v N nc C cc m ha A1 c1 A2 c2 (tr : Nat) (xorTo g k m g.n : Nat) (odTo g k m g.n) wr.drew) := Lib.hid (M.out.below (Below.refl _ _).drew)
            have q5 := mixF_cell (F := fun _ => False) z5 id
            have q6 := mixF_cell (F := fun _ => False) z6 id
            have q7 := mixF_cell (F := fun _ => False) z7 id
            have q8 := mixF_cell (F := fun _ => False) z8 id
            clear GX GX' z5 z6 z7 z8 M
            go_upto_region 15 with fail
            clear z0 z2 z3 hcap
            refine wp_region_chgE (fun _ => False) (by kernel_rfl) (by kernel_rfl) ?_
            repeat (refine wpMixE_seg 1 _ _ rfl ?_; simp only [List.take_succ_cons, List.take_zero, List.drop_succ_cons, List.drop_zero]; go_big_quiet_step (fail); refine wpQuiet_nil ?_)
            generalize hwd : wr.drew = wd at *
            have Q0 : Hid (Chg (fun _ => False) wr wd) := Lib.hid (by rw [← hwd]; exact (Chg.refl _ _).drew)
            clear hwd
            refine wpMixE_bar rfl (by rfl) ?_
            go_wp2_with fail
            (with_reducible refine K5.out.mono ?_)
            rintro e w' ⟨rfl, rfl⟩
            go_wp2
            refine mixGo_in Q0.out ?_
            repeat (refine wpMixE_seg 1 _ _ rfl ?_; simp only [List.take_succ_cons, List.take_zero, List.drop_succ_cons, List.drop_zero]; go_big_quiet_step (fail); refine wpQuiet_nil ?_)
            refine wpMixE_bar rfl (by rfl) ?_
            go_wp2_with fail
            (with_reducible refine K6.out.mono ?_)
            rintro e w' ⟨rfl, rfl⟩
            go_wp2
            refine mixGo_in Q0.out ?_
            repeat (refine wpMixE_seg 1 _ _ rfl ?_; simp only [List.take_succ_cons, List.take_zero, List.drop_succ_cons, List.drop_zero]; go_big_quiet_step (fail); refine wpQuiet_nil ?_)
            have c3' := cell_of_row wd ha 3 _ _ _ D0.out.t
            have fc3 := frozen_of_row wd ha 3 _ _ D0.out.t
            have hltb := lt_of_block D0.out.t
            refine wpMixE_bar rfl (by rfl) ?_
            go_wp2
            refine mixGo_fin ?_
            have M9 := Lib.hid (D0.out.set3 ((xorTo g k m g.n ^^^ nn : Nat) : Int) HW.out)
            generalize (wd.setCell ⟨ha, 3, none⟩ (.int .u64 ((xorTo g k m g.n ^^^ nn : Nat) : Int))) = w9 at *
            rw [XF.out] at M9
            clear q5 q6 q7 q8 c3' fc3 D0 hltb K5 K6 Q0 hxor XF hxl hnl
            go_upto_region 16 with fail
          case' inr.inr =>
            obtain ⟨rfl, rfl⟩ := h
            have GX' : Hid (((xorTo g k m g.n ^^^ guessX g m v : Nat) : Int) = (xorTo g k m g.n : Nat)) := Lib.hid (by have h := GX.out; simp at h; rw [h]; simp)
            have M' := M.out
            rw [← GX'.out] at M'
            have M9 := Lib.hid M'
            clear GX GX' M' z5 z6 z7 z8 M hxl
            go_upto_region 16 with fail
            clear z0 z2 z3 hcap
            generalize wr = w9 at *
          all_goals
            have gl := guessX_64 g m v b6
            have xl := xorTo_lt g k m b6 g.n
            have xf : xorTo g k m g.n ^^^ guessX g m v < 64 := Nat.xor_lt_two_pow (n := 6) xl gl
            obtain ⟨xx, hxx⟩ : ∃ xx, xx = xorTo g k m g.n ^^^ guessX g m v := ⟨_, rfl⟩
            rw [← hxx] at M9 xf
            have HXX := Lib.hid hxx
            clear hxx gl xl
            generalize ho : odTo g k m g.n = od at *
            have HO := Lib.hid ho
            clear ho
            have z0 := cell_of_row w9 ha 0 _ _ _ M9.out.t
            have z1 := cell_of_row w9 ha 1 _ _ _ M9.out.t
            have z2 := cell_of_row w9 ha 2 _ _ _ M9.out.t
            have z3 := cell_of_row w9 ha 3 _ _ _ M9.out.t
            have z4 := cell_of_row w9 ha 4 _ _ _ M9.out.t
            have zr := M9.out.hr
            have y0 := cell_of_row w9 (w.heap.size + 1) 0 _ _ _ zr
            have fy0 := frozen_of_row w9 (w.heap.size + 1) 0 _ _ zr
            have y1 := cell_of_row w9 (w.heap.size + 1) 1 _ _ _ zr
            have fy1 := frozen_of_row w9 (w.heap.size + 1) 1 _ _ zr
            have y2 := cell_of_row w9 (w.heap.size + 1) 2 _ _ _ zr
            have fy2 := frozen_of_row w9 (w.heap.size + 1) 2 _ _ zr
            have y3 := cell_of_row w9 (w.heap.size + 1) 3 _ _ _ zr
            have fy3 := frozen_of_row w9 (w.heap.size + 1) 3 _ _ zr
            have y4 := cell_of_row w9 (w.heap.size + 1) 4 _ _ _ zr
            have fy4 := frozen_of_row w9 (w.heap.size + 1) 4 _ _ zr
            have q := fill_all [.slice A1 (rowS m.claim g.n).length c1, .slice A2 (rowS m.mark g.n).length c2, .int .u64 (tr : Nat), .int .u64 (xx : Nat), .bool od] zr rfl
            have hf := fill_chg (w.heap.size + 1) [.slice A1 (rowS m.claim g.n).length c1, .slice A2 (rowS m.mark g.n).length c2, .int .u64 (tr : Nat), .int .u64 (xx : Nat), .bool od] w9 0
            simp only [fillFrom] at q hf
            have HQ := Lib.hid q
            have HF := Lib.hid hf
            clear q hf zr
            go_wp2
            (try simp only [Exit.inBlock, Exit.then])
            refine bodyPost_ret (results_cell_row rfl _ _ (w.heap.size + 1) _ _ _ _ rfl HQ.out Tryz.underlying74 rfl infoAck2) rfl ?_
            have ok1 := rowS_ok hcl n4
            have ok2 := rowS_ok hmk n4
            refine ⟨⟨A1, c1, A2, c2, rowS m.claim g.n, rowS m.mark g.n, (tr : Nat), (xx : Nat), od⟩, rfl, ⟨rfl, rfl, by rw [HTR.out]; rfl, by rw [HXX.out]; rfl, by rw [← HO.out]; rfl⟩, ⟨M9.out.r1.chg HF.out (fun j off e hn e' => by have := M9.out.n1 j off e hn; omega), M9.out.r2.chg HF.out (fun j off e hn e' => by have := M9.out.n2 j off e hn; omega), ok1.2.2.2, ok2.2.2.2, ⟨by show (0 : Int) ≤ (tr : Nat); omega, by show ((tr : Nat) : Int) < _; omega⟩, ⟨by show (0 : Int) ≤ (xx : Nat); omega, by show ((xx : Nat) : Int) < _; omega⟩⟩, M9.out.bel.trans (HF.out.below M9.out.bel.size (fun j hj e => by omega))⟩
end Go.Proofs.YtpfmhkkglaghgaaGreat
