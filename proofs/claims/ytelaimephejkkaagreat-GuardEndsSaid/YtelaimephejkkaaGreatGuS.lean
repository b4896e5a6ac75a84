/-
  The program's guard alone, the reference's ledger beside it: what the laws of one guard stand on.
-/
import Derived.Test.YtelaimephejkkaaGreatGuL
import Derived.Test.YtelaimephejkkaaGreatGuQ
namespace Go.Proofs.YtelaimephejkkaaGreat
set_option linter.unusedSimpArgs false
set_option linter.unusedVariables false
set_option linter.unnecessarySimpa false
open Go.RowKit

structure Solo (w : World) (N M : Nat → Prop) (h1 p r b : Nat) (s t : LS) (g : GS) (W : World) : Prop where
  al : AlC N p b s g W
  R : TwoR W M p r t
  mn : ∀ k, M k → N k ∧ k ≠ h1 ∧ w.heap.size ≤ k
  t1 : W.heap[h1]? = some (.cells (P2 p r) 28 (0, 0))
  n1 : N h1
  nl : ∀ k, N k → k < W.heap.size
  nw : ∀ k, k < w.heap.size → N k
  bel : Below w.heap.size w W
  l1 : w.heap.size ≤ h1
  len : t.all.length ≤ 80
theorem Solo.below {w W W' : World} {N M : Nat → Prop} {h1 p r b : Nat} {s t : LS} {g : GS} (h : Solo w N M h1 p r b s t g W) (q : Below W.heap.size W W') : Solo w N M h1 p r b s t g W' :=
  ⟨h.al.below q, h.R.below q, h.mn, (q.block _ (lt_of_block h.t1)).trans h.t1, h.n1, fun k hk => Nat.lt_of_lt_of_le (h.nl k hk) q.size, h.nw, h.bel.trans (q.mono h.bel.size), h.l1, h.len⟩
/-- What has come since W0 is kept clear of. -/
theorem Solo.grow {w W W' : World} {N M : Nat → Prop} {h1 p r b : Nat} {s t : LS} {g : GS} (h : Solo w N M h1 p r b s t g W) (q : Below W.heap.size W W') : Solo w (fun k => N k ∨ (W.heap.size ≤ k ∧ k < W'.heap.size)) M h1 p r b s t g W' := by
  have h' := h.below q
  exact ⟨h.al.grow q, h'.R, fun k hk => ⟨.inl (h.mn k hk).1, (h.mn k hk).2⟩, h'.t1, .inl h.n1, fun k hk => hk.elim (h'.nl k) (fun e => e.2), fun k hk => .inl (h.nw k hk), h'.bel, h.l1, h.len⟩
theorem Solo.sub {w W : World} {N N' M : Nat → Prop} {h1 p r b : Nat} {s t : LS} {g : GS} (h : Solo w N' M h1 p r b s t g W) (hN : ∀ k, N k → N' k) (n1 : N h1) (nw : ∀ k, k < w.heap.size → N k) (hM : ∀ k, M k → N k) : Solo w N M h1 p r b s t g W :=
  ⟨h.al.sub fun k _ hk => hN k hk, h.R, fun k hk => ⟨hM k hk, (h.mn k hk).2⟩, h.t1, n1, fun k hk => h.nl k (hN k hk), nw, h.bel, h.l1, h.len⟩
theorem Solo.chg {w W W' : World} {N M Z : Nat → Prop} {h1 p r b : Nat} {s t : LS} {g : GS} (h : Solo w N M h1 p r b s t g W) (hc : Chg Z W W') (hZ : ∀ k, k < W.heap.size → Z k → N k ∧ k ≠ h1 ∧ w.heap.size ≤ k ∧ ¬ M k) : Solo w N M h1 p r b s t g W' := by
  have e1 := lt_of_block h.t1
  exact ⟨h.al.chg hc fun k hk hz => (hZ k hk hz).1, h.R.chg hc (fun k hk hm hz => (hZ k hk hz).2.2.2 hm), h.mn, hc.blk h.t1 (fun e => (hZ _ e1 e).2.1 rfl), h.n1, fun k hk => Nat.lt_of_lt_of_le (h.nl k hk) hc.size, h.nw, h.bel.trans (hc.below h.bel.size (fun k hk e => by have := (hZ k (Nat.lt_of_lt_of_le hk h.bel.size) e).2.2.1; omega)), h.l1, h.len⟩
/-- The beginning: a ledger and its reference, a guard. -/
theorem Solo.start {w w2 w3 : World} {h1 p r b : Nat} {s : LS} {g : GS} (hT : Two w2 (fun j => w.heap.size ≤ j ∧ j < h1) p r s) (t1 : w2.heap[h1]? = some (.cells (P2 p r) 28 (0, 0))) (hb : Below w.heap.size w w2) (l1 : w.heap.size ≤ h1) (s2 : w2.heap.size = h1 + 1)
    (hG : GuaP w3 (fun k => w2.heap.size ≤ k) (fun _ => False) b g) (hb3 : Below w2.heap.size w2 w3) (len : s.all.length ≤ 80) : ∃ N M : Nat → Prop, Solo w N M h1 p r b s s g w3 := by
  have hs3 := hb3.size
  obtain ⟨G, H, hPr, hPs⟩ := hT.below hb3
  have gp : GuaP w3 (fun k => w2.heap.size ≤ k ∧ k < w3.heap.size) (fun _ => False) b g := hG.sub (F' := fun k => w2.heap.size ≤ k ∧ k < w3.heap.size) (E' := fun _ => False) (fun k hk h => ⟨h, hk⟩) (fun _ _ h => h) (fun k h => h.elim)
  refine ⟨fun k => k < w.heap.size ∨ k = h1 ∨ H k, H, ⟨⟨G, _, _, hPr.p, gp, fun k hk => ⟨fun h => by have := (hPs k (.inl hk)).1; omega, fun h => h⟩, fun k hk => ?_⟩, ⟨H, hPr.r, fun k hk => ⟨hk, (hPs k (.inr hk)).2⟩⟩, fun k hk => ⟨.inr (.inr hk), by have := (hPs k (.inr hk)).1; omega, (hPs k (.inr hk)).1.1⟩, (hb3.block _ (by omega)).trans t1, .inr (.inl rfl), fun k hk => ?_, fun k hk => .inl hk, hb.trans (hb3.mono (by omega)), l1, len⟩⟩
  · rcases hk with hk | hk | hk
    · have h2 := hPs k (.inl hk)
      exact ⟨h2.2, fun hn => by rcases hn with hn | hn | hn; omega; omega; exact hPr.dj k hk hn⟩
    · exact ⟨hk.2, fun hn => by rcases hn with hn | hn | hn; omega; omega; (have := (hPs k (.inr hn)).1; omega)⟩
    · exact hk.elim
  · rcases hk with hk | hk | hk
    · omega
    · omega
    · exact (hPs k (.inr hk)).2
theorem own_new {w : World} {base : Nat} {e : TypeId} {size n c : Nat} {A : Option Addr} {xs : List Value} (h : w.ownsRow base e size (.slice A n c) n xs) : ∀ b off, A = some ⟨b, off, none⟩ → 0 < n → base ≤ b := by
  intro b off e hn
  obtain ⟨A', c', e', h'⟩ := own_slice h
  injection e' with e1 e2 e3
  obtain ⟨g, eg, hg⟩ := h' hn
  rw [e1, eg] at e
  injection e with e
  injection e with e
  omega
/-- The reference has marked a number as used too. -/
theorem Solo.used {w W W' : World} {N M : Nat → Prop} {h1 p r b : Nat} {s t t' : LS} {g : GS} {H : Nat → Prop} (h : Solo w N M h1 p r b s t g W) (hH : ∀ k, H k → M k) (hL : LedR W' H r t') (hl : ∀ k, H k → k < W.heap.size) (hc : Chg H W W') (len : t'.all.length ≤ 80) : Solo w N M h1 p r b s t' g W' := by
  have e1 := lt_of_block h.t1
  exact ⟨h.al.chg hc fun k hk hz => (h.mn k (hH k hz)).1, ⟨H, hL, fun k hk => ⟨hH k hk, Nat.lt_of_lt_of_le (hl k hk) hc.size⟩⟩, h.mn, hc.blk h.t1 (fun e => (h.mn _ (hH _ e)).2.1 rfl), h.n1, fun k hk => Nat.lt_of_lt_of_le (h.nl k hk) hc.size, h.nw, h.bel.trans (hc.below h.bel.size (fun k hk e => by have := (h.mn k (hH k e)).2.2; omega)), h.l1, len⟩
/-- A take, wherever its boxes were made. -/
structure Took (w wr W vB : World) (N : Nat → Prop) (p b : Nat) (o : GOut) : Prop where
  bel : Below wr.heap.size wr W
  al : AlC (fun k => N k ∨ (wr.heap.size ≤ k ∧ k < W.heap.size)) p b o.s o.g vB
  chg : Chg (fun k => ¬ (N k ∨ (wr.heap.size ≤ k ∧ k < W.heap.size))) W vB
theorem Took.keep {w wr W vB : World} {N : Nat → Prop} {p b : Nat} {o : GOut} (h : Took w wr W vB N p b o) {k : Nat} {x : Obj} (hk : wr.heap.size ≤ k) (hx : W.heap[k]? = some x) : vB.heap[k]? = some x :=
  h.chg.blk hx (fun e => e (.inr ⟨hk, lt_of_block hx⟩))
theorem solo_take {w wr : World} {N M : Nat → Prop} {h1 p r b : Nat} {s t : LS} {g : GS} (h : Solo w N M h1 p r b s t g wr) (now : Int) (hnow : isU64 now) (W : World) (q : Below wr.heap.size wr W) (A : Option Addr) (c : Nat) (f : List Int)
    (hr : Rd W 1 A f.length c (U8 f)) (hb : ∀ x ∈ f, 0 ≤ x ∧ x ≤ 255) (hl : f.length ≤ 70368744177664) :
    Calls Tryz.prog 18 #[.pointer (some ⟨b, 0, none⟩), .pointer (some ⟨p, 0, none⟩), .slice A f.length c, .int .u64 now] W fun e w' => ∃ a : Ak,
      e = .returned (.tuple #[.agg #[.int .i64 (g.take s f now).v.kind, .int .i64 (g.take s f now).v.why, .int .u64 (g.take s f now).v.pn, .bool (g.take s f now).v.ch], .agg #[.slice a.A a.sp.length a.c, .slice a.B a.mm.length a.d, .int .u64 a.tr, .int .u64 a.xo, .bool a.od]]) ∧ a.is (g.take s f now).a ∧ AkE w' (fun k => W.heap.size ≤ k) a ∧ Took w wr W w' N p b (g.take s f now) := by
  refine (alc_take _ p b s g W A c f now (h.al.grow q) (fun k hk => hk.elim (fun hn => Nat.lt_of_lt_of_le (h.nl k hn) q.size) (fun e => e.2)) hr hb hl hnow).mono ?_
  rintro e w' ⟨a, rfl, ia, hA, hal, hc⟩
  exact ⟨a, rfl, ia, hA, q, hal, hc⟩
/-- The cells that the region reads. -/
def GsK (h1 p r bb off : Nat) (sh : Sh) (W : World) : Prop :=
  W.cell? ⟨h1, 0, none⟩ = some (.pointer (some ⟨p, 0, none⟩)) ∧ W.cell? ⟨h1, 1, none⟩ = some (.pointer (some ⟨r, 0, none⟩)) ∧
  W.cell? ⟨bb, off, none⟩ = some (.int .i64 sh.kind) ∧ W.cell? ⟨bb, off + 1, none⟩ = some (.slice sh.A sh.b.length sh.c) ∧ W.cell? ⟨bb, off + 2, none⟩ = some (.int .u16 sh.k.a) ∧ W.cell? ⟨bb, off + 3, none⟩ = some (.int .u16 sh.k.b) ∧ W.cell? ⟨bb, off + 4, none⟩ = some (.int .u16 sh.k.c) ∧ W.cell? ⟨bb, off + 5, none⟩ = some (.int .u16 sh.k.d) ∧ W.cell? ⟨bb, off + 6, none⟩ = some (.int .u64 sh.x) ∧ W.cell? ⟨bb, off + 7, none⟩ = some (.bool sh.right) ∧ W.cell? ⟨bb, off + 8, none⟩ = some (.int .u16 sh.wait)
theorem GsK.of {h1 p r bb off : Nat} {sh : Sh} {W : World} (t1 : W.heap[h1]? = some (.cells (P2 p r) 28 (0, 0))) (h : ShAt W bb off sh) : GsK h1 p r bb off sh W :=
  ⟨cell_of_row W h1 0 _ _ _ t1, cell_of_row W h1 1 _ _ _ t1, h.c0, h.c1, h.c2, h.c3, h.c4, h.c5, h.c6, h.c7, h.c8⟩
theorem GsK.chg {h1 p r bb off : Nat} {sh : Sh} {W W' : World} {Z : Nat → Prop} (h : GsK h1 p r bb off sh W) (hc : Chg Z W W') (z1 : ¬ Z h1) (z3 : ¬ Z bb) : GsK h1 p r bb off sh W' := by
  obtain ⟨e3, e4, c0, c1, c2, c3, c4, c5, c6, c7, c8⟩ := h
  exact ⟨hc.cell e3 z1, hc.cell e4 z1, hc.cell c0 z3, hc.cell c1 z3, hc.cell c2 z3, hc.cell c3 z3, hc.cell c4 z3, hc.cell c5 z3, hc.cell c6 z3, hc.cell c7 z3, hc.cell c8 z3⟩
theorem solo_frame {w wr : World} {N M : Nat → Prop} {h1 p r b : Nat} {s t : LS} {g : GS} (h : Solo w N M h1 p r b s t g wr) (sh : Sh) (hs : sh.ok wr) (W : World) (q : Below wr.heap.size wr W) :
    Calls Tryz.prog 14 #[sh.val, .agg #[.pointer (some ⟨p, 0, none⟩), .pointer (some ⟨r, 0, none⟩)]] W fun e w' => FrameVal W w' sh e :=
  frame_any W _ p r t sh (h.R.below q) h.len (hs.below q)
/-- Behind the region. -/
structure SoEnd (w : World) (N M : Nat → Prop) (h1 p r b : Nat) (t : LS) (wr : World) (o : GOut) (hV hA : Nat) (a : Ak) (wx : World) : Prop where
  so : Solo w N M h1 p r b o.s t o.g wx
  chg : Chg (fun k => ¬ N k) wr wx
  tv : wx.heap[hV]? = some (.cells #[.int .i64 o.v.kind, .int .i64 o.v.why, .int .u64 o.v.pn, .bool o.v.ch] 44 (0, 0))
  ta : wx.heap[hA]? = some (.cells #[.slice a.A a.sp.length a.c, .slice a.B a.mm.length a.d, .int .u64 a.tr, .int .u64 a.xo, .bool a.od] 56 (0, 0))
  is : a.is o.a
  lv : wr.heap.size ≤ hV
  la : wr.heap.size ≤ hA
  al2 : AlC (fun k => N k ∨ k = hV ∨ k = hA) p b o.s o.g wx
theorem Took.close {w wr W vB wx : World} {N M : Nat → Prop} {h1 p r b : Nat} {s t : LS} {g : GS} {o : GOut} (h : Solo w N M h1 p r b s t g wr) (k : Took w wr W vB N p b o) (hx : Chg (fun k => (wr.heap.size ≤ k ∧ k < W.heap.size) ∨ vB.heap.size ≤ k) vB wx) :
    Solo w N M h1 p r b o.s t o.g wx ∧ Chg (fun k => ¬ N k) wr wx := by
  have e1 := lt_of_block h.t1
  have s1 := k.bel.size
  have s2 := h.bel.size
  have s3 := k.chg.size
  have s4 := hx.size
  have c1 : Chg (fun k => ¬ N k) wr vB := (chg_below k.bel).step k.chg (fun i _ e hn => e (.inl hn))
  have c2 : Chg (fun k => ¬ N k) wr wx := c1.step hx (fun i hi e => by omega)
  have t1 := hx.blk (k.chg.blk ((k.bel.block _ e1).trans h.t1) (fun e => e (.inl h.n1))) (fun e => by omega)
  have al := (k.al.chg (N := fun k => N k ∨ (wr.heap.size ≤ k ∧ k < W.heap.size)) hx (fun j hj e => e.elim .inr (fun e => by omega))).sub (N' := N) (fun j _ hn => .inl hn)
  refine ⟨⟨al, (((h.R.below k.bel).chg k.chg (fun j hj hf e => e (.inl (h.mn j hf).1))).chg hx (fun j hj hf e => by have := h.nl j (h.mn j hf).1; omega)), h.mn, t1, h.n1, fun j hj => by have := h.nl j hj; omega, h.nw, ?_, h.l1, h.len⟩, c2⟩
  exact h.bel.trans (c2.below s2 (fun j hj e => e (h.nw j hj)))
/-- Own memory keeps clear of what was made behind it. -/
theorem Took.wide {w wr W vB wx : World} {N : Nat → Prop} {p b : Nat} {o : GOut} (k : Took w wr W vB N p b o) (hx : Chg (fun k => (wr.heap.size ≤ k ∧ k < W.heap.size) ∨ vB.heap.size ≤ k) vB wx) : AlC (fun k => N k ∨ (wr.heap.size ≤ k ∧ k < W.heap.size) ∨ vB.heap.size ≤ k) p b o.s o.g wx := by
  obtain ⟨T, F, E, hL, hG, hd, hs⟩ := k.al.ex
  have sz := hx.size
  have nn : ∀ k, T k ∨ F k ∨ E k → ¬ ((wr.heap.size ≤ k ∧ k < W.heap.size) ∨ vB.heap.size ≤ k) := fun k hk e => e.elim (fun h => (hs k hk).2 (.inr h)) (fun h => by have := (hs k hk).1; omega)
  exact ⟨T, F, E, hL.chg hx (fun k hk ht => nn k (.inl ht)) (fun _ _ h => h), hG.chg hx (fun k hk hf => nn k (.inr hf)) (fun _ _ h => h) (fun _ _ h => h) hG.dj, hd, fun k hk => ⟨Nat.lt_of_lt_of_le (hs k hk).1 sz, fun hn => hn.elim (fun h => (hs k hk).2 (.inl h)) (fun h => nn k hk h)⟩⟩
theorem SoEnd.of {w wr W vB wx : World} {N M : Nat → Prop} {h1 p r b : Nat} {s t : LS} {g : GS} {o : GOut} {hV hA : Nat} {a : Ak} (h : Solo w N M h1 p r b s t g wr) (k : Took w wr W vB N p b o) (hx : Chg (fun k => (wr.heap.size ≤ k ∧ k < W.heap.size) ∨ vB.heap.size ≤ k) vB wx)
    (tv : wx.heap[hV]? = some (.cells #[.int .i64 o.v.kind, .int .i64 o.v.why, .int .u64 o.v.pn, .bool o.v.ch] 44 (0, 0)))
    (ta : wx.heap[hA]? = some (.cells #[.slice a.A a.sp.length a.c, .slice a.B a.mm.length a.d, .int .u64 a.tr, .int .u64 a.xo, .bool a.od] 56 (0, 0))) (ia : a.is o.a) (lv : wr.heap.size ≤ hV) (la : wr.heap.size ≤ hA) (pv : (wr.heap.size ≤ hV ∧ hV < W.heap.size) ∨ vB.heap.size ≤ hV) (pa : (wr.heap.size ≤ hA ∧ hA < W.heap.size) ∨ vB.heap.size ≤ hA) : SoEnd w N M h1 p r b t wr o hV hA a wx :=
  ⟨(k.close h hx).1, (k.close h hx).2, tv, ta, ia, lv, la, (k.wide hx).sub fun i _ hi => hi.elim .inl (fun e => .inr (e.elim (fun e => e ▸ pv) (fun e => e ▸ pa)))⟩
/-- The region of that number. -/
def regOf (n : Nat) : Code → Option Code
  | .region i o b => if i = n then some (.region i o b) else none
  | .loop c => regOf n c
  | .seq a b => match regOf n a with
    | some c => some c
    | none => regOf n b
  | .block _ c => regOf n c
  | .scope c => regOf n c
  | .cond _ a b => match regOf n a with
    | some c => some c
    | none => regOf n b
  | _ => none
/-- Rows of boxes, through what is made and stored behind them. -/
theorem row_new {W : World} {o : Obj} {h : Nat} (e : h = W.heap.size) : (W.alloc o).heap[h]? = some o := by subst e; exact heap_alloc_new _ _
theorem row_alloc {W : World} {o o' : Obj} {h : Nat} (q : W.heap[h]? = some o) : (W.alloc o').heap[h]? = some o := ((box_below W o').block _ (lt_of_block q)).trans q
theorem row_drew {W : World} {o : Obj} {h : Nat} (q : W.heap[h]? = some o) : W.drew.heap[h]? = some o := q
theorem row_other {W : World} {o : Obj} {h g i : Nat} {v : Value} (n : h ≠ g) (q : W.heap[h]? = some o) : (W.setCell ⟨g, i, none⟩ v).heap[h]? = some o := (Below.heap_setCell _ _ _ _ (fun e => n e)).trans q
theorem row_fill4 {W : World} {h : Nat} {t : TypeId} {cs : Array Value} {a b c d : Value} (q : W.heap[h]? = some (.cells cs t (0, 0))) (n : cs.size = 4) : ((((W.setCell ⟨h, 0, none⟩ a).setCell ⟨h, 1, none⟩ b).setCell ⟨h, 2, none⟩ c).setCell ⟨h, 3, none⟩ d).heap[h]? = some (.cells #[a, b, c, d] t (0, 0)) := by
  have := fill_all [a, b, c, d] q n.symm
  simpa only [fillFrom] using this
theorem row_fill5 {W : World} {h : Nat} {t : TypeId} {cs : Array Value} {a b c d e : Value} (q : W.heap[h]? = some (.cells cs t (0, 0))) (n : cs.size = 5) : (((((W.setCell ⟨h, 0, none⟩ a).setCell ⟨h, 1, none⟩ b).setCell ⟨h, 2, none⟩ c).setCell ⟨h, 3, none⟩ d).setCell ⟨h, 4, none⟩ e).heap[h]? = some (.cells #[a, b, c, d, e] t (0, 0)) := by
  have := fill_all [a, b, c, d, e] q n.symm
  simpa only [fillFrom] using this
def zV : Obj := .cells #[.int .i64 0, .int .i64 0, .int .u64 0, .bool false] 44 (0, 0)
def zA : Obj := .cells #[.slice none 0 0, .slice none 0 0, .int .u64 0, .int .u64 0, .bool false] 56 (0, 0)
theorem zV_cells {W : World} {h : Nat} (q : W.heap[h]? = some zV) :
    (W.cell? ⟨h, 0, none⟩ = some (.int .i64 0) ∧ W.cell? ⟨h, 1, none⟩ = some (.int .i64 0) ∧ W.cell? ⟨h, 2, none⟩ = some (.int .u64 0) ∧ W.cell? ⟨h, 3, none⟩ = some (.bool false)) ∧
    W.frozen? ⟨h, 0, none⟩ = false ∧ W.frozen? ⟨h, 1, none⟩ = false ∧ W.frozen? ⟨h, 2, none⟩ = false ∧ W.frozen? ⟨h, 3, none⟩ = false := by
  unfold zV at q
  exact ⟨⟨cell_of_row W h 0 _ _ _ q, cell_of_row W h 1 _ _ _ q, cell_of_row W h 2 _ _ _ q, cell_of_row W h 3 _ _ _ q⟩, frozen_of_row W h 0 _ _ q, frozen_of_row W h 1 _ _ q, frozen_of_row W h 2 _ _ q, frozen_of_row W h 3 _ _ q⟩
theorem zA_cells {W : World} {h : Nat} (q : W.heap[h]? = some zA) :
    (W.cell? ⟨h, 0, none⟩ = some (.slice none 0 0) ∧ W.cell? ⟨h, 1, none⟩ = some (.slice none 0 0) ∧ W.cell? ⟨h, 2, none⟩ = some (.int .u64 0) ∧ W.cell? ⟨h, 3, none⟩ = some (.int .u64 0) ∧ W.cell? ⟨h, 4, none⟩ = some (.bool false)) ∧
    W.frozen? ⟨h, 0, none⟩ = false ∧ W.frozen? ⟨h, 1, none⟩ = false ∧ W.frozen? ⟨h, 2, none⟩ = false ∧ W.frozen? ⟨h, 3, none⟩ = false ∧ W.frozen? ⟨h, 4, none⟩ = false := by
  unfold zA at q
  exact ⟨⟨cell_of_row W h 0 _ _ _ q, cell_of_row W h 1 _ _ _ q, cell_of_row W h 2 _ _ _ q, cell_of_row W h 3 _ _ _ q, cell_of_row W h 4 _ _ _ q⟩, frozen_of_row W h 0 _ _ q, frozen_of_row W h 1 _ _ q, frozen_of_row W h 2 _ _ q, frozen_of_row W h 3 _ _ q, frozen_of_row W h 4 _ _ q⟩
/-- The boxes are kept too. -/
theorem SoEnd.so2 {w wr wx : World} {N M : Nat → Prop} {h1 p r b hV hA : Nat} {t : LS} {o : GOut} {a : Ak} (h : SoEnd w N M h1 p r b t wr o hV hA a wx) : Solo w (fun k => N k ∨ k = hV ∨ k = hA) M h1 p r b o.s t o.g wx := by
  obtain ⟨-, hR, hm, t1, n1, nl, nw, bel, l1, len⟩ := h.so
  exact ⟨h.al2, hR, fun k hk => ⟨.inl (hm k hk).1, (hm k hk).2⟩, t1, .inl n1, fun k hk => by rcases hk with hk | hk | hk; exact nl k hk; exact hk ▸ lt_of_block h.tv; exact hk ▸ lt_of_block h.ta, fun k hk => .inl (nw k hk), bel, l1, len⟩
/-- Two boxes made ahead of something else. -/
theorem twoBoxes (W : World) (o o' : Obj) : (W.alloc o).heap[W.heap.size]? = some o ∧ ((W.alloc o).alloc o').heap[W.heap.size]? = some o ∧ ((W.alloc o).alloc o').heap[W.heap.size + 1]? = some o' := by
  obtain ⟨q1, q2, -, -⟩ := boxes2 W o o'
  exact ⟨heap_alloc_new W o, q1, q2⟩
theorem below_box {B : Nat} {a W : World} {o : Obj} (hp : B ≤ W.heap.size) (h : Below B a W) : Below B a (W.alloc o) := h.alloc hp o
theorem chg_cell {F : Nat → Prop} {a W : World} {b i : Nat} {v : Value} (hp : F b) (h : Chg F a W) : Chg F a (W.setCell ⟨b, i, none⟩ v) := h.setCell (.inl hp) v
def vRow (o : GOut) : Obj := .cells #[.int .i64 o.v.kind, .int .i64 o.v.why, .int .u64 o.v.pn, .bool o.v.ch] 44 (0, 0)
def aRow (a : Ak) : Obj := .cells #[.slice a.A a.sp.length a.c, .slice a.B a.mm.length a.d, .int .u64 a.tr, .int .u64 a.xo, .bool a.od] 56 (0, 0)
section
variable {w wr W vB : World} {N M : Nat → Prop} {h1 p r b : Nat} {s t : LS} {g : GS} {o : GOut} {a : Ak} {x y : Nat}
theorem SoEnd.f1 (h : Solo w N M h1 p r b s t g wr) (k : Took w wr W vB N p b o) (ia : a.is o.a) : SoEnd w N M h1 p r b t wr o vB.heap.size (vB.heap.size + 1) a ((vB.alloc (.cells #[.int .i64 o.v.kind, .int .i64 o.v.why, .int .u64 o.v.pn, .bool o.v.ch] 44)).alloc (.cells #[.slice a.A a.sp.length a.c, .slice a.B a.mm.length a.d, .int .u64 a.tr, .int .u64 a.xo, .bool a.od] 56)) := by
  have s1 := k.bel.size
  have s2 := k.chg.size
  have q := boxes2 vB (vRow o) (aRow a)
  exact SoEnd.of h k (((Chg.refl _ _).alloc _).alloc _) q.1 q.2.1 ia (by omega) (by omega) (.inr (Nat.le_refl _)) (.inr (Nat.le_succ _))
theorem SoEnd.f2 (h : Solo w N M h1 p r b s t g wr) (k : Took w wr W vB N p b o) (ia : a.is o.a) : SoEnd w N M h1 p r b t wr o (vB.heap.size + 1) vB.heap.size a ((vB.alloc (.cells #[.slice a.A a.sp.length a.c, .slice a.B a.mm.length a.d, .int .u64 a.tr, .int .u64 a.xo, .bool a.od] 56)).alloc (.cells #[.int .i64 o.v.kind, .int .i64 o.v.why, .int .u64 o.v.pn, .bool o.v.ch] 44)) := by
  have s1 := k.bel.size
  have s2 := k.chg.size
  have q := boxes2 vB (aRow a) (vRow o)
  exact SoEnd.of h k (((Chg.refl _ _).alloc _).alloc _) q.2.1 q.1 ia (by omega) (by omega) (.inr (Nat.le_succ _)) (.inr (Nat.le_refl _))
theorem SoEnd.f3 (h : Solo w N M h1 p r b s t g wr) (k : Took w wr W vB N p b o) (ia : a.is o.a) (qx : vB.heap[x]? = some zV) (lx : wr.heap.size ≤ x) (hx : x < W.heap.size) : SoEnd w N M h1 p r b t wr o x vB.heap.size a (((((vB.setCell ⟨x, 0, none⟩ (.int .i64 o.v.kind)).setCell ⟨x, 1, none⟩ (.int .i64 o.v.why)).setCell ⟨x, 2, none⟩ (.int .u64 o.v.pn)).setCell ⟨x, 3, none⟩ (.bool o.v.ch)).alloc (.cells #[.slice a.A a.sp.length a.c, .slice a.B a.mm.length a.d, .int .u64 a.tr, .int .u64 a.xo, .bool a.od] 56)) := by
  have s1 := k.bel.size
  have s2 := k.chg.size
  refine SoEnd.of h k (Chg.alloc (chg_cell (.inl ⟨lx, hx⟩) (chg_cell (.inl ⟨lx, hx⟩) (chg_cell (.inl ⟨lx, hx⟩) (chg_cell (.inl ⟨lx, hx⟩) (Chg.refl _ _))))) _) (row_alloc (row_fill4 qx rfl)) (row_new ?_) ia lx (by omega) (.inl ⟨lx, hx⟩) (.inr (Nat.le_refl _))
  simp [World.setCell]
theorem SoEnd.f4 (h : Solo w N M h1 p r b s t g wr) (k : Took w wr W vB N p b o) (ia : a.is o.a) (qy : vB.heap[y]? = some zA) (ly : wr.heap.size ≤ y) (hy : y < W.heap.size) : SoEnd w N M h1 p r b t wr o vB.heap.size y a ((((((vB.setCell ⟨y, 0, none⟩ (.slice a.A a.sp.length a.c)).setCell ⟨y, 1, none⟩ (.slice a.B a.mm.length a.d)).setCell ⟨y, 2, none⟩ (.int .u64 a.tr)).setCell ⟨y, 3, none⟩ (.int .u64 a.xo)).setCell ⟨y, 4, none⟩ (.bool a.od)).alloc (.cells #[.int .i64 o.v.kind, .int .i64 o.v.why, .int .u64 o.v.pn, .bool o.v.ch] 44)) := by
  have s1 := k.bel.size
  have s2 := k.chg.size
  refine SoEnd.of h k (Chg.alloc (chg_cell (.inl ⟨ly, hy⟩) (chg_cell (.inl ⟨ly, hy⟩) (chg_cell (.inl ⟨ly, hy⟩) (chg_cell (.inl ⟨ly, hy⟩) (chg_cell (.inl ⟨ly, hy⟩) (Chg.refl _ _)))))) _) (row_new ?_) (row_alloc (row_fill5 qy rfl)) ia (by omega) ly (.inr (Nat.le_refl _)) (.inl ⟨ly, hy⟩)
  simp [World.setCell]
theorem SoEnd.f5 (h : Solo w N M h1 p r b s t g wr) (k : Took w wr W vB N p b o) (ia : a.is o.a) (qx : vB.heap[x]? = some zV) (lx : wr.heap.size ≤ x) (hx : x < W.heap.size) (qy : vB.heap[y]? = some zA) (ly : wr.heap.size ≤ y) (hy : y < W.heap.size) (hn : x ≠ y) : SoEnd w N M h1 p r b t wr o x y a
    (((((((((vB.setCell ⟨x, 0, none⟩ (.int .i64 o.v.kind)).setCell ⟨x, 1, none⟩ (.int .i64 o.v.why)).setCell ⟨x, 2, none⟩ (.int .u64 o.v.pn)).setCell ⟨x, 3, none⟩ (.bool o.v.ch)).setCell ⟨y, 0, none⟩ (.slice a.A a.sp.length a.c)).setCell ⟨y, 1, none⟩ (.slice a.B a.mm.length a.d)).setCell ⟨y, 2, none⟩ (.int .u64 a.tr)).setCell ⟨y, 3, none⟩ (.int .u64 a.xo)).setCell ⟨y, 4, none⟩ (.bool a.od)) :=
  SoEnd.of h k (chg_cell (.inl ⟨ly, hy⟩) (chg_cell (.inl ⟨ly, hy⟩) (chg_cell (.inl ⟨ly, hy⟩) (chg_cell (.inl ⟨ly, hy⟩) (chg_cell (.inl ⟨ly, hy⟩) (chg_cell (.inl ⟨lx, hx⟩) (chg_cell (.inl ⟨lx, hx⟩) (chg_cell (.inl ⟨lx, hx⟩) (chg_cell (.inl ⟨lx, hx⟩) (Chg.refl _ _))))))))))
    (row_other hn (row_other hn (row_other hn (row_other hn (row_other hn (row_fill4 qx rfl)))))) (row_fill5 (row_other hn.symm (row_other hn.symm (row_other hn.symm (row_other hn.symm qy)))) rfl) ia lx ly (.inl ⟨lx, hx⟩) (.inl ⟨ly, hy⟩)
end
theorem zfst {Y vA : World} {o : Obj} (b : Below (Y.alloc o).heap.size (Y.alloc o) vA) : vA.heap[Y.heap.size]? = some o := (b.block _ (by simp)).trans (heap_alloc_new Y o)
theorem zsnd {Y vA : World} {o o' : Obj} (b : Below ((Y.alloc o).alloc o').heap.size ((Y.alloc o).alloc o') vA) : vA.heap[Y.heap.size]? = some o ∧ vA.heap[Y.heap.size + 1]? = some o' := by
  obtain ⟨q1, q2, -, q4⟩ := boxes2 Y o o'
  exact ⟨(b.block _ (by omega)).trans q1, (b.block _ (by omega)).trans q2⟩
theorem zfstD {Y vA : World} {o : Obj} (b : Below (Y.alloc o).drew.heap.size (Y.alloc o).drew vA) : vA.heap[Y.heap.size]? = some o := (b.block _ (show _ < (Y.alloc o).heap.size by simp)).trans (heap_alloc_new Y o)
theorem zsndD {Y vA : World} {o o' : Obj} (b : Below ((Y.alloc o).alloc o').drew.heap.size ((Y.alloc o).alloc o').drew vA) : vA.heap[Y.heap.size]? = some o ∧ vA.heap[Y.heap.size + 1]? = some o' := by
  obtain ⟨q1, q2, -, q4⟩ := boxes2 Y o o'
  exact ⟨(b.block _ (show _ < ((Y.alloc o).alloc o').heap.size by omega)).trans q1, (b.block _ (show _ < ((Y.alloc o).alloc o').heap.size by omega)).trans q2⟩
theorem Took.fst {w wr Y vB : World} {N : Nat → Prop} {p b : Nat} {g : GOut} {o : Obj} (h : Took w wr (Y.alloc o) vB N p b g) (hs : wr.heap.size ≤ Y.heap.size) : vB.heap[Y.heap.size]? = some o := h.keep hs (heap_alloc_new Y o)
theorem Took.snd {w wr Y vB : World} {N : Nat → Prop} {p b : Nat} {g : GOut} {o o' : Obj} (h : Took w wr ((Y.alloc o).alloc o') vB N p b g) (hs : wr.heap.size ≤ Y.heap.size) : vB.heap[Y.heap.size]? = some o ∧ vB.heap[Y.heap.size + 1]? = some o' := by
  obtain ⟨q1, q2, -, q4⟩ := boxes2 Y o o'
  exact ⟨h.keep hs q1, h.keep (by omega) q2⟩
theorem Took.old {w wr vA W vB : World} {N : Nat → Prop} {p b : Nat} {g : GOut} {o : Obj} {k : Nat} (h : Took w wr W vB N p b g) (hk : wr.heap.size ≤ k) (q : vA.heap[k]? = some o) (hb : Below vA.heap.size vA W) : vB.heap[k]? = some o := h.keep hk ((hb.block _ (lt_of_block q)).trans q)
theorem below2 (W : World) (o o' : Obj) : Below W.heap.size W ((W.alloc o).alloc o') := (boxes2 W o o').2.2.1
end Go.Proofs.YtelaimephejkkaaGreat
