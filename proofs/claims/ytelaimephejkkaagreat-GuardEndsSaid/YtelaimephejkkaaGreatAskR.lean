/-
  A pair of ledgers in a box: the program's alone. · Four drawn numbers. · law13.Ask: an acknowledgment of drawn numbers.
-/
import Derived.Test.YtelaimephejkkaaGreatDo
import Derived.Test.YtelaimephejkkaaGreatBase
import Derived.Test.YtelaimephejkkaaGreatLookR
import Derived.Test.YtelaimephejkkaaGreatBytes
namespace Go.Proofs.YtelaimephejkkaaGreat
set_option linter.unusedSimpArgs false
set_option linter.unusedVariables false
set_option linter.unnecessarySimpa false
open Go.RowKit

theorem LS.eq_new {s : LS} {ring limit : Int} (h1 : s.ring = (LS.new ring limit).ring) (h2 : s.limit = (LS.new ring limit).limit) (h3 : s.all.length ≤ ([] : List Dd).length) : s = LS.new ring limit := by
  cases s
  simp at h1 h2 h3
  simp [h1, h2, h3, LS.new]
/-- As PB, where the ledger may grow. -/
structure PG (w : World) (p r g : Nat) (s : LS) (v : World) : Prop where
  led : LedP v (But w g) p s
  t : v.heap[g]? = some (.cells #[.pointer (some ⟨p, 0, none⟩), .pointer (some ⟨r, 0, none⟩)] 28 (0, 0))
  ge : w.heap.size ≤ g
  bel : Below w.heap.size w v
theorem PG.below {w v v' : World} {p r g : Nat} {s : LS} (h : PG w p r g s v) (b : Below v.heap.size v v') : PG w p r g s v' :=
  ⟨h.led.below b, (b.block _ (lt_of_block h.t)).trans h.t, h.ge, h.bel.trans (b.mono h.bel.size)⟩
theorem PG.step {w v v' : World} {p r g : Nat} {s s' : LS} (h : PG w p r g s v) (hL : LedP v' (Grow (But w g) v) p s') (hC : Chg (But w g) v v') : PG w p r g s' v' := by
  have hg := lt_of_block h.t
  refine ⟨hL.sub (fun j _ hj => ?_), hC.blk h.t (fun e => e.2 rfl), h.ge, h.bel.trans (hC.below h.bel.size (fun k hk e => by have := e.1; omega))⟩
  rcases hj with hj | hj
  · exact hj
  · have := h.bel.size
    exact ⟨by omega, by omega⟩
theorem PG.of {w w1 : World} {p r : Nat} {s : LS} (hT : Two w1 (fun j => w.heap.size ≤ j) p r s) (hb : Below w.heap.size w w1) :
    PG w p r w1.heap.size s (w1.alloc (.cells #[.pointer (some ⟨p, 0, none⟩), .pointer (some ⟨r, 0, none⟩)] 28)) := by
  obtain ⟨G, H, hP, hF⟩ := hT
  have eb := box_below w1 (.cells #[.pointer (some ⟨p, 0, none⟩), .pointer (some ⟨r, 0, none⟩)] 28)
  exact ⟨(hP.p.below eb).sub (fun k hk hg => ⟨(hF k (.inl hg)).1, by have := (hF k (.inl hg)).2; omega⟩), heap_alloc_new w1 _, hb.size, hb.trans (eb.mono hb.size)⟩

theorem Rd.lit_at (w : World) (size : Nat) (cs : Array Value) (t : TypeId) (n : Nat) (xs : List Value) (g : Nat) (hg : g = w.heap.size) (hx : cs.toList = xs) (hs : xs.length = n * size) (hn : n ≤ maxLen) :
    Rd (w.alloc (.cells cs t)) size (some ⟨g, 0, none⟩) n n xs := by
  subst hg
  exact Rd.lit w size cs t n xs hx hs hn

end Go.Proofs.YtelaimephejkkaaGreat

namespace Go.Proofs.YtelaimephejkkaaGreat
set_option linter.unusedSimpArgs false
set_option linter.unusedVariables false
set_option linter.unnecessarySimpa false
open Go.RowKit

structure W4 where
  a : Int
  b : Int
  c : Int
  d : Int
def W4.cells (k : W4) : Array Value := #[.int .u16 k.a, .int .u16 k.b, .int .u16 k.c, .int .u16 k.d]
def W4.val (k : W4) : Value := .agg k.cells
structure W4.ok (k : W4) : Prop where
  a : 0 ≤ k.a ∧ k.a ≤ 65535
  b : 0 ≤ k.b ∧ k.b ≤ 65535
  c : 0 ≤ k.c ∧ k.c ≤ 65535
  d : 0 ≤ k.d ∧ k.d ≤ 65535

end Go.Proofs.YtelaimephejkkaaGreat

namespace Go.Proofs.YtelaimephejkkaaGreat
set_option linter.unusedSimpArgs false
set_option linter.unusedVariables false
set_option linter.unnecessarySimpa false
open Go.RowKit

/-- The reference's ledger, in blocks of F. -/
def TwoR (w : World) (F : Nat → Prop) (_p r : Nat) (s : LS) : Prop := ∃ H, LedR w H r s ∧ ∀ k, H k → F k ∧ k < w.heap.size
theorem TwoR.below {w w' : World} {F : Nat → Prop} {p r : Nat} {s : LS} (h : TwoR w F p r s) (b : Below w.heap.size w w') : TwoR w' F p r s := by
  obtain ⟨H, hp, hF⟩ := h
  exact ⟨H, hp.below b, fun k hk => ⟨(hF k hk).1, Nat.lt_of_lt_of_le (hF k hk).2 b.size⟩⟩
theorem TwoR.chg {w w' : World} {F F' : Nat → Prop} {p r : Nat} {s : LS} (h : TwoR w F p r s) (b : Chg F' w w') (hd : ∀ k, k < w.heap.size → F k → ¬ F' k) : TwoR w' F p r s := by
  obtain ⟨H, hp, hF⟩ := h
  exact ⟨H, hp.chg b (fun k hk hh => hd k hk (hF k hh).1) (fun _ _ h => h), fun k hk => ⟨(hF k hk).1, Nat.lt_of_lt_of_le (hF k hk).2 b.size⟩⟩
theorem TwoR.sub {w : World} {F F' : Nat → Prop} {p r : Nat} {s : LS} (h : TwoR w F p r s) (hs : ∀ k, k < w.heap.size → F k → F' k) : TwoR w F' p r s := by
  obtain ⟨H, hp, hF⟩ := h
  exact ⟨H, hp, fun k hk => ⟨hs k (hF k hk).2 (hF k hk).1, (hF k hk).2⟩⟩
theorem TwoR.good {w : World} {F : Nat → Prop} {p r : Nat} {s : LS} (h : TwoR w F p r s) : s.Good := by
  obtain ⟨H, hp, -⟩ := h
  exact hp.good
theorem Two.toR {w : World} {F : Nat → Prop} {p r : Nat} {s : LS} (h : Two w F p r s) : TwoR w F p r s := by
  obtain ⟨G, H, hp, hF⟩ := h
  exact ⟨H, hp.r, fun k hk => hF k (.inr hk)⟩
theorem infoAck : (Tryz.prog.info? 56).map (·.size) = some 5 := by kernel_rfl

structure AskW (w : World) (F : Nat → Prop) (p r : Nat) (s : LS) (k : W4) (W : World) : Prop where
  two : TwoR W F p r s
  b0 : W.heap[w.heap.size]? = some (.cells #[.pointer (some ⟨p, 0, none⟩), .pointer (some ⟨r, 0, none⟩)] 28 (0, 0))
  b1 : W.heap[w.heap.size + 1]? = some (.cells #[.int .u16 k.a, .int .u16 k.b, .int .u16 k.c, .int .u16 k.d] 40 (0, 0))
  z : W.heap[w.heap.size + 1 + 1]? = some (.cells #[.slice none 0 0, .slice none 0 0, .int .u64 0, .int .u64 0, .bool false] 56 (0, 0))
  bel : Below w.heap.size w W
theorem AskW.below {w W W' : World} {F : Nat → Prop} {p r : Nat} {s : LS} {k : W4} (h : AskW w F p r s k W) (b : Below W.heap.size W W') : AskW w F p r s k W' :=
  ⟨h.two.below b, (b.block _ (lt_of_block h.b0)).trans h.b0, (b.block _ (lt_of_block h.b1)).trans h.b1, (b.block _ (lt_of_block h.z)).trans h.z, h.bel.trans (b.mono h.bel.size)⟩
theorem AskW.of {w : World} {F : Nat → Prop} {p r : Nat} {s : LS} (k : W4) (h : TwoR w F p r s) :
    AskW w F p r s k (((w.alloc (.cells #[.pointer (some ⟨p, 0, none⟩), .pointer (some ⟨r, 0, none⟩)] 28)).alloc (.cells #[.int .u16 k.a, .int .u16 k.b, .int .u16 k.c, .int .u16 k.d] 40)).alloc (.cells #[.slice none 0 0, .slice none 0 0, .int .u64 0, .int .u64 0, .bool false] 56)) := by
  obtain ⟨e0, e1, e2, e3⟩ := three_boxes w (.cells #[.pointer (some ⟨p, 0, none⟩), .pointer (some ⟨r, 0, none⟩)] 28) (.cells #[.int .u16 k.a, .int .u16 k.b, .int .u16 k.c, .int .u16 k.d] 40) (.cells #[.slice none 0 0, .slice none 0 0, .int .u64 0, .int .u64 0, .bool false] 56) 0
  exact ⟨h.below e3, e0, e1, e2, e3⟩

/-- What is asked may be: one span or two, none marked. -/
structure Asked (a : Ak) : Prop where
  good : Good a.sp
  one : 1 ≤ a.sp.length
  two : a.sp.length ≤ 2
  mm : a.mm = []
theorem Asked.may {a : Ak} (h : Asked a) : MayP a.sp a.mm := by
  have := h.one
  have := h.two
  rw [h.mm]
  exact ⟨⟨by omega, by omega, by simp⟩, h.good, (fun i hi => by simp at hi), (fun s hs => by cases hs)⟩
theorem asked1 {lo hi : Int} (h : IsSpan (lo, hi)) : Good [(lo, hi)] := fun i hi' => by
  obtain rfl : i = 0 := by simpa using hi'
  exact ⟨h, fun e => absurd e (by omega)⟩
theorem asked2 {lo hi y z : Int} (h1 : IsSpan (lo, hi)) (h2 : IsSpan (y, z)) (h : hi + 1 < y) : Good [(lo, hi), (y, z)] := by
  intro i hi'
  have : i = 0 ∨ i = 1 := by simp at hi'; omega
  rcases this with rfl | rfl
  · exact ⟨h1, fun e => absurd e (by omega)⟩
  · exact ⟨h2, fun _ => h⟩

/-- After the first span is laid: the acknowledgment's own cell block, its list. -/
structure AskM (w : World) (F : Nat → Prop) (p r : Nat) (s : LS) (k : W4) (q : Nat) (a : Ak) (W : World) : Prop where
  b : AskW w F p r s k W
  t : W.heap[q]? = some (.cells #[.slice a.A a.sp.length a.c, .slice a.B a.mm.length a.d, .int .u64 a.tr, .int .u64 a.xo, .bool a.od] 56 (0, 0))
  r : AkR W a
  ge : w.heap.size + 1 + 1 < q
  ne : ∀ b off, a.A = some ⟨b, off, none⟩ ∨ a.B = some ⟨b, off, none⟩ → b ≠ w.heap.size + 1 + 1
  nq : ∀ b off, a.A = some ⟨b, off, none⟩ ∨ a.B = some ⟨b, off, none⟩ → b ≠ q
  may : Asked a
  nw : ∀ b off, a.A = some ⟨b, off, none⟩ → w.heap.size ≤ b

theorem Rd.set_ {w : World} {size n c : Nat} {A : Option Addr} {xs : List Value} (h : Rd w size A n c xs) {z : Nat} (i : Nat) (v : Value) (hne : ∀ b off, A = some ⟨b, off, none⟩ → b ≠ z) : Rd (w.setCell ⟨z, i, none⟩ v) size A n c xs :=
  ⟨h.len, h.cap, h.max, fun hn => by
    obtain ⟨b, off, e, hc⟩ := h.on_ hn
    refine ⟨b, off, e, fun j u hu => ?_⟩
    rw [World.cell?_of_block (Below.heap_setCell _ _ _ _ (fun e' => hne b off e (by first | exact e' | exact e'.symm)))]
    exact hc j u hu⟩
theorem AkR.set_ {w : World} {a : Ak} (h : AkR w a) {z : Nat} (i : Nat) (v : Value) (h1 : ∀ b off, a.A = some ⟨b, off, none⟩ ∨ a.B = some ⟨b, off, none⟩ → b ≠ z) : AkR (w.setCell ⟨z, i, none⟩ v) a :=
  ⟨h.rs.set_ i v (fun b off e => h1 b off (.inl e)), h.rm.set_ i v (fun b off e => h1 b off (.inr e)), h.us, h.um, h.ut, h.ux⟩

theorem AskM.of {w wc : World} {F : Nat → Prop} {p r : Nat} {s : LS} {k : W4} (h : AskW w F p r s k wc) (lo hi x z : Int) (u0 : isU64 lo) (u1 : isU64 hi) (u2 : isU64 x) (u3 : isU64 z) (us : IsSpan (lo, hi)) :
    AskM w F p r s k (wc.heap.size + 1) ⟨some ⟨wc.heap.size, 0, none⟩, 1, none, 0, [(lo, hi)], [], x, z, false⟩ ((wc.alloc (.cells #[.int .u64 lo, .int .u64 hi] 118)).alloc (.cells #[.slice (some ⟨wc.heap.size, 0, none⟩) 1 1, .slice none 0 0, .int .u64 x, .int .u64 z, .bool false] 56)) ∧
    ((wc.alloc (.cells #[.int .u64 lo, .int .u64 hi] 118)).alloc (.cells #[.slice (some ⟨wc.heap.size, 0, none⟩) 1 1, .slice none 0 0, .int .u64 x, .int .u64 z, .bool false] 56)).ownsRow wc.heap.size 118 2 (.slice (some ⟨wc.heap.size, 0, none⟩) 1 1) 1 (Ss [(lo, hi)]) ∧
    Below wc.heap.size wc ((wc.alloc (.cells #[.int .u64 lo, .int .u64 hi] 118)).alloc (.cells #[.slice (some ⟨wc.heap.size, 0, none⟩) 1 1, .slice none 0 0, .int .u64 x, .int .u64 z, .bool false] 56)) ∧
    ((wc.alloc (.cells #[.int .u64 lo, .int .u64 hi] 118)).alloc (.cells #[.slice (some ⟨wc.heap.size, 0, none⟩) 1 1, .slice none 0 0, .int .u64 x, .int .u64 z, .bool false] 56)).heap.size = wc.heap.size + 1 + 1 := by
  have z1 : (wc.alloc (.cells #[.int .u64 lo, .int .u64 hi] 118)).heap.size = wc.heap.size + 1 := by simp
  have HO : (wc.alloc (.cells #[.int .u64 lo, .int .u64 hi] 118)).ownsRow wc.heap.size 118 2 (.slice (some ⟨wc.heap.size, 0, none⟩) 1 1) 1 (Ss [(lo, hi)]) := World.ownsRow_lit wc #[.int .u64 lo, .int .u64 hi] 1 (Nat.le_refl _) (by unfold maxLen; omega) rfl
  have b1 := box_below wc (.cells #[.int .u64 lo, .int .u64 hi] 118)
  generalize (wc.alloc (.cells #[.int .u64 lo, .int .u64 hi] 118)) = wS at *
  have b2 := box_below wS (.cells #[.slice (some ⟨wc.heap.size, 0, none⟩) 1 1, .slice none 0 0, .int .u64 x, .int .u64 z, .bool false] 56)
  have e := heap_alloc_new wS (.cells #[.slice (some ⟨wc.heap.size, 0, none⟩) 1 1, .slice none 0 0, .int .u64 x, .int .u64 z, .bool false] 56)
  have HO2 := HO.alloc (.cells #[.slice (some ⟨wc.heap.size, 0, none⟩) 1 1, .slice none 0 0, .int .u64 x, .int .u64 z, .bool false] 56)
  rw [z1] at e
  have hne : ∀ b off, (some (⟨wc.heap.size, 0, none⟩ : Addr)) = some ⟨b, off, none⟩ ∨ (none : Option Addr) = some ⟨b, off, none⟩ → b ≠ w.heap.size + 1 + 1 := by
    intro b off e
    have := lt_of_block h.z
    rcases e with e | e
    · injection e with e
      injection e with e
      omega
    · cases e
  have hnq : ∀ b off, (some (⟨wc.heap.size, 0, none⟩ : Addr)) = some ⟨b, off, none⟩ ∨ (none : Option Addr) = some ⟨b, off, none⟩ → b ≠ wc.heap.size + 1 := by
    intro b off e
    rcases e with e | e
    · injection e with e
      injection e with e
      omega
    · cases e
  have hnw : ∀ b off, (some (⟨wc.heap.size, 0, none⟩ : Addr)) = some ⟨b, off, none⟩ → w.heap.size ≤ b := by
    intro b off e
    have := h.bel.size
    injection e with e
    injection e with e
    omega
  refine ⟨⟨(h.below b1).below b2, e, ⟨Rd.of_own HO2, Rd.nil_ _ _, ?_, (fun s hs => by cases hs), u2, u3⟩, by have := lt_of_block h.z; omega, hne, hnq, ⟨asked1 us, by simp, by simp, rfl⟩, hnw⟩, HO2, b1.trans (b2.mono b1.size), by simp [z1]⟩
  intro s hs
  simp at hs
  subst hs
  exact ⟨u0, u1⟩

theorem AskM.below {w W W' : World} {F : Nat → Prop} {p r : Nat} {s : LS} {k : W4} {q : Nat} {a : Ak} (h : AskM w F p r s k q a W) (b : Below W.heap.size W W') : AskM w F p r s k q a W' :=
  ⟨h.b.below b, (b.block _ (lt_of_block h.t)).trans h.t, h.r.below b, h.ge, h.ne, h.nq, h.may, h.nw⟩

theorem AskM.set_ {w W : World} {F : Nat → Prop} {p r : Nat} {s : LS} {k : W4} {q : Nat} {a : Ak} {v : Int} (h : AskM w F p r s k q a W) (hF : ∀ j, F j → j < w.heap.size) (hv : isU64 v) :
    AskM w F p r s k q { a with tr := v } (W.setCell ⟨q, 2, none⟩ (.int .u64 v)) := by
  have hge := h.ge
  have hC : Chg (fun j => j = q) W (W.setCell ⟨q, 2, none⟩ (.int .u64 v)) := (Chg.refl (fun j => j = q) W).setCell (p := ⟨q, 2, none⟩) (.inl rfl) _
  refine ⟨⟨h.b.two.chg hC (fun j _ hj e => by have := hF j hj; omega), hC.blk h.b.b0 (by omega), hC.blk h.b.b1 (by omega), hC.blk h.b.z (by omega), hC.below h.b.bel.size (fun j hj e => by omega) |> h.b.bel.trans⟩, ?_, ?_, h.ge, h.ne, h.nq, ⟨h.may.good, h.may.one, h.may.two, h.may.mm⟩, h.nw⟩
  · simpa using heap_setCell_same W q 2 _ _ (.int .u64 v) h.t
  · have := h.r.set_ (z := q) 2 (.int .u64 v) h.nq
    exact ⟨this.rs, this.rm, this.us, this.um, hv, this.ux⟩
/-- With the record that was asked for. -/
structure AskN (w : World) (F : Nat → Prop) (p r : Nat) (s : LS) (k : W4) (q : Nat) (a : Ak) (y : Snt) (h : Nat) (W : World) : Prop where
  m : AskM w F p r s k q a W
  t : W.heap[h]? = some (.cells #[.int .u64 y.pn, .int .u64 y.off, .int .u64 y.len, .int .u64 y.nonce, .int .u64 y.at_, .bool y.coin, .bool y.used, .int .i64 y.state] 76 (0, 0))
  u : isU64 y.nonce
  ne : q < h
theorem AskN.of {w W : World} {F : Nat → Prop} {p r : Nat} {s : LS} {k : W4} {q : Nat} {a : Ak} (h : AskM w F p r s k q a W) (y : Snt) (hy : isU64 y.nonce) :
    AskN w F p r s k q a y W.heap.size (W.alloc (.cells #[.int .u64 y.pn, .int .u64 y.off, .int .u64 y.len, .int .u64 y.nonce, .int .u64 y.at_, .bool y.coin, .bool y.used, .int .i64 y.state] 76)) :=
  ⟨h.below (box_below W _), heap_alloc_new W _, hy, lt_of_block h.t⟩

set_option maxHeartbeats 8000000 in
set_option maxRecDepth 100000 in
theorem ask_any (w : World) (F : Nat → Prop) (p r : Nat) (s : LS) (k : W4) (x : Int) (h : TwoR w F p r s) (hs : s.all.length ≤ 80) (hk : k.ok) (hx : isU64 x) :
    Calls Tryz.prog 21 #[.agg #[.pointer (some ⟨p, 0, none⟩), .pointer (some ⟨r, 0, none⟩)], k.val, .int .u64 x] w fun e w' => ∃ a : Ak, e = .returned a.val ∧ AkR w' a ∧ Asked a ∧ (∀ b off, a.A = some ⟨b, off, none⟩ → w.heap.size ≤ b) ∧ Below w.heap.size w w' := by
  obtain ⟨i0, hi0, hz0, hz1, hz2⟩ := info_parts infoSpan
  have P0 := Lib.hid (AskW.of k (h.sub (fun j hj _ => hj) : TwoR w (fun j => j < w.heap.size) p r s))
  have k1 := s.low_le
  obtain ⟨⟨a0, a1⟩, ⟨b0, b1⟩, ⟨c0, c1⟩, ⟨d0, d1⟩⟩ := hk
  obtain ⟨x0, x1⟩ := hx
  obtain ⟨ka, kb, kc, kd⟩ := k
  unfold W4.val W4.cells
  simp only at a0 a1 b0 b1 c0 c1 d0 d1 P0 ⊢
  clear h
  go_enter Tryz.func21, Tryz.ntmps21
  go_wp2
  generalize hW : (((w.alloc (.cells #[.pointer (some ⟨p, 0, none⟩), .pointer (some ⟨r, 0, none⟩)] 28)).alloc (.cells #[.int .u16 ka, .int .u16 kb, .int .u16 kc, .int .u16 kd] 40)).alloc (.cells #[.slice none 0 0, .slice none 0 0, .int .u64 0, .int .u64 0, .bool false] 56)) = w1 at *
  clear hW
  generalize hg : w.heap.size = g at *
  have t0 := cell_of_row w1 g 0 _ _ _ (hg ▸ P0.out.b0)
  have t1 := cell_of_row w1 g 1 _ _ _ (hg ▸ P0.out.b0)
  have u0 := cell_of_row w1 (g + 1) 0 _ _ _ (hg ▸ P0.out.b1)
  have u1 := cell_of_row w1 (g + 1) 1 _ _ _ (hg ▸ P0.out.b1)
  have u2 := cell_of_row w1 (g + 1) 2 _ _ _ (hg ▸ P0.out.b1)
  have u3 := cell_of_row w1 (g + 1) 3 _ _ _ (hg ▸ P0.out.b1)
  obtain ⟨H, hP, -⟩ := P0.out.two
  have HR := Lib.hid hP
  clear hP
  refine wp_region_qt (by kernel_rfl) (by kernel_rfl) ?_
  repeat (first | go_big_quiet_step ((go_at_call 54; exact Qt.callN (ledR_low _ H r s HR.out.dn))) | quiet_step ((go_at_call 54; exact Qt.callN (ledR_low _ H r s HR.out.dn))))
  refine wpQuiet_nil ?_
  intro w2 q2
  have P2 := Lib.hid (P0.out.below q2.below)
  clear q2 P0 t0 t1 u0 u1 u2 u3 HR
  have t0 := cell_of_row w2 g 0 _ _ _ (hg ▸ P2.out.b0)
  have t1 := cell_of_row w2 g 1 _ _ _ (hg ▸ P2.out.b0)
  have u0 := cell_of_row w2 (g + 1) 0 _ _ _ (hg ▸ P2.out.b1)
  have u1 := cell_of_row w2 (g + 1) 1 _ _ _ (hg ▸ P2.out.b1)
  have u2 := cell_of_row w2 (g + 1) 2 _ _ _ (hg ▸ P2.out.b1)
  have u3 := cell_of_row w2 (g + 1) 3 _ _ _ (hg ▸ P2.out.b1)
  have ea0 := Int.emod_nonneg ka (show (12 : Int) ≠ 0 by omega)
  have ea1 := Int.emod_lt_of_pos ka (show (0 : Int) < 12 by omega)
  have L : Hid (∃ L : Int, L = s.low + ka % 12 ∧ 0 ≤ L ∧ L ≤ 100) := ⟨_, rfl, by omega, by omega⟩
  go_upto_region 2 with fail
  go_cut [27] (fun s27 wx => ∃ bb, s27 = .bool bb ∧ wx = w2 ∧ Hid (bb = true → 3 < (s.low : Int) + ka % 12))
  case first =>
    by_cases e1 : ka % 5 = 4
    · by_cases e2 : (s.low : Int) + ka % 12 > 3
      · go_wp2_with fail
        go_meet
        exact ⟨_, rfl, rfl, fun _ => e2⟩
      · go_wp2_with fail
        go_meet
        exact ⟨_, rfl, rfl, fun h => by simp at h⟩
    · go_wp2_with fail
      go_meet
      exact ⟨_, rfl, rfl, fun h => by simp at h⟩
  case rest =>
    obtain ⟨bb, rfl, rfl, HBB⟩ := hcut
    go_upto_if 27 with fail
    go_cut [7] (fun s7 wx => ∃ lo : Int, s7 = .int .u64 lo ∧ 0 ≤ lo ∧ lo ≤ 100 ∧ Hid (AskW w (fun j => j < g) p r s ⟨ka, kb, kc, kd⟩ wx))
    case first =>
      cases bb with
      | true =>
        have e2 := HBB.out rfl
        go_wp2_with fail
        go_meet
        exact ⟨_, rfl, by omega, by omega, P2⟩
      | false =>
        go_wp2_with fail
        go_meet
        exact ⟨_, rfl, by omega, by omega, P2⟩
    case rest =>
      obtain ⟨lo, rfl, lo0, lo1, P3⟩ := hcut
      clear t0 t1 u0 u1 u2 u3 P2 HBB L ea0 ea1
      have t0 := cell_of_row wc g 0 _ _ _ (hg ▸ P3.out.b0)
      have t1 := cell_of_row wc g 1 _ _ _ (hg ▸ P3.out.b0)
      have u0 := cell_of_row wc (g + 1) 0 _ _ _ (hg ▸ P3.out.b1)
      have u1 := cell_of_row wc (g + 1) 1 _ _ _ (hg ▸ P3.out.b1)
      have u2 := cell_of_row wc (g + 1) 2 _ _ _ (hg ▸ P3.out.b1)
      have u3 := cell_of_row wc (g + 1) 3 _ _ _ (hg ▸ P3.out.b1)
      have eb0 := Int.emod_nonneg kb (show (9 : Int) ≠ 0 by omega)
      have eb1 := Int.emod_lt_of_pos kb (show (0 : Int) < 9 by omega)
      have gl : g + 1 + 1 < wc.heap.size := by have := lt_of_block P3.out.z; omega
      have gl1 : g + 1 < wc.heap.size := by omega
      have gl0 : g < wc.heap.size := by omega
      have gm1 : g + 1 < wc.heap.size + 1 := by omega
      have gm0 : g < wc.heap.size + 1 := by omega
      go_upto_if 46 with fail
      obtain ⟨M, O, BL, SZ⟩ := AskM.of P3.out lo (lo + kb % 9) x (x / 128) ⟨by omega, by omega⟩ ⟨by omega, by omega⟩ ⟨by omega, by omega⟩ ⟨by omega, by omega⟩ ⟨by show _ ≤ _; omega, by show _ ≤ maxPn; unfold maxPn; omega⟩
      have M4 := Lib.hid M
      have O4 := Lib.hid O
      have B4 := Lib.hid BL
      have S4 := Lib.hid SZ
      clear M O BL SZ t0 t1 u0 u1 u2 u3
      generalize hW4 : ((wc.alloc (.cells #[.int .u64 lo, .int .u64 (lo + kb % 9)] 118)).alloc (.cells #[.slice (some ⟨wc.heap.size, 0, none⟩) 1 1, .slice none 0 0, .int .u64 x, .int .u64 (x / 128), .bool false] 56)) = W4 at *
      clear hW4
      have gn := Nat.le_refl wc.heap.size
      generalize hn0 : wc.heap.size = n0 at *
      clear gn
      go_cut [9] (fun s9 wx => ∃ a : Ak, Hid (AskM w (fun j => j < g) p r s ⟨ka, kb, kc, kd⟩ (n0 + 1) a wx))
      case first =>
        by_cases hc : 0 < kc % 3
        · have u0 := cell_of_row W4 (g + 1) 0 _ _ _ (hg ▸ M4.out.b.b1)
          have u1 := cell_of_row W4 (g + 1) 1 _ _ _ (hg ▸ M4.out.b.b1)
          have u2 := cell_of_row W4 (g + 1) 2 _ _ _ (hg ▸ M4.out.b.b1)
          have u3 := cell_of_row W4 (g + 1) 3 _ _ _ (hg ▸ M4.out.b.b1)
          have y0 := cell_of_row W4 (n0 + 1) 0 _ _ _ M4.out.t
          have y1 := cell_of_row W4 (n0 + 1) 1 _ _ _ M4.out.t
          have y2 := cell_of_row W4 (n0 + 1) 2 _ _ _ M4.out.t
          have y3 := cell_of_row W4 (n0 + 1) 3 _ _ _ M4.out.t
          have y4 := cell_of_row W4 (n0 + 1) 4 _ _ _ M4.out.t
          simp only [List.length_cons, List.length_nil, Nat.zero_add] at y0 y1 y2 y3 y4
          have O5 := Lib.hid O4.out
          have hgs := Nat.le_of_lt (show n0 < W4.heap.size by have := S4.out; omega)
          have ec0 := Int.emod_nonneg kc (show (4 : Int) ≠ 0 by omega)
          have ec1 := Int.emod_lt_of_pos kc (show (0 : Int) < 4 by omega)
          have ed0 := Int.emod_nonneg kc (show (7 : Int) ≠ 0 by omega)
          have ed1 := Int.emod_lt_of_pos kc (show (0 : Int) < 7 by omega)
          have gq : g + 1 < W4.heap.size := by omega
          have gq2 : n0 + 1 < W4.heap.size := by have := S4.out; omega
          have YG : Hid (Good [(lo, lo + kb % 9), (lo + kb % 9 + 2 + kc % 4, lo + kb % 9 + 2 + kc % 4 + kc % 7)]) := asked2 ⟨by show _ ≤ _; omega, by show _ ≤ maxPn; unfold maxPn; omega⟩ ⟨by show _ ≤ _; omega, by show _ ≤ maxPn; unfold maxPn; omega⟩ (by omega)
          have YU : Hid (isU64 (lo + kb % 9 + 2 + kc % 4) ∧ isU64 (lo + kb % 9 + 2 + kc % 4 + kc % 7)) := ⟨⟨by omega, by omega⟩, ⟨by omega, by omega⟩⟩
          go_wp2_with (
            at_builtin
            refine wpList_app1 _ rfl (.tmp 60) (.tmp 69) 54 rfl (n0) 118 i0 (.agg #[.int .u64 0, .int .u64 0]) 2 16 Tryz.underlying54 hi0 hz0 hz1 hz2 rfl (by decide) (.slice (some ⟨n0, 0, none⟩) 1 1) (1) (Ss [(lo, lo + kb % 9)]) rfl O5.out #[.int .u64 (lo + kb % 9 + 2 + kc % 4), .int .u64 (lo + kb % 9 + 2 + kc % 4 + kc % 7)] _ rfl (by simp) rfl (by simp [Value.oneCell']) (by unfold maxLen; omega) (by omega) (by have := hgs; simp; omega) ?_
            intro v5 w5 ho5 hg5 hn5
            obtain ⟨A5, c5, rfl, HA5⟩ := own_slice ho5
            have HA5 := Lib.hid HA5
            have BX5 := Lib.hid ((hg5.block (n0 + 1) gq2 (by simp [Value.ownBlock])).trans M4.out.t)
            have z0 := cell_of_row w5 (n0 + 1) 0 _ _ _ BX5.out
            have fz0 := frozen_of_row w5 (n0 + 1) 0 _ _ BX5.out
            have z1 := cell_of_row w5 (n0 + 1) 1 _ _ _ BX5.out
            have fz1 := frozen_of_row w5 (n0 + 1) 1 _ _ BX5.out
            have z2 := cell_of_row w5 (n0 + 1) 2 _ _ _ BX5.out
            have fz2 := frozen_of_row w5 (n0 + 1) 2 _ _ BX5.out
            have z3 := cell_of_row w5 (n0 + 1) 3 _ _ _ BX5.out
            have fz3 := frozen_of_row w5 (n0 + 1) 3 _ _ BX5.out
            have z4 := cell_of_row w5 (n0 + 1) 4 _ _ _ BX5.out
            have fz4 := frozen_of_row w5 (n0 + 1) 4 _ _ BX5.out
            have HO5 := Lib.hid ho5
            have HG5 := Lib.hid hg5
            have HN5 := Lib.hid (hn5 (n0 + 1) gq2 (by simp [Value.ownBlock]))
            clear ho5 hg5 hn5 u0 u1 u2 u3 y0 y1 y2 y3 y4)
          go_meet
          have b5 : Below n0 wc w5 := Below.grownOwn B4.out O5.out (Nat.le_refl _) hgs HG5.out
          have b6 : ∀ v, Below n0 wc (w5.setCell ⟨n0 + 1, 0, none⟩ v) := fun v => Below.setCell b5 (by simp) v
          refine ⟨⟨A5, c5, none, 0, [(lo, lo + kb % 9), (lo + kb % 9 + 2 + kc % 4, lo + kb % 9 + 2 + kc % 4 + kc % 7)], [], x, x / 128, false⟩, ⟨P3.out.below (by rw [hn0]; exact b6 _), ?_, ⟨?_, Rd.nil_ _ _, ?_, (fun s hs => by cases hs), M4.out.r.ut, M4.out.r.ux⟩, M4.out.ge, ?_, ?_, ⟨YG.out, by simp, by simp, rfl⟩, ?_⟩⟩
          · simpa using heap_setCell_same _ (n0 + 1) 0 _ _ (.slice A5 2 c5) BX5.out
          · exact Rd.of_own (own_chg HO5.out ((Chg.refl (fun k => k = n0 + 1) w5).setCell (p := ⟨n0 + 1, 0, none⟩) (.inl rfl) _) (fun k hk e => HN5.out (by rw [← e]; exact hk)))
          · intro s hs
            simp at hs
            rcases hs with rfl | rfl
            · exact ⟨⟨by omega, by omega⟩, ⟨by omega, by omega⟩⟩
            · exact YU.out
          · intro b off e
            rw [hg]
            obtain ⟨g5, e5, e6⟩ := HA5.out (by omega)
            rcases e with e | e
            · have e := e5.symm.trans e
              injection e with e
              injection e with e
              omega
            · cases e
          · intro b off e
            obtain ⟨g5, e5, e6⟩ := HA5.out (by omega)
            rcases e with e | e
            · have e := e5.symm.trans e
              injection e with e
              injection e with e
              rintro rfl
              exact HN5.out (by rw [e5]; simp [Value.ownBlock, e])
            · cases e
          · intro b off e
            obtain ⟨g5, e5, e6⟩ := HA5.out (by omega)
            have e := e5.symm.trans e
            injection e with e
            injection e with e
            have := B4.out.size
            have := M4.out.nw n0 0 rfl
            omega
        · go_wp2_with fail
          go_meet
          exact ⟨_, M4⟩
      case rest =>
        obtain ⟨a, M5⟩ := hcut
        obtain ⟨H5, hP5, -⟩ := M5.out.b.two
        have HR5 := Lib.hid hP5
        clear hP5
        have t0 := cell_of_row wc g 0 _ _ _ (hg ▸ M5.out.b.b0)
        have t1 := cell_of_row wc g 1 _ _ _ (hg ▸ M5.out.b.b0)
        have u0 := cell_of_row wc (g + 1) 0 _ _ _ (hg ▸ M5.out.b.b1)
        have u1 := cell_of_row wc (g + 1) 1 _ _ _ (hg ▸ M5.out.b.b1)
        have u2 := cell_of_row wc (g + 1) 2 _ _ _ (hg ▸ M5.out.b.b1)
        have u3 := cell_of_row wc (g + 1) 3 _ _ _ (hg ▸ M5.out.b.b1)
        have ee0 := Int.emod_nonneg kd (show (10 : Int) ≠ 0 by omega)
        have ee1 := Int.emod_lt_of_pos kd (show (0 : Int) < 10 by omega)
        have gd5 := M5.out.b.two.good
        go_upto_region 8 with fail
        go_cut [10, 11] (fun s10 s11 wx => ∃ (h : Nat) (ok : Bool) (y : Snt), s10 = .pointer (some ⟨h, 0, none⟩) ∧ s11 = .bool ok ∧ Hid (AskN w (fun j => j < g) p r s ⟨ka, kb, kc, kd⟩ (n0 + 1) a y h wx))
        case first =>
          by_cases hh : s.has (lo + kd % 10)
          · have hok := (gd5.at' hh).1.nonce
            go_wp2_with fail
            refine (ledR_get_yes wc H5 r s _ HR5.out hh).mono ?_
            unfold Snt.val
            generalize s.at' (lo + kd % 10) = y at *
            have HK := Lib.hid hok
            clear hok
            rintro e w6 ⟨rfl, b⟩
            have N6 := Lib.hid (AskN.of (M5.out.below b) y HK.out)
            clear b t0 t1 u0 u1 u2 u3
            go_wp2_with fail
            go_meet
            exact ⟨_, _, y, rfl, rfl, N6⟩
          · go_wp2_with fail
            refine (ledR_get_no wc H5 r s _ HR5.out ⟨by omega, by omega⟩ hh).mono ?_
            unfold Snt.val LS.zero
            rintro e w6 ⟨rfl, b⟩
            have N6 := Lib.hid (AskN.of (M5.out.below b) LS.zero ⟨by simp [LS.zero], by simp [LS.zero]⟩)
            clear b t0 t1 u0 u1 u2 u3
            go_wp2_with fail
            go_meet
            exact ⟨_, _, LS.zero, rfl, rfl, N6⟩
        case rest =>
          obtain ⟨hb, ok, y, rfl, rfl, N7⟩ := hcut
          clear t0 t1 u0 u1 u2 u3 HR5 gd5
          have u0 := cell_of_row wc (g + 1) 0 _ _ _ (hg ▸ N7.out.m.b.b1)
          have u1 := cell_of_row wc (g + 1) 1 _ _ _ (hg ▸ N7.out.m.b.b1)
          have u2 := cell_of_row wc (g + 1) 2 _ _ _ (hg ▸ N7.out.m.b.b1)
          have u3 := cell_of_row wc (g + 1) 3 _ _ _ (hg ▸ N7.out.m.b.b1)
          go_upto_region 9 with fail
          go_cut [90] (fun s90 wx => ∃ bb, s90 = .bool bb ∧ wx = wc)
          case first =>
            cases ok with
            | true =>
              by_cases e7 : kd % 7 > 0
              · go_wp2_with fail
                go_meet
                exact ⟨_, rfl, rfl⟩
              · go_wp2_with fail
                go_meet
                exact ⟨_, rfl, rfl⟩
            | false =>
              go_wp2_with fail
              go_meet
              exact ⟨_, rfl, rfl⟩
          case rest =>
            obtain ⟨bb, rfl, rfl⟩ := hcut
            go_upto_if 90 with fail
            go_cut [5] (fun _ wx => ∃ a : Ak, Hid (AskM w (fun j => j < g) p r s ⟨ka, kb, kc, kd⟩ (n0 + 1) a wx))
            case first =>
              cases bb with
              | true =>
                have x0 := cell_of_row _ hb 0 _ _ _ N7.out.t
                have x1 := cell_of_row _ hb 1 _ _ _ N7.out.t
                have x2 := cell_of_row _ hb 2 _ _ _ N7.out.t
                have x3 := cell_of_row _ hb 3 _ _ _ N7.out.t
                have x4 := cell_of_row _ hb 4 _ _ _ N7.out.t
                have x5 := cell_of_row _ hb 5 _ _ _ N7.out.t
                have x6 := cell_of_row _ hb 6 _ _ _ N7.out.t
                have x7 := cell_of_row _ hb 7 _ _ _ N7.out.t
                have y0 := cell_of_row _ (n0 + 1) 0 _ _ _ N7.out.m.t
                have fy0 := frozen_of_row _ (n0 + 1) 0 _ _ N7.out.m.t
                have y1 := cell_of_row _ (n0 + 1) 1 _ _ _ N7.out.m.t
                have fy1 := frozen_of_row _ (n0 + 1) 1 _ _ N7.out.m.t
                have y2 := cell_of_row _ (n0 + 1) 2 _ _ _ N7.out.m.t
                have fy2 := frozen_of_row _ (n0 + 1) 2 _ _ N7.out.m.t
                have y3 := cell_of_row _ (n0 + 1) 3 _ _ _ N7.out.m.t
                have fy3 := frozen_of_row _ (n0 + 1) 3 _ _ N7.out.m.t
                have y4 := cell_of_row _ (n0 + 1) 4 _ _ _ N7.out.m.t
                have fy4 := frozen_of_row _ (n0 + 1) 4 _ _ N7.out.m.t
                have gne := N7.out.ne
                go_wp2_with fail
                go_meet
                exact ⟨_, Lib.hid (N7.out.m.set_ (by rw [hg]; intro j h; exact h) N7.out.u)⟩
              | false =>
                go_wp2_with fail
                go_meet
                exact ⟨_, Lib.hid N7.out.m⟩
            case rest =>
              obtain ⟨a, M6⟩ := hcut
              clear u0 u1 u2 u3
              have gz6 := lt_of_block M6.out.b.z
              rw [hg] at gz6
              have y0 := cell_of_row _ (n0 + 1) 0 _ _ _ M6.out.t
              have y1 := cell_of_row _ (n0 + 1) 1 _ _ _ M6.out.t
              have y2 := cell_of_row _ (n0 + 1) 2 _ _ _ M6.out.t
              have y3 := cell_of_row _ (n0 + 1) 3 _ _ _ M6.out.t
              have y4 := cell_of_row _ (n0 + 1) 4 _ _ _ M6.out.t
              have z0 := cell_of_row _ (g + 1 + 1) 0 _ _ _ (hg ▸ M6.out.b.z)
              have fz0 := frozen_of_row _ (g + 1 + 1) 0 _ _ (hg ▸ M6.out.b.z)
              have z1 := cell_of_row _ (g + 1 + 1) 1 _ _ _ (hg ▸ M6.out.b.z)
              have fz1 := frozen_of_row _ (g + 1 + 1) 1 _ _ (hg ▸ M6.out.b.z)
              have z2 := cell_of_row _ (g + 1 + 1) 2 _ _ _ (hg ▸ M6.out.b.z)
              have fz2 := frozen_of_row _ (g + 1 + 1) 2 _ _ (hg ▸ M6.out.b.z)
              have z3 := cell_of_row _ (g + 1 + 1) 3 _ _ _ (hg ▸ M6.out.b.z)
              have fz3 := frozen_of_row _ (g + 1 + 1) 3 _ _ (hg ▸ M6.out.b.z)
              have z4 := cell_of_row _ (g + 1 + 1) 4 _ _ _ (hg ▸ M6.out.b.z)
              have fz4 := frozen_of_row _ (g + 1 + 1) 4 _ _ (hg ▸ M6.out.b.z)
              go_wp2
              have e5 := heap_setCell_same _ (g + 1 + 1) 4 _ _ (.bool a.od) (heap_setCell_same _ (g + 1 + 1) 3 _ _ (.int .u64 a.xo) (heap_setCell_same _ (g + 1 + 1) 2 _ _ (.int .u64 a.tr) (heap_setCell_same _ (g + 1 + 1) 1 _ _ (.slice a.B a.mm.length a.d) (heap_setCell_same wc (g + 1 + 1) 0 _ _ (.slice a.A a.sp.length a.c) (hg ▸ M6.out.b.z)))))
              have E5 := Lib.hid e5
              clear e5
              (try simp only [Exit.inBlock, Exit.then])
              refine bodyPost_ret (v := a.val) ?_ rfl ⟨a, rfl, ?_, M6.out.may, M6.out.nw, ?_⟩
              · exact results_cell_row rfl _ _ (g + 1 + 1) _ _ _ _ rfl E5.out Tryz.underlying56 rfl infoAck
              · have hne := M6.out.ne
                rw [hg] at hne
                exact ((((M6.out.r.set_ 0 _ hne).set_ 1 _ hne).set_ 2 _ hne).set_ 3 _ hne).set_ 4 _ hne
              · have hb := M6.out.b.bel
                rw [hg] at hb ⊢
                repeat (first | exact Below.refl _ _ | exact hb | (refine Below.setCell ?_ (by first | exact Nat.le_refl _ | omega | (simp; done) | (simp; omega)) _) | (refine Below.alloc ?_ (by first | exact Nat.le_refl _ | omega | (simp; done) | (simp; omega)) _) | (refine Below.drew ?_) | (refine below_drewN ?_ _))

end Go.Proofs.YtelaimephejkkaaGreat
