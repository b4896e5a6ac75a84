/-
  The loops of GuardForks: where they stand, and their drawn regions.
-/
import Derived.Test.YtelaimephejkkaaGreatGuL
import Derived.Test.YtelaimephejkkaaGreatGuF
import Derived.Test.YtelaimephejkkaaGreatFork
namespace Go.Proofs.YtelaimephejkkaaGreat
set_option linter.unusedSimpArgs false
set_option linter.unusedVariables false
set_option linter.unnecessarySimpa false
open Go.RowKit

/-- Where a loop over frames for both stands; evidence may lie from B on. -/
structure GfS (w : World) (B h1 h2 p r a b : Nat) (s : LS) (g : GS) (W : World) : Prop where
  both : ∃ X E, BothG W X E p r a b s g ∧ (∀ k, X k → w.heap.size ≤ k ∧ k ≠ h1 ∧ k ≠ h2) ∧ (∀ k, E k → B ≤ k ∧ k ≠ h1 ∧ k ≠ h2)
  t1 : W.heap[h1]? = some (.cells (P2 p r) 28 (0, 0))
  t2 : W.heap[h2]? = some (.cells (P2 a b) 36 (0, 0))
  bel : Below w.heap.size w W
  l1 : w.heap.size ≤ h1
  l2 : w.heap.size ≤ h2
  len : s.all.length ≤ 80
theorem GfS.below {w W W' : World} {B h1 h2 p r a b : Nat} {s : LS} {g : GS} (h : GfS w B h1 h2 p r a b s g W) (q : Below W.heap.size W W') : GfS w B h1 h2 p r a b s g W' := by
  obtain ⟨X, E, hB, hX⟩ := h.both
  exact ⟨⟨X, E, hB.below q, hX⟩, (q.block _ (lt_of_block h.t1)).trans h.t1, (q.block _ (lt_of_block h.t2)).trans h.t2, h.bel.trans (q.mono h.bel.size), h.l1, h.l2, h.len⟩
theorem GtS.toGf {w W : World} {h1 h2 p r a b : Nat} {s : LS} {g : GS} (h : GtS w h1 h2 p r a b s g W) : GfS w w.heap.size h1 h2 p r a b s g W := by
  obtain ⟨X, E, hB, hX⟩ := h.both
  exact ⟨⟨X, E, hB, fun k hk => hX k (.inl hk), fun k hk => hX k (.inr hk)⟩, h.t1, h.t2, h.bel, h.l1, h.l2, h.len⟩
structure GfTook (w : World) (B : Nat) (wr W vB : World) (h1 h2 p r a b : Nat) (o : GOut) : Prop where
  bel : Below wr.heap.size wr W
  both : ∃ X E, BothG vB X E p r a b o.s o.g ∧ (∀ k, X k → (w.heap.size ≤ k ∧ k < wr.heap.size ∧ k ≠ h1 ∧ k ≠ h2) ∨ W.heap.size ≤ k) ∧ (∀ k, E k → (B ≤ k ∧ k < wr.heap.size ∧ k ≠ h1 ∧ k ≠ h2) ∨ W.heap.size ≤ k)
  chg : Chg (fun k => w.heap.size ≤ k ∧ k < wr.heap.size ∧ k ≠ h1 ∧ k ≠ h2) W vB
theorem GfS.close {w wr W vB wx : World} {B h1 h2 p r a b : Nat} {s : LS} {g : GS} {f : List Int} {now : Int} (h : GfS w B h1 h2 p r a b s g wr) (t : GfTook w B wr W vB h1 h2 p r a b (g.take s f now)) (hBw : B ≤ w.heap.size) (hx : Chg (fun k => wr.heap.size ≤ k ∧ k < W.heap.size) vB wx) : GfS w B h1 h2 p r a b (g.take s f now).s (g.take s f now).g wx := by
  obtain ⟨X, E, hB, hX, hE⟩ := t.both
  have e1 := lt_of_block h.t1
  have e2 := lt_of_block h.t2
  have s1 := t.bel.size
  have s2 := h.bel.size
  have s3 := t.chg.size
  have t1 := (t.bel.block _ e1).trans h.t1
  have t2 := (t.bel.block _ e2).trans h.t2
  have u1 := t.chg.blk t1 (fun e => e.2.2.1 rfl)
  have u2 := t.chg.blk t2 (fun e => e.2.2.2 rfl)
  refine ⟨⟨X, E, hB.chg hx (fun k _ hk e => hk.elim (fun hk => (hX k hk).elim (fun h => by omega) (fun h => by omega)) (fun hk => (hE k hk).elim (fun h => by omega) (fun h => by omega))), fun k hk => (hX k hk).elim (fun h => ⟨h.1, h.2.2⟩) (fun h => by omega), fun k hk => (hE k hk).elim (fun h => ⟨h.1, h.2.2⟩) (fun h => by omega)⟩, hx.blk u1 (fun e => by omega), hx.blk u2 (fun e => by omega), ?_, h.l1, h.l2, by rw [take_len]; exact h.len⟩
  exact ((h.bel.trans (t.bel.mono s2)).trans (t.chg.below (by omega) (fun k hk e => by omega))).trans (hx.below (by omega) (fun k hk e => by omega))
theorem gf_frame {w wr : World} {B h1 h2 p r a b : Nat} {s : LS} {g : GS} (h : GfS w B h1 h2 p r a b s g wr) (sh : Sh) (hs : sh.ok wr) (W : World) (q : Below wr.heap.size wr W) :
    Calls Tryz.prog 14 #[sh.val, .agg #[.pointer (some ⟨p, 0, none⟩), .pointer (some ⟨r, 0, none⟩)]] W fun e w' => FrameVal W w' sh e := by
  obtain ⟨X, E, hB, hX⟩ := h.both
  exact frame_any W X p r s sh (hB.two.toR.below q) h.len (hs.below q)
theorem gf_take {w wr : World} {B h1 h2 p r a b : Nat} {s : LS} {g : GS} (h : GfS w B h1 h2 p r a b s g wr) (sh : Sh) (hs : sh.ok w) (now : Int) (hnow : isU64 now) (hga : g.b.all.length ≤ 1000000) (W : World) (q : Below wr.heap.size wr W) (A : Option Addr) (c : Nat) (f : List Int)
    (hr : Rd W 1 A f.length c (U8 f)) (hb : ∀ x ∈ f, 0 ≤ x ∧ x ≤ 255) (hl : f.length ≤ 70368744177664) (hA : ∀ bk off, A = some ⟨bk, off, none⟩ → 0 < f.length → (∃ off', sh.A = some ⟨bk, off', none⟩ ∧ 0 < sh.b.length) ∨ wr.heap.size ≤ bk) :
    Calls Tryz.prog 13 #[.agg #[.pointer (some ⟨a, 0, none⟩), .pointer (some ⟨b, 0, none⟩)], .agg #[.pointer (some ⟨p, 0, none⟩), .pointer (some ⟨r, 0, none⟩)], .slice A f.length c, .int .u64 now] W fun e w' =>
      e = .returned (.tuple #[.agg #[.int .i64 (g.take s f now).v.kind, .int .i64 (g.take s f now).v.why, .int .u64 (g.take s f now).v.pn, .bool (g.take s f now).v.ch], .bool true]) ∧ GfTook w B wr W w' h1 h2 p r a b (g.take s f now) := by
  obtain ⟨X, E, hB, hX, hE⟩ := h.both
  have hB' : BothG wr (fun k => X k ∧ k < wr.heap.size) E p r a b s g := hB.sub (fun k hk hx => ⟨hx, hk⟩) (fun k he hx => by
    obtain ⟨G, H, F1, F2, hC⟩ := hB
    exact (hC.ev k he).1 hx.1)
  have hEl : ∀ k, E k → k < wr.heap.size := fun k he => by
    obtain ⟨G, H, F1, F2, hC⟩ := hB
    exact (hC.ev k he).2
  have sz := q.size
  refine (both_take W _ E p r a b s g A c f now (hB'.below q) hr (fun bk off e hn hx => ?_) hb hl hnow hga).mono ?_
  · rcases hA bk off e hn with ⟨off', e', hn'⟩ | hk
    · have h1 := hs.r.lt (by omega) hn' bk off' e'
      have h2 := (hX bk hx.1).1
      omega
    · have := hx.2; omega
  · rintro e w' ⟨rfl, ⟨X', E', hB2, hX', hE'⟩, hc⟩
    refine ⟨rfl, q, ⟨X', E', hB2, fun k hk => ?_, fun k hk => ?_⟩, hc.mono fun k _ hk => ⟨(hX k hk.1).1, hk.2, (hX k hk.1).2⟩⟩
    · exact (hX' k hk).elim (fun e => .inl ⟨(hX k e.1).1, e.2, (hX k e.1).2⟩) .inr
    · exact (hE' k hk).elim (fun e => .inl ⟨(hE k e).1, hEl k e, (hE k e).2⟩) .inr

/-- Behind the two forks of the guards. -/
structure GfMid (w3 : World) (E2 : Nat → Prop) (a b h : Nat) (g : GS) (v : World) : Prop where
  one : ∃ F1 E1 F2, GuaP v F1 E1 a g ∧ GuRP v F2 E2 b g ∧ (∀ k, F1 k ∨ E1 k → ¬ F2 k) ∧ (∀ k, F1 k ∨ E1 k ∨ F2 k → (w3.heap.size ≤ k ∧ k ≠ h) ∧ k < v.heap.size)
  b2 : v.heap[h]? = some (.cells (P2 a b) 36 (0, 0))
  bel : Below w3.heap.size w3 v
  ge : w3.heap.size ≤ h
theorem GfMid.mk_ {w3 vB : World} {F1 E1 F2 E2 : Nat → Prop} {a b h : Nat} {g : GS} (gp : GuaP vB F1 E1 a g) (gr : GuRP vB F2 E2 b g) (dj : ∀ k, k < vB.heap.size → F1 k ∨ E1 k → ¬ F2 k)
    (hF : ∀ k, k < vB.heap.size → F1 k ∨ E1 k ∨ F2 k → w3.heap.size ≤ k ∧ k ≠ h) (hE : ∀ k, E2 k → k < w3.heap.size) (hx : vB.heap[h]? = some (.cells #[.pointer none, .pointer none] 36 (0, 0))) (bel : Below w3.heap.size w3 vB) (ge : w3.heap.size ≤ h) :
    GfMid w3 E2 a b h g ((vB.setCell ⟨h, 0, none⟩ (.pointer (some ⟨a, 0, none⟩))).setCell ⟨h, 1, none⟩ (.pointer (some ⟨b, 0, none⟩))) := by
  have hC : Chg (fun j => j = h) vB ((vB.setCell ⟨h, 0, none⟩ (.pointer (some ⟨a, 0, none⟩))).setCell ⟨h, 1, none⟩ (.pointer (some ⟨b, 0, none⟩))) :=
    ((Chg.refl (fun j => j = h) vB).setCell (p := ⟨h, 0, none⟩) (.inl rfl) _).setCell (p := ⟨h, 1, none⟩) (.inl rfl) _
  have gp' : GuaP vB (fun k => F1 k ∧ k < vB.heap.size) (fun k => E1 k ∧ k < vB.heap.size) a g := gp.sub (fun k hk h => ⟨h, hk⟩) (fun k hk h => ⟨h, hk⟩) (fun k h1 h2 => gp.dj k h1.1 h2.1)
  have gr' : GuRP vB (fun k => F2 k ∧ k < vB.heap.size) E2 b g := gr.sub (fun k hk h => ⟨h, hk⟩) (fun _ _ h => h) (fun k h1 h2 => gr.dj k h1 h2.1)
  have hs := hC.size
  refine ⟨⟨_, _, _, gp'.chg hC (fun k _ hk e => (hF k (hk.elim (fun h => h.2) (fun h => h.2)) (hk.elim (fun h => .inl h.1) (fun h => .inr (.inl h.1)))).2 e) (fun _ _ h => h) (fun _ _ h => h) gp'.dj,
    gr'.chg hC (fun k hk h e => h.elim (fun h => (hF k h.2 (.inr (.inr h.1))).2 e) (fun h => by have := hE k h; have e : k = _ := e; omega)) (fun _ _ h => h) (fun _ _ h => h) gr'.dj, fun k h1 h2 => ?_, fun k hk => ?_⟩, ?_, bel.trans (hC.below bel.size (fun j hj e => by omega)), ge⟩
  · exact h1.elim (fun h1 => dj k h1.2 (.inl h1.1) h2.1) (fun h1 => dj k h1.2 (.inr h1.1) h2.1)
  · rcases hk with hk | hk | hk
    · exact ⟨hF k hk.2 (.inl hk.1), by omega⟩
    · exact ⟨hF k hk.2 (.inr (.inl hk.1)), by omega⟩
    · exact ⟨hF k hk.2 (.inr (.inr hk.1)), by omega⟩
  · simpa [P2] using heap_setCell_same _ h 1 _ _ (.pointer (some ⟨b, 0, none⟩)) (heap_setCell_same vB h 0 _ _ (.pointer (some ⟨a, 0, none⟩)) hx)
theorem GfMid.last {w3 vB : World} {F1 E1 F2 E2 : Nat → Prop} {a b : Nat} {g : GS} (gp : GuaP vB F1 E1 a g) (gr : GuRP vB F2 E2 b g) (dj : ∀ k, k < vB.heap.size → F1 k ∨ E1 k → ¬ F2 k)
    (hF : ∀ k, k < vB.heap.size → F1 k ∨ E1 k ∨ F2 k → w3.heap.size ≤ k) (bel : Below w3.heap.size w3 vB) :
    GfMid w3 E2 a b vB.heap.size g (vB.alloc (.cells #[.pointer (some ⟨a, 0, none⟩), .pointer (some ⟨b, 0, none⟩)] 36)) := by
  have eb := box_below vB (.cells #[.pointer (some ⟨a, 0, none⟩), .pointer (some ⟨b, 0, none⟩)] 36)
  have gp' : GuaP vB (fun k => F1 k ∧ k < vB.heap.size) (fun k => E1 k ∧ k < vB.heap.size) a g := gp.sub (fun k hk h => ⟨h, hk⟩) (fun k hk h => ⟨h, hk⟩) (fun k h1 h2 => gp.dj k h1.1 h2.1)
  have gr' : GuRP vB (fun k => F2 k ∧ k < vB.heap.size) E2 b g := gr.sub (fun k hk h => ⟨h, hk⟩) (fun _ _ h => h) (fun k h1 h2 => gr.dj k h1 h2.1)
  have hs := eb.size
  refine ⟨⟨_, _, _, gp'.below eb, gr'.below eb, fun k h1 h2 => ?_, fun k hk => ?_⟩, heap_alloc_new vB _, bel.trans (eb.mono bel.size), bel.size⟩
  · exact h1.elim (fun h1 => dj k h1.2 (.inl h1.1) h2.1) (fun h1 => dj k h1.2 (.inr h1.1) h2.1)
  · rcases hk with hk | hk | hk
    · exact ⟨⟨hF k hk.2 (.inl hk.1), by omega⟩, by omega⟩
    · exact ⟨⟨hF k hk.2 (.inr (.inl hk.1)), by omega⟩, by omega⟩
    · exact ⟨⟨hF k hk.2 (.inr (.inr hk.1)), by omega⟩, by omega⟩

theorem below_box {B : Nat} {a W : World} {o : Obj} (hp : B ≤ W.heap.size) (h : Below B a W) : Below B a (W.alloc o) := h.alloc hp o
theorem chg_cell {F : Nat → Prop} {a W : World} {b i : Nat} {v : Value} (hp : F b) (h : Chg F a W) : Chg F a (W.setCell ⟨b, i, none⟩ v) := h.setCell (.inl hp) v
/-- The region of that number. -/
def regOf (n : Nat) : Code → Option Code
  | .region i o b => if i = n then some (.region i o b) else none
  | .loop c => regOf n c
  | .seq a b => match regOf n a with
    | some c => some c
    | none => regOf n b
  | .block _ c => regOf n c
  | .scope c => regOf n c
  | .cond _ a b => match regOf n a with
    | some c => some c
    | none => regOf n b
  | _ => none

noncomputable def gfReg1Code : Code := (Tryz.f8.body.bind (regOf 8)).getD .skip
set_option maxHeartbeats 64000000 in
set_option maxRecDepth 1000000 in
theorem gfReg1 {u0 u1 u3 u4 u5 u6 u7 u8 u10 u13 u14 u15 u16 u17 u18 u19 u20 u21 u22 u23 u24 u25 u26 u27 u28 u29 u30 u31 u32 u33 u34 u35 u36 u37 u38 u39 u40 u41 u42 u43 u44 u45 u46 u47 u48 u49 u50 u51 u52 u53 u54 u55 u56 u57 u58 u59 u60 u61 u62 u63 u64 u65 u66 u67 u68 u69 u70 u71 u72 u73 u74 u75 u76 u77 u78 u79 u80 u81 u82 u83 u84 u85 u86 u87 u88 u89 u90 u91 u92 u93 u94 u95 u96 u97 u98 u99 u100 u101 u102 u103 u104 u105 u106 u107 u108 u109 u110 u111 u112 u113 u114 u115 u116 u117 u118 u119 u120 u121 u122 u123 u124 u125 u126 u127 u128 u129 u130 u131 u132 u133 u134 u135 u136 u137 : Value} {w wr : World} {B h1 h2 p r a b : Nat} {s : LS} {g : GS} {sh : Sh} {bb off n4 c4 j o9 : Nat} {Q : Exit → Act → World → Prop}
    (S : Hid (GfS w B h1 h2 p r a b s g wr)) (hBw : B ≤ w.heap.size) (hok : Hid (Sh.ok w sh)) (KAt : Hid (ShAt wr bb o9 sh)) (hbl : bb < w.heap.size) (hlt : j < n4) (hcap : n4 ≤ c4) (hmax : c4 ≤ 2 ^ 63 - 1) (hoff : off + j * 9 = o9) (hj20 : j ≤ 20) (hgb : g.b.all.length ≤ 40)
    (hQ : ∀ (hV : Nat) (f : List Int) (x68 x69 x70 x71 x72 x73 x74 x75 x76 x77 x78 x67 x79 x80 : Value) (wx : World), Hid (GfS w B h1 h2 p r a b (g.take s f ((j : Int))).s (g.take s f ((j : Int))).g wx) → Q .normal ⟨#[u0, u1, .slice (some ⟨bb, off, none⟩) n4 c4, u3, u4, u5, u6, u7, u8, .pointer (some ⟨h1, 0, none⟩), u10, .pointer (some ⟨h2, 0, none⟩), .int .i64 j, .pointer (some ⟨hV, 0, none⟩), .bool true, u15, u16, u17, u18, u19, u20, u21, u22, u23, u24, u25, u26, u27, u28, u29, u30, u31, u32, u33, u34, u35, u36, u37, u38, u39, u40, u41, u42, u43, u44, u45, u46, u47, u48, u49, u50, u51, u52, u53, u54, u55, u56, u57, u58, u59, u60, u61, u62, u63, u64, u65, u66, x67, x68, x69, x70, x71, x72, x73, x74, x75, x76, x77, x78, x79, x80, u81, u82, u83, u84, u85, u86, u87, u88, u89, u90, u91, u92, u93, u94, u95, u96, u97, u98, u99, u100, u101, u102, u103, u104, u105, u106, u107, u108, u109, u110, u111, u112, u113, u114, u115, u116, u117, u118, u119, u120, u121, u122, u123, u124, u125, u126, u127, u128, u129, u130, u131, u132, u133, u134, u135, u136, u137], []⟩ wx) :
    Code.wp Tryz.prog gfReg1Code Q ⟨#[u0, u1, .slice (some ⟨bb, off, none⟩) n4 c4, u3, u4, u5, u6, u7, u8, .pointer (some ⟨h1, 0, none⟩), u10, .pointer (some ⟨h2, 0, none⟩), .int .i64 j, u13, u14, u15, u16, u17, u18, u19, u20, u21, u22, u23, u24, u25, u26, u27, u28, u29, u30, u31, u32, u33, u34, u35, u36, u37, u38, u39, u40, u41, u42, u43, u44, u45, u46, u47, u48, u49, u50, u51, u52, u53, u54, u55, u56, u57, u58, u59, u60, u61, u62, u63, u64, u65, u66, u67, u68, u69, u70, u71, u72, u73, u74, u75, u76, u77, u78, u79, u80, u81, u82, u83, u84, u85, u86, u87, u88, u89, u90, u91, u92, u93, u94, u95, u96, u97, u98, u99, u100, u101, u102, u103, u104, u105, u106, u107, u108, u109, u110, u111, u112, u113, u114, u115, u116, u117, u118, u119, u120, u121, u122, u123, u124, u125, u126, u127, u128, u129, u130, u131, u132, u133, u134, u135, u136, u137], []⟩ wr := by
  conv => arg 2; whnf
  have hj0 : (0 : Int) ≤ j := by omega
  have hnw : IntKind.u64.wrap (j : Int) = (j : Int) := IntWalk.u64_in _ (by omega)
  have gK := Lib.hid (GtK.of S.out.t1 S.out.t2 KAt.out)
  have KF := Lib.hid (fun (W : World) (q : Below wr.heap.size wr W) => gf_frame S.out sh (hok.out.below S.out.bel) W q)
  have KT := Lib.hid (fun (W : World) (q : Below wr.heap.size wr W) (A : Option Addr) (c : Nat) (f : List Int) hr hb hl hA => gf_take S.out sh hok.out ((j : Int)) ⟨by omega, by omega⟩ (by omega) W q A c f hr hb hl hA)
  have gB := Lib.hid (fun (W : World) (q : Below wr.heap.size wr W) => (GtK.of ((q.block _ (lt_of_block S.out.t1)).trans S.out.t1) ((q.block _ (lt_of_block S.out.t2)).trans S.out.t2) (KAt.out.chg (chg_below q (F := fun _ => False)) (fun h => h)) : GtK h1 h2 p r a b bb o9 sh W))
  have hl1 := Lib.hid (lt_of_block S.out.t1)
  have hl2 := Lib.hid (lt_of_block S.out.t2)
  have gC := Lib.hid (fun (vB W : World) (k : GtK h1 h2 p r a b bb o9 sh vB) (hc : Chg (fun k => wr.heap.size ≤ k) vB W) => k.chg hc (by have := hl1.out; omega) (by have := hl2.out; omega) (by have := S.out.bel.size; omega))
  have gT := Lib.hid (fun (W vB : World) (o : GOut) (t : GfTook w B wr W vB h1 h2 p r a b o) => (gB.out W t.bel).chg t.chg (fun e => e.2.2.1 rfl) (fun e => e.2.2.2 rfl) (by omega))
  obtain ⟨ke1, ke2, ke3, ke4, kc0, kc1, kc2, kc3, kc4, kc5, kc6, kc7, kc8⟩ := gK.out
  have hsv : sh.val = .agg #[.int .i64 sh.kind, .slice sh.A sh.b.length sh.c, .int .u16 sh.k.a, .int .u16 sh.k.b, .int .u16 sh.k.c, .int .u16 sh.k.d, .int .u64 sh.x, .bool sh.right, .int .u16 sh.wait] := rfl
  rw [hsv] at KF
  go_region_held3 (fun W => W.cell? ⟨h2, 0, none⟩ = some (.pointer (some ⟨a, 0, none⟩)) ∧ W.cell? ⟨h2, 1, none⟩ = some (.pointer (some ⟨b, 0, none⟩)) ∧ W.cell? ⟨h1, 0, none⟩ = some (.pointer (some ⟨p, 0, none⟩)) ∧ W.cell? ⟨h1, 1, none⟩ = some (.pointer (some ⟨r, 0, none⟩)) ∧
      W.cell? ⟨bb, o9, none⟩ = some (.int .i64 sh.kind) ∧ W.cell? ⟨bb, o9 + 1, none⟩ = some (.slice sh.A sh.b.length sh.c) ∧ W.cell? ⟨bb, o9 + 2, none⟩ = some (.int .u16 sh.k.a) ∧ W.cell? ⟨bb, o9 + 3, none⟩ = some (.int .u16 sh.k.b) ∧ W.cell? ⟨bb, o9 + 4, none⟩ = some (.int .u16 sh.k.c) ∧ W.cell? ⟨bb, o9 + 5, none⟩ = some (.int .u16 sh.k.d) ∧ W.cell? ⟨bb, o9 + 6, none⟩ = some (.int .u64 sh.x) ∧ W.cell? ⟨bb, o9 + 7, none⟩ = some (.bool sh.right) ∧ W.cell? ⟨bb, o9 + 8, none⟩ = some (.int .u16 sh.wait))
    (first
      | ((refine gC.out _ _ (gT.out _ _ _ tB) ?_); (repeat (first | (with_reducible exact Chg.refl _ _) | (with_reducible refine Chg.alloc ?_ _) | (with_reducible refine Chg.drew ?_) | ((with_reducible refine chg_cell ?_ ?_); focus (first | exact Nat.le_refl _ | (simp; done) | exact bA1.size | omega | (simp; omega))))); done)
      | ((refine gB.out _ ?_); (repeat (first | (with_reducible exact Below.refl _ _) | (with_reducible exact bA1) | ((with_reducible refine below_box ?_ ?_); focus (first | exact Nat.le_refl _ | (simp; done) | exact bA1.size | omega | (simp; omega) | (have := bA1.size; simp; omega))) | (with_reducible refine Below.drew ?_))); done))
    (first
      | (go_at_call 14; refine Calls.mono (KF.out _ ?_) ?_; (focus (repeat (first | (with_reducible exact Below.refl _ _) | ((with_reducible refine below_box ?_ ?_); focus (first | exact Nat.le_refl _ | (simp; done) | omega | (simp; omega))) | (with_reducible refine Below.drew ?_)))); rintro e vA ⟨fA, fc, f, rfl, hfR, hfb, hfl, bA, hfA⟩; have bA1 : Below wr.heap.size wr vA := Below.trans (by repeat (first | (with_reducible exact Below.refl _ _) | ((with_reducible refine below_box ?_ ?_); focus (first | exact Nat.le_refl _ | (simp; done) | omega | (simp; omega))) | (with_reducible refine Below.drew ?_))) (bA.mono (by first | exact Nat.le_refl _ | (simp; done) | (simp; omega))))
      | (go_at_call 13; refine Calls.mono (KT.out _ ?_ fA fc f ?_ hfb hfl ?_) ?_; (focus (repeat (first | (with_reducible exact Below.refl _ _) | (with_reducible exact bA1) | ((with_reducible refine below_box ?_ ?_); focus (first | exact Nat.le_refl _ | (simp; done) | (have := bA1.size; omega) | (have := bA1.size; simp; omega))) | (with_reducible refine Below.drew ?_)))); (focus (first | (with_reducible exact hfR) | (with_reducible exact hfR.below (box_below _ _)) | (with_reducible exact hfR.drew) | (with_reducible exact (hfR.below (box_below _ _)).drew))); (focus (intro bk off e hn; rcases hfA bk off e hn with h | h; exact .inl h; exact .inr (by first | exact h | (simp at h; omega)))); rintro e vB ⟨rfl, tB⟩; (try (have zA : vB.heap[wr.heap.size]? = some (.cells #[.int .i64 0, .int .i64 0, .int .u64 0, .bool false] 44 (0, 0)) := tB.chg.blk ((bA.block _ (by first | exact lt_of_block (heap_alloc_new wr (.cells #[.int .i64 0, .int .i64 0, .int .u64 0, .bool false] 44 (0, 0))) | (simp; done))).trans (heap_alloc_new wr _)) (fun e => by omega); have zA0 : vB.cell? ⟨wr.heap.size, 0, none⟩ = some (.int .i64 0) := cell_of_row vB wr.heap.size 0 _ _ _ zA; have zA1 : vB.cell? ⟨wr.heap.size, 1, none⟩ = some (.int .i64 0) := cell_of_row vB wr.heap.size 1 _ _ _ zA; have zA2 : vB.cell? ⟨wr.heap.size, 2, none⟩ = some (.int .u64 0) := cell_of_row vB wr.heap.size 2 _ _ _ zA; have zA3 : vB.cell? ⟨wr.heap.size, 3, none⟩ = some (.bool false) := cell_of_row vB wr.heap.size 3 _ _ _ zA; have fzA0 := frozen_of_row vB wr.heap.size 0 _ _ zA; have fzA1 := frozen_of_row vB wr.heap.size 1 _ _ zA; have fzA2 := frozen_of_row vB wr.heap.size 2 _ _ zA; have fzA3 := frozen_of_row vB wr.heap.size 3 _ _ zA)); (try (have zB : vB.heap[vA.heap.size]? = some (.cells #[.int .i64 0, .int .i64 0, .int .u64 0, .bool false] 44 (0, 0)) := tB.chg.blk (heap_alloc_new vA _) (fun e => by have := bA1.size; omega); have zB0 : vB.cell? ⟨vA.heap.size, 0, none⟩ = some (.int .i64 0) := cell_of_row vB vA.heap.size 0 _ _ _ zB; have zB1 : vB.cell? ⟨vA.heap.size, 1, none⟩ = some (.int .i64 0) := cell_of_row vB vA.heap.size 1 _ _ _ zB; have zB2 : vB.cell? ⟨vA.heap.size, 2, none⟩ = some (.int .u64 0) := cell_of_row vB vA.heap.size 2 _ _ _ zB; have zB3 : vB.cell? ⟨vA.heap.size, 3, none⟩ = some (.bool false) := cell_of_row vB vA.heap.size 3 _ _ _ zB; have fzB0 := frozen_of_row vB vA.heap.size 0 _ _ zB; have fzB1 := frozen_of_row vB vA.heap.size 1 _ _ zB; have fzB2 := frozen_of_row vB vA.heap.size 2 _ _ zB; have fzB3 := frozen_of_row vB vA.heap.size 3 _ _ zB))))
  all_goals
    try go_wp2_with fail
    refine hQ _ f _ _ _ _ _ _ _ _ _ _ _ _ _ _ _ (Lib.hid (S.out.close tB hBw ?_))
    have z1 := bA1.size
    have z2 := bA.size
    simp at z2
    repeat (first | (with_reducible exact Chg.refl _ _) | (with_reducible refine Chg.alloc ?_ _) | (with_reducible refine Chg.drew ?_) | ((with_reducible refine chg_cell ?_ ?_); focus (exact ⟨by first | exact Nat.le_refl _ | omega | (simp; omega), by first | omega | (simp; done) | (simp; omega)⟩)))

noncomputable def gfReg2Code : Code := (Tryz.f8.body.bind (regOf 18)).getD .skip
set_option maxHeartbeats 64000000 in
set_option maxRecDepth 1000000 in
theorem gfReg2 {u0 u1 u2 u4 u5 u6 u7 u8 u9 u10 u11 u12 u13 u14 u18 u19 u20 u21 u22 u23 u24 u25 u26 u27 u28 u29 u30 u31 u32 u33 u34 u35 u36 u37 u38 u39 u40 u41 u42 u43 u44 u45 u46 u47 u48 u49 u50 u51 u52 u53 u54 u55 u56 u57 u58 u59 u60 u61 u62 u63 u64 u65 u66 u67 u68 u69 u70 u71 u72 u73 u74 u75 u76 u77 u78 u79 u80 u81 u82 u83 u84 u85 u86 u87 u88 u89 u90 u91 u92 u93 u94 u95 u96 u97 u98 u99 u100 u101 u102 u103 u104 u105 u106 u107 u108 u109 u110 u111 u112 u113 u114 u115 u116 u117 u118 u119 u120 u121 u122 u123 u124 u125 u126 u127 u128 u129 u130 u131 u132 u133 u134 u135 u136 u137 : Value} {w wr : World} {B h1 h2 p r a b : Nat} {s : LS} {g : GS} {sh : Sh} {bb off n4 c4 j o9 : Nat} {Q : Exit → Act → World → Prop}
    (S : Hid (GfS w B h1 h2 p r a b s g wr)) (hBw : B ≤ w.heap.size) (hok : Hid (Sh.ok w sh)) (KAt : Hid (ShAt wr bb o9 sh)) (hbl : bb < w.heap.size) (hlt : j < n4) (hcap : n4 ≤ c4) (hmax : c4 ≤ 2 ^ 63 - 1) (hoff : off + j * 9 = o9) (hj20 : j ≤ 20) (hgb : g.b.all.length ≤ 40)
    (hQ : ∀ (hV : Nat) (f : List Int) (x112 x113 x114 x115 x116 x117 x118 x119 x120 x121 x122 x123 x111 x124 x125 : Value) (wx : World), Hid (GfS w B h1 h2 p r a b (g.take s f (30 + (j : Int))).s (g.take s f (30 + (j : Int))).g wx) → Q .normal ⟨#[u0, u1, u2, .slice (some ⟨bb, off, none⟩) n4 c4, u4, u5, u6, u7, u8, u9, u10, u11, u12, u13, u14, .pointer (some ⟨h1, 0, none⟩), .pointer (some ⟨h2, 0, none⟩), .int .i64 j, .pointer (some ⟨hV, 0, none⟩), .bool true, u20, u21, u22, u23, u24, u25, u26, u27, u28, u29, u30, u31, u32, u33, u34, u35, u36, u37, u38, u39, u40, u41, u42, u43, u44, u45, u46, u47, u48, u49, u50, u51, u52, u53, u54, u55, u56, u57, u58, u59, u60, u61, u62, u63, u64, u65, u66, u67, u68, u69, u70, u71, u72, u73, u74, u75, u76, u77, u78, u79, u80, u81, u82, u83, u84, u85, u86, u87, u88, u89, u90, u91, u92, u93, u94, u95, u96, u97, u98, u99, u100, u101, u102, u103, u104, u105, u106, u107, u108, u109, u110, x111, x112, x113, x114, x115, x116, x117, x118, x119, x120, x121, x122, x123, x124, x125, u126, u127, u128, u129, u130, u131, u132, u133, u134, u135, u136, u137], []⟩ wx) :
    Code.wp Tryz.prog gfReg2Code Q ⟨#[u0, u1, u2, .slice (some ⟨bb, off, none⟩) n4 c4, u4, u5, u6, u7, u8, u9, u10, u11, u12, u13, u14, .pointer (some ⟨h1, 0, none⟩), .pointer (some ⟨h2, 0, none⟩), .int .i64 j, u18, u19, u20, u21, u22, u23, u24, u25, u26, u27, u28, u29, u30, u31, u32, u33, u34, u35, u36, u37, u38, u39, u40, u41, u42, u43, u44, u45, u46, u47, u48, u49, u50, u51, u52, u53, u54, u55, u56, u57, u58, u59, u60, u61, u62, u63, u64, u65, u66, u67, u68, u69, u70, u71, u72, u73, u74, u75, u76, u77, u78, u79, u80, u81, u82, u83, u84, u85, u86, u87, u88, u89, u90, u91, u92, u93, u94, u95, u96, u97, u98, u99, u100, u101, u102, u103, u104, u105, u106, u107, u108, u109, u110, u111, u112, u113, u114, u115, u116, u117, u118, u119, u120, u121, u122, u123, u124, u125, u126, u127, u128, u129, u130, u131, u132, u133, u134, u135, u136, u137], []⟩ wr := by
  conv => arg 2; whnf
  have hj0 : (0 : Int) ≤ j := by omega
  have hnw : IntKind.u64.wrap (30 + (j : Int)) = 30 + (j : Int) := IntWalk.u64_in _ (by omega)
  have hni : IntKind.i64.wrap (30 + (j : Int)) = 30 + (j : Int) := IntWalk.i64_in _ (by omega)
  have gK := Lib.hid (GtK.of S.out.t1 S.out.t2 KAt.out)
  have KF := Lib.hid (fun (W : World) (q : Below wr.heap.size wr W) => gf_frame S.out sh (hok.out.below S.out.bel) W q)
  have KT := Lib.hid (fun (W : World) (q : Below wr.heap.size wr W) (A : Option Addr) (c : Nat) (f : List Int) hr hb hl hA => gf_take S.out sh hok.out (30 + (j : Int)) ⟨by omega, by omega⟩ (by omega) W q A c f hr hb hl hA)
  have gB := Lib.hid (fun (W : World) (q : Below wr.heap.size wr W) => (GtK.of ((q.block _ (lt_of_block S.out.t1)).trans S.out.t1) ((q.block _ (lt_of_block S.out.t2)).trans S.out.t2) (KAt.out.chg (chg_below q (F := fun _ => False)) (fun h => h)) : GtK h1 h2 p r a b bb o9 sh W))
  have hl1 := Lib.hid (lt_of_block S.out.t1)
  have hl2 := Lib.hid (lt_of_block S.out.t2)
  have gC := Lib.hid (fun (vB W : World) (k : GtK h1 h2 p r a b bb o9 sh vB) (hc : Chg (fun k => wr.heap.size ≤ k) vB W) => k.chg hc (by have := hl1.out; omega) (by have := hl2.out; omega) (by have := S.out.bel.size; omega))
  have gT := Lib.hid (fun (W vB : World) (o : GOut) (t : GfTook w B wr W vB h1 h2 p r a b o) => (gB.out W t.bel).chg t.chg (fun e => e.2.2.1 rfl) (fun e => e.2.2.2 rfl) (by omega))
  obtain ⟨ke1, ke2, ke3, ke4, kc0, kc1, kc2, kc3, kc4, kc5, kc6, kc7, kc8⟩ := gK.out
  have hsv : sh.val = .agg #[.int .i64 sh.kind, .slice sh.A sh.b.length sh.c, .int .u16 sh.k.a, .int .u16 sh.k.b, .int .u16 sh.k.c, .int .u16 sh.k.d, .int .u64 sh.x, .bool sh.right, .int .u16 sh.wait] := rfl
  rw [hsv] at KF
  go_region_held3 (fun W => W.cell? ⟨h2, 0, none⟩ = some (.pointer (some ⟨a, 0, none⟩)) ∧ W.cell? ⟨h2, 1, none⟩ = some (.pointer (some ⟨b, 0, none⟩)) ∧ W.cell? ⟨h1, 0, none⟩ = some (.pointer (some ⟨p, 0, none⟩)) ∧ W.cell? ⟨h1, 1, none⟩ = some (.pointer (some ⟨r, 0, none⟩)) ∧
      W.cell? ⟨bb, o9, none⟩ = some (.int .i64 sh.kind) ∧ W.cell? ⟨bb, o9 + 1, none⟩ = some (.slice sh.A sh.b.length sh.c) ∧ W.cell? ⟨bb, o9 + 2, none⟩ = some (.int .u16 sh.k.a) ∧ W.cell? ⟨bb, o9 + 3, none⟩ = some (.int .u16 sh.k.b) ∧ W.cell? ⟨bb, o9 + 4, none⟩ = some (.int .u16 sh.k.c) ∧ W.cell? ⟨bb, o9 + 5, none⟩ = some (.int .u16 sh.k.d) ∧ W.cell? ⟨bb, o9 + 6, none⟩ = some (.int .u64 sh.x) ∧ W.cell? ⟨bb, o9 + 7, none⟩ = some (.bool sh.right) ∧ W.cell? ⟨bb, o9 + 8, none⟩ = some (.int .u16 sh.wait))
    (first
      | ((refine gC.out _ _ (gT.out _ _ _ tB) ?_); (repeat (first | (with_reducible exact Chg.refl _ _) | (with_reducible refine Chg.alloc ?_ _) | (with_reducible refine Chg.drew ?_) | ((with_reducible refine chg_cell ?_ ?_); focus (first | exact Nat.le_refl _ | (simp; done) | exact bA1.size | omega | (simp; omega))))); done)
      | ((refine gB.out _ ?_); (repeat (first | (with_reducible exact Below.refl _ _) | (with_reducible exact bA1) | ((with_reducible refine below_box ?_ ?_); focus (first | exact Nat.le_refl _ | (simp; done) | exact bA1.size | omega | (simp; omega) | (have := bA1.size; simp; omega))) | (with_reducible refine Below.drew ?_))); done))
    (first
      | (go_at_call 14; refine Calls.mono (KF.out _ ?_) ?_; (focus (repeat (first | (with_reducible exact Below.refl _ _) | ((with_reducible refine below_box ?_ ?_); focus (first | exact Nat.le_refl _ | (simp; done) | omega | (simp; omega))) | (with_reducible refine Below.drew ?_)))); rintro e vA ⟨fA, fc, f, rfl, hfR, hfb, hfl, bA, hfA⟩; have bA1 : Below wr.heap.size wr vA := Below.trans (by repeat (first | (with_reducible exact Below.refl _ _) | ((with_reducible refine below_box ?_ ?_); focus (first | exact Nat.le_refl _ | (simp; done) | omega | (simp; omega))) | (with_reducible refine Below.drew ?_))) (bA.mono (by first | exact Nat.le_refl _ | (simp; done) | (simp; omega))))
      | (go_at_call 13; refine Calls.mono (KT.out _ ?_ fA fc f ?_ hfb hfl ?_) ?_; (focus (repeat (first | (with_reducible exact Below.refl _ _) | (with_reducible exact bA1) | ((with_reducible refine below_box ?_ ?_); focus (first | exact Nat.le_refl _ | (simp; done) | (have := bA1.size; omega) | (have := bA1.size; simp; omega))) | (with_reducible refine Below.drew ?_)))); (focus (first | (with_reducible exact hfR) | (with_reducible exact hfR.below (box_below _ _)) | (with_reducible exact hfR.drew) | (with_reducible exact (hfR.below (box_below _ _)).drew))); (focus (intro bk off e hn; rcases hfA bk off e hn with h | h; exact .inl h; exact .inr (by first | exact h | (simp at h; omega)))); rintro e vB ⟨rfl, tB⟩; (try (have zA : vB.heap[wr.heap.size]? = some (.cells #[.int .i64 0, .int .i64 0, .int .u64 0, .bool false] 44 (0, 0)) := tB.chg.blk ((bA.block _ (by first | exact lt_of_block (heap_alloc_new wr (.cells #[.int .i64 0, .int .i64 0, .int .u64 0, .bool false] 44 (0, 0))) | (simp; done))).trans (heap_alloc_new wr _)) (fun e => by omega); have zA0 : vB.cell? ⟨wr.heap.size, 0, none⟩ = some (.int .i64 0) := cell_of_row vB wr.heap.size 0 _ _ _ zA; have zA1 : vB.cell? ⟨wr.heap.size, 1, none⟩ = some (.int .i64 0) := cell_of_row vB wr.heap.size 1 _ _ _ zA; have zA2 : vB.cell? ⟨wr.heap.size, 2, none⟩ = some (.int .u64 0) := cell_of_row vB wr.heap.size 2 _ _ _ zA; have zA3 : vB.cell? ⟨wr.heap.size, 3, none⟩ = some (.bool false) := cell_of_row vB wr.heap.size 3 _ _ _ zA; have fzA0 := frozen_of_row vB wr.heap.size 0 _ _ zA; have fzA1 := frozen_of_row vB wr.heap.size 1 _ _ zA; have fzA2 := frozen_of_row vB wr.heap.size 2 _ _ zA; have fzA3 := frozen_of_row vB wr.heap.size 3 _ _ zA)); (try (have zB : vB.heap[vA.heap.size]? = some (.cells #[.int .i64 0, .int .i64 0, .int .u64 0, .bool false] 44 (0, 0)) := tB.chg.blk (heap_alloc_new vA _) (fun e => by have := bA1.size; omega); have zB0 : vB.cell? ⟨vA.heap.size, 0, none⟩ = some (.int .i64 0) := cell_of_row vB vA.heap.size 0 _ _ _ zB; have zB1 : vB.cell? ⟨vA.heap.size, 1, none⟩ = some (.int .i64 0) := cell_of_row vB vA.heap.size 1 _ _ _ zB; have zB2 : vB.cell? ⟨vA.heap.size, 2, none⟩ = some (.int .u64 0) := cell_of_row vB vA.heap.size 2 _ _ _ zB; have zB3 : vB.cell? ⟨vA.heap.size, 3, none⟩ = some (.bool false) := cell_of_row vB vA.heap.size 3 _ _ _ zB; have fzB0 := frozen_of_row vB vA.heap.size 0 _ _ zB; have fzB1 := frozen_of_row vB vA.heap.size 1 _ _ zB; have fzB2 := frozen_of_row vB vA.heap.size 2 _ _ zB; have fzB3 := frozen_of_row vB vA.heap.size 3 _ _ zB))))
  all_goals
    try go_wp2_with fail
    refine hQ _ f _ _ _ _ _ _ _ _ _ _ _ _ _ _ _ _ (Lib.hid (S.out.close tB hBw ?_))
    have z1 := bA1.size
    have z2 := bA.size
    simp at z2
    repeat (first | (with_reducible exact Chg.refl _ _) | (with_reducible refine Chg.alloc ?_ _) | (with_reducible refine Chg.drew ?_) | ((with_reducible refine chg_cell ?_ ?_); focus (exact ⟨by first | exact Nat.le_refl _ | omega | (simp; omega), by first | omega | (simp; done) | (simp; omega)⟩)))

end Go.Proofs.YtelaimephejkkaaGreat
