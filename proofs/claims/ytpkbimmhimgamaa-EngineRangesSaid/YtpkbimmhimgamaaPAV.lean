/-
  Part of the proof of EngineRanges.
-/
import Derived.Test.YtpkbimmhimgamaaPAT
namespace Go.Proofs.Ytpkbimmhimgamaa
set_option linter.unusedSimpArgs false
set_option linter.unusedVariables false
set_option linter.unnecessarySimpa false
open Go.RowKit
theorem bbx {B : Nat} {a W : World} {o : Obj} (hp : B ≤ W.heap.size) (h : Below B a W) : Below B a (W.alloc o) := h.alloc hp o
noncomputable def pA0Code : Code := (Try.f19.body.bind (regE10 11)).getD .skip
set_option maxHeartbeats 64000000 in
set_option maxRecDepth 1000000 in
theorem pA0 {u1 u2 u3 u4 u5 u6 u7 u8 u9 u10 u11 u12 u13 u14 u15 u16 u17 u18 u19 u20 u21 u22 u23 u24 u25 u26 u27 u28 u29 u30 u31 u32 u33 u34 u35 u36 u37 u38 u39 u40 u41 u42 u43 u44 u45 u46 u47 u48 u49 u50 u51 u52 u53 u54 u55 u56 u57 u58 u59 u60 u61 u62 u63 u64 u65 u66 u67 u68 u69 u70 u71 u72 u73 u74 u75 u76 u77 u78 u79 u80 u81 u82 u83 u84 u85 u86 u87 u88 u89 u90 u91 u92 u93 u94 u95 u96 u97 u98 u99 u100 u101 u102 u103 u104 u105 u106 u107 u108 u109 u110 u111 u112 u113 u114 u115 u116 u117 u118 u119 u120 u121 u122 u123 u124 u125 u126 u127 u128 u129 u130 u131 u132 u133 u134 u135 u136 u137 u138 u139 u140 : Value} {f : Ft} {b : Nat} {s : ES} {Q : Exit → Act → World → Prop} {wr : World}
    (h : EngC wr f b s) (hq : s.q.next s.c.mss = none)
    (hQ : Hid (∀ (g : Nat) (x53 x54 x55 x56 x57 x58 x59 x60 x61 x62 x63 x64 x65 x66 : Value) (wx : World), Hid (Below wr.heap.size wr wx) → Q .normal ⟨#[.pointer (some ⟨b, 0, none⟩), u1, u2, u3, u4, u5, u6, u7, .pointer (some ⟨g, 0, none⟩), .bool false, u10, u11, u12, u13, u14, u15, u16, u17, u18, u19, u20, u21, u22, u23, u24, u25, u26, u27, u28, u29, u30, u31, u32, u33, u34, u35, u36, u37, u38, u39, u40, u41, u42, u43, u44, u45, u46, u47, u48, u49, u50, u51, u52, x53, x54, x55, x56, x57, x58, x59, x60, x61, x62, x63, x64, x65, x66, u67, u68, u69, u70, u71, u72, u73, u74, u75, u76, u77, u78, u79, u80, u81, u82, u83, u84, u85, u86, u87, u88, u89, u90, u91, u92, u93, u94, u95, u96, u97, u98, u99, u100, u101, u102, u103, u104, u105, u106, u107, u108, u109, u110, u111, u112, u113, u114, u115, u116, u117, u118, u119, u120, u121, u122, u123, u124, u125, u126, u127, u128, u129, u130, u131, u132, u133, u134, u135, u136, u137, u138, u139, u140], []⟩ wx)) :
    Code.wp Try.prog pA0Code Q ⟨#[.pointer (some ⟨b, 0, none⟩), u1, u2, u3, u4, u5, u6, u7, u8, u9, u10, u11, u12, u13, u14, u15, u16, u17, u18, u19, u20, u21, u22, u23, u24, u25, u26, u27, u28, u29, u30, u31, u32, u33, u34, u35, u36, u37, u38, u39, u40, u41, u42, u43, u44, u45, u46, u47, u48, u49, u50, u51, u52, u53, u54, u55, u56, u57, u58, u59, u60, u61, u62, u63, u64, u65, u66, u67, u68, u69, u70, u71, u72, u73, u74, u75, u76, u77, u78, u79, u80, u81, u82, u83, u84, u85, u86, u87, u88, u89, u90, u91, u92, u93, u94, u95, u96, u97, u98, u99, u100, u101, u102, u103, u104, u105, u106, u107, u108, u109, u110, u111, u112, u113, u114, u115, u116, u117, u118, u119, u120, u121, u122, u123, u124, u125, u126, u127, u128, u129, u130, u131, u132, u133, u134, u135, u136, u137, u138, u139, u140], []⟩ wr := by
  conv => arg 2; whnf
  have hm64 : IntKind.i64.wrap s.c.mss = s.c.mss := IntWalk.i64_in _ (by have := h.good.c.mss; omega)
  have KK : Hid (∀ W, Below wr.heap.size wr W → Calls Try.prog 40 #[.pointer (some ⟨f.q, 0, none⟩), .int .i64 s.c.mss] W fun e w' => (e = .returned (.tuple #[.agg #[.int .u64 0, .slice none 0 0], .bool false])) ∧ Below W.heap.size W w') := Lib.hid (fun W q => (que_next W _ f.q s.q s.c.mss (h.below q).q (by have := h.good.c.mss; omega)).mono fun e w' ⟨h1, h2⟩ => ⟨by unfold QS.NextVal at h1; rw [hq] at h1; exact h1, h2⟩)
  have e20 : wr.cell? ⟨b, 20, none⟩ = some (.pointer (some ⟨f.q, 0, none⟩)) := h.c 20 rfl
  have e5 : wr.cell? ⟨b, 5, none⟩ = some (.int .u64 s.c.mss) := h.c 5 rfl
  have hbw := lt_of_block h.t
  clear h hq
  refine wp_region_noPanic ?_
  go_region_held3 (fun W => W.cell? ⟨b, 20, none⟩ = some (.pointer (some ⟨f.q, 0, none⟩)) ∧ W.cell? ⟨b, 5, none⟩ = some (.int .u64 s.c.mss))
    (first | (go_keep; done) | (((refine ⟨?_, ?_⟩) <;> ((refine (Below.cell (B := wr.heap.size) (w := wr) ?_ ?_).trans ?_); (focus ((repeat (first | exact B2.out | exact Below.refl _ _ | (refine Below.setCell ?_ (by first | exact Nat.le_refl _ | exact b2z) _) | (refine Below.alloc ?_ (by first | exact b2z | exact Nat.le_refl _) _) | (refine Below.drew ?_))))); (focus (exact hbw)); assumption)); done) | (trace_state; fail))
    ((go_at_call 40; refine Calls.mono (KK.out _ ?_) ?_; (focus (repeat (first | (with_reducible exact Below.refl _ _) | ((with_reducible refine bbx ?_ ?_); focus (first | exact Nat.le_refl _ | (simp; done) | omega | (simp; omega))) | (with_reducible refine Below.drew ?_)))); rintro e w2 ⟨rfl, q⟩; have B2 : Below wr.heap.size wr w2 := (Below.trans (by repeat (first | (with_reducible exact Below.refl _ _) | ((with_reducible refine bbx ?_ ?_); focus (first | exact Nat.le_refl _ | (simp; done) | omega | (simp; omega))) | (with_reducible refine Below.drew ?_))) (q.mono (by first | exact Nat.le_refl _ | (simp; done) | (simp; omega)))); (first | (have zb := (q.block _ (lt_of_block (heap_alloc_new wr (.cells #[.int .u64 0, .slice none 0 0] 117)))).trans (heap_alloc_new wr (.cells #[.int .u64 0, .slice none 0 0] 117)); have zc := cells_of zb; have zf := cells_ofF (fun _ => False) zb id; have zl := lt_of_block zb) | skip); have b2z := B2.size; have hb2 : b < w2.heap.size := Nat.lt_of_lt_of_le hbw B2.size; have B2 := Lib.hid B2))
  all_goals (refine NoPanic.normal ?_)
  · refine hQ.out _ _ _ _ _ _ _ _ _ _ _ _ _ _ _ _ ?_
    exact Lib.hid (B2.out.alloc b2z _)
  · refine hQ.out _ _ _ _ _ _ _ _ _ _ _ _ _ _ _ _ ?_
    exact Lib.hid (((B2.out).setCell (Nat.le_refl _) _).setCell (Nat.le_refl _) _)
noncomputable def pA1Code : Code := (Try.f19.body.bind (regE10 11)).getD .skip
set_option maxHeartbeats 64000000 in
set_option maxRecDepth 1000000 in
theorem pA1 {u1 u2 u3 u4 u5 u6 u7 u8 u9 u10 u11 u12 u13 u14 u15 u16 u17 u18 u19 u20 u21 u22 u23 u24 u25 u26 u27 u28 u29 u30 u31 u32 u33 u34 u35 u36 u37 u38 u39 u40 u41 u42 u43 u44 u45 u46 u47 u48 u49 u50 u51 u52 u53 u54 u55 u56 u57 u58 u59 u60 u61 u62 u63 u64 u65 u66 u67 u68 u69 u70 u71 u72 u73 u74 u75 u76 u77 u78 u79 u80 u81 u82 u83 u84 u85 u86 u87 u88 u89 u90 u91 u92 u93 u94 u95 u96 u97 u98 u99 u100 u101 u102 u103 u104 u105 u106 u107 u108 u109 u110 u111 u112 u113 u114 u115 u116 u117 u118 u119 u120 u121 u122 u123 u124 u125 u126 u127 u128 u129 u130 u131 u132 u133 u134 u135 u136 u137 u138 u139 u140 : Value} {f : Ft} {b : Nat} {s : ES} {a z : Nat} {Q : Exit → Act → World → Prop} {wr : World}
    (h : EngC wr f b s) (hq : s.q.next s.c.mss = some (a, z))
    (hQ : Hid (∀ (g : Nat) (A : Option Addr) (c : Nat) (x53 x54 x55 x56 x57 x58 x59 x60 x61 x62 x63 x64 x65 x66 : Value) (wx : World), Hid (Below wr.heap.size wr wx ∧ wr.heap.size ≤ g ∧ wx.heap[g]? = some (.cells #[.int .u64 a, .slice A (z - a) c] 117 (0, 0)) ∧ Rd wx 1 A (z - a) c (U8 ((s.q.b.drop a).take (z - a))) ∧ ∀ k off, A = some ⟨k, off, none⟩ → 0 < z - a → wr.heap.size ≤ k) → Q .normal ⟨#[.pointer (some ⟨b, 0, none⟩), u1, u2, u3, u4, u5, u6, u7, .pointer (some ⟨g, 0, none⟩), .bool true, u10, u11, u12, u13, u14, u15, u16, u17, u18, u19, u20, u21, u22, u23, u24, u25, u26, u27, u28, u29, u30, u31, u32, u33, u34, u35, u36, u37, u38, u39, u40, u41, u42, u43, u44, u45, u46, u47, u48, u49, u50, u51, u52, x53, x54, x55, x56, x57, x58, x59, x60, x61, x62, x63, x64, x65, x66, u67, u68, u69, u70, u71, u72, u73, u74, u75, u76, u77, u78, u79, u80, u81, u82, u83, u84, u85, u86, u87, u88, u89, u90, u91, u92, u93, u94, u95, u96, u97, u98, u99, u100, u101, u102, u103, u104, u105, u106, u107, u108, u109, u110, u111, u112, u113, u114, u115, u116, u117, u118, u119, u120, u121, u122, u123, u124, u125, u126, u127, u128, u129, u130, u131, u132, u133, u134, u135, u136, u137, u138, u139, u140], []⟩ wx)) :
    Code.wp Try.prog pA1Code Q ⟨#[.pointer (some ⟨b, 0, none⟩), u1, u2, u3, u4, u5, u6, u7, u8, u9, u10, u11, u12, u13, u14, u15, u16, u17, u18, u19, u20, u21, u22, u23, u24, u25, u26, u27, u28, u29, u30, u31, u32, u33, u34, u35, u36, u37, u38, u39, u40, u41, u42, u43, u44, u45, u46, u47, u48, u49, u50, u51, u52, u53, u54, u55, u56, u57, u58, u59, u60, u61, u62, u63, u64, u65, u66, u67, u68, u69, u70, u71, u72, u73, u74, u75, u76, u77, u78, u79, u80, u81, u82, u83, u84, u85, u86, u87, u88, u89, u90, u91, u92, u93, u94, u95, u96, u97, u98, u99, u100, u101, u102, u103, u104, u105, u106, u107, u108, u109, u110, u111, u112, u113, u114, u115, u116, u117, u118, u119, u120, u121, u122, u123, u124, u125, u126, u127, u128, u129, u130, u131, u132, u133, u134, u135, u136, u137, u138, u139, u140], []⟩ wr := by
  conv => arg 2; whnf
  have hm64 : IntKind.i64.wrap s.c.mss = s.c.mss := IntWalk.i64_in _ (by have := h.good.c.mss; omega)
  have KK : Hid (∀ W, Below wr.heap.size wr W → Calls Try.prog 40 #[.pointer (some ⟨f.q, 0, none⟩), .int .i64 s.c.mss] W fun e w' => (∃ A' c', e = .returned (.tuple #[.agg #[.int .u64 a, .slice A' (z - a) c'], .bool true]) ∧ Rd w' 1 A' (z - a) c' (U8 ((s.q.b.drop a).take (z - a))) ∧ ∀ b off, A' = some ⟨b, off, none⟩ → 0 < z - a → W.heap.size ≤ b) ∧ Below W.heap.size W w') := Lib.hid (fun W q => (que_next W _ f.q s.q s.c.mss (h.below q).q (by have := h.good.c.mss; omega)).mono fun e w' ⟨h1, h2⟩ => ⟨by unfold QS.NextVal at h1; rw [hq] at h1; exact h1, h2⟩)
  have e20 : wr.cell? ⟨b, 20, none⟩ = some (.pointer (some ⟨f.q, 0, none⟩)) := h.c 20 rfl
  have e5 : wr.cell? ⟨b, 5, none⟩ = some (.int .u64 s.c.mss) := h.c 5 rfl
  have hbw := lt_of_block h.t
  clear h hq
  refine wp_region_noPanic ?_
  go_region_held3 (fun W => W.cell? ⟨b, 20, none⟩ = some (.pointer (some ⟨f.q, 0, none⟩)) ∧ W.cell? ⟨b, 5, none⟩ = some (.int .u64 s.c.mss))
    (first | (go_keep; done) | (((refine ⟨?_, ?_⟩) <;> ((refine (Below.cell (B := wr.heap.size) (w := wr) ?_ ?_).trans ?_); (focus ((repeat (first | exact B2.out | exact Below.refl _ _ | (refine Below.setCell ?_ (by first | exact Nat.le_refl _ | exact b2z) _) | (refine Below.alloc ?_ (by first | exact b2z | exact Nat.le_refl _) _) | (refine Below.drew ?_))))); (focus (exact hbw)); assumption)); done) | (trace_state; fail))
    ((go_at_call 40; refine Calls.mono (KK.out _ ?_) ?_; (focus (repeat (first | (with_reducible exact Below.refl _ _) | ((with_reducible refine bbx ?_ ?_); focus (first | exact Nat.le_refl _ | (simp; done) | omega | (simp; omega))) | (with_reducible refine Below.drew ?_)))); rintro e w2 ⟨⟨A', c', rfl, hr, hn⟩, q⟩; have B2 : Below wr.heap.size wr w2 := (Below.trans (by repeat (first | (with_reducible exact Below.refl _ _) | ((with_reducible refine bbx ?_ ?_); focus (first | exact Nat.le_refl _ | (simp; done) | omega | (simp; omega))) | (with_reducible refine Below.drew ?_))) (q.mono (by first | exact Nat.le_refl _ | (simp; done) | (simp; omega)))); (first | (have zb := (q.block _ (lt_of_block (heap_alloc_new wr (.cells #[.int .u64 0, .slice none 0 0] 117)))).trans (heap_alloc_new wr (.cells #[.int .u64 0, .slice none 0 0] 117)); have zc := cells_of zb; have zf := cells_ofF (fun _ => False) zb id; have zl := lt_of_block zb) | skip); have b2z := B2.size; have hb2 : b < w2.heap.size := Nat.lt_of_lt_of_le hbw B2.size; have B2 := Lib.hid B2))
  all_goals (refine NoPanic.normal ?_)
  · refine hQ.out _ A' c' _ _ _ _ _ _ _ _ _ _ _ _ _ _ _ ?_
    exact Lib.hid ⟨B2.out.alloc b2z _, b2z, heap_alloc_new w2 _, hr.below (box_below _ _), fun k off e h0 => hn k off e h0⟩
  · refine hQ.out _ A' c' _ _ _ _ _ _ _ _ _ _ _ _ _ _ _ ?_
    have hn' : ∀ k off, A' = some ⟨k, off, none⟩ → 0 < z - a → wr.heap.size < k := fun k off e h0 => Nat.lt_of_lt_of_le (lt_of_block (heap_alloc_new wr (.cells #[.int .u64 0, .slice none 0 0] 117))) (hn k off e h0)
    exact Lib.hid ⟨((B2.out).setCell (Nat.le_refl _) _).setCell (Nat.le_refl _) _, Nat.le_refl _, set2 zb, hr.chg (set2_chg w2 wr.heap.size _ _) (fun k off e h0 => by have h1 := hn' k off e (by simpa [U8] using h0); omega), fun k off e h0 => Nat.le_of_lt (hn' k off e h0)⟩
noncomputable def pBCode : Code := (Try.f19.body.bind (regE10 15)).getD .skip
set_option maxHeartbeats 64000000 in
set_option maxRecDepth 1000000 in
theorem pB {u1 u2 u3 u4 u5 u6 u7 u8 u9 u11 u12 u13 u14 u15 u16 u17 u18 u19 u20 u21 u22 u23 u24 u25 u26 u27 u28 u29 u30 u31 u32 u33 u34 u35 u36 u37 u38 u39 u40 u41 u42 u43 u44 u45 u46 u47 u48 u49 u50 u51 u52 u53 u54 u55 u56 u57 u58 u59 u60 u61 u62 u63 u64 u65 u66 u67 u68 u69 u70 u71 u72 u73 u74 u75 u76 u77 u78 u79 u80 u81 u82 u83 u84 u85 u86 u87 u88 u89 u90 u91 u92 u93 u94 u95 u96 u97 u98 u99 u100 u101 u102 u103 u104 u105 u106 u107 u108 u109 u110 u111 u112 u113 u114 u115 u116 u117 u118 u119 u120 u121 u122 u123 u124 u125 u126 u127 u128 u129 u130 u131 u132 u133 u134 u135 u136 u137 u138 u139 u140 : Value} {f : Ft} {b : Nat} {s : ES} {n : Int} {Q : Exit → Act → World → Prop} {wr : World}
    (h : EngC wr f b s) (hn : 0 ≤ n ∧ n ≤ 1500)
    (hQ : Hid (∀  (x73 x74 x75 x76 x77 x78 x79 x80 x81 x82 x83 x84 x85 x86 x87 x88 x89 x90 x91 x92 : Value) (wx : World), Hid (Below wr.heap.size wr wx) → Q .normal ⟨#[.pointer (some ⟨b, 0, none⟩), u1, u2, u3, u4, u5, u6, u7, u8, u9, .int .u64 n, u11, u12, u13, u14, u15, u16, u17, u18, u19, u20, u21, u22, u23, u24, u25, u26, u27, u28, u29, u30, u31, u32, u33, u34, u35, u36, u37, u38, u39, u40, u41, u42, u43, u44, u45, u46, u47, u48, u49, u50, u51, u52, u53, u54, u55, u56, u57, u58, u59, u60, u61, u62, u63, u64, u65, u66, u67, u68, u69, u70, u71, u72, x73, x74, x75, x76, x77, x78, x79, x80, x81, x82, x83, x84, x85, x86, x87, x88, x89, x90, x91, x92, .bool (!s.pb && decide (s.w.cw < s.l.flight + n)), u94, u95, u96, u97, u98, u99, u100, u101, u102, u103, u104, u105, u106, u107, u108, u109, u110, u111, u112, u113, u114, u115, u116, u117, u118, u119, u120, u121, u122, u123, u124, u125, u126, u127, u128, u129, u130, u131, u132, u133, u134, u135, u136, u137, u138, u139, u140], []⟩ wx)) :
    Code.wp Try.prog pBCode Q ⟨#[.pointer (some ⟨b, 0, none⟩), u1, u2, u3, u4, u5, u6, u7, u8, u9, .int .u64 n, u11, u12, u13, u14, u15, u16, u17, u18, u19, u20, u21, u22, u23, u24, u25, u26, u27, u28, u29, u30, u31, u32, u33, u34, u35, u36, u37, u38, u39, u40, u41, u42, u43, u44, u45, u46, u47, u48, u49, u50, u51, u52, u53, u54, u55, u56, u57, u58, u59, u60, u61, u62, u63, u64, u65, u66, u67, u68, u69, u70, u71, u72, u73, u74, u75, u76, u77, u78, u79, u80, u81, u82, u83, u84, u85, u86, u87, u88, u89, u90, u91, u92, u93, u94, u95, u96, u97, u98, u99, u100, u101, u102, u103, u104, u105, u106, u107, u108, u109, u110, u111, u112, u113, u114, u115, u116, u117, u118, u119, u120, u121, u122, u123, u124, u125, u126, u127, u128, u129, u130, u131, u132, u133, u134, u135, u136, u137, u138, u139, u140], []⟩ wr := by
  conv => arg 2; whnf
  have hfl : 0 ≤ s.l.flight ∧ s.l.flight ≤ 1000000 := by
    have h1 := LS.fly_nonneg h.l.good.keptFly
    have h2 := s.l.kept_le
    have h3 := h.l.good.ring256
    unfold LS.flight
    omega
  have h64 : IntKind.u64.wrap (s.l.flight + n) = s.l.flight + n := IntWalk.u64_in _ (by omega)
  have x21 : ∀ u, (mixF (fun _ => False) wr u).cell? ⟨b, 21, none⟩ = some (.pointer (some ⟨f.p, 0, none⟩)) := mixF_cell (h.c 21 rfl) id
  have x46 : ∀ u, (mixF (fun _ => False) wr u).cell? ⟨b, 46, none⟩ = some (.bool s.pb) := mixF_cell (h.c 46 rfl) id
  have x30 : ∀ u, (mixF (fun _ => False) wr u).cell? ⟨b, 30, none⟩ = some (.int .u64 s.w.cw) := mixF_cell (h.c 30 rfl) id
  have C0 := Lib.hid (h.below (Below.refl _ wr).drew)
  have KF := Lib.hid (led_flight wr.drew _ f.p s.l C0.out.l)
  clear h hn hfl
  generalize hpb : s.pb = pb at *
  generalize hfl : s.l.flight = fl at *
  generalize hcw : s.w.cw = cw at *
  clear hpb hfl hcw
  refine wp_region_chg (fun _ => False) (by kernel_rfl) (by kernel_rfl) ?_
  repeat (refine wpMix_seg 1 _ _ rfl ?_; simp only [List.take_succ_cons, List.take_zero, List.drop_succ_cons, List.drop_zero]; go_big_quiet_step (fail); refine wpQuiet_nil ?_)
  generalize hv0 : wr.drew = v0 at *
  have hq : Hid (Below wr.heap.size wr v0) := Lib.hid (by rw [← hv0]; exact (Below.refl _ _).drew)
  clear hv0 C0
  cases pb
  · simp only [Bool.not_false, Bool.not_true]
    repeat (first | (with_reducible (refine wpMix_off ?_ ?_); (focus (kernel_rfl)); go_big_quiet_skip; with_reducible (refine wpQuiet_nil ?_)) | (with_reducible (refine wpMix_seg 1 _ _ ?_ ?_); (focus (kernel_rfl)); simp only [List.take_succ_cons, List.take_zero, List.drop_succ_cons, List.drop_zero]; go_big_quiet_want; go_big_quiet_op; go_big_quiet_on; with_reducible (refine wpQuiet_nil ?_)))
    with_reducible (refine wpMix_bar ?_ ?_ ?_)
    · kernel_rfl
    · kernel_rfl
    go_wp2_with fail
    refine (KF.out).mono ?_
    rintro e v1 ⟨rfl, q⟩
    go_wp2
    refine ⟨chg_mixF (chgN (hq.out.trans (q.mono hq.out.size))), ?_⟩
    repeat (first | (with_reducible (refine wpMix_off ?_ ?_); (focus (kernel_rfl)); go_big_quiet_skip; with_reducible (refine wpQuiet_nil ?_)) | (with_reducible (refine wpMix_seg 1 _ _ ?_ ?_); (focus (kernel_rfl)); simp only [List.take_succ_cons, List.take_zero, List.drop_succ_cons, List.drop_zero]; go_big_quiet_want; go_big_quiet_op; go_big_quiet_on; with_reducible (refine wpQuiet_nil ?_)))
    with_reducible (refine wpMix_nil ?_)
    refine hQ.out  _ _ _ _ _ _ _ _ _ _ _ _ _ _ _ _ _ _ _ _ _ ?_
    exact Lib.hid (hq.out.trans (q.mono hq.out.size))
  · simp only [Bool.not_false, Bool.not_true]
    repeat (first | (with_reducible (refine wpMix_off ?_ ?_); (focus (kernel_rfl)); go_big_quiet_skip; with_reducible (refine wpQuiet_nil ?_)) | (with_reducible (refine wpMix_seg 1 _ _ ?_ ?_); (focus (kernel_rfl)); simp only [List.take_succ_cons, List.take_zero, List.drop_succ_cons, List.drop_zero]; go_big_quiet_want; go_big_quiet_op; go_big_quiet_on; with_reducible (refine wpQuiet_nil ?_)))
    with_reducible (refine wpMix_nil ?_)
    refine hQ.out  _ _ _ _ _ _ _ _ _ _ _ _ _ _ _ _ _ _ _ _ _ ?_
    exact hq
noncomputable def pCCode : Code := (Try.f19.body.bind (regE10 17)).getD .skip
set_option maxHeartbeats 64000000 in
set_option maxRecDepth 1000000 in
theorem pC {u1 u2 u3 u4 u5 u6 u7 u8 u9 u10 u11 u12 u13 u14 u15 u16 u17 u18 u19 u20 u21 u22 u23 u24 u25 u26 u27 u28 u29 u30 u31 u32 u33 u34 u35 u36 u37 u38 u39 u40 u41 u42 u43 u44 u45 u46 u47 u48 u49 u50 u51 u52 u53 u54 u55 u56 u57 u58 u59 u60 u61 u62 u63 u64 u65 u66 u67 u68 u69 u70 u71 u72 u73 u74 u75 u76 u77 u78 u79 u80 u81 u82 u83 u84 u85 u86 u87 u88 u89 u90 u91 u92 u93 u94 u95 u96 u97 u98 u99 u100 u101 u102 u103 u104 u105 u106 u107 u108 u109 u110 u111 u112 u113 u114 u115 u116 u117 u118 u119 u120 u121 u122 u123 u124 u125 u126 u127 u128 u129 u130 u131 u132 u133 u134 u135 u136 u137 u138 u139 u140 : Value} {f : Ft} {b : Nat} {s : ES} {Q : Exit → Act → World → Prop} {wr : World}
    (h : EngC wr f b s)
    (hQ : Hid (∀  (x94 x95 x96 x97 x98 x99 x100 x101 x102 x103 : Value) (wx : World), Hid (Below wr.heap.size wr wx) → Q .normal ⟨#[.pointer (some ⟨b, 0, none⟩), u1, u2, u3, u4, u5, u6, u7, u8, u9, u10, u11, u12, u13, u14, u15, u16, u17, u18, u19, u20, u21, u22, u23, u24, u25, u26, u27, u28, u29, u30, u31, u32, u33, u34, u35, u36, u37, u38, u39, u40, u41, u42, u43, u44, u45, u46, u47, u48, u49, u50, u51, u52, u53, u54, u55, u56, u57, u58, u59, u60, u61, u62, u63, u64, u65, u66, u67, u68, u69, u70, u71, u72, u73, u74, u75, u76, u77, u78, u79, u80, u81, u82, u83, u84, u85, u86, u87, u88, u89, u90, u91, u92, u93, x94, x95, x96, x97, x98, x99, x100, x101, x102, x103, .bool (decide (s.c.lim < s.next)), u105, u106, u107, u108, u109, u110, u111, u112, u113, u114, u115, u116, u117, u118, u119, u120, u121, u122, u123, u124, u125, u126, u127, u128, u129, u130, u131, u132, u133, u134, u135, u136, u137, u138, u139, u140], []⟩ wx)) :
    Code.wp Try.prog pCCode Q ⟨#[.pointer (some ⟨b, 0, none⟩), u1, u2, u3, u4, u5, u6, u7, u8, u9, u10, u11, u12, u13, u14, u15, u16, u17, u18, u19, u20, u21, u22, u23, u24, u25, u26, u27, u28, u29, u30, u31, u32, u33, u34, u35, u36, u37, u38, u39, u40, u41, u42, u43, u44, u45, u46, u47, u48, u49, u50, u51, u52, u53, u54, u55, u56, u57, u58, u59, u60, u61, u62, u63, u64, u65, u66, u67, u68, u69, u70, u71, u72, u73, u74, u75, u76, u77, u78, u79, u80, u81, u82, u83, u84, u85, u86, u87, u88, u89, u90, u91, u92, u93, u94, u95, u96, u97, u98, u99, u100, u101, u102, u103, u104, u105, u106, u107, u108, u109, u110, u111, u112, u113, u114, u115, u116, u117, u118, u119, u120, u121, u122, u123, u124, u125, u126, u127, u128, u129, u130, u131, u132, u133, u134, u135, u136, u137, u138, u139, u140], []⟩ wr := by
  conv => arg 2; whnf
  have K := Lib.hid (fun W (q : Below wr.heap.size wr W) => led_next W _ f.p s.l (h.below q).l)
  have m21 : ∀ u, (Go.Proofs.Ytpkbimmhimgamaa.mix wr u).cell? ⟨b, 21, none⟩ = some (.pointer (some ⟨f.p, 0, none⟩)) := mixc (h.c 21 rfl)
  have m3 : ∀ u, (Go.Proofs.Ytpkbimmhimgamaa.mix wr u).cell? ⟨b, 3, none⟩ = some (.int .u64 s.c.lim) := mixc (h.c 3 rfl)
  have KN := Lib.hid (fun u => led_next (Go.Proofs.Ytpkbimmhimgamaa.mix wr u) _ f.p s.l (h.mix u).l)
  clear h K
  have HN : Hid (s.next = (s.l.all.length : Int)) := Lib.hid rfl
  refine wp_region_below (by kernel_rfl) (by kernel_rfl) ?_
  repeat (first | go_big_quiet_step ((go_at_call 24; with_reducible exact Calls.mix_qt (KN.out _))) | quiet_step ((go_at_call 24; with_reducible exact Calls.mix_qt (KN.out _))))
  refine wpQuiet_nil ?_
  intro w1 q
  rw [HN.out] at hQ
  refine hQ.out  _ _ _ _ _ _ _ _ _ _ _ ?_
  exact Lib.hid q
noncomputable def pDCode : Code := (Try.f19.body.bind (regE10 22)).getD .skip
set_option maxHeartbeats 64000000 in
set_option maxRecDepth 1000000 in
theorem pD {u1 u2 u3 u4 u5 u6 u7 u8 u9 u11 u12 u13 u14 u15 u16 u17 u18 u19 u20 u21 u22 u23 u24 u25 u26 u27 u28 u29 u30 u31 u32 u33 u34 u35 u36 u37 u38 u39 u40 u41 u42 u43 u44 u45 u46 u47 u48 u49 u50 u51 u52 u53 u54 u55 u56 u57 u58 u59 u60 u61 u62 u63 u64 u65 u66 u67 u68 u69 u70 u71 u72 u73 u74 u75 u76 u77 u78 u79 u80 u81 u82 u83 u84 u85 u86 u87 u88 u89 u90 u91 u92 u93 u94 u95 u96 u97 u98 u99 u100 u101 u102 u103 u104 u105 u106 u107 u108 u109 u110 u111 u112 u113 u114 u115 u116 u117 u118 u119 u120 u121 u122 u123 u124 u125 u126 u127 u128 u129 u130 u131 u132 u133 u134 u135 u136 u137 u138 u139 u140 : Value} {f : Ft} {b : Nat} {s : ES} {n : Int} {Q : Exit → Act → World → Prop} {wr : World}
    (h : EngC wr f b s) (hn : isU64 n)
    (hQ : Hid (∀ (g : Nat) (x114 x115 x116 x117 x118 x119 x120 x121 x122 x123 x124 x125 x126 x127 x128 x129 x130 x131 : Value) (wx : World), Hid (Below wr.heap.size wr wx ∧ wr.heap.size ≤ g ∧ wx.heap[g]? = some (.cells #[.int .u64 (takeT s.tk s.ta s.tr s.c.bur s.now n), .int .u64 (max s.ta s.now), .int .u64 s.tr] 60 (0, 0))) → Q .normal ⟨#[.pointer (some ⟨b, 0, none⟩), u1, u2, u3, u4, u5, u6, u7, u8, .bool (decide (fullS n ≤ fillT s.tk s.ta s.tr s.c.bur s.now)), .int .u64 n, .pointer (some ⟨g, 0, none⟩), u12, u13, u14, u15, u16, u17, u18, u19, u20, u21, u22, u23, u24, u25, u26, u27, u28, u29, u30, u31, u32, u33, u34, u35, u36, u37, u38, u39, u40, u41, u42, u43, u44, u45, u46, u47, u48, u49, u50, u51, u52, u53, u54, u55, u56, u57, u58, u59, u60, u61, u62, u63, u64, u65, u66, u67, u68, u69, u70, u71, u72, u73, u74, u75, u76, u77, u78, u79, u80, u81, u82, u83, u84, u85, u86, u87, u88, u89, u90, u91, u92, u93, u94, u95, u96, u97, u98, u99, u100, u101, u102, u103, u104, u105, u106, u107, u108, u109, u110, u111, u112, u113, x114, x115, x116, x117, x118, x119, x120, x121, x122, x123, x124, x125, x126, x127, x128, x129, x130, x131, u132, u133, u134, u135, u136, u137, u138, u139, u140], []⟩ wx)) :
    Code.wp Try.prog pDCode Q ⟨#[.pointer (some ⟨b, 0, none⟩), u1, u2, u3, u4, u5, u6, u7, u8, u9, .int .u64 n, u11, u12, u13, u14, u15, u16, u17, u18, u19, u20, u21, u22, u23, u24, u25, u26, u27, u28, u29, u30, u31, u32, u33, u34, u35, u36, u37, u38, u39, u40, u41, u42, u43, u44, u45, u46, u47, u48, u49, u50, u51, u52, u53, u54, u55, u56, u57, u58, u59, u60, u61, u62, u63, u64, u65, u66, u67, u68, u69, u70, u71, u72, u73, u74, u75, u76, u77, u78, u79, u80, u81, u82, u83, u84, u85, u86, u87, u88, u89, u90, u91, u92, u93, u94, u95, u96, u97, u98, u99, u100, u101, u102, u103, u104, u105, u106, u107, u108, u109, u110, u111, u112, u113, u114, u115, u116, u117, u118, u119, u120, u121, u122, u123, u124, u125, u126, u127, u128, u129, u130, u131, u132, u133, u134, u135, u136, u137, u138, u139, u140], []⟩ wr := by
  conv => arg 2; whnf
  have K := Lib.hid (fun W => pc_take s.tk s.ta s.tr s.c.bur s.now n W h.good.tk h.good.ta h.good.tr h.good.c.u.2.2.2.2.2.2.2.2.2.1 h.good.now hn)
  dsimp only [pcv] at K
  have e39 : wr.cell? ⟨b, 39, none⟩ = some (.int .u64 s.tk) := h.c 39 rfl
  have e40 : wr.cell? ⟨b, 40, none⟩ = some (.int .u64 s.ta) := h.c 40 rfl
  have e41 : wr.cell? ⟨b, 41, none⟩ = some (.int .u64 s.tr) := h.c 41 rfl
  have e13 : wr.cell? ⟨b, 13, none⟩ = some (.int .u64 s.c.bur) := h.c 13 rfl
  have e17 : wr.cell? ⟨b, 17, none⟩ = some (.int .u64 s.now) := h.c 17 rfl
  have hbw := lt_of_block h.t
  clear h hn
  generalize decide (fullS n ≤ fillT s.tk s.ta s.tr s.c.bur s.now) = ok at *
  generalize takeT s.tk s.ta s.tr s.c.bur s.now n = tk at *
  refine wp_region_noPanic ?_
  go_region_held3 (fun W => W.cell? ⟨b, 39, none⟩ = some (.int .u64 s.tk) ∧ W.cell? ⟨b, 40, none⟩ = some (.int .u64 s.ta) ∧ W.cell? ⟨b, 41, none⟩ = some (.int .u64 s.tr) ∧ W.cell? ⟨b, 13, none⟩ = some (.int .u64 s.c.bur) ∧ W.cell? ⟨b, 17, none⟩ = some (.int .u64 s.now))
    (first | (go_keep; done) | (((refine ⟨?_, ?_, ?_, ?_, ?_⟩) <;> ((refine (Below.cell (B := wr.heap.size) (w := wr) ?_ ?_).trans ?_); (focus ((repeat (first | exact B2.out | exact Below.refl _ _ | (refine Below.setCell ?_ (by first | exact Nat.le_refl _ | exact b2z) _) | (refine Below.alloc ?_ (by first | exact b2z | exact Nat.le_refl _) _) | (refine Below.drew ?_))))); (focus (exact hbw)); assumption)); done) | (trace_state; fail))
    ((go_at_call 42; refine (K.out _).mono ?_; rintro e w2 ⟨rfl, q⟩; have B2 : Below wr.heap.size wr w2 := (Below.trans (by repeat (first | (with_reducible exact Below.refl _ _) | ((with_reducible refine bbx ?_ ?_); focus (first | exact Nat.le_refl _ | (simp; done) | omega | (simp; omega))) | (with_reducible refine Below.drew ?_))) (q.mono (by first | exact Nat.le_refl _ | (simp; done) | (simp; omega)))); (first | (have zb := (q.block _ (lt_of_block (heap_alloc_new wr (.cells #[.int .u64 0, .int .u64 0, .int .u64 0] 60)))).trans (heap_alloc_new wr (.cells #[.int .u64 0, .int .u64 0, .int .u64 0] 60)); have zc := cells_of zb; have zf := cells_ofF (fun _ => False) zb id; have zl := lt_of_block zb) | skip); have b2z := B2.size; have hb2 : b < w2.heap.size := Nat.lt_of_lt_of_le hbw B2.size; have B2 := Lib.hid B2))
  all_goals (refine NoPanic.normal ?_)
  · refine hQ.out _ _ _ _ _ _ _ _ _ _ _ _ _ _ _ _ _ _ _ _ ?_
    exact Lib.hid ⟨B2.out.alloc b2z _, b2z, heap_alloc_new w2 _⟩
  · refine hQ.out _ _ _ _ _ _ _ _ _ _ _ _ _ _ _ _ _ _ _ _ ?_
    exact Lib.hid ⟨(((B2.out).setCell (Nat.le_refl _) _).setCell (Nat.le_refl _) _).setCell (Nat.le_refl _) _, Nat.le_refl _, set3 zb⟩
end Go.Proofs.Ytpkbimmhimgamaa
