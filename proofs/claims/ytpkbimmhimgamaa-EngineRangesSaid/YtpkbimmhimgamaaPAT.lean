/-
  Part of the proof of EngineRanges.
-/
import Derived.Test.YtpkbimmhimgamaaPAS
import Derived.Test.YtpkbimmhimgamaaPAP
namespace Go.Proofs.Ytpkbimmhimgamaa
set_option linter.unusedSimpArgs false
set_option linter.unusedVariables false
set_option linter.unnecessarySimpa false
open Go.RowKit
theorem chgN {w W : World} (q : Below w.heap.size w W) : Chg (fun _ => False) w W := chg_below q (F := fun _ => False)
theorem EngC.srcTo {W W' : World} {f : Ft} {b : Nat} {s s' : ES} (h : EngC W f b s) (h2 : EngC W' f b s') (hc : Chg (fun j => j = f.sb) W W') : EngTo W f b W' s' :=
  ⟨f, h2, fun _ _ => rfl, hc.mono fun k _ e => by subst e; exact ⟨by rw [h.ts]; omega, by rw [h.ts]; omega⟩⟩
theorem EngC.drewTo {W W' : World} {f : Ft} {b : Nat} {s s' : ES} (h : EngC W f b s) (T : EngTo W.drew f b W' s') : EngTo W f b W' s' :=
  EngTo.trans (h.below (Below.refl _ W).drew).lt (fun _ _ => rfl) (Chg.refl _ _).drew T
theorem send_fix (l : LS) (x : Snt) : (l.send x).1.limit = l.limit ∧ (l.send x).1.ring = l.ring := by
  unfold LS.send LS.give
  repeat (first | split | exact ⟨rfl, rfl⟩)
theorem skip_fix (l : LS) : l.skip.1.limit = l.limit ∧ l.skip.1.ring = l.ring := by
  unfold LS.skip LS.give
  repeat (first | split | exact ⟨rfl, rfl⟩)
noncomputable def sdBCode : Code := (Try.f43.body.bind (regE10 3)).getD .skip
set_option maxHeartbeats 64000000 in
set_option maxRecDepth 1000000 in
theorem sdB {u1 u2 u3 u4 u5 u6 u7 u8 u9 u10 u11 u12 u13 u14 u15 u16 u17 u18 u19 u20 u21 u22 u23 u24 u25 u26 u27 u28 u29 u30 u31 u32 u33 u34 u35 u36 u37 u38 u39 u40 u41 u42 u43 u44 u45 u46 u47 u48 u49 u50 u51 u52 u53 u54 u55 u56 u57 u58 u59 u60 u61 u62 u63 u64 u65 u66 u67 u68 u69 u70 u71 u72 u73 u74 u75 u76 u77 u78 u79 u80 u81 u82 u83 u84 u85 u86 u87 u88 u89 u90 u91 u92 u93 u94 u95 u96 u97 u98 u99 u100 u101 u102 u103 u104 u105 u106 u107 u108 u109 u110 u111 u112 u113 u114 u115 u116 u117 u118 u119 u120 u121 u122 u123 u124 u125 u126 u127 u128 u129 : Value} {f : Ft} {b : Nat} {s : ES} {Q : Exit → Act → World → Prop} {wr : World}
    (h : EngC wr f b s) (hk : s.k + 1 < 1000000000)
    (hQ : Hid (∀  (x49 x50 x51 x52 x53 x54 x55 x56 x57 x58 x59 : Value) (wx : World), Hid (EngC wx f b s.drawn ∧ Chg (fun j => j = f.sb) wr wx) → Q .normal ⟨#[.pointer (some ⟨b, 0, none⟩), u1, u2, u3, u4, .int .u64 (lowS s.word s.c.bits), u6, u7, u8, u9, u10, u11, u12, u13, u14, u15, u16, u17, u18, u19, u20, u21, u22, u23, u24, u25, u26, u27, u28, u29, u30, u31, u32, u33, u34, u35, u36, u37, u38, u39, u40, u41, u42, u43, u44, u45, u46, u47, u48, x49, x50, x51, x52, x53, x54, x55, x56, x57, x58, x59, u60, u61, u62, u63, u64, u65, u66, u67, u68, u69, u70, u71, u72, u73, u74, u75, u76, u77, u78, u79, u80, u81, u82, u83, u84, u85, u86, u87, u88, u89, u90, u91, u92, u93, u94, u95, u96, u97, u98, u99, u100, u101, u102, u103, u104, u105, u106, u107, u108, u109, u110, u111, u112, u113, u114, u115, u116, u117, u118, u119, u120, u121, u122, u123, u124, u125, u126, u127, u128, u129], []⟩ wx)) :
    Code.wp Try.prog sdBCode Q ⟨#[.pointer (some ⟨b, 0, none⟩), u1, u2, u3, u4, u5, u6, u7, u8, u9, u10, u11, u12, u13, u14, u15, u16, u17, u18, u19, u20, u21, u22, u23, u24, u25, u26, u27, u28, u29, u30, u31, u32, u33, u34, u35, u36, u37, u38, u39, u40, u41, u42, u43, u44, u45, u46, u47, u48, u49, u50, u51, u52, u53, u54, u55, u56, u57, u58, u59, u60, u61, u62, u63, u64, u65, u66, u67, u68, u69, u70, u71, u72, u73, u74, u75, u76, u77, u78, u79, u80, u81, u82, u83, u84, u85, u86, u87, u88, u89, u90, u91, u92, u93, u94, u95, u96, u97, u98, u99, u100, u101, u102, u103, u104, u105, u106, u107, u108, u109, u110, u111, u112, u113, u114, u115, u116, u117, u118, u119, u120, u121, u122, u123, u124, u125, u126, u127, u128, u129], []⟩ wr := by
  conv => arg 2; whnf
  have hb : b ≠ f.sb := fun e => by have := h.tb; have := h.ts; rw [e] at *; omega
  have x19 : ∀ u, (mixF (fun j => j = f.sb) wr u).cell? ⟨b, 19, none⟩ = some (.pointer (some ⟨f.sb, 0, none⟩)) := mixF_cell (h.c 19 rfl) hb
  have x0 : ∀ u, (mixF (fun j => j = f.sb) wr u).cell? ⟨b, 0, none⟩ = some (.int .i64 s.c.bits) := mixF_cell (h.c 0 rfl) hb
  have C0 := Lib.hid (h.below (Below.refl _ wr).drew)
  refine wp_region_chg (fun j => j = f.sb) (by kernel_rfl) (by kernel_rfl) ?_
  repeat (refine wpMix_seg 1 _ _ rfl ?_; simp only [List.take_succ_cons, List.take_zero, List.drop_succ_cons, List.drop_zero]; go_big_quiet_step (fail); refine wpQuiet_nil ?_)
  generalize hv0 : wr.drew = v0 at *
  have hq : Hid (Chg (fun j => j = f.sb) wr v0) := Lib.hid (by rw [← hv0]; exact (Chg.refl _ _).drew)
  clear hv0
  refine wpMix_bar rfl (by rfl) ?_
  go_wp2_with fail
  refine (eng_nextC v0 f b s C0.out hk).mono ?_
  rintro e v1 ⟨rfl, c, q⟩
  go_wp2
  refine ⟨chg_mixF (hq.out.trans (q.mono fun k _ e => .inl e)), ?_⟩
  repeat (refine wpMix_seg 1 _ _ rfl ?_; simp only [List.take_succ_cons, List.take_zero, List.drop_succ_cons, List.drop_zero]; go_big_quiet_step (fail); refine wpQuiet_nil ?_)
  have hq1 := Lib.hid (hq.out.trans (q.mono fun k _ e => .inl e))
  have C1 := Lib.hid c
  clear q c hq C0 x19
  have KS := Lib.hid (fun w => draw_low s.word s.c.bits w (s.word_u h.good))
  generalize lowS s.word s.c.bits = nn at *
  refine wpMix_bar rfl (by rfl) ?_
  go_wp2_with fail
  refine (KS.out _).mono ?_
  rintro e v2 ⟨rfl, q⟩
  go_wp2
  refine ⟨chg_mixF (hq1.out.thenBelow q.below hq1.out.size), ?_⟩
  repeat (refine wpMix_seg 1 _ _ rfl ?_; simp only [List.take_succ_cons, List.take_zero, List.drop_succ_cons, List.drop_zero]; go_big_quiet_step (fail); refine wpQuiet_nil ?_)
  refine wpMix_nil ?_
  refine hQ.out  _ _ _ _ _ _ _ _ _ _ _ _ ?_
  exact Lib.hid ⟨C1.out.below q.below, hq1.out.thenBelow q.below hq1.out.size⟩
noncomputable def sdCCode : Code := (Try.f43.body.bind (regE10 6)).getD .skip
set_option maxHeartbeats 64000000 in
set_option maxRecDepth 1000000 in
theorem sdC {u1 u2 u4 u8 u9 u10 u11 u12 u13 u14 u15 u16 u17 u18 u19 u20 u21 u22 u23 u24 u25 u26 u27 u28 u29 u30 u31 u32 u33 u34 u35 u36 u37 u38 u39 u40 u41 u42 u43 u44 u45 u46 u47 u48 u49 u50 u51 u52 u53 u54 u55 u56 u57 u58 u59 u60 u61 u62 u63 u64 u65 u66 u67 u68 u69 u70 u71 u72 u73 u74 u75 u76 u77 u78 u79 u80 u81 u82 u83 u84 u85 u86 u87 u88 u89 u90 u91 u92 u93 u94 u95 u96 u97 u98 u99 u100 u101 u102 u103 u104 u105 u106 u107 u108 u109 u110 u111 u112 u113 u114 u115 u116 u117 u118 u119 u120 u121 u122 u123 u124 u125 u126 u127 u128 u129 : Value} {f : Ft} {b g : Nat} {s : ES} {a n nn : Int} {A : Option Addr} {m c : Nat} {cn : Bool} {Q : Exit → Act → World → Prop} {wr : World}
    (h : EngC wr f b s) (hB : wr.heap[g]? = some (.cells #[.int .u64 a, .slice A m c] 117 (0, 0))) (hB0 : f.tag g = 0) (hx : Snt.ok ⟨0, a, n, nn, s.now, cn, false, 0⟩)
    (hQ : Hid (∀  (x9 x70 x71 x72 x73 x74 x75 x76 x77 x78 x79 x80 x81 x82 x83 x84 x85 x86 x87 : Value) (wx : World), Hid (EngTo wr f b wx { s with l := (s.l.send ⟨0, a, n, nn, s.now, cn, false, 0⟩).1 }) → Q .normal ⟨#[.pointer (some ⟨b, 0, none⟩), u1, u2, .pointer (some ⟨g, 0, none⟩), u4, .int .u64 nn, .bool cn, .int .u64 n, .int .u64 (s.l.send ⟨0, a, n, nn, s.now, cn, false, 0⟩).2.1, x9, u10, u11, u12, u13, u14, u15, u16, u17, u18, u19, u20, u21, u22, u23, u24, u25, u26, u27, u28, u29, u30, u31, u32, u33, u34, u35, u36, u37, u38, u39, u40, u41, u42, u43, u44, u45, u46, u47, u48, u49, u50, u51, u52, u53, u54, u55, u56, u57, u58, u59, u60, u61, u62, u63, u64, u65, u66, u67, u68, u69, x70, x71, x72, x73, x74, x75, x76, x77, x78, x79, x80, x81, x82, x83, x84, x85, x86, x87, u88, u89, u90, u91, u92, u93, u94, u95, u96, u97, u98, u99, u100, u101, u102, u103, u104, u105, u106, u107, u108, u109, u110, u111, u112, u113, u114, u115, u116, u117, u118, u119, u120, u121, u122, u123, u124, u125, u126, u127, u128, u129], []⟩ wx)) :
    Code.wp Try.prog sdCCode Q ⟨#[.pointer (some ⟨b, 0, none⟩), u1, u2, .pointer (some ⟨g, 0, none⟩), u4, .int .u64 nn, .bool cn, .int .u64 n, u8, u9, u10, u11, u12, u13, u14, u15, u16, u17, u18, u19, u20, u21, u22, u23, u24, u25, u26, u27, u28, u29, u30, u31, u32, u33, u34, u35, u36, u37, u38, u39, u40, u41, u42, u43, u44, u45, u46, u47, u48, u49, u50, u51, u52, u53, u54, u55, u56, u57, u58, u59, u60, u61, u62, u63, u64, u65, u66, u67, u68, u69, u70, u71, u72, u73, u74, u75, u76, u77, u78, u79, u80, u81, u82, u83, u84, u85, u86, u87, u88, u89, u90, u91, u92, u93, u94, u95, u96, u97, u98, u99, u100, u101, u102, u103, u104, u105, u106, u107, u108, u109, u110, u111, u112, u113, u114, u115, u116, u117, u118, u119, u120, u121, u122, u123, u124, u125, u126, u127, u128, u129], []⟩ wr := by
  conv => arg 2; whnf
  have hb : ¬ f.tag b = 4 := by rw [h.tb]; omega
  have hg : ¬ f.tag g = 4 := by rw [hB0]; omega
  have x21 : ∀ u, (mixF (fun k => f.tag k = 4) wr u).cell? ⟨b, 21, none⟩ = some (.pointer (some ⟨f.p, 0, none⟩)) := mixF_cell (h.c 21 rfl) hb
  have x17 : ∀ u, (mixF (fun k => f.tag k = 4) wr u).cell? ⟨b, 17, none⟩ = some (.int .u64 s.now) := mixF_cell (h.c 17 rfl) hb
  have y0 : ∀ u, (mixF (fun k => f.tag k = 4) wr u).cell? ⟨g, 0, none⟩ = some (.int .u64 a) := mixF_cell (cell_of_row _ _ 0 _ _ _ hB) hg
  have C0 := Lib.hid (h.below (Below.refl _ wr).drew)
  have HS := Lib.hid (send_fix s.l ⟨0, a, n, nn, s.now, cn, false, 0⟩)
  have hX : Snt.val ⟨0, a, n, nn, s.now, cn, false, 0⟩ = .agg #[.int .u64 0, .int .u64 a, .int .u64 n, .int .u64 nn, .int .u64 s.now, .bool cn, .bool false, .int .i64 0] := rfl
  have KX := Lib.hid (led_send wr.drew _ f.p s.l ⟨0, a, n, nn, s.now, cn, false, 0⟩ C0.out.l hx)
  rw [hX] at KX
  have HE := Lib.hid (fun W' T => h.drewTo (W' := W') (s' := { s with l := (s.l.send ⟨0, a, n, nn, s.now, cn, false, 0⟩).1 }) T)
  clear hX hB hg hx h
  generalize hS : s.l.send ⟨0, a, n, nn, s.now, cn, false, 0⟩ = S at *
  clear hS
  refine wp_region_chg (fun k => f.tag k = 4) (by kernel_rfl) (by kernel_rfl) ?_
  repeat (refine wpMix_seg 1 _ _ rfl ?_; simp only [List.take_succ_cons, List.take_zero, List.drop_succ_cons, List.drop_zero]; go_big_quiet_step (fail); refine wpQuiet_nil ?_)
  generalize hv0 : wr.drew = v0 at *
  have hq : Hid (Chg (fun k => f.tag k = 4) wr v0) := Lib.hid (by rw [← hv0]; exact (Chg.refl _ _).drew)
  clear hv0
  refine wpMix_bar rfl (by rfl) ?_
  go_wp2_with fail
  refine (KX.out).mono ?_
  rintro e v1 ⟨rfl, l, q⟩
  go_wp2
  refine ⟨chg_mixF (hq.out.trans (q.mono fun k _ e => .inl e)), ?_⟩
  repeat (refine wpMix_seg 1 _ _ rfl ?_; simp only [List.take_succ_cons, List.take_zero, List.drop_succ_cons, List.drop_zero]; go_big_quiet_step (fail); refine wpQuiet_nil ?_)
  refine wpMix_nil ?_
  refine hQ.out  _ _ _ _ _ _ _ _ _ _ _ _ _ _ _ _ _ _ _ _ ?_
  exact Lib.hid (HE.out _ (C0.out.led l q HS.out.1 HS.out.2))
noncomputable def sdDCode : Code := (Try.f43.body.bind (regE10 7)).getD .skip
set_option maxHeartbeats 64000000 in
set_option maxRecDepth 1000000 in
theorem sdD {u1 u2 u4 u5 u6 u8 u9 u10 u11 u12 u13 u14 u15 u16 u17 u18 u19 u20 u21 u22 u23 u24 u25 u26 u27 u28 u29 u30 u31 u32 u33 u34 u35 u36 u37 u38 u39 u40 u41 u42 u43 u44 u45 u46 u47 u48 u49 u50 u51 u52 u53 u54 u55 u56 u57 u58 u59 u60 u61 u62 u63 u64 u65 u66 u67 u68 u69 u70 u71 u72 u73 u74 u75 u76 u77 u78 u79 u80 u81 u82 u83 u84 u85 u86 u87 u88 u89 u90 u91 u92 u93 u94 u95 u96 u97 u98 u99 u100 u101 u102 u103 u104 u105 u106 u107 u108 u109 u110 u111 u112 u113 u114 u115 u116 u117 u118 u119 u120 u121 u122 u123 u124 u125 u126 u127 u128 u129 : Value} {f : Ft} {b g : Nat} {s : ES} {a n : Int} {A : Option Addr} {m c : Nat} {Q : Exit → Act → World → Prop} {wr : World}
    (h : EngC wr f b s) (hB : wr.heap[g]? = some (.cells #[.int .u64 a, .slice A m c] 117 (0, 0))) (hB0 : f.tag g = 0) (ha : isU64 a) (hn : isU64 n)
    (hQ : Hid (∀  (x88 x89 x90 x91 x92 x93 x94 x95 : Value) (wx : World), Hid (EngTo wr f b wx { s with q := (s.q.sent a n).1 }) → Q .normal ⟨#[.pointer (some ⟨b, 0, none⟩), u1, u2, .pointer (some ⟨g, 0, none⟩), u4, u5, u6, .int .u64 n, u8, u9, u10, u11, u12, u13, u14, u15, u16, u17, u18, u19, u20, u21, u22, u23, u24, u25, u26, u27, u28, u29, u30, u31, u32, u33, u34, u35, u36, u37, u38, u39, u40, u41, u42, u43, u44, u45, u46, u47, u48, u49, u50, u51, u52, u53, u54, u55, u56, u57, u58, u59, u60, u61, u62, u63, u64, u65, u66, u67, u68, u69, u70, u71, u72, u73, u74, u75, u76, u77, u78, u79, u80, u81, u82, u83, u84, u85, u86, u87, x88, x89, x90, x91, x92, x93, x94, x95, u96, u97, u98, u99, u100, u101, u102, u103, u104, u105, u106, u107, u108, u109, u110, u111, u112, u113, u114, u115, u116, u117, u118, u119, u120, u121, u122, u123, u124, u125, u126, u127, u128, u129], []⟩ wx)) :
    Code.wp Try.prog sdDCode Q ⟨#[.pointer (some ⟨b, 0, none⟩), u1, u2, .pointer (some ⟨g, 0, none⟩), u4, u5, u6, .int .u64 n, u8, u9, u10, u11, u12, u13, u14, u15, u16, u17, u18, u19, u20, u21, u22, u23, u24, u25, u26, u27, u28, u29, u30, u31, u32, u33, u34, u35, u36, u37, u38, u39, u40, u41, u42, u43, u44, u45, u46, u47, u48, u49, u50, u51, u52, u53, u54, u55, u56, u57, u58, u59, u60, u61, u62, u63, u64, u65, u66, u67, u68, u69, u70, u71, u72, u73, u74, u75, u76, u77, u78, u79, u80, u81, u82, u83, u84, u85, u86, u87, u88, u89, u90, u91, u92, u93, u94, u95, u96, u97, u98, u99, u100, u101, u102, u103, u104, u105, u106, u107, u108, u109, u110, u111, u112, u113, u114, u115, u116, u117, u118, u119, u120, u121, u122, u123, u124, u125, u126, u127, u128, u129], []⟩ wr := by
  conv => arg 2; whnf
  have hb : ¬ f.tag b = 3 := by rw [h.tb]; omega
  have hg : ¬ f.tag g = 3 := by rw [hB0]; omega
  have x20 : ∀ u, (mixF (fun k => f.tag k = 3) wr u).cell? ⟨b, 20, none⟩ = some (.pointer (some ⟨f.q, 0, none⟩)) := mixF_cell (h.c 20 rfl) hb
  have y0 : ∀ u, (mixF (fun k => f.tag k = 3) wr u).cell? ⟨g, 0, none⟩ = some (.int .u64 a) := mixF_cell (cell_of_row _ _ 0 _ _ _ hB) hg
  have C0 := Lib.hid (h.below (Below.refl _ wr).drew)
  have KX := Lib.hid (que_sent wr.drew _ f.q s.q a n C0.out.q ha hn)
  have HE := Lib.hid (fun W' T => h.drewTo (W' := W') (s' := { s with q := (s.q.sent a n).1 }) T)
  clear hB hg h
  generalize hS : s.q.sent a n = S at *
  clear hS
  refine wp_region_chg (fun k => f.tag k = 3) (by kernel_rfl) (by kernel_rfl) ?_
  repeat (refine wpMix_seg 1 _ _ rfl ?_; simp only [List.take_succ_cons, List.take_zero, List.drop_succ_cons, List.drop_zero]; go_big_quiet_step (fail); refine wpQuiet_nil ?_)
  generalize hv0 : wr.drew = v0 at *
  have hq : Hid (Chg (fun k => f.tag k = 3) wr v0) := Lib.hid (by rw [← hv0]; exact (Chg.refl _ _).drew)
  clear hv0
  refine wpMix_bar rfl (by rfl) ?_
  go_wp2_with fail
  refine (KX.out).mono ?_
  rintro e v1 ⟨rfl, l, q⟩
  go_wp2
  refine ⟨chg_mixF (hq.out.trans (q.mono fun k _ e => .inl e)), ?_⟩
  repeat (refine wpMix_seg 1 _ _ rfl ?_; simp only [List.take_succ_cons, List.take_zero, List.drop_succ_cons, List.drop_zero]; go_big_quiet_step (fail); refine wpQuiet_nil ?_)
  refine wpMix_nil ?_
  refine hQ.out  _ _ _ _ _ _ _ _ _ ?_
  exact Lib.hid (HE.out _ (C0.out.que l q))
noncomputable def sdECode : Code := (Try.f43.body.bind (regE10 8)).getD .skip
set_option maxHeartbeats 64000000 in
set_option maxRecDepth 1000000 in
theorem sdE {u1 u2 u3 u4 u5 u6 u7 u8 u9 u10 u11 u12 u13 u14 u15 u16 u17 u18 u19 u20 u21 u22 u23 u24 u25 u26 u27 u28 u29 u30 u31 u32 u33 u34 u35 u36 u37 u38 u39 u40 u41 u42 u43 u44 u45 u46 u47 u48 u49 u50 u51 u52 u53 u54 u55 u56 u57 u58 u59 u60 u61 u62 u63 u64 u65 u66 u67 u68 u69 u70 u71 u72 u73 u74 u75 u76 u77 u78 u79 u80 u81 u82 u83 u84 u85 u86 u87 u88 u89 u90 u91 u92 u93 u94 u95 u96 u97 u98 u99 u100 u101 u102 u103 u104 u105 u106 u107 u108 u109 u110 u111 u112 u113 u114 u115 u116 u117 u118 u119 u120 u121 u122 u123 u124 u125 u126 u127 u128 u129 : Value} {f : Ft} {b : Nat} {s : ES} {Q : Exit → Act → World → Prop} {wr : World}
    (h : EngC wr f b s)
    (hQ : Hid (∀  (x96 x97 x98 x99 x100 x101 x102 x103 x104 x105 x106 x107 : Value) (wx : World), Hid (EngTo wr f b wx { s with pc := s.pc, pf := s.now }) → Q .normal ⟨#[.pointer (some ⟨b, 0, none⟩), u1, u2, u3, u4, u5, u6, u7, u8, u9, u10, u11, u12, u13, u14, u15, u16, u17, u18, u19, u20, u21, u22, u23, u24, u25, u26, u27, u28, u29, u30, u31, u32, u33, u34, u35, u36, u37, u38, u39, u40, u41, u42, u43, u44, u45, u46, u47, u48, u49, u50, u51, u52, u53, u54, u55, u56, u57, u58, u59, u60, u61, u62, u63, u64, u65, u66, u67, u68, u69, u70, u71, u72, u73, u74, u75, u76, u77, u78, u79, u80, u81, u82, u83, u84, u85, u86, u87, u88, u89, u90, u91, u92, u93, u94, u95, x96, x97, x98, x99, x100, x101, x102, x103, x104, x105, x106, x107, u108, u109, u110, u111, u112, u113, u114, u115, u116, u117, u118, u119, u120, u121, u122, u123, u124, u125, u126, u127, u128, u129], []⟩ wx)) :
    Code.wp Try.prog sdECode Q ⟨#[.pointer (some ⟨b, 0, none⟩), u1, u2, u3, u4, u5, u6, u7, u8, u9, u10, u11, u12, u13, u14, u15, u16, u17, u18, u19, u20, u21, u22, u23, u24, u25, u26, u27, u28, u29, u30, u31, u32, u33, u34, u35, u36, u37, u38, u39, u40, u41, u42, u43, u44, u45, u46, u47, u48, u49, u50, u51, u52, u53, u54, u55, u56, u57, u58, u59, u60, u61, u62, u63, u64, u65, u66, u67, u68, u69, u70, u71, u72, u73, u74, u75, u76, u77, u78, u79, u80, u81, u82, u83, u84, u85, u86, u87, u88, u89, u90, u91, u92, u93, u94, u95, u96, u97, u98, u99, u100, u101, u102, u103, u104, u105, u106, u107, u108, u109, u110, u111, u112, u113, u114, u115, u116, u117, u118, u119, u120, u121, u122, u123, u124, u125, u126, u127, u128, u129], []⟩ wr := by
  conv => arg 2; whnf
  have KP := Lib.hid (fun w => pb_sent s.pc s.pf s.now w)
  dsimp only [pbv] at KP
  have m28 : ∀ u, (Go.Proofs.Ytpkbimmhimgamaa.mix wr u).cell? ⟨b, 28, none⟩ = some (.int .i64 s.pc) := mixc (h.c 28 rfl)
  have m29 : ∀ u, (Go.Proofs.Ytpkbimmhimgamaa.mix wr u).cell? ⟨b, 29, none⟩ = some (.int .u64 s.pf) := mixc (h.c 29 rfl)
  have m17 : ∀ u, (Go.Proofs.Ytpkbimmhimgamaa.mix wr u).cell? ⟨b, 17, none⟩ = some (.int .u64 s.now) := mixc (h.c 17 rfl)
  refine wp_region_bt 12 (by kernel_rfl) (by kernel_rfl) ?_
  simp only [List.take_succ_cons, List.take_zero, List.drop_succ_cons, List.drop_zero]
  repeat (first | go_big_quiet_step ((go_at_call 70; with_reducible exact Calls.mix_of (KP.out _))) | quiet_step ((go_at_call 70; with_reducible exact Calls.mix_of (KP.out _))))
  refine wpQuiet_nil ?_
  intro w5 q
  have c5 := h.below q
  have e28 : w5.cell? ⟨b, 28, none⟩ = some (.int .i64 s.pc) := c5.c 28 rfl
  have e29 : w5.cell? ⟨b, 29, none⟩ = some (.int .u64 s.pf) := c5.c 29 rfl
  have fz28 : w5.frozen? ⟨b, 28, none⟩ = false := c5.fz 28
  have fz29 : w5.frozen? ⟨b, 29, none⟩ = false := c5.fz 29
  have T5 := EngTo.trans c5.lt (fun _ _ => rfl) ((Chg.refl f.mut wr).thenBelow q (Nat.le_refl _)) (c5.prTo s.pc s.now c5.good.pc c5.good.now)
  simp only [putAll, Nat.reduceAdd] at T5
  have T5 := Lib.hid T5
  clear m28 m29 m17 c5 q KP h
  go_wp2
  refine hQ.out  _ _ _ _ _ _ _ _ _ _ _ _ _ ?_
  exact T5
noncomputable def sdFCode : Code := (Try.f43.body.bind (regE10 10)).getD .skip
set_option maxHeartbeats 64000000 in
set_option maxRecDepth 1000000 in
theorem sdF {u1 u2 u4 u7 u9 u10 u11 u12 u13 u14 u15 u16 u17 u18 u19 u20 u21 u22 u23 u24 u25 u26 u27 u28 u29 u30 u31 u32 u33 u34 u35 u36 u37 u38 u39 u40 u41 u42 u43 u44 u45 u46 u47 u48 u49 u50 u51 u52 u53 u54 u55 u56 u57 u58 u59 u60 u61 u62 u63 u64 u65 u66 u67 u68 u69 u70 u71 u72 u73 u74 u75 u76 u77 u78 u79 u80 u81 u82 u83 u84 u85 u86 u87 u88 u89 u90 u91 u92 u93 u94 u95 u96 u97 u98 u99 u100 u101 u102 u103 u104 u105 u106 u107 u108 u109 u110 u111 u112 u113 u114 u115 u116 u117 u118 u119 u120 u121 u122 u123 u124 u125 u126 u127 u128 u129 : Value} {f : Ft} {b g : Nat} {s : ES} {a nn pn : Int} {A : Option Addr} {c : Nat} {cn : Bool} {L : List Int} {Q : Exit → Act → World → Prop} {wr : World}
    (h : EngC wr f b s) (hB : wr.heap[g]? = some (.cells #[.int .u64 a, .slice A L.length c] 117 (0, 0))) (hR : Rd wr 1 A L.length c (U8 L)) (hd : DatD.Ok (⟨pn, (s.l.least : Nat), a, nn, if cn then 1 else 2, L⟩ : DatD))
    (hQ : Hid (∀ (A' : Option Addr) (c' : Nat) (x11 x111 x112 x113 x114 x115 x116 x117 x118 x119 x120 x121 x122 x123 x124 x125 x126 x127 x128 : Value) (wx : World), Hid (Rd8 wx wr.heap.size A' (putDatP (⟨pn, (s.l.least : Nat), a, nn, if cn then 1 else 2, L⟩ : DatD)).length c' (putDatP (⟨pn, (s.l.least : Nat), a, nn, if cn then 1 else 2, L⟩ : DatD)) ∧ Below wr.heap.size wr wx) → Q .normal ⟨#[.pointer (some ⟨b, 0, none⟩), u1, u2, .pointer (some ⟨g, 0, none⟩), u4, .int .u64 nn, .bool cn, u7, .int .u64 pn, u9, .slice A' (putDatP (⟨pn, (s.l.least : Nat), a, nn, if cn then 1 else 2, L⟩ : DatD)).length c', x11, u12, u13, u14, u15, u16, u17, u18, u19, u20, u21, u22, u23, u24, u25, u26, u27, u28, u29, u30, u31, u32, u33, u34, u35, u36, u37, u38, u39, u40, u41, u42, u43, u44, u45, u46, u47, u48, u49, u50, u51, u52, u53, u54, u55, u56, u57, u58, u59, u60, u61, u62, u63, u64, u65, u66, u67, u68, u69, u70, u71, u72, u73, u74, u75, u76, u77, u78, u79, u80, u81, u82, u83, u84, u85, u86, u87, u88, u89, u90, u91, u92, u93, u94, u95, u96, u97, u98, u99, u100, u101, u102, u103, u104, u105, u106, u107, u108, u109, u110, x111, x112, x113, x114, x115, x116, x117, x118, x119, x120, x121, x122, x123, x124, x125, x126, x127, x128, u129], []⟩ wx)) :
    Code.wp Try.prog sdFCode Q ⟨#[.pointer (some ⟨b, 0, none⟩), u1, u2, .pointer (some ⟨g, 0, none⟩), u4, .int .u64 nn, .bool cn, u7, .int .u64 pn, u9, u10, u11, u12, u13, u14, u15, u16, u17, u18, u19, u20, u21, u22, u23, u24, u25, u26, u27, u28, u29, u30, u31, u32, u33, u34, u35, u36, u37, u38, u39, u40, u41, u42, u43, u44, u45, u46, u47, u48, u49, u50, u51, u52, u53, u54, u55, u56, u57, u58, u59, u60, u61, u62, u63, u64, u65, u66, u67, u68, u69, u70, u71, u72, u73, u74, u75, u76, u77, u78, u79, u80, u81, u82, u83, u84, u85, u86, u87, u88, u89, u90, u91, u92, u93, u94, u95, u96, u97, u98, u99, u100, u101, u102, u103, u104, u105, u106, u107, u108, u109, u110, u111, u112, u113, u114, u115, u116, u117, u118, u119, u120, u121, u122, u123, u124, u125, u126, u127, u128, u129], []⟩ wr := by
  conv => arg 2; whnf
  have y0 : ∀ u, (mixF (fun _ => False) wr u).cell? ⟨g, 0, none⟩ = some (.int .u64 a) := mixF_cell (cell_of_row _ _ 0 _ _ _ hB) id
  have y1 : ∀ u, (mixF (fun _ => False) wr u).cell? ⟨g, 1, none⟩ = some (.slice A L.length c) := mixF_cell (cell_of_row _ _ 1 _ _ _ hB) id
  have x21 : ∀ u, (mixF (fun _ => False) wr u).cell? ⟨b, 21, none⟩ = some (.pointer (some ⟨f.p, 0, none⟩)) := mixF_cell (h.c 21 rfl) id
  have C0 := Lib.hid (h.below (Below.refl _ wr).drew)
  have KL := Lib.hid (led_least wr.drew _ f.p s.l C0.out.l)
  have KC := Lib.hid (fun w => head_coin cn w)
  have KE := Lib.hid (fun W (q : Below wr.heap.size wr W) => head_encode (⟨pn, (s.l.least : Nat), a, nn, if cn then 1 else 2, L⟩ : DatD) A c W hd (hR.below q))
  dsimp only [DatD.arr] at KE
  generalize hP : putDatP (⟨pn, (s.l.least : Nat), a, nn, if cn then 1 else 2, L⟩ : DatD) = P at *
  generalize (if cn = true then (1 : Int) else 2) = ec at *
  generalize (s.l.least : Int) = le at *
  clear hP hd hR hB h C0
  refine wp_region_chg (fun _ => False) (by kernel_rfl) (by kernel_rfl) ?_
  repeat (refine wpMix_seg 1 _ _ rfl ?_; simp only [List.take_succ_cons, List.take_zero, List.drop_succ_cons, List.drop_zero]; go_big_quiet_step (fail); refine wpQuiet_nil ?_)
  generalize hv0 : wr.drew = v0 at *
  have hq : Hid (Below wr.heap.size wr v0) := Lib.hid (by rw [← hv0]; exact (Below.refl _ _).drew)
  clear hv0
  refine wpMix_bar rfl (by rfl) ?_
  go_wp2_with fail
  refine (KL.out).mono ?_
  rintro e v1 ⟨rfl, q⟩
  go_wp2
  refine ⟨chg_mixF (chgN (hq.out.trans (q.mono hq.out.size))), ?_⟩
  repeat (refine wpMix_seg 1 _ _ rfl ?_; simp only [List.take_succ_cons, List.take_zero, List.drop_succ_cons, List.drop_zero]; go_big_quiet_step (fail); refine wpQuiet_nil ?_)
  have hq1 := Lib.hid (hq.out.trans (q.mono hq.out.size))
  clear q hq KL x21
  refine wpMix_bar rfl (by rfl) ?_
  go_wp2_with fail
  refine (KC.out _).mono ?_
  rintro e v2 ⟨rfl, q⟩
  go_wp2
  refine ⟨chg_mixF (chgN (hq1.out.trans (q.below.mono hq1.out.size))), ?_⟩
  repeat (refine wpMix_seg 1 _ _ rfl ?_; simp only [List.take_succ_cons, List.take_zero, List.drop_succ_cons, List.drop_zero]; go_big_quiet_step (fail); refine wpQuiet_nil ?_)
  have hq2 := Lib.hid (hq1.out.trans (q.below.mono hq1.out.size))
  clear q hq1 KC
  refine wpMix_bar rfl (by rfl) ?_
  go_wp2_with fail
  refine (KE.out _ hq2.out).mono ?_
  rintro e v3 ⟨A', c', rfl, r, q⟩
  go_wp2
  refine ⟨chg_mixF (chgN (hq2.out.trans (q.mono hq2.out.size))), ?_⟩
  repeat (refine wpMix_seg 1 _ _ rfl ?_; simp only [List.take_succ_cons, List.take_zero, List.drop_succ_cons, List.drop_zero]; go_big_quiet_step (fail); refine wpQuiet_nil ?_)
  have O := Lib.hid (And.intro (⟨r.rd, fun k off e h0 => Nat.le_trans hq2.out.size (r.nw k off e h0)⟩ : Rd8 v3 wr.heap.size A' P.length c' P) (hq2.out.trans (q.mono hq2.out.size)))
  clear r q hq2 KE
  refine wpMix_nil ?_
  refine hQ.out A' c' _ _ _ _ _ _ _ _ _ _ _ _ _ _ _ _ _ _ _ _ ?_
  exact O
end Go.Proofs.Ytpkbimmhimgamaa
namespace Go.Proofs.Ytpkbimmhimgamaa
set_option linter.unusedSimpArgs false
set_option linter.unusedVariables false
set_option linter.unnecessarySimpa false
open Go.RowKit
noncomputable def sdACode : Code := (Try.f43.body.bind (regE10 1)).getD .skip
set_option maxHeartbeats 64000000 in
set_option maxRecDepth 1000000 in
theorem sdA {u1 u2 u3 u4 u5 u6 u7 u8 u9 u10 u11 u12 u13 u14 u15 u16 u17 u18 u19 u20 u21 u22 u23 u24 u25 u26 u27 u28 u29 u30 u31 u32 u33 u34 u35 u36 u37 u38 u39 u40 u41 u42 u43 u44 u45 u46 u47 u48 u49 u50 u51 u52 u53 u54 u55 u56 u57 u58 u59 u60 u61 u62 u63 u64 u65 u66 u67 u68 u69 u70 u71 u72 u73 u74 u75 u76 u77 u78 u79 u80 u81 u82 u83 u84 u85 u86 u87 u88 u89 u90 u91 u92 u93 u94 u95 u96 u97 u98 u99 u100 u101 u102 u103 u104 u105 u106 u107 u108 u109 u110 u111 u112 u113 u114 u115 u116 u117 u118 u119 u120 u121 u122 u123 u124 u125 u126 u127 u128 u129 : Value} {f : Ft} {b : Nat} {s : ES} {Q : Exit → Act → World → Prop} {wr : World}
    (h : EngC wr f b s) (hk : s.k + 1 < 1000000000)
    (hQ : Hid (∀  (x12 x13 x14 x15 x16 x17 x18 x19 x20 x21 x22 x23 x24 x25 x26 x27 x28 x29 x30 x31 x32 x33 x34 x35 x36 x37 x38 x39 x40 x41 x42 : Value) (wx : World), Hid (EngC wx f b s.drawn ∧ Chg (fun j => j = f.sb) wr wx) → Q .normal ⟨#[.pointer (some ⟨b, 0, none⟩), u1, u2, u3, u4, u5, u6, u7, u8, u9, u10, u11, x12, x13, x14, x15, x16, x17, x18, x19, x20, x21, x22, x23, x24, x25, x26, x27, x28, x29, x30, x31, x32, x33, x34, x35, x36, x37, x38, x39, x40, x41, x42, .bool (skipsS s.word s.c.one && (decide (2 ≤ s.l.room) && decide ((s.l.all.length : Int) < s.c.lim))), u44, u45, u46, u47, u48, u49, u50, u51, u52, u53, u54, u55, u56, u57, u58, u59, u60, u61, u62, u63, u64, u65, u66, u67, u68, u69, u70, u71, u72, u73, u74, u75, u76, u77, u78, u79, u80, u81, u82, u83, u84, u85, u86, u87, u88, u89, u90, u91, u92, u93, u94, u95, u96, u97, u98, u99, u100, u101, u102, u103, u104, u105, u106, u107, u108, u109, u110, u111, u112, u113, u114, u115, u116, u117, u118, u119, u120, u121, u122, u123, u124, u125, u126, u127, u128, u129], []⟩ wx)) :
    Code.wp Try.prog sdACode Q ⟨#[.pointer (some ⟨b, 0, none⟩), u1, u2, u3, u4, u5, u6, u7, u8, u9, u10, u11, u12, u13, u14, u15, u16, u17, u18, u19, u20, u21, u22, u23, u24, u25, u26, u27, u28, u29, u30, u31, u32, u33, u34, u35, u36, u37, u38, u39, u40, u41, u42, u43, u44, u45, u46, u47, u48, u49, u50, u51, u52, u53, u54, u55, u56, u57, u58, u59, u60, u61, u62, u63, u64, u65, u66, u67, u68, u69, u70, u71, u72, u73, u74, u75, u76, u77, u78, u79, u80, u81, u82, u83, u84, u85, u86, u87, u88, u89, u90, u91, u92, u93, u94, u95, u96, u97, u98, u99, u100, u101, u102, u103, u104, u105, u106, u107, u108, u109, u110, u111, u112, u113, u114, u115, u116, u117, u118, u119, u120, u121, u122, u123, u124, u125, u126, u127, u128, u129], []⟩ wr := by
  conv => arg 2; whnf
  have hb : b ≠ f.sb := fun e => by have := h.tb; have := h.ts; rw [e] at *; omega
  have x19 : ∀ u, (mixF (fun j => j = f.sb) wr u).cell? ⟨b, 19, none⟩ = some (.pointer (some ⟨f.sb, 0, none⟩)) := mixF_cell (h.c 19 rfl) hb
  have x1 : ∀ u, (mixF (fun j => j = f.sb) wr u).cell? ⟨b, 1, none⟩ = some (.int .u64 s.c.one) := mixF_cell (h.c 1 rfl) hb
  have x3 : ∀ u, (mixF (fun j => j = f.sb) wr u).cell? ⟨b, 3, none⟩ = some (.int .u64 s.c.lim) := mixF_cell (h.c 3 rfl) hb
  have x21 : ∀ u, (mixF (fun j => j = f.sb) wr u).cell? ⟨b, 21, none⟩ = some (.pointer (some ⟨f.p, 0, none⟩)) := mixF_cell (h.c 21 rfl) hb
  have C0 := Lib.hid (h.below (Below.refl _ wr).drew)
  refine wp_region_chg (fun j => j = f.sb) (by kernel_rfl) (by kernel_rfl) ?_
  repeat (refine wpMix_seg 1 _ _ rfl ?_; simp only [List.take_succ_cons, List.take_zero, List.drop_succ_cons, List.drop_zero]; go_big_quiet_step (fail); refine wpQuiet_nil ?_)
  generalize hv0 : wr.drew = v0 at *
  have hq : Hid (Chg (fun j => j = f.sb) wr v0) := Lib.hid (by rw [← hv0]; exact (Chg.refl _ _).drew)
  clear hv0
  refine wpMix_bar rfl (by rfl) ?_
  go_wp2_with fail
  refine (eng_nextC v0 f b s C0.out hk).mono ?_
  rintro e v1 ⟨rfl, c, q⟩
  go_wp2
  refine ⟨chg_mixF (hq.out.trans (q.mono fun k _ e => .inl e)), ?_⟩
  repeat (refine wpMix_seg 1 _ _ rfl ?_; simp only [List.take_succ_cons, List.take_zero, List.drop_succ_cons, List.drop_zero]; go_big_quiet_step (fail); refine wpQuiet_nil ?_)
  have hq1 := Lib.hid (hq.out.trans (q.mono fun k _ e => .inl e))
  have C1 := Lib.hid c
  clear q c hq C0 x19
  have uw : isU64 s.c.one := h.good.c.one.1
  have KS := Lib.hid (fun w => draw_skips s.word s.c.one w (s.word_u h.good) uw)
  generalize hsk : skipsS s.word s.c.one = sk at *
  generalize hd1 : decide (2 ≤ s.l.room) = d1 at *
  generalize hd2 : decide ((s.l.all.length : Int) < s.c.lim) = d2 at *
  have C2 := Lib.hid (fun W (q : Qt v1 W) => C1.out.below q.below)
  cases sk
  · with_reducible (refine wpMix_bar ?_ ?_ ?_)
    · kernel_rfl
    · kernel_rfl
    go_wp2_with fail
    refine (KS.out _).mono ?_
    rintro e v2 ⟨rfl, q⟩
    go_wp2
    refine ⟨chg_mixF (hq1.out.thenBelow q.below hq1.out.size), ?_⟩
    repeat (first | (with_reducible (refine wpMix_off ?_ ?_); (focus (kernel_rfl)); go_big_quiet_skip; with_reducible (refine wpQuiet_nil ?_)) | (with_reducible (refine wpMix_seg 1 _ _ ?_ ?_); (focus (kernel_rfl)); simp only [List.take_succ_cons, List.take_zero, List.drop_succ_cons, List.drop_zero]; go_big_quiet_want; go_big_quiet_op; go_big_quiet_on; with_reducible (refine wpQuiet_nil ?_)))
    with_reducible (refine wpMix_nil ?_)
    refine hQ.out  _ _ _ _ _ _ _ _ _ _ _ _ _ _ _ _ _ _ _ _ _ _ _ _ _ _ _ _ _ _ _ _ ?_
    exact Lib.hid ⟨C2.out _ q, hq1.out.thenBelow q.below hq1.out.size⟩
  · with_reducible (refine wpMix_bar ?_ ?_ ?_)
    · kernel_rfl
    · kernel_rfl
    go_wp2_with fail
    refine (KS.out _).mono ?_
    rintro e v2 ⟨rfl, q⟩
    go_wp2
    refine ⟨chg_mixF (hq1.out.thenBelow q.below hq1.out.size), ?_⟩
    repeat (first | (with_reducible (refine wpMix_off ?_ ?_); (focus (kernel_rfl)); go_big_quiet_skip; with_reducible (refine wpQuiet_nil ?_)) | (with_reducible (refine wpMix_seg 1 _ _ ?_ ?_); (focus (kernel_rfl)); simp only [List.take_succ_cons, List.take_zero, List.drop_succ_cons, List.drop_zero]; go_big_quiet_want; go_big_quiet_op; go_big_quiet_on; with_reducible (refine wpQuiet_nil ?_)))
    have C3 := Lib.hid (C2.out _ q)
    have hq2 := Lib.hid (hq1.out.thenBelow q.below hq1.out.size)
    have KR := Lib.hid (led_room v2 _ f.p s.l C3.out.l)
    clear q C2 KS C1 hq1
    cases d1
    · with_reducible (refine wpMix_bar ?_ ?_ ?_)
      · kernel_rfl
      · kernel_rfl
      go_wp2_with fail
      refine (KR.out).mono ?_
      rintro e v3 ⟨rfl, q⟩
      go_wp2
      refine ⟨chg_mixF (hq2.out.thenBelow q hq2.out.size), ?_⟩
      repeat (first | (with_reducible (refine wpMix_off ?_ ?_); (focus (kernel_rfl)); go_big_quiet_skip; with_reducible (refine wpQuiet_nil ?_)) | (with_reducible (refine wpMix_seg 1 _ _ ?_ ?_); (focus (kernel_rfl)); simp only [List.take_succ_cons, List.take_zero, List.drop_succ_cons, List.drop_zero]; go_big_quiet_want; go_big_quiet_op; go_big_quiet_on; with_reducible (refine wpQuiet_nil ?_)))
      with_reducible (refine wpMix_nil ?_)
      refine hQ.out  _ _ _ _ _ _ _ _ _ _ _ _ _ _ _ _ _ _ _ _ _ _ _ _ _ _ _ _ _ _ _ _ ?_
      exact Lib.hid ⟨C3.out.below q, hq2.out.thenBelow q hq2.out.size⟩
    · with_reducible (refine wpMix_bar ?_ ?_ ?_)
      · kernel_rfl
      · kernel_rfl
      go_wp2_with fail
      refine (KR.out).mono ?_
      rintro e v3 ⟨rfl, q⟩
      go_wp2
      refine ⟨chg_mixF (hq2.out.thenBelow q hq2.out.size), ?_⟩
      repeat (first | (with_reducible (refine wpMix_off ?_ ?_); (focus (kernel_rfl)); go_big_quiet_skip; with_reducible (refine wpQuiet_nil ?_)) | (with_reducible (refine wpMix_seg 1 _ _ ?_ ?_); (focus (kernel_rfl)); simp only [List.take_succ_cons, List.take_zero, List.drop_succ_cons, List.drop_zero]; go_big_quiet_want; go_big_quiet_op; go_big_quiet_on; with_reducible (refine wpQuiet_nil ?_)))
      have C4 := Lib.hid (C3.out.below q)
      have hq3 := Lib.hid (hq2.out.thenBelow q hq2.out.size)
      have KN := Lib.hid (led_next v3 _ f.p s.l C4.out.l)
      clear q C3 hq2 KR
      with_reducible (refine wpMix_bar ?_ ?_ ?_)
      · kernel_rfl
      · kernel_rfl
      go_wp2_with fail
      refine (KN.out).mono ?_
      rintro e v4 ⟨rfl, q⟩
      go_wp2
      refine ⟨chg_mixF (hq3.out.thenBelow q.below hq3.out.size), ?_⟩
      repeat (first | (with_reducible (refine wpMix_off ?_ ?_); (focus (kernel_rfl)); go_big_quiet_skip; with_reducible (refine wpQuiet_nil ?_)) | (with_reducible (refine wpMix_seg 1 _ _ ?_ ?_); (focus (kernel_rfl)); simp only [List.take_succ_cons, List.take_zero, List.drop_succ_cons, List.drop_zero]; go_big_quiet_want; go_big_quiet_op; go_big_quiet_on; with_reducible (refine wpQuiet_nil ?_)))
      with_reducible (refine wpMix_nil ?_)
      refine hQ.out  _ _ _ _ _ _ _ _ _ _ _ _ _ _ _ _ _ _ _ _ _ _ _ _ _ _ _ _ _ _ _ _ ?_
      exact Lib.hid ⟨C4.out.below q.below, hq3.out.thenBelow q.below hq3.out.size⟩
end Go.Proofs.Ytpkbimmhimgamaa
namespace Go.Proofs.Ytpkbimmhimgamaa
set_option linter.unusedSimpArgs false
set_option linter.unusedVariables false
set_option linter.unnecessarySimpa false
open Go.RowKit
theorem ahead_ge {l : List Snt} {k : Nat} (hk : k ≤ l.length) (h : ∀ i (hi : i < l.length), i < k → l[i].state ≠ 1) : k ≤ LS.ahead l := by
  apply Nat.le_of_not_lt
  intro h2
  exact h _ (by omega) h2 (LS.ahead_at (by omega))
theorem least_grow (l : LS) (y : Snt) : l.least ≤ ({ l with all := l.all ++ [y] } : LS).least := by
  have hl := l.least_le
  generalize hm : ({ l with all := l.all ++ [y] } : LS) = m
  have h1 : m.all = l.all ++ [y] := by rw [← hm]
  have h2 : m.low = l.all.length + 1 - l.ring := by rw [← hm]; simp [LS.low]
  rcases Nat.lt_or_ge l.least m.low with h | h
  · exact Nat.le_trans (Nat.le_of_lt h) m.low_least
  · have h3 : m.kept.length = l.all.length + 1 - m.low := by simp [LS.kept, h1]
    have := ahead_ge (l := m.kept) (k := l.least - m.low) (by omega) (fun i hi hlt => by
      rw [LS.kept_get]
      have h4 : m.all[m.low + i]'(by simp [LS.kept] at hi; omega) = l.all[m.low + i]'(by omega) := by
        simp only [h1]
        rw [List.getElem_append_left (by omega)]
      rw [h4]
      have h5 : l.low ≤ m.low := by simp only [LS.low] at h2 ⊢; omega
      have h6 := LS.ahead_lt (l := l.kept) (i := m.low + i - l.low) (by unfold LS.least at hlt; omega) (by simp [LS.kept]; omega)
      rw [LS.kept_get] at h6
      simpa [show l.low + (m.low + i - l.low) = m.low + i by omega] using h6)
    have h7 : m.least = m.low + LS.ahead m.kept := rfl
    omega
theorem give_room (l : LS) (y : Snt) : l.room - 1 ≤ ({ l with all := l.all ++ [y] } : LS).room := by
  have := least_grow l y
  simp only [LS.room, List.length_append, List.length_cons, List.length_nil] at *
  omega
theorem next_in {q : QS} (g : q.Good) {most : Int} {a z : Nat} (h : q.next most = some (a, z)) : a < z ∧ z ≤ q.b.length ∧ ((z - a : Nat) : Int) ≤ most ∧ a ≤ q.fresh := by
  have he := QS.ends_in g
  have hlo := g.lo
  have hr := QS.firstOf_le q.ow
  rw [QS.next_eq] at h
  by_cases h1 : most < 1
  · simp [h1] at h
  · by_cases h2 : q.ends.2 = q.ends.1
    · simp [h1, h2] at h
    · simp only [if_neg h1, if_neg h2, Option.some.injEq, Prod.mk.injEq] at h
      obtain ⟨rfl, rfl⟩ := h
      refine ⟨by omega, by omega, by omega, ?_⟩
      unfold QS.ends
      split
      · exact Nat.le_refl _
      · exact Nat.le_of_lt (g.ob _ (QS.firstOf_at (by omega))).1
namespace ES
/-- An engine to which nothing is acknowledged. -/
structure Nm (s : ES) : Prop where
  st : s.st = 1
  owed : s.owed = 0
  has : s.r.has = false
  tm : s.tm = 18446744073709551615
  ak : ∀ i, s.q.ak.getD i false = false
  cov : ∀ x ∈ s.l.all, x.state = 1 → 0 ≤ x.off ∧ x.off + x.len ≤ s.q.fresh
  tr : s.c.slo ≤ s.tr
  cw : s.c.lea ≤ s.w.cw
  pf : s.pf ≤ s.now
  ta : s.ta ≤ s.now
def J (s : ES) : Prop := s.q.fresh = 0 ∨ (∃ i, s.q.ow.getD i false = true) ∨ 0 < s.l.flight
theorem Nm.over {s : ES} (h : s.Nm) : ¬ s.over := by unfold ES.over; have := h.st; omega
end ES
end Go.Proofs.Ytpkbimmhimgamaa
