/-
  Forks of both guards.
-/
import Derived.Test.YtelaimephejkkaaGreatGuB
namespace Go.Proofs.YtelaimephejkkaaGreat
set_option linter.unusedSimpArgs false
set_option linter.unusedVariables false
set_option linter.unnecessarySimpa false
open Go.RowKit

set_option maxHeartbeats 4000000 in
set_option maxRecDepth 100000 in
/-- What keeps the evidence in the fork. -/
theorem fork_rec (w : World) (b x v : Nat) (x0 x1 x2 x3 x4 x5 x6 x7 x8 x9 x10 x11 x12 x13 x14 x15 x16 x17 x18 : Value) (at_ pn used why : Int) (a : Ak)
    (hb : w.heap[b]? = some (.cells #[x0, x1, x2, x3, x4, x5, x6, x7, x8, x9, x10, x11, x12, x13, x14, x15, x16, x17, x18] 109 (0, 0)))
    (hx : w.heap[x]? = some (.cells #[.int .u64 at_, .int .u64 pn, .int .u64 used, .int .i64 why, .slice a.A a.sp.length a.c, .slice a.B a.mm.length a.d, .int .u64 a.tr, .int .u64 a.xo, .bool a.od] 65 (0, 0)))
    (hv : w.cell? ⟨v, 0, none⟩ = some (.pointer (some ⟨b, 0, none⟩))) :
    Calls Tryz.prog 66 #[.pointer (some ⟨x, 0, none⟩), .pointer (some ⟨v, 0, none⟩)] w fun e w' => e = .returned (.tuple #[]) ∧ Chg (fun j => j = b) w w' ∧
        w'.heap[b]? = some (.cells #[x0, x1, x2, x3, x4, x5, x6, x7, x8, x9, .int .u64 at_, .int .u64 pn, .int .u64 used, .int .i64 why, .slice a.A a.sp.length a.c, .slice a.B a.mm.length a.d, .int .u64 a.tr, .int .u64 a.xo, .bool a.od] 109 (0, 0)) := by
  obtain ⟨A, c, B, d, sp, mm, tr, xo, od⟩ := a
  simp only at hx ⊢
  have f0 := fill_list b 109 [.int .u64 at_, .int .u64 pn, .int .u64 used, .int .i64 why, .slice A sp.length c, .slice B mm.length d, .int .u64 tr, .int .u64 xo, .bool od] w 10 [x0, x1, x2, x3, x4, x5, x6, x7, x8, x9, x10, x11, x12, x13, x14, x15, x16, x17, x18] hb (by simp)
  have f1 := fill_chg b [.int .u64 at_, .int .u64 pn, .int .u64 used, .int .i64 why, .slice A sp.length c, .slice B mm.length d, .int .u64 tr, .int .u64 xo, .bool od] w 10
  simp only [fillFrom] at f0 f1
  have F0 := Lib.hid f0
  have F1 := Lib.hid f1
  have y0 := cell_of_row w b 0 _ _ _ hb
  have fy0 := frozen_of_row w b 0 _ _ hb
  have y1 := cell_of_row w b 1 _ _ _ hb
  have fy1 := frozen_of_row w b 1 _ _ hb
  have y2 := cell_of_row w b 2 _ _ _ hb
  have fy2 := frozen_of_row w b 2 _ _ hb
  have y3 := cell_of_row w b 3 _ _ _ hb
  have fy3 := frozen_of_row w b 3 _ _ hb
  have y4 := cell_of_row w b 4 _ _ _ hb
  have fy4 := frozen_of_row w b 4 _ _ hb
  have y5 := cell_of_row w b 5 _ _ _ hb
  have fy5 := frozen_of_row w b 5 _ _ hb
  have y6 := cell_of_row w b 6 _ _ _ hb
  have fy6 := frozen_of_row w b 6 _ _ hb
  have y7 := cell_of_row w b 7 _ _ _ hb
  have fy7 := frozen_of_row w b 7 _ _ hb
  have y8 := cell_of_row w b 8 _ _ _ hb
  have fy8 := frozen_of_row w b 8 _ _ hb
  have y9 := cell_of_row w b 9 _ _ _ hb
  have fy9 := frozen_of_row w b 9 _ _ hb
  have y10 := cell_of_row w b 10 _ _ _ hb
  have fy10 := frozen_of_row w b 10 _ _ hb
  have y11 := cell_of_row w b 11 _ _ _ hb
  have fy11 := frozen_of_row w b 11 _ _ hb
  have y12 := cell_of_row w b 12 _ _ _ hb
  have fy12 := frozen_of_row w b 12 _ _ hb
  have y13 := cell_of_row w b 13 _ _ _ hb
  have fy13 := frozen_of_row w b 13 _ _ hb
  have y14 := cell_of_row w b 14 _ _ _ hb
  have fy14 := frozen_of_row w b 14 _ _ hb
  have y15 := cell_of_row w b 15 _ _ _ hb
  have fy15 := frozen_of_row w b 15 _ _ hb
  have y16 := cell_of_row w b 16 _ _ _ hb
  have fy16 := frozen_of_row w b 16 _ _ hb
  have y17 := cell_of_row w b 17 _ _ _ hb
  have fy17 := frozen_of_row w b 17 _ _ hb
  have y18 := cell_of_row w b 18 _ _ _ hb
  have fy18 := frozen_of_row w b 18 _ _ hb
  have z0 := cell_of_row w x 0 _ _ _ hx
  have z1 := cell_of_row w x 1 _ _ _ hx
  have z2 := cell_of_row w x 2 _ _ _ hx
  have z3 := cell_of_row w x 3 _ _ _ hx
  have z4 := cell_of_row w x 4 _ _ _ hx
  have z5 := cell_of_row w x 5 _ _ _ hx
  have z6 := cell_of_row w x 6 _ _ _ hx
  have z7 := cell_of_row w x 7 _ _ _ hx
  have z8 := cell_of_row w x 8 _ _ _ hx
  clear f0 f1 hb hx y0 y1 y2 y3 y4 y5 y6 y7 y8 y9 fy0 fy1 fy2 fy3 fy4 fy5 fy6 fy7 fy8 fy9
  go_enter Tryz.func66, Tryz.ntmps66
  go_wp2
  go_end0
  exact ⟨rfl, F1.out, F0.out⟩

/-- Where the fork stands: the copy, its variable, the counts. -/
structure FkM (w : World) (b' hc q' : Nat) (F E : Nat → Prop) (b : Nat) (g g' : GS) (a : Ak) (W : World) : Prop where
  old : GuaP W F E b g
  cop : GuaC W (fun k => w.heap.size ≤ k ∧ k < b' + 2 ∧ k ≠ b' + 1) (fun _ => False) b' g' q' a
  var : W.heap[b' + 1]? = some (.cells #[.pointer (some ⟨b', 0, none⟩)] 31 (0, 0))
  cts : W.heap[hc]? = some (.cells #[.int .u64 g.mal, .int .u64 g.drp, .int .u64 g.tak, .int .u64 g.cha, .int .u64 g.lat] 52 (0, 0))
  bel : Below w.heap.size w W
  lb : w.heap.size ≤ b'
  lc : b' + 2 ≤ hc
  lt : ∀ k, F k ∨ E k → k < b'
theorem FkM.set {w : World} {b' hc q' : Nat} {F E : Nat → Prop} {b : Nat} {g g' g'' : GS} {a : Ak} {W : World} (h : FkM w b' hc q' F E b g g' a W) (i : Nat) (v : Value) (hr : guaRow q' g'' a = (guaRow q' g' a).setIfInBounds i v) (h1 : g''.b = g'.b) (h2 : g''.ev = g'.ev) : FkM w b' hc q' F E b g g'' a (W.drew.setCell ⟨b', i, none⟩ v) := by
  have hC : Chg (fun j => j = b') W (W.drew.setCell ⟨b', i, none⟩ v) := (Chg.refl (fun j => j = b') W).drew.setCell (p := ⟨b', i, none⟩) (.inl rfl) _
  have lc := h.lc
  exact ⟨h.old.chg hC (fun k _ hk e => by have := h.lt k hk; omega) (fun _ _ h => h) (fun _ _ h => h) h.old.dj, (h.cop.below (Below.refl _ _).drew).set i v hr h1 h2, hC.blk h.var (by omega), hC.blk h.cts (by omega), h.bel.trans (hC.below h.bel.size (fun k hk e => by have := h.lb; omega)), h.lb, h.lc, h.lt⟩
theorem FkM.below {w W W' : World} {b' hc q' : Nat} {F E : Nat → Prop} {b : Nat} {g g' : GS} {a : Ak} (h : FkM w b' hc q' F E b g g' a W) (q : Below W.heap.size W W') : FkM w b' hc q' F E b g g' a W' :=
  ⟨h.old.below q, h.cop.below q, (q.block _ (lt_of_block h.var)).trans h.var, (q.block _ (lt_of_block h.cts)).trans h.cts, h.bel.trans (q.mono h.bel.size), h.lb, h.lc, h.lt⟩
theorem GS.eta_no {g : GS} (h : g.over = false) (z : g.ev = Ev.zero) : (⟨g.b, g.mal, g.drp, g.tak, g.cha, g.lat, false, Ev.zero⟩ : GS) = g := by
  obtain ⟨b, m, d, t, c, l, o, e⟩ := g
  simp only at h z
  subst h z
  rfl

set_option maxHeartbeats 8000000 in
set_option maxRecDepth 100000 in
theorem gua_fork (w : World) (F E : Nat → Prop) (b : Nat) (g : GS) (h : GuaP w F E b g) (hlt : ∀ k, F k ∨ E k → k < w.heap.size) :
    Calls Tryz.prog 31 #[.pointer (some ⟨b, 0, none⟩)] w fun e w' => ∃ b' F' E', e = .returned (.pointer (some ⟨b', 0, none⟩)) ∧ GuaP w' F' E' b' g ∧ (∀ k, F' k ∨ E' k → w.heap.size ≤ k) ∧ Below w.heap.size w w' := by
  have HG := Lib.hid h
  obtain ⟨good, qb, a, hC⟩ := h
  have r0 := hC.c 0 rfl
  have KB := Lib.hid (bud_fork w _ qb g.b hC.bud)
  have GD := Lib.hid good
  have HLT := Lib.hid hlt
  have hmf : ∀ (fn : Fn) (first cap : Array Value) (w : World), (Instr.makeFunc fn first cap).run Tryz.prog w = .ok (.func fn first cap) w := fun _ _ _ _ => rfl
  clear hC good hlt
  go_enter Tryz.func31, Tryz.ntmps31
  go_wp2_with fail
  refine KB.out.mono ?_
  rintro e w1 ⟨q', rfl, hB1, b1⟩
  obtain ⟨n1, n2, bb, s2⟩ := boxes2 w1 (.cells #[.pointer (some ⟨q', 0, none⟩), .int .u64 0, .int .u64 0, .int .u64 0, .int .u64 0, .int .u64 0, .int .u32 0, .int .u32 0, .int .i32 0, .int .u32 0, .int .u64 0, .int .u64 0, .int .u64 0, .int .i64 0, .slice none 0 0, .slice none 0 0, .int .u64 0, .int .u64 0, .bool false] 109) (.cells #[.pointer (some ⟨w1.heap.size, 0, none⟩)] 31)
  have HB1 := Lib.hid hB1
  have B1 := Lib.hid b1
  have N1 := Lib.hid n1
  have N2 := Lib.hid n2
  have BB := Lib.hid bb
  have hs1 := b1.size
  clear KB r0 hB1 b1 n1 n2 bb
  go_upto_region 4 with fail
  generalize ((w1.alloc (.cells #[.pointer (some ⟨q', 0, none⟩), .int .u64 0, .int .u64 0, .int .u64 0, .int .u64 0, .int .u64 0, .int .u32 0, .int .u32 0, .int .i32 0, .int .u32 0, .int .u64 0, .int .u64 0, .int .u64 0, .int .i64 0, .slice none 0 0, .slice none 0 0, .int .u64 0, .int .u64 0, .bool false] 109)).alloc (.cells #[.pointer (some ⟨w1.heap.size, 0, none⟩)] 31)) = w2 at *
  have C2 : Hid (GuaC w2 (fun k => w.heap.size ≤ k ∧ k < w1.heap.size + 2 ∧ k ≠ w1.heap.size + 1) (fun _ => False) w1.heap.size ⟨g.b, 0, 0, 0, 0, 0, false, Ev.zero⟩ q' ⟨none, 0, none, 0, [], [], 0, 0, false⟩) := Lib.hid ⟨N1.out, (HB1.out.sub (fun k hk h => (⟨⟨h, by omega, by omega⟩, by omega⟩ : (w.heap.size ≤ k ∧ k < w1.heap.size + 2 ∧ k ≠ w1.heap.size + 1) ∧ k ≠ w1.heap.size))).below BB.out, AkE.nil _ _ _ rfl rfl rfl rfl rfl rfl ⟨by decide, by decide⟩ ⟨by decide, by decide⟩, ⟨rfl, rfl, rfl, rfl, rfl⟩, AckD.Good.zero, ⟨by omega, by omega, by omega⟩, fun _ h => h.elim⟩
  have G2 := Lib.hid ((HG.out.below B1.out).below BB.out)
  have B2 := Lib.hid (B1.out.trans (BB.out.mono hs1))
  have HLT2 : Hid (∀ k, F k ∨ E k → k < w1.heap.size) := Lib.hid (fun k hk => Nat.lt_of_lt_of_le (HLT.out k hk) hs1)
  clear HB1 B1 N1 BB HLT
  generalize w1.heap.size = b' at *
  have K4 := Lib.hid (gua_counts w2 F E b g G2.out)
  unfold ctsRow at K4
  go_wp2_with fail
  refine K4.out.mono ?_
  rintro e w3 ⟨rfl, b3⟩
  have e4 := box_below w3 (.cells #[.int .u64 g.mal, .int .u64 g.drp, .int .u64 g.tak, .int .u64 g.cha, .int .u64 g.lat] 52)
  have n4 := heap_alloc_new w3 (.cells #[.int .u64 g.mal, .int .u64 g.drp, .int .u64 g.tak, .int .u64 g.cha, .int .u64 g.lat] 52)
  have hs3 := b3.size
  have bb := b3.trans (e4.mono hs3)
  have M0 : Hid (FkM w b' w3.heap.size q' F E b g ⟨g.b, 0, 0, 0, 0, 0, false, Ev.zero⟩ ⟨none, 0, none, 0, [], [], 0, 0, false⟩ (w3.alloc (.cells #[.int .u64 g.mal, .int .u64 g.drp, .int .u64 g.tak, .int .u64 g.cha, .int .u64 g.lat] 52))) := Lib.hid
    ⟨G2.out.below bb, C2.out.below bb, (bb.block _ (lt_of_block N2.out)).trans N2.out, n4, B2.out.trans (bb.mono (by omega)), hs1, by omega, HLT2.out⟩
  clear K4 b3 e4 n4 bb C2 G2 B2 N2 HLT2
  go_upto_region 5 with fail
  generalize (w3.alloc (.cells #[.int .u64 g.mal, .int .u64 g.drp, .int .u64 g.tak, .int .u64 g.cha, .int .u64 g.lat] 52)) = v0 at *
  generalize w3.heap.size = hc at *
  have lc := M0.out.lc
  have p0 := mixF_cell (F := fun j => j = b') (show v0.cell? ⟨b' + 1, 0, none⟩ = some (.pointer (some ⟨b', 0, none⟩)) from cell_of_row v0 (b' + 1) 0 _ _ _ M0.out.var) (by simp)
  have p1 := mixF_cell (F := fun j => j = b') (show v0.cell? ⟨hc, 0, none⟩ = some (.int .u64 g.mal) from cell_of_row v0 hc 0 _ _ _ M0.out.cts) (by show ¬ hc = b'; omega)
  have KS := Lib.hid (u64_store ⟨b', 1, none⟩ 0 g.mal v0.drew (M0.out.cop.c 1 rfl) (M0.out.cop.fz 1))
  have M1 : Hid (FkM w b' hc q' F E b g ⟨g.b, g.mal, 0, 0, 0, 0, false, Ev.zero⟩ ⟨none, 0, none, 0, [], [], 0, 0, false⟩ (v0.setCell ⟨b', 1, none⟩ (.int .u64 g.mal)).drew) := Lib.hid (M0.out.set 1 (.int .u64 g.mal) rfl rfl rfl)
  refine wp_region_chg (fun j => j = b') (by kernel_rfl) (by kernel_rfl) ?_
  repeat (refine wpMix_seg 1 _ _ rfl ?_; simp only [List.take_succ_cons, List.take_zero, List.drop_succ_cons, List.drop_zero]; go_big_quiet_step (fail); refine wpQuiet_nil ?_)
  refine wpMix_bar rfl (by rfl) ?_
  go_wp2_with fail
  refine KS.out.mono ?_
  rintro e w' ⟨rfl, rfl⟩
  go_wp2
  refine ⟨chg_mixF ((Chg.refl (fun j => j = b') v0).drew.setCell (p := ⟨b', 1, none⟩) (.inl rfl) _), ?_⟩
  repeat (refine wpMix_seg 1 _ _ rfl ?_; simp only [List.take_succ_cons, List.take_zero, List.drop_succ_cons, List.drop_zero]; go_big_quiet_step (fail); refine wpQuiet_nil ?_)
  refine wpMix_nil ?_
  clear p0 p1 KS M0 lc
  go_upto_region 6 with fail
  generalize (v0.setCell ⟨b', 1, none⟩ (.int .u64 g.mal)).drew = v1 at *
  have lc := M1.out.lc
  have p0 := mixF_cell (F := fun j => j = b') (show v1.cell? ⟨b' + 1, 0, none⟩ = some (.pointer (some ⟨b', 0, none⟩)) from cell_of_row v1 (b' + 1) 0 _ _ _ M1.out.var) (by simp)
  have p1 := mixF_cell (F := fun j => j = b') (show v1.cell? ⟨hc, 1, none⟩ = some (.int .u64 g.drp) from cell_of_row v1 hc 1 _ _ _ M1.out.cts) (by show ¬ hc = b'; omega)
  have KS := Lib.hid (u64_store ⟨b', 2, none⟩ 0 g.drp v1.drew (M1.out.cop.c 2 rfl) (M1.out.cop.fz 2))
  have M2 : Hid (FkM w b' hc q' F E b g ⟨g.b, g.mal, g.drp, 0, 0, 0, false, Ev.zero⟩ ⟨none, 0, none, 0, [], [], 0, 0, false⟩ (v1.setCell ⟨b', 2, none⟩ (.int .u64 g.drp)).drew) := Lib.hid (M1.out.set 2 (.int .u64 g.drp) rfl rfl rfl)
  refine wp_region_chg (fun j => j = b') (by kernel_rfl) (by kernel_rfl) ?_
  repeat (refine wpMix_seg 1 _ _ rfl ?_; simp only [List.take_succ_cons, List.take_zero, List.drop_succ_cons, List.drop_zero]; go_big_quiet_step (fail); refine wpQuiet_nil ?_)
  refine wpMix_bar rfl (by rfl) ?_
  go_wp2_with fail
  refine KS.out.mono ?_
  rintro e w' ⟨rfl, rfl⟩
  go_wp2
  refine ⟨chg_mixF ((Chg.refl (fun j => j = b') v1).drew.setCell (p := ⟨b', 2, none⟩) (.inl rfl) _), ?_⟩
  repeat (refine wpMix_seg 1 _ _ rfl ?_; simp only [List.take_succ_cons, List.take_zero, List.drop_succ_cons, List.drop_zero]; go_big_quiet_step (fail); refine wpQuiet_nil ?_)
  refine wpMix_nil ?_
  clear p0 p1 KS M1 lc
  go_upto_region 7 with fail
  generalize (v1.setCell ⟨b', 2, none⟩ (.int .u64 g.drp)).drew = v2 at *
  have lc := M2.out.lc
  have p0 := mixF_cell (F := fun j => j = b') (show v2.cell? ⟨b' + 1, 0, none⟩ = some (.pointer (some ⟨b', 0, none⟩)) from cell_of_row v2 (b' + 1) 0 _ _ _ M2.out.var) (by simp)
  have p1 := mixF_cell (F := fun j => j = b') (show v2.cell? ⟨hc, 2, none⟩ = some (.int .u64 g.tak) from cell_of_row v2 hc 2 _ _ _ M2.out.cts) (by show ¬ hc = b'; omega)
  have KS := Lib.hid (u64_store ⟨b', 3, none⟩ 0 g.tak v2.drew (M2.out.cop.c 3 rfl) (M2.out.cop.fz 3))
  have M3 : Hid (FkM w b' hc q' F E b g ⟨g.b, g.mal, g.drp, g.tak, 0, 0, false, Ev.zero⟩ ⟨none, 0, none, 0, [], [], 0, 0, false⟩ (v2.setCell ⟨b', 3, none⟩ (.int .u64 g.tak)).drew) := Lib.hid (M2.out.set 3 (.int .u64 g.tak) rfl rfl rfl)
  refine wp_region_chg (fun j => j = b') (by kernel_rfl) (by kernel_rfl) ?_
  repeat (refine wpMix_seg 1 _ _ rfl ?_; simp only [List.take_succ_cons, List.take_zero, List.drop_succ_cons, List.drop_zero]; go_big_quiet_step (fail); refine wpQuiet_nil ?_)
  refine wpMix_bar rfl (by rfl) ?_
  go_wp2_with fail
  refine KS.out.mono ?_
  rintro e w' ⟨rfl, rfl⟩
  go_wp2
  refine ⟨chg_mixF ((Chg.refl (fun j => j = b') v2).drew.setCell (p := ⟨b', 3, none⟩) (.inl rfl) _), ?_⟩
  repeat (refine wpMix_seg 1 _ _ rfl ?_; simp only [List.take_succ_cons, List.take_zero, List.drop_succ_cons, List.drop_zero]; go_big_quiet_step (fail); refine wpQuiet_nil ?_)
  refine wpMix_nil ?_
  clear p0 p1 KS M2 lc
  go_upto_region 8 with fail
  generalize (v2.setCell ⟨b', 3, none⟩ (.int .u64 g.tak)).drew = v3 at *
  have lc := M3.out.lc
  have p0 := mixF_cell (F := fun j => j = b') (show v3.cell? ⟨b' + 1, 0, none⟩ = some (.pointer (some ⟨b', 0, none⟩)) from cell_of_row v3 (b' + 1) 0 _ _ _ M3.out.var) (by simp)
  have p1 := mixF_cell (F := fun j => j = b') (show v3.cell? ⟨hc, 3, none⟩ = some (.int .u64 g.cha) from cell_of_row v3 hc 3 _ _ _ M3.out.cts) (by show ¬ hc = b'; omega)
  have KS := Lib.hid (u64_store ⟨b', 4, none⟩ 0 g.cha v3.drew (M3.out.cop.c 4 rfl) (M3.out.cop.fz 4))
  have M4 : Hid (FkM w b' hc q' F E b g ⟨g.b, g.mal, g.drp, g.tak, g.cha, 0, false, Ev.zero⟩ ⟨none, 0, none, 0, [], [], 0, 0, false⟩ (v3.setCell ⟨b', 4, none⟩ (.int .u64 g.cha)).drew) := Lib.hid (M3.out.set 4 (.int .u64 g.cha) rfl rfl rfl)
  refine wp_region_chg (fun j => j = b') (by kernel_rfl) (by kernel_rfl) ?_
  repeat (refine wpMix_seg 1 _ _ rfl ?_; simp only [List.take_succ_cons, List.take_zero, List.drop_succ_cons, List.drop_zero]; go_big_quiet_step (fail); refine wpQuiet_nil ?_)
  refine wpMix_bar rfl (by rfl) ?_
  go_wp2_with fail
  refine KS.out.mono ?_
  rintro e w' ⟨rfl, rfl⟩
  go_wp2
  refine ⟨chg_mixF ((Chg.refl (fun j => j = b') v3).drew.setCell (p := ⟨b', 4, none⟩) (.inl rfl) _), ?_⟩
  repeat (refine wpMix_seg 1 _ _ rfl ?_; simp only [List.take_succ_cons, List.take_zero, List.drop_succ_cons, List.drop_zero]; go_big_quiet_step (fail); refine wpQuiet_nil ?_)
  refine wpMix_nil ?_
  clear p0 p1 KS M3 lc
  go_upto_region 9 with fail
  generalize (v3.setCell ⟨b', 4, none⟩ (.int .u64 g.cha)).drew = v4 at *
  have lc := M4.out.lc
  have p0 := mixF_cell (F := fun j => j = b') (show v4.cell? ⟨b' + 1, 0, none⟩ = some (.pointer (some ⟨b', 0, none⟩)) from cell_of_row v4 (b' + 1) 0 _ _ _ M4.out.var) (by simp)
  have p1 := mixF_cell (F := fun j => j = b') (show v4.cell? ⟨hc, 4, none⟩ = some (.int .u64 g.lat) from cell_of_row v4 hc 4 _ _ _ M4.out.cts) (by show ¬ hc = b'; omega)
  have KS := Lib.hid (u64_store ⟨b', 5, none⟩ 0 g.lat v4.drew (M4.out.cop.c 5 rfl) (M4.out.cop.fz 5))
  have M5 : Hid (FkM w b' hc q' F E b g ⟨g.b, g.mal, g.drp, g.tak, g.cha, g.lat, false, Ev.zero⟩ ⟨none, 0, none, 0, [], [], 0, 0, false⟩ (v4.setCell ⟨b', 5, none⟩ (.int .u64 g.lat)).drew) := Lib.hid (M4.out.set 5 (.int .u64 g.lat) rfl rfl rfl)
  refine wp_region_chg (fun j => j = b') (by kernel_rfl) (by kernel_rfl) ?_
  repeat (refine wpMix_seg 1 _ _ rfl ?_; simp only [List.take_succ_cons, List.take_zero, List.drop_succ_cons, List.drop_zero]; go_big_quiet_step (fail); refine wpQuiet_nil ?_)
  refine wpMix_bar rfl (by rfl) ?_
  go_wp2_with fail
  refine KS.out.mono ?_
  rintro e w' ⟨rfl, rfl⟩
  go_wp2
  refine ⟨chg_mixF ((Chg.refl (fun j => j = b') v4).drew.setCell (p := ⟨b', 5, none⟩) (.inl rfl) _), ?_⟩
  repeat (refine wpMix_seg 1 _ _ rfl ?_; simp only [List.take_succ_cons, List.take_zero, List.drop_succ_cons, List.drop_zero]; go_big_quiet_step (fail); refine wpQuiet_nil ?_)
  refine wpMix_nil ?_
  clear p0 p1 KS M4 lc
  go_upto_region 10 with fail
  generalize (v4.setCell ⟨b', 5, none⟩ (.int .u64 g.lat)).drew = v5 at *
  have lc := M5.out.lc
  have K10 := Lib.hid (gua_evidence v5 F E b g M5.out.old)
  unfold evRow at K10
  go_wp2_with fail
  refine K10.out.mono ?_
  rintro e w10 ⟨a2, rfl, is2, hA2, b10⟩
  have e11 := box_below w10 (.cells #[.int .u64 g.ev.at_, .int .u64 g.ev.pn, .int .u64 g.ev.used, .int .i64 g.ev.why, .slice a2.A a2.sp.length a2.c, .slice a2.B a2.mm.length a2.d, .int .u64 a2.tr, .int .u64 a2.xo, .bool a2.od] 65)
  have n11 := heap_alloc_new w10 (.cells #[.int .u64 g.ev.at_, .int .u64 g.ev.pn, .int .u64 g.ev.used, .int .i64 g.ev.why, .slice a2.A a2.sp.length a2.c, .slice a2.B a2.mm.length a2.d, .int .u64 a2.tr, .int .u64 a2.xo, .bool a2.od] 65)
  have s10 := b10.size
  have bb := b10.trans (e11.mono s10)
  have M6 := Lib.hid (M5.out.below bb)
  have N11 := Lib.hid n11
  have A11 := Lib.hid (hA2.below e11)
  have IS := Lib.hid is2
  have LA : Hid (∀ bk off, (a2.A = some ⟨bk, off, none⟩ ∧ 0 < a2.sp.length) ∨ (a2.B = some ⟨bk, off, none⟩ ∧ 0 < a2.mm.length) → bk < w10.heap.size) := Lib.hid (fun bk off e => e.elim (fun e => hA2.r.rs.lt (by omega) e.2 bk off e.1) (fun e => hA2.r.rm.lt (by omega) e.2 bk off e.1))
  have s5 : b' + 1 < v5.heap.size := lt_of_block M5.out.var
  have sc : hc < v5.heap.size := lt_of_block M5.out.cts
  have GE : Hid (g.ev.d.Good) := by
    obtain ⟨_, qb, a, hC⟩ := HG.out
    exact Lib.hid hC.gd
  clear K10 e11 n11 bb b10 hA2 is2
  cases hov : g.over with
  | false =>
    have hz := GD.out.no hov
    have HE := Lib.hid (GS.eta_no hov hz)
    clear hz
    go_upto_region 14 with fail
    generalize (w10.alloc (.cells #[.int .u64 g.ev.at_, .int .u64 g.ev.pn, .int .u64 g.ev.used, .int .i64 g.ev.why, .slice a2.A a2.sp.length a2.c, .slice a2.B a2.mm.length a2.d, .int .u64 a2.tr, .int .u64 a2.xo, .bool a2.od] 65)) = v6 at *
    have p0 : v6.cell? ⟨b' + 1, 0, none⟩ = some (.pointer (some ⟨b', 0, none⟩)) := cell_of_row v6 (b' + 1) 0 _ _ _ M6.out.var
    go_wp2
    go_ret
    refine ⟨b', (fun k => w.heap.size ≤ k ∧ k < b' + 2 ∧ k ≠ b' + 1), (fun _ => False), rfl, ⟨GD.out, q', ⟨none, 0, none, 0, [], [], 0, 0, false⟩, ?_⟩, ?_, M6.out.bel⟩
    · have := M6.out.cop
      rw [HE.out] at this
      exact this
    · intro k hk
      exact hk.elim (fun h => h.1) (fun h => h.elim)
  | true =>
    have HOV := Lib.hid hov
    go_upto_region 12 with fail
    generalize (w10.alloc (.cells #[.int .u64 g.ev.at_, .int .u64 g.ev.pn, .int .u64 g.ev.used, .int .i64 g.ev.why, .slice a2.A a2.sp.length a2.c, .slice a2.B a2.mm.length a2.d, .int .u64 a2.tr, .int .u64 a2.xo, .bool a2.od] 65)) = v6 at *
    generalize w10.heap.size = hx at *
    have p0 : v6.cell? ⟨b' + 1, 0, none⟩ = some (.pointer (some ⟨b', 0, none⟩)) := cell_of_row v6 (b' + 1) 0 _ _ _ M6.out.var
    have K12 := Lib.hid (bool_store ⟨b', 6, none⟩ (.int .u32 0) v6 (M6.out.cop.c 6 rfl) (M6.out.cop.fz 6))
    go_wp2_with fail
    refine K12.out.mono ?_
    rintro e w' ⟨rfl, rfl⟩
    have r6 := M6.out.cop.t
    unfold guaRow at r6
    have r7 := heap_setCell_same v6.drew b' 6 _ _ (.int .u32 1) r6
    simp [ovN] at r7
    have C7 : Chg (fun j => j = b') v6 (v6.drew.setCell ⟨b', 6, none⟩ (.int .u32 1)) := (Chg.refl (fun j => j = b') v6).drew.setCell (p := ⟨b', 6, none⟩) (.inl rfl) _
    have X7 := C7.blk N11.out (by omega)
    have V7 := C7.blk M6.out.var (by omega)
    clear K12 p0 r6
    generalize v6.drew.setCell ⟨b', 6, none⟩ (.int .u32 1) = v7 at *
    have r8 := heap_setCell_same v7 b' 8 _ _ (.int .i32 1) r7
    simp at r8
    have C8 : Chg (fun j => j = b') v7 (v7.setCell ⟨b', 8, none⟩ (.int .i32 1)) := (Chg.refl (fun j => j = b') v7).setCell (p := ⟨b', 8, none⟩) (.inl rfl) _
    have hrec := fork_rec (v7.setCell ⟨b', 8, none⟩ (.int .i32 1)) b' hx (b' + 1) _ _ _ _ _ _ _ _ _ _ _ _ _ _ _ _ _ _ _ g.ev.at_ g.ev.pn g.ev.used g.ev.why a2 r8 (C8.blk X7 (by omega)) (C8.cell (cell_of_row v7 (b' + 1) 0 _ _ _ V7) (by simp))
    have K13 := Lib.hid (once_fork b' 7 _ v7 _ ((cell_of_row v7 b' 7 _ _ _ r7).trans rfl) ((cell_of_row v7 b' 8 _ _ _ r7).trans rfl) (frozen_of_row v7 b' 7 _ _ r7) (frozen_of_row v7 b' 8 _ _ r7) hrec (by
      rintro w' ⟨-, h3⟩
      exact ⟨(cell_of_row w' b' 7 _ _ _ h3).trans rfl, (cell_of_row w' b' 8 _ _ _ h3).trans rfl, frozen_of_row w' b' 7 _ _ h3, frozen_of_row w' b' 8 _ _ h3⟩))
    have p0 : v7.cell? ⟨b' + 1, 0, none⟩ = some (.pointer (some ⟨b', 0, none⟩)) := cell_of_row v7 (b' + 1) 0 _ _ _ V7
    have C7 := Lib.hid (C7.step C8 (fun _ _ h => h))
    have V7 := Lib.hid V7
    have X7 := Lib.hid X7
    clear hrec r7 r8 C8
    go_wp2_with fail
    refine K13.out.mono ?_
    rintro e w' ⟨rfl, w3', ⟨C3, r3⟩, rfl⟩
    have r4 := heap_setCell_same w3'.drew b' 7 _ _ (.int .u32 1) r3
    have r5 := heap_setCell_same _ b' 8 _ _ (.int .i32 0) r4
    simp at r5
    have C4 : Chg (fun j => j = b') w3' ((w3'.drew.setCell ⟨b', 7, none⟩ (.int .u32 1)).setCell ⟨b', 8, none⟩ (.int .i32 0)) := ((Chg.refl (fun j => j = b') w3').drew.setCell (p := ⟨b', 7, none⟩) (.inl rfl) _).setCell (p := ⟨b', 8, none⟩) (.inl rfl) _
    have C5 : Hid (Chg (fun j => j = b') v6 ((w3'.drew.setCell ⟨b', 7, none⟩ (.int .u32 1)).setCell ⟨b', 8, none⟩ (.int .i32 0))) := Lib.hid ((C7.out.step C3 (fun _ _ h => h)).step C4 (fun _ _ h => h))
    have R5 := Lib.hid r5
    clear K13 C3 r3 r4 r5 C4 p0 C7 V7 X7
    generalize ((w3'.drew.setCell ⟨b', 7, none⟩ (.int .u32 1)).setCell ⟨b', 8, none⟩ (.int .i32 0)) = v8 at *
    go_upto_region 14 with fail
    have p0 : v8.cell? ⟨b' + 1, 0, none⟩ = some (.pointer (some ⟨b', 0, none⟩)) := cell_of_row v8 (b' + 1) 0 _ _ _ (C5.out.blk M6.out.var (by omega))
    go_wp2
    go_ret
    refine ⟨b', (fun k => w.heap.size ≤ k ∧ k < b' + 2 ∧ k ≠ b' + 1), (fun k => v5.heap.size ≤ k), rfl, ⟨GD.out, q', a2, ?_, ?_, ?_, ?_, ?_, ?_, ?_⟩, ?_, M6.out.bel.trans (C5.out.below M6.out.bel.size (fun k hk e => by have := M6.out.lb; omega))⟩
    · have := R5.out
      unfold guaRow
      rw [HOV.out]
      exact this
    · exact M6.out.cop.bud.chg C5.out (fun k _ hk e => hk.2 e) (fun _ _ h => h)
    · exact A11.out.chg C5.out (fun k _ hk e => by have hk : v5.heap.size ≤ k := hk; omega) (fun _ _ h => h)
    · exact IS.out
    · exact GE.out
    · exact ⟨M6.out.lb, by omega, by omega⟩
    · intro k h1 h2
      have h1 : v5.heap.size ≤ k := h1
      omega
    · intro k hk
      exact hk.elim (fun h => h.1) (fun h => by have := M6.out.lb; have h : v5.heap.size ≤ k := h; omega)

set_option maxHeartbeats 8000000 in
set_option maxRecDepth 100000 in
theorem gur_fork (w : World) (F E : Nat → Prop) (b : Nat) (g : GS) (h : GuRP w F E b g) (hlt : ∀ k, F k ∨ E k → k < w.heap.size) (hll : g.b.all.length ≤ 1000000) :
    Calls Tryz.prog 32 #[.pointer (some ⟨b, 0, none⟩)] w fun e w' => ∃ b', e = .returned (.pointer (some ⟨b', 0, none⟩)) ∧ GuRP w' (fun k => w.heap.size ≤ k) E b' g ∧ Below w.heap.size w w' := by
  have HG := Lib.hid h
  obtain ⟨good, qb, a, hC⟩ := h
  have C := Lib.hid hC
  have r0 : w.heap[b]? = some (.cells #[.pointer (some ⟨qb, 0, none⟩), .int .u64 g.mal, .int .u64 g.drp, .int .u64 g.tak, .int .u64 g.cha, .int .u64 g.lat, .bool g.over,
    .int .u64 g.ev.at_, .int .u64 g.ev.pn, .int .u64 g.ev.used, .int .i64 g.ev.why, .slice a.A a.sp.length a.c, .slice a.B a.mm.length a.d, .int .u64 a.tr, .int .u64 a.xo, .bool a.od] 113 (0, 0)) := hC.t
  have KB := Lib.hid (budR_fork w.drew _ qb g.b (hC.bud.below (Below.refl _ _).drew) hll)
  have GD := Lib.hid good
  have HLT := Lib.hid hlt
  have p0 := mixF_cell (F := fun _ => False) (show w.cell? ⟨b, 0, none⟩ = some (.pointer (some ⟨qb, 0, none⟩)) from cell_of_row w b 0 _ _ _ r0) id
  have p1 := mixF_cell (F := fun _ => False) (show w.cell? ⟨b, 1, none⟩ = some (.int .u64 g.mal) from cell_of_row w b 1 _ _ _ r0) id
  have p2 := mixF_cell (F := fun _ => False) (show w.cell? ⟨b, 2, none⟩ = some (.int .u64 g.drp) from cell_of_row w b 2 _ _ _ r0) id
  have p3 := mixF_cell (F := fun _ => False) (show w.cell? ⟨b, 3, none⟩ = some (.int .u64 g.tak) from cell_of_row w b 3 _ _ _ r0) id
  have p4 := mixF_cell (F := fun _ => False) (show w.cell? ⟨b, 4, none⟩ = some (.int .u64 g.cha) from cell_of_row w b 4 _ _ _ r0) id
  have p5 := mixF_cell (F := fun _ => False) (show w.cell? ⟨b, 5, none⟩ = some (.int .u64 g.lat) from cell_of_row w b 5 _ _ _ r0) id
  have p6 := mixF_cell (F := fun _ => False) (show w.cell? ⟨b, 6, none⟩ = some (.bool g.over) from cell_of_row w b 6 _ _ _ r0) id
  have p7 := mixF_cell (F := fun _ => False) (show w.cell? ⟨b, 7, none⟩ = some (.int .u64 g.ev.at_) from cell_of_row w b 7 _ _ _ r0) id
  have p8 := mixF_cell (F := fun _ => False) (show w.cell? ⟨b, 8, none⟩ = some (.int .u64 g.ev.pn) from cell_of_row w b 8 _ _ _ r0) id
  have p9 := mixF_cell (F := fun _ => False) (show w.cell? ⟨b, 9, none⟩ = some (.int .u64 g.ev.used) from cell_of_row w b 9 _ _ _ r0) id
  have p10 := mixF_cell (F := fun _ => False) (show w.cell? ⟨b, 10, none⟩ = some (.int .i64 g.ev.why) from cell_of_row w b 10 _ _ _ r0) id
  have p11 := mixF_cell (F := fun _ => False) (show w.cell? ⟨b, 11, none⟩ = some (.slice a.A a.sp.length a.c) from cell_of_row w b 11 _ _ _ r0) id
  have p12 := mixF_cell (F := fun _ => False) (show w.cell? ⟨b, 12, none⟩ = some (.slice a.B a.mm.length a.d) from cell_of_row w b 12 _ _ _ r0) id
  have p13 := mixF_cell (F := fun _ => False) (show w.cell? ⟨b, 13, none⟩ = some (.int .u64 a.tr) from cell_of_row w b 13 _ _ _ r0) id
  have p14 := mixF_cell (F := fun _ => False) (show w.cell? ⟨b, 14, none⟩ = some (.int .u64 a.xo) from cell_of_row w b 14 _ _ _ r0) id
  have p15 := mixF_cell (F := fun _ => False) (show w.cell? ⟨b, 15, none⟩ = some (.bool a.od) from cell_of_row w b 15 _ _ _ r0) id
  clear hC good hlt r0 hll
  go_enter Tryz.func32, Tryz.ntmps32
  go_wp2
  refine wp_region_chg (fun _ => False) (by kernel_rfl) (by kernel_rfl) ?_
  repeat (refine wpMix_seg 1 _ _ rfl ?_; simp only [List.take_succ_cons, List.take_zero, List.drop_succ_cons, List.drop_zero]; go_big_quiet_step (fail); refine wpQuiet_nil ?_)
  refine wpMix_bar rfl (by rfl) ?_
  go_wp2_with fail
  refine KB.out.mono ?_
  rintro e w1 ⟨q', rfl, hB, hb⟩
  have hb0 : Below w.heap.size w w.drew := (Below.refl _ _).drew
  have HB1 := Lib.hid (hb0.trans (hb.mono (Nat.le_refl _)))
  have HQ := Lib.hid hB
  clear KB hB hb hb0
  go_wp2
  refine ⟨chg_mixF (chg_below HB1.out), ?_⟩
  repeat (refine wpMix_seg 1 _ _ rfl ?_; simp only [List.take_succ_cons, List.take_zero, List.drop_succ_cons, List.drop_zero]; go_big_quiet_step (fail); refine wpQuiet_nil ?_)
  have eb := box_below w1 (.cells (gurRow q' g a) 113)
  have nb := heap_alloc_new w1 (.cells (gurRow q' g a) 113)
  unfold gurRow at eb nb
  have EB := Lib.hid eb
  have NB := Lib.hid nb
  clear eb nb
  refine wpMix_bar rfl (by rfl) ?_
  go_wp2
  refine ⟨chg_mixF (chg_below (HB1.out.trans (EB.out.mono HB1.out.size))), ?_⟩
  repeat (refine wpMix_seg 1 _ _ rfl ?_; simp only [List.take_succ_cons, List.take_zero, List.drop_succ_cons, List.drop_zero]; go_big_quiet_step (fail); refine wpQuiet_nil ?_)
  refine wpMix_nil ?_
  go_wp2
  go_ret
  have hs1 := HB1.out.size
  have hq := HQ.out.lt
  refine ⟨w1.heap.size, rfl, ⟨GD.out, q', a, NB.out, ?_, ?_, C.out.is, C.out.gd, hs1, fun k h1 h2 => ?_⟩, HB1.out.trans (EB.out.mono hs1)⟩
  · exact (HQ.out.sub (fun k hk h => (⟨h, by omega⟩ : w.heap.size ≤ k ∧ k ≠ w1.heap.size))).below EB.out
  · exact (C.out.ev.below HB1.out).below EB.out
  · have := HLT.out k (.inr h1)
    have h2 : w.heap.size ≤ k := h2
    omega

end Go.Proofs.YtelaimephejkkaaGreat
