/-
  Part of the proof of EngineRanges.
-/
import Derived.Test.YtpkbimmhimgamaaPAS
import Derived.Test.YtpkbimmhimgamaaPAM
import Derived.Test.YtpkbimmhimgamaaPAL
namespace Go.Proofs.Ytpkbimmhimgamaa
set_option linter.unusedSimpArgs false
set_option linter.unusedVariables false
set_option linter.unnecessarySimpa false
open Go.RowKit
theorem mixF_row {F : Nat → Prop} {W : World} {g : Nat} {cs : Array Value} {T : TypeId} {fr : Nat × Nat} (h : W.heap[g]? = some (.cells cs T fr)) (hF : ¬ F g) : ∀ w', (∃ u, w' = mixF F W u) → w'.heap[g]? = some (.cells cs T fr) := by
  rintro _ ⟨u, rfl⟩
  exact (mixF_chg F W u).blk h hF
theorem chgM {w W : World} (q : Below w.heap.size w W) : Chg (fun _ => False) w W := chg_below q (F := fun _ => False)
/-- An engine ahead of its first tokens. -/
def ES.raw (c : Cfg) (ws : List Int) : ES := { ES.start c ws with tk := 0, ta := 0, tr := 0 }
theorem rateM_u (cw sm slo : Int) (h : 0 ≤ slo) : isU64 (min (rateS cw sm slo) 4294967296) := by
  unfold rateS isU64
  omega
theorem start_good {c : Cfg} (hc : c.Ok) {ws : List Int} (hu : ∀ x ∈ ws, isU64 x) (hn : ws.length ≤ 17592186044000) : (ES.start c ws).Good ∧ (ES.raw c ws).Good := by
  have u := hc.u
  have z : isU64 (0 : Int) := ⟨by omega, by omega⟩
  have top : isU64 (18446744073709551615 : Int) := ⟨by omega, by omega⟩
  have h3 := hc.ring
  have h4 := hc.lim
  have hl : (LS.new c.ring c.lim).limit = c.lim := by unfold LS.new; simp only; omega
  have hr : ((LS.new c.ring c.lim).ring : Int) = c.ring := by unfold LS.new; simp only; omega
  have hrt := rateM_u c.ini c.fst c.slo (by have := hc.slo; omega)
  have hfb : isU64 (fullS c.bur) := fullS_u u.2.2.2.2.2.2.2.2.2.1
  have gw : (⟨c.ini, 18446744073709551615, 0, 0, 18446744073709551615, 0, 0⟩ : Wn).Good := ⟨u.2.2.2.1, top, z, z, top, z, z⟩
  have o1 : (1 : Int) ≤ 1 ∧ (1 : Int) ≤ 4 := ⟨by omega, by omega⟩
  have o2 : (0 : Int) ≤ 0 ∧ (0 : Int) ≤ 60 := ⟨by omega, by omega⟩
  have o3 : (0 : Int) ≤ 0 ∧ (0 : Int) ≤ 1000000000 := ⟨by omega, by omega⟩
  exact ⟨⟨hc, z, o1, hu, hn, (show (0 : Nat) < 1000000000 by decide), ⟨z, z, z, z⟩, o2, z, gw, z, z, hfb, z, hrt, top, z, o3, o3, hl, hr⟩, ⟨hc, z, o1, hu, hn, (show (0 : Nat) < 1000000000 by decide), ⟨z, z, z, z⟩, o2, z, gw, z, z, z, z, z, top, z, o3, o3, hl, hr⟩⟩
theorem lt_of_que {w : World} {F : Nat → Prop} {q : Nat} {s : QS} (h : QueP w F q s) : q < w.heap.size := by
  obtain ⟨_, _, A, c, La, A1, c1, A2, c2, hC⟩ := h
  exact lt_of_block hC.t
theorem lt_of_led {w : World} {F : Nat → Prop} {q : Nat} {s : LS} (h : LedP w F q s) : q < w.heap.size := by
  obtain ⟨_, A, c, hC, _⟩ := h
  exact lt_of_block hC
/-- Where a new engine's parts lie. -/
def newFt (sb q p g : Nat) (A : Option Addr) (k n1 n2 n3 n4 n5 b : Nat) : Ft := ⟨sb, q, p, g, A, k, fun j => if j = b then 1 else if j = sb then 2 else if j < n1 then 0 else if j < n2 then 6 else if j < n3 then 3 else if j < n4 then 4 else if j < n5 then 5 else 0⟩
theorem eng_made {wr v1 v2 v3 v4 v5 : World} {c : Cfg} {ws : List Int} {sb gb k' : Nat} {A' : Option Addr} (b1 : wr.heap.size ≤ v1.heap.size) (S1 : SrcC v1 sb A' k' ws 0)
    (N1 : wr.heap.size ≤ sb ∧ sb < v1.heap.size ∧ ∀ b off, A' = some ⟨b, off, none⟩ → 0 < ws.length → wr.heap.size ≤ b ∧ b < v1.heap.size)
    (Q2 : QueP v2 (fun k => v1.heap.size ≤ k) v1.heap.size (QS.new c.room) ∧ Below v1.heap.size v1 v2 ∧ v1.heap.size < v2.heap.size)
    (L3 : LedP v3 (fun k => k = v2.heap.size) v2.heap.size (LS.new c.ring c.lim) ∧ Below v2.heap.size v2 v3 ∧ v2.heap.size < v3.heap.size)
    (U4 : GuaP v4 (fun k => v3.heap.size ≤ k) (fun _ => False) gb (GS.new c.chal c.evy) ∧ Below v3.heap.size v3 v4) (q5 : Below v4.heap.size v4 v5) (G : (ES.raw c ws).Good) :
    EngC (v5.alloc (.cells (engRow (newFt sb v1.heap.size v2.heap.size gb A' k' wr.heap.size v1.heap.size v2.heap.size v3.heap.size v4.heap.size v5.heap.size) (ES.raw c ws)) 62)) (newFt sb v1.heap.size v2.heap.size gb A' k' wr.heap.size v1.heap.size v2.heap.size v3.heap.size v4.heap.size v5.heap.size) v5.heap.size (ES.raw c ws) ∧
    ∀ j, (newFt sb v1.heap.size v2.heap.size gb A' k' wr.heap.size v1.heap.size v2.heap.size v3.heap.size v4.heap.size v5.heap.size).tag j ≠ 0 → wr.heap.size ≤ j := by
  have s2 := Q2.2.2
  have s3 := L3.2.2
  have s4 := U4.2.size
  have s5 := q5.size
  obtain ⟨n1, n2, n3⟩ := N1
  have g5 := box_below v5 (.cells (engRow (newFt sb v1.heap.size v2.heap.size gb A' k' wr.heap.size v1.heap.size v2.heap.size v3.heap.size v4.heap.size v5.heap.size) (ES.raw c ws)) 62)
  have hz := lt_of_block (heap_alloc_new v5 (.cells (engRow (newFt sb v1.heap.size v2.heap.size gb A' k' wr.heap.size v1.heap.size v2.heap.size v3.heap.size v4.heap.size v5.heap.size) (ES.raw c ws)) 62))
  have g4 := q5.trans (g5.mono s5)
  have g3 := U4.2.trans (g4.mono s4)
  have g2 := L3.2.1.trans (g3.mono (Nat.le_of_lt s3))
  have g1 := Q2.2.1.trans (g2.mono (Nat.le_of_lt s2))
  have ht := heap_alloc_new v5 (.cells (engRow (newFt sb v1.heap.size v2.heap.size gb A' k' wr.heap.size v1.heap.size v2.heap.size v3.heap.size v4.heap.size v5.heap.size) (ES.raw c ws)) 62)
  generalize v5.alloc (.cells (engRow (newFt sb v1.heap.size v2.heap.size gb A' k' wr.heap.size v1.heap.size v2.heap.size v3.heap.size v4.heap.size v5.heap.size) (ES.raw c ws)) 62) = W at *
  have tg : ∀ j, (newFt sb v1.heap.size v2.heap.size gb A' k' wr.heap.size v1.heap.size v2.heap.size v3.heap.size v4.heap.size v5.heap.size).tag j = if j = v5.heap.size then 1 else if j = sb then 2 else if j < wr.heap.size then 0 else if j < v1.heap.size then 6 else if j < v2.heap.size then 3 else if j < v3.heap.size then 4 else if j < v4.heap.size then 5 else 0 := fun _ => rfl
  have t6 : ∀ j, wr.heap.size ≤ j → j < v1.heap.size → j ≠ sb → (newFt sb v1.heap.size v2.heap.size gb A' k' wr.heap.size v1.heap.size v2.heap.size v3.heap.size v4.heap.size v5.heap.size).tag j = 6 := fun j a b c => by
    rw [tg, if_neg (by omega), if_neg (by omega), if_neg (by omega), if_pos (by omega)]
  have t3 : ∀ j, v1.heap.size ≤ j → j < v2.heap.size → (newFt sb v1.heap.size v2.heap.size gb A' k' wr.heap.size v1.heap.size v2.heap.size v3.heap.size v4.heap.size v5.heap.size).tag j = 3 := fun j a b => by
    rw [tg, if_neg (by omega), if_neg (by omega), if_neg (by omega), if_neg (by omega), if_pos (by omega)]
  have t4 : ∀ j, v2.heap.size ≤ j → j < v3.heap.size → (newFt sb v1.heap.size v2.heap.size gb A' k' wr.heap.size v1.heap.size v2.heap.size v3.heap.size v4.heap.size v5.heap.size).tag j = 4 := fun j a b => by
    rw [tg, if_neg (by omega), if_neg (by omega), if_neg (by omega), if_neg (by omega), if_neg (by omega), if_pos (by omega)]
  have t5 : ∀ j, v3.heap.size ≤ j → j < v4.heap.size → (newFt sb v1.heap.size v2.heap.size gb A' k' wr.heap.size v1.heap.size v2.heap.size v3.heap.size v4.heap.size v5.heap.size).tag j = 5 := fun j a b => by
    rw [tg, if_neg (by omega), if_neg (by omega), if_neg (by omega), if_neg (by omega), if_neg (by omega), if_neg (by omega), if_pos (by omega)]
  have lo : ∀ j, (newFt sb v1.heap.size v2.heap.size gb A' k' wr.heap.size v1.heap.size v2.heap.size v3.heap.size v4.heap.size v5.heap.size).tag j ≠ 0 → wr.heap.size ≤ j ∧ j ≤ v5.heap.size := fun j hj => by
    rw [tg] at hj
    apply Classical.byContradiction
    intro hn
    apply hj
    rw [if_neg (by omega), if_neg (by omega)]
    by_cases hl : j < wr.heap.size
    · rw [if_pos hl]
    · rw [if_neg hl, if_neg (by omega), if_neg (by omega), if_neg (by omega), if_neg (by omega)]
  refine ⟨⟨ht, by rw [tg, if_pos rfl], S1.chg (chgM g1) id (fun _ _ _ _ => id), (tg sb).trans (by rw [if_neg (by omega), if_pos rfl]), fun g off e h0 => ?_, Q2.1.chg (chgM g2) (fun _ _ _ => id) (fun k hk hF => t3 k hF hk), L3.1.chg (chgM g3) (fun _ _ _ => id) (fun k hk hF => t4 k (by omega) hk),
    U4.1.chg (chgM g4) (fun _ _ _ => id) (fun k hk hF => t5 k hF hk) (fun _ _ h => h.elim) (fun k h6 h5 => by omega), fun k hk => by have := lo k hk; omega, G⟩, fun j hj => (lo j hj).1⟩
  have := n3 g off e h0
  exact t6 g this.1 this.2 (S1.a g off e h0)
noncomputable def nACode : Code := (Try.f4.body.bind (regE10 3)).getD .skip
set_option maxHeartbeats 64000000 in
set_option maxRecDepth 1000000 in
theorem nA {u0 u3 u4 u5 u6 u7 u8 u9 u10 u11 u12 u13 u14 u15 u16 u17 u18 u19 u20 u21 u22 u23 u24 u25 u26 u27 u28 u29 u30 u31 u32 u33 u34 u35 u36 u37 u38 : Value} {c : Cfg} {ws : List Int} {A : Option Addr} {k g : Nat} {Q : Exit → Act → World → Prop} {wr : World}
    (hc : c.Ok) (HB : Hid (wr.heap[g]? = some (.cells #[.int .i64 c.bits, .int .u64 c.one, .int .i64 c.ring, .int .u64 c.lim, .int .i64 c.room, .int .u64 c.mss, .int .u64 c.ini, .int .u64 c.lea, .int .u64 c.mo, .int .i64 c.algo, .int .u64 c.fst, .int .u64 c.gr, .int .u64 c.cap, .int .u64 c.bur, .int .u64 c.slo, .int .i64 c.chal, .int .u64 c.evy] 24 (0, 0)))) (hr : Rd wr 1 A ws.length k (Us ws)) (hn : ws.length ≤ 17592186044000) (hu : ∀ x ∈ ws, isU64 x)
    (hQ : Hid (∀ (f : Ft) (b : Nat) (x10 x11 x12 x13 x14 x15 x16 x17 x18 x19 x20 x21 x22 x23 x24 x25 x26 x27 x28 x29 : Value) (wx : World), Hid (EngC wx f b (ES.raw c ws) ∧ (∀ j, f.tag j ≠ 0 → wr.heap.size ≤ j) ∧ Below wr.heap.size wr wx) → Q .normal ⟨#[u0, .slice A ws.length k, .pointer (some ⟨g, 0, none⟩), u3, u4, u5, .pointer (some ⟨b, 0, none⟩), u7, u8, u9, x10, x11, x12, x13, x14, x15, x16, x17, x18, x19, x20, x21, x22, x23, x24, x25, x26, x27, x28, x29, u30, u31, u32, u33, u34, u35, u36, u37, u38], []⟩ wx)) :
    Code.wp Try.prog nACode Q ⟨#[u0, .slice A ws.length k, .pointer (some ⟨g, 0, none⟩), u3, u4, u5, u6, u7, u8, u9, u10, u11, u12, u13, u14, u15, u16, u17, u18, u19, u20, u21, u22, u23, u24, u25, u26, u27, u28, u29, u30, u31, u32, u33, u34, u35, u36, u37, u38], []⟩ wr := by
  conv => arg 2; whnf
  have G := Lib.hid (start_good hc hu hn).2
  have z := (cells_ofF (F := fun _ => False) HB.out id).1
  have K1 := Lib.hid (fun W (q : Below wr.heap.size wr W) => src_new A k ws W (hr.below q) hn)
  have K3 := Lib.hid (fun W => led_new c.ring c.lim W hc.u.2.1)
  have K4 := Lib.hid (fun W => gua_new c.chal c.evy W hc.u.2.2.2.2.2.2.2.2.2.2.2)
  have K5 := Lib.hid (fun W => ctl_start c W hc)
  dsimp only [ccv, Cfg.val] at K5
  have HC := Lib.hid hc
  clear hr hn hu hc
  refine wp_region_chg (fun _ => False) (by kernel_rfl) (by kernel_rfl) ?_
  repeat (refine wpMix_seg 1 _ _ rfl ?_; simp only [List.take_succ_cons, List.take_zero, List.drop_succ_cons, List.drop_zero]; (first | (refine wpQuiet_load_row rfl 24 _ rfl g rfl 24 _ (0, 0) _ (mixF_row HB.out id) rfl Try.underlying24 infoCfg ?_; refine wpQuiet_nil ?_; simp only [Act.put, List.setIfInBounds_toArray, List.set_cons_succ, List.set_cons_zero]) | (go_big_quiet_step (fail); refine wpQuiet_nil ?_)))
  generalize hv0 : wr.drew = v0 at *
  have B0 : Hid (Below wr.heap.size wr v0) := Lib.hid (by rw [← hv0]; exact (Below.refl _ _).drew)
  clear hv0
  refine wpMix_bar rfl (by rfl) ?_
  go_wp2_with fail
  refine (K1.out _ B0.out).mono ?_
  rintro e v1 ⟨sb, A', k', rfl, S, N, q⟩
  go_wp2
  refine ⟨chg_mixF (chgM (B0.out.trans (q.mono B0.out.size))), ?_⟩
  repeat (refine wpMix_seg 1 _ _ rfl ?_; simp only [List.take_succ_cons, List.take_zero, List.drop_succ_cons, List.drop_zero]; (first | (refine wpQuiet_load_row rfl 24 _ rfl g rfl 24 _ (0, 0) _ (mixF_row HB.out id) rfl Try.underlying24 infoCfg ?_; refine wpQuiet_nil ?_; simp only [Act.put, List.setIfInBounds_toArray, List.set_cons_succ, List.set_cons_zero]) | (go_big_quiet_step (fail); refine wpQuiet_nil ?_)))
  have B1 := Lib.hid (B0.out.trans (q.mono B0.out.size))
  have S1 := Lib.hid S
  have N1 : Hid (wr.heap.size ≤ sb ∧ sb < v1.heap.size ∧ ∀ b off, A' = some ⟨b, off, none⟩ → 0 < ws.length → wr.heap.size ≤ b ∧ b < v1.heap.size) := Lib.hid ⟨Nat.le_trans B0.out.size N.1, lt_of_block S.t, fun b off e h0 => ⟨Nat.le_trans B0.out.size (N.2 b off e h0), S.r.lt (by omega) h0 b off e⟩⟩
  clear S N q K1 B0
  refine wpMix_bar rfl (by rfl) ?_
  go_wp2_with fail
  refine (que_new c.room v1).mono ?_
  rintro e v2 ⟨rfl, Q, q⟩
  go_wp2
  refine ⟨chg_mixF (chgM (B1.out.trans (q.mono B1.out.size))), ?_⟩
  repeat (refine wpMix_seg 1 _ _ rfl ?_; simp only [List.take_succ_cons, List.take_zero, List.drop_succ_cons, List.drop_zero]; (first | (refine wpQuiet_load_row rfl 24 _ rfl g rfl 24 _ (0, 0) _ (mixF_row HB.out id) rfl Try.underlying24 infoCfg ?_; refine wpQuiet_nil ?_; simp only [Act.put, List.setIfInBounds_toArray, List.set_cons_succ, List.set_cons_zero]) | (go_big_quiet_step (fail); refine wpQuiet_nil ?_)))
  have B2 := Lib.hid (B1.out.trans (q.mono B1.out.size))
  have Q2 := Lib.hid (And.intro Q (And.intro q (lt_of_que Q)))
  clear Q q
  refine wpMix_bar rfl (by rfl) ?_
  go_wp2_with fail
  refine (K3.out v2).mono ?_
  rintro e v3 ⟨rfl, L, q⟩
  go_wp2
  refine ⟨chg_mixF (chgM (B2.out.trans (q.mono B2.out.size))), ?_⟩
  repeat (refine wpMix_seg 1 _ _ rfl ?_; simp only [List.take_succ_cons, List.take_zero, List.drop_succ_cons, List.drop_zero]; (first | (refine wpQuiet_load_row rfl 24 _ rfl g rfl 24 _ (0, 0) _ (mixF_row HB.out id) rfl Try.underlying24 infoCfg ?_; refine wpQuiet_nil ?_; simp only [Act.put, List.setIfInBounds_toArray, List.set_cons_succ, List.set_cons_zero]) | (go_big_quiet_step (fail); refine wpQuiet_nil ?_)))
  have B3 := Lib.hid (B2.out.trans (q.mono B2.out.size))
  have L3 := Lib.hid (And.intro L (And.intro q (lt_of_led L)))
  clear L q K3
  refine wpMix_bar rfl (by rfl) ?_
  go_wp2_with fail
  refine (K4.out v3).mono ?_
  rintro e v4 ⟨gb, rfl, U, q⟩
  go_wp2
  refine ⟨chg_mixF (chgM (B3.out.trans (q.mono B3.out.size))), ?_⟩
  repeat (refine wpMix_seg 1 _ _ rfl ?_; simp only [List.take_succ_cons, List.take_zero, List.drop_succ_cons, List.drop_zero]; (first | (refine wpQuiet_load_row rfl 24 _ rfl g rfl 24 _ (0, 0) _ (mixF_row HB.out id) rfl Try.underlying24 infoCfg ?_; refine wpQuiet_nil ?_; simp only [Act.put, List.setIfInBounds_toArray, List.set_cons_succ, List.set_cons_zero]) | (go_big_quiet_step (fail); refine wpQuiet_nil ?_)))
  have B4 := Lib.hid (B3.out.trans (q.mono B3.out.size))
  have U4 := Lib.hid (And.intro U q)
  clear U q K4
  refine wpMix_bar rfl (by rfl) ?_
  go_wp2_with fail
  refine (K5.out v4).mono ?_
  rintro e v5 ⟨rfl, q⟩
  go_wp2
  refine ⟨chg_mixF (chgM (B4.out.trans (q.mono B4.out.size))), ?_⟩
  repeat (refine wpMix_seg 1 _ _ rfl ?_; simp only [List.take_succ_cons, List.take_zero, List.drop_succ_cons, List.drop_zero]; (first | (refine wpQuiet_load_row rfl 24 _ rfl g rfl 24 _ (0, 0) _ (mixF_row HB.out id) rfl Try.underlying24 infoCfg ?_; refine wpQuiet_nil ?_; simp only [Act.put, List.setIfInBounds_toArray, List.set_cons_succ, List.set_cons_zero]) | (go_big_quiet_step (fail); refine wpQuiet_nil ?_)))
  have B5 := Lib.hid (B4.out.trans (q.mono B4.out.size))
  have q5 := Lib.hid q
  clear q K5 z
  refine wpMix_bar rfl (by rfl) ?_
  go_wp2
  refine ⟨chg_mixF (chgM (B5.out.trans ((box_below _ _).mono B5.out.size))), ?_⟩
  repeat (refine wpMix_seg 1 _ _ rfl ?_; simp only [List.take_succ_cons, List.take_zero, List.drop_succ_cons, List.drop_zero]; (first | (refine wpQuiet_load_row rfl 24 _ rfl g rfl 24 _ (0, 0) _ (mixF_row HB.out id) rfl Try.underlying24 infoCfg ?_; refine wpQuiet_nil ?_; simp only [Act.put, List.setIfInBounds_toArray, List.set_cons_succ, List.set_cons_zero]) | (go_big_quiet_step (fail); refine wpQuiet_nil ?_)))
  refine wpMix_nil ?_
  have M := eng_made B1.out.size S1.out N1.out Q2.out L3.out U4.out q5.out G.out
  refine hQ.out (newFt sb v1.heap.size v2.heap.size gb A' k' wr.heap.size v1.heap.size v2.heap.size v3.heap.size v4.heap.size v5.heap.size) v5.heap.size _ _ _ _ _ _ _ _ _ _ _ _ _ _ _ _ _ _ _ _ _ ?_
  exact Lib.hid ⟨M.1, M.2, B5.out.trans ((box_below _ _).mono B5.out.size)⟩
noncomputable def nBCode : Code := (Try.f4.body.bind (regE10 4)).getD .skip
set_option maxHeartbeats 64000000 in
set_option maxRecDepth 1000000 in
theorem nB {u0 u1 u3 u4 u5 u7 u8 u9 u10 u11 u12 u13 u14 u15 u16 u17 u18 u19 u20 u21 u22 u23 u24 u25 u26 u27 u28 u29 u30 u31 u32 u33 u34 u35 u36 u37 u38 : Value} {f : Ft} {c : Cfg} {ws : List Int} {g b : Nat} {Q : Exit → Act → World → Prop} {wr : World}
    (h : EngC wr f b (ES.raw c ws)) (HB : Hid (wr.heap[g]? = some (.cells #[.int .i64 c.bits, .int .u64 c.one, .int .i64 c.ring, .int .u64 c.lim, .int .i64 c.room, .int .u64 c.mss, .int .u64 c.ini, .int .u64 c.lea, .int .u64 c.mo, .int .i64 c.algo, .int .u64 c.fst, .int .u64 c.gr, .int .u64 c.cap, .int .u64 c.bur, .int .u64 c.slo, .int .i64 c.chal, .int .u64 c.evy] 24 (0, 0))))
    (hQ : Hid (∀  (x30 x31 x32 x33 x34 x35 x36 x37 : Value) (wx : World), Hid (EngC wx f b (ES.start c ws) ∧ Below b wr wx) → Q .normal ⟨#[u0, u1, .pointer (some ⟨g, 0, none⟩), u3, u4, u5, .pointer (some ⟨b, 0, none⟩), u7, u8, u9, u10, u11, u12, u13, u14, u15, u16, u17, u18, u19, u20, u21, u22, u23, u24, u25, u26, u27, u28, u29, x30, x31, x32, x33, x34, x35, x36, x37, u38], []⟩ wx)) :
    Code.wp Try.prog nBCode Q ⟨#[u0, u1, .pointer (some ⟨g, 0, none⟩), u3, u4, u5, .pointer (some ⟨b, 0, none⟩), u7, u8, u9, u10, u11, u12, u13, u14, u15, u16, u17, u18, u19, u20, u21, u22, u23, u24, u25, u26, u27, u28, u29, u30, u31, u32, u33, u34, u35, u36, u37, u38], []⟩ wr := by
  conv => arg 2; whnf
  have m13 : ∀ u, (Go.Proofs.Ytpkbimmhimgamaa.mix wr u).cell? ⟨g, 13, none⟩ = some (.int .u64 c.bur) := mixc (cell_of_row _ _ 13 _ _ _ HB.out)
  have KR := Lib.hid (fun u => eng_rate _ f b _ (h.mix u))
  have KS := Lib.hid (fun W => pc_start c.bur 0 (ES.raw c ws).rate W h.good.c.u.2.2.2.2.2.2.2.2.2.1)
  dsimp only [pcv] at KS
  have G := Lib.hid (start_good h.good.c (ws := ws) h.good.ws h.good.wl).1
  have HR : Hid ((ES.start c ws).tr = min (ES.raw c ws).rate 4294967296) := Lib.hid rfl
  have H := Lib.hid h
  have hbz := lt_of_block h.t
  clear h HB
  generalize hrt : (ES.raw c ws).rate = rt at *
  clear hrt
  refine wp_region_bt 8 (by kernel_rfl) (by kernel_rfl) ?_
  simp only [List.take_succ_cons, List.take_zero, List.drop_succ_cons, List.drop_zero]
  repeat (first | go_big_quiet_step ((first | (go_at_call 16; with_reducible exact Calls.mix_of (KR.out _)) | (go_at_call 15; with_reducible exact Calls.mix_of (KS.out _)))) | quiet_step ((first | (go_at_call 16; with_reducible exact Calls.mix_of (KR.out _)) | (go_at_call 15; with_reducible exact Calls.mix_of (KS.out _)))))
  refine wpQuiet_nil ?_
  intro w2 q
  have c2 := H.out.below q
  have e39 : w2.cell? ⟨b, 39, none⟩ = some (.int .u64 0) := c2.c 39 rfl
  have e40 : w2.cell? ⟨b, 40, none⟩ = some (.int .u64 0) := c2.c 40 rfl
  have e41 : w2.cell? ⟨b, 41, none⟩ = some (.int .u64 0) := c2.c 41 rfl
  have fz39 : w2.frozen? ⟨b, 39, none⟩ = false := c2.fz 39
  have fz40 : w2.frozen? ⟨b, 40, none⟩ = false := c2.fz 40
  have fz41 : w2.frozen? ⟨b, 41, none⟩ = false := c2.fz 41
  have k8 : Chg (fun j => j = b) w2 (((w2.setCell ⟨b, 39, none⟩ (.int .u64 (fullS c.bur))).setCell ⟨b, 40, none⟩ (.int .u64 0)).setCell ⟨b, 41, none⟩ (.int .u64 (min rt 4294967296))) := (((Chg.refl (fun j => j = b) w2).setCell (p := ⟨b, 39, none⟩) (.inl rfl) _).setCell (p := ⟨b, 40, none⟩) (.inl rfl) _).setCell (p := ⟨b, 41, none⟩) (.inl rfl) _
  have R : Hid (EngC (((w2.setCell ⟨b, 39, none⟩ (.int .u64 (fullS c.bur))).setCell ⟨b, 40, none⟩ (.int .u64 0)).setCell ⟨b, 41, none⟩ (.int .u64 (min rt 4294967296))) f b (ES.start c ws)) := Lib.hid (c2.row k8 (by
    have t3 := heap_setCell_same _ b 41 _ _ (.int .u64 (min rt 4294967296)) (heap_setCell_same _ b 40 _ _ (.int .u64 0) (heap_setCell_same w2 b 39 _ _ (.int .u64 (fullS c.bur)) c2.t))
    rw [← HR.out] at t3 ⊢
    exact t3) rfl rfl rfl rfl rfl G.out)
  have RB := Lib.hid ((((q.mono (Nat.le_of_lt hbz)).setCell (p := ⟨b, 39, none⟩) (Nat.le_refl _) (.int .u64 (fullS c.bur))).setCell (p := ⟨b, 40, none⟩) (Nat.le_refl _) (.int .u64 0)).setCell (p := ⟨b, 41, none⟩) (Nat.le_refl _) (.int .u64 (min rt 4294967296)))
  clear c2 k8 q m13 KR KS G HR H
  go_wp2
  refine hQ.out  _ _ _ _ _ _ _ _ _ ?_
  exact Lib.hid ⟨R.out, RB.out⟩
set_option maxHeartbeats 4000000 in
set_option maxRecDepth 100000 in
theorem eng_new (c : Cfg) (A : Option Addr) (k : Nat) (ws : List Int) (w : World) (hc : c.Ok) (hr : Rd w 1 A ws.length k (Us ws)) (hn : ws.length ≤ 17592186044000) (hu : ∀ x ∈ ws, isU64 x) :
    Calls Try.prog 4 #[c.val, .slice A ws.length k] w fun e w' => ∃ f b, e = .returned (.tuple #[.pointer (some ⟨b, 0, none⟩), .int .i64 0]) ∧ EngC w' f b (ES.start c ws) ∧ (∀ j, f.tag j ≠ 0 → w.heap.size ≤ j) ∧ Below w.heap.size w w' := by
  have S := Bx.one w #[.int .i64 c.bits, .int .u64 c.one, .int .i64 c.ring, .int .u64 c.lim, .int .i64 c.room, .int .u64 c.mss, .int .u64 c.ini, .int .u64 c.lea, .int .u64 c.mo, .int .i64 c.algo, .int .u64 c.fst, .int .u64 c.gr, .int .u64 c.cap, .int .u64 c.bur, .int .u64 c.slo, .int .i64 c.chal, .int .u64 c.evy] 24
  have KM := Lib.hid (fun w => conf_may c w hc)
  dsimp only [Cfg.val] at KM
  have HH := Lib.hid (And.intro hc (And.intro hr (And.intro hn hu)))
  unfold Cfg.val
  clear hc hr hn hu
  go_enter Try.func4, Try.ntmps4
  go_upto_region 1 with fail
  generalize w.alloc (.cells #[.int .i64 c.bits, .int .u64 c.one, .int .i64 c.ring, .int .u64 c.lim, .int .i64 c.room, .int .u64 c.mss, .int .u64 c.ini, .int .u64 c.lea, .int .u64 c.mo, .int .i64 c.algo, .int .u64 c.fst, .int .u64 c.gr, .int .u64 c.cap, .int .u64 c.bur, .int .u64 c.slo, .int .i64 c.chal, .int .u64 c.evy] 24) = w0 at *
  have a := cells_of (S.get 0 rfl)
  go_wp2_with (refine wpList_load_row rfl 24 _ rfl _ rfl _ _ _ _ (S.get 0 rfl) Try.underlying24 rfl infoCfg ?_)
  refine (KM.out _).mono ?_
  rintro e wm ⟨rfl, q⟩
  replace S := S.step q
  clear q a
  have a := cells_of (S.get 0 rfl)
  go_upto_region 3 with fail
  have HB := Lib.hid (S.get 0 rfl)
  have SB := Lib.hid S.bel
  clear a S
  refine nA HH.out.1 HB (HH.out.2.1.below SB.out) HH.out.2.2.1 HH.out.2.2.2 (Lib.hid ?_)
  intro f b _ _ _ _ _ _ _ _ _ _ _ _ _ _ _ _ _ _ _ _ w3 hG
  obtain ⟨c3, l3, q3⟩ := hG.out
  have C3 := Lib.hid c3
  have HB3 := Lib.hid ((q3.block _ (lt_of_block HB.out)).trans HB.out)
  have L3 := Lib.hid l3
  have D3 := Lib.hid (SB.out.trans (q3.mono SB.out.size))
  have hb := L3.out b (by rw [C3.out.tb]; omega)
  clear c3 l3 q3 hG HB
  go_upto_region 4 with fail
  refine nB C3.out HB3 (Lib.hid ?_)
  intro  _ _ _ _ _ _ _ _ w4 hG
  have sz := SB.out.size
  have F4 : Hid (Below w.heap.size w w4) := Lib.hid (D3.out.trans (hG.out.2.mono (by omega)))
  have C4 := Lib.hid hG.out.1
  have LL : Hid (∀ j, f.tag j ≠ 0 → w.heap.size ≤ j) := Lib.hid (fun j hj => Nat.le_trans sz (L3.out j hj))
  clear hG C3 HB3 D3 L3
  go_wp2
  go_ret2
  exact ⟨f, b, rfl, C4.out, LL.out, F4.out⟩
end Go.Proofs.Ytpkbimmhimgamaa
namespace Go.Proofs.Ytpkbimmhimgamaa
set_option linter.unusedSimpArgs false
set_option linter.unusedVariables false
set_option linter.unnecessarySimpa false
open Go.RowKit
section
variable {P : Program} {ops : Array Oper} {C : World → Prop}
def Up (C : World → Prop) : Prop := ∀ W W', C W → Below W.heap.size W W' → C W'
/-- One walk. -/
def wpOne (P : Program) (ops : Array Oper) (C : World → Prop) (K : Act → Prop) : List Oper → Act → Prop
  | [], a => K a
  | o :: rest, a => o.guard = none ∧ if calm o then o.quiet P a C (wpOne P ops C K rest) else ∃ A', (∀ C' : World → Prop, Up C' → (∀ W, C' W → C W) → o.quiet P a C' (fun a' => a' = A')) ∧ wpOne P ops C K rest A'
theorem wpOne_nil {K : Act → Prop} {a : Act} (h : K a) : wpOne P ops C K [] a := h
theorem wpOne_seg {K : Act → Prop} {o : Oper} {rest : List Oper} {a : Act} (hc : calm o = true) (hg : o.guard = none) (h : wpQuiet P ops C (wpOne P ops C K rest) [o] a) : wpOne P ops C K (o :: rest) a := by
  have hw : Region.wanted o (yielded ops a.tmps) = true := by simp [Region.wanted, hg]
  simp only [wpQuiet, hw, if_true] at h
  refine ⟨hg, ?_⟩
  simp only [hc, if_true]
  exact h
theorem wpOne_call {K : Act → Prop} {o : Oper} {rest : List Oper} {a : Act} (hc : calm o = false) (hg : o.guard = none) (h : ∃ A', (∀ C' : World → Prop, Up C' → (∀ W, C' W → C W) → wpQuiet P ops C' (fun a' => a' = A') [o] a) ∧ wpOne P ops C K rest A') : wpOne P ops C K (o :: rest) a := by
  have hw : Region.wanted o (yielded ops a.tmps) = true := by simp [Region.wanted, hg]
  obtain ⟨A', h, hk⟩ := h
  refine ⟨hg, ?_⟩
  simp only [hc, Bool.false_eq_true, if_false]
  refine ⟨A', fun C' h1 h2 => ?_, hk⟩
  have := h C' h1 h2
  simp only [wpQuiet, hw, if_true] at this
  exact this
theorem wp_of_quiet {C' : World → Prop} {o : Oper} {a A' : Act} {W : World} (h : o.quiet P a C' (fun a' => a' = A')) (hW : C' W) : o.wp P a W (fun a' W' => a' = A' ∧ C' W') QF := by
  obtain ⟨v, hv, hk⟩ := h
  have hq := hv W hW
  unfold Oper.quietAt at hq
  unfold Oper.wp
  generalize (execOp a.eval o).run P W = r at *
  cases r with
  | ok n w' =>
    cases n <;> simp only [Oper.quietUpon, Oper.upon] at hq ⊢
    case value u => obtain ⟨rfl, rfl⟩ := hq; exact ⟨hk, hW⟩
    case skip => obtain ⟨rfl, rfl⟩ := hq; exact ⟨hk, hW⟩
    case enter f args =>
      obtain ⟨rfl, hq⟩ := hq
      exact hq.mono fun e w'' ⟨he, hc⟩ => by subst he; exact ⟨hk, hc⟩
  | halt x w' => simp only [Oper.quietUpon] at hq
/-- The variable lies at g. -/
theorem mix_one {K : Act → Prop} {Q : Act → World → Prop} {oi ot : Oper} {d : Tmp} (hd : oi.dst = some d) (hC : Up C) (g : Nat) (box : Obj)
    (HK : ∀ a W, K a → C W → W.heap[g]? = some box → wpMix P ops C Q [ot] (a.put (some d) (.pointer (some ⟨g, 0, none⟩))) W) :
    ∀ (l : List Oper) (a : Act) (W : World), (∀ o ∈ l, oi.apart ops o = true ∧ ∀ cs b, o.op ≠ .select cs b) → C W → W.heap[g]? = some box → wpOne P ops C K l a → wpMix P ops C Q (l ++ [ot]) (a.put (some d) (.pointer (some ⟨g, 0, none⟩))) W := by
  intro l
  induction l with
  | nil => intro a W _ h1 h2 h; exact HK a W h h1 h2
  | cons o l ih =>
    intro a W hl h1 h2 h
    obtain ⟨hg, h⟩ := h
    obtain ⟨hap, hsel⟩ := hl o (List.mem_cons_self ..)
    obtain ⟨p1, p2, p3⟩ := Oper.apart_spec hap
    have hw : ∀ a : Act, Region.wanted o (yielded ops a.tmps) = true := fun a => by simp [Region.wanted, hg]
    have hl' : ∀ o ∈ l, oi.apart ops o = true ∧ ∀ cs b, o.op ≠ .select cs b := fun x hx => hl x (List.mem_cons_of_mem _ hx)
    have q1 : ∀ x, some d = some x → x ∉ o.looksAt ops := fun x hx => p1 x (hd.trans hx)
    have q2 : ∀ x, some d = some x → o.dst ≠ some x := fun x hx => p2 x (hd.trans hx)
    show wpMix P ops C Q (o :: (l ++ [ot])) _ _
    unfold wpMix
    simp only [hw, if_true]
    by_cases hc : calm o = true
    · simp only [hc, if_true] at h ⊢
      obtain ⟨v, hv, hk⟩ := h
      refine ⟨v, fun w' hw' => ?_, ?_⟩
      · have := hv w' hw'
        unfold Oper.quietAt at this ⊢
        rw [execOp_put o hsel a (some d) _ q1]
        exact this
      · rw [Act.put_comm a _ v q2]
        exact ih _ W hl' h1 h2 hk
    · have hc' : calm o = false := by simpa using hc
      simp only [hc', Bool.false_eq_true, if_false] at h ⊢
      obtain ⟨A', hA, hk⟩ := h
      have hq := wp_of_quiet (W := W) (hA (fun W => C W ∧ W.heap[g]? = some box) (fun W W' ⟨k1, k2⟩ b => ⟨hC W W' k1 b, (b.block _ (lt_of_block k2)).trans k2⟩) (fun _ k => k.1)) ⟨h1, h2⟩
      unfold Oper.wp at hq ⊢
      rw [execOp_put o hsel a (some d) _ q1]
      exact upon_back q2 _ (fun a' u w' e ⟨k1, k2, k3⟩ => ⟨k2, by subst k1; exact ih _ w' hl' k2 k3 hk⟩) hq
theorem fl_one {K : Act → Prop} {Q : Act → World → Prop} {oi ot : Oper} {d : Tmp} (hd : oi.dst = some d) (hig : oi.guard = none) (hic : calm oi = false) (hC : Up C) (box : Obj)
    (hoi : ∀ a W, oi.wp P a W (fun a' W' => a' = a.put (some d) (.pointer (some ⟨W.heap.size, 0, none⟩)) ∧ W' = W.alloc box) QF)
    (hbox : ∀ W, (W.alloc box).heap[W.heap.size]? = some box ∧ Below W.heap.size W (W.alloc box))
    {G : Nat → Prop} (hG : ∀ W, C W → G W.heap.size) (HK : ∀ a W g, G g → K a → C W → W.heap[g]? = some box → wpMix P ops C Q [ot] (a.put (some d) (.pointer (some ⟨g, 0, none⟩))) W) :
    ∀ (l : List Oper) (a : Act) (W : World), (∀ o ∈ l, oi.apart ops o = true ∧ ∀ cs b, o.op ≠ .select cs b) → C W → wpOne P ops C K l a → wpFl P ops C Q oi l.length (l ++ [oi, ot]) a W := by
  have hwi : ∀ a : Act, Region.wanted oi (yielded ops a.tmps) = true := fun a => by simp [Region.wanted, hig]
  intro l
  induction l with
  | nil =>
    intro a W _ h1 h
    show wpMix P ops C Q [oi, ot] a W
    unfold wpMix
    simp only [hwi, if_true, hic, Bool.false_eq_true, if_false]
    exact Oper.wp_mono (fun a' W' ⟨e1, e2⟩ => by subst e1; subst e2; exact ⟨hC _ _ h1 (hbox W).2, HK a _ _ (hG _ h1) h (hC _ _ h1 (hbox W).2) (hbox W).1⟩) (hoi a W)
  | cons o l ih =>
    intro a W hl h1 h
    have hall := h
    obtain ⟨hg, h⟩ := h
    have hw : ∀ a : Act, Region.wanted o (yielded ops a.tmps) = true := fun a => by simp [Region.wanted, hg]
    have hl' : ∀ o ∈ l, oi.apart ops o = true ∧ ∀ cs b, o.op ≠ .select cs b := fun x hx => hl x (List.mem_cons_of_mem _ hx)
    show wpFl P ops C Q oi (l.length + 1) (o :: (l ++ [oi, ot])) a W
    unfold wpFl
    simp only [hw, if_true]
    by_cases hc : calm o = true
    · simp only [hc, if_true] at h ⊢
      exact Oper.quiet_mono (fun a' h' => ih a' W hl' h1 h') h
    · have hc' : calm o = false := by simpa using hc
      simp only [hc', Bool.false_eq_true, if_false] at h ⊢
      obtain ⟨A', hA, hk⟩ := h
      refine ⟨Oper.wp_mono (fun a' W' ⟨e1, e2⟩ => by subst e1; exact ⟨e2, ih _ W' hl' e2 hk⟩) (wp_of_quiet (hA C hC (fun _ k => k)) h1), ?_⟩
      refine Oper.wp_mono (fun a' W' ⟨e1, e2⟩ => ?_) (hoi a W)
      subst e1; subst e2
      refine ⟨hC _ _ h1 (hbox W).2, ?_⟩
      have e : (o :: (l ++ [oi, ot])).eraseIdx (l.length + 1) = (o :: l) ++ [ot] := by
        rw [List.eraseIdx_cons_succ, List.eraseIdx_append_of_length_le (Nat.le_refl _)]
        simp
      rw [e]
      exact mix_one hd hC _ box (fun a W => HK a W _ (hG _ h1)) (o :: l) a _ hl (hC _ _ h1 (hbox W).2) (hbox W).1 hall
theorem calls_bl {W : World} {f : FuncId} {args : Array Value} {v : Value} (h : Calls P f args W (fun e w' => e = .returned v ∧ Qt W w')) : Calls P f args W (fun e w' => e = .returned v ∧ Below W.heap.size W w') :=
  h.mono fun e w' he => ⟨he.1, he.2.below⟩
theorem calls_up {C' : World → Prop} {W : World} {f : FuncId} {args : Array Value} {v : Value} (h1 : Up C') (hW : C' W) (h : Calls P f args W (fun e w' => e = .returned v ∧ Below W.heap.size W w')) : Calls P f args W (fun e w' => e = .returned v ∧ C' w') :=
  h.mono fun e w' he => ⟨he.1, h1 _ _ hW he.2⟩
theorem Bx.cons {w W : World} {l : List (Nat × Array Value × TypeId)} (S : Bx w W l) {g : Nat} {cs : Array Value} {T : TypeId} (h : W.heap[g]? = some (.cells cs T (0, 0))) (hg : w.heap.size ≤ g) (hn : ∀ x ∈ l, x.1 ≠ g) : Bx w W ((g, cs, T) :: l) :=
  ⟨S.bel, fun x hx => (List.mem_cons.1 hx).elim (fun e => by subst e; exact ⟨hg, h⟩) (S.at_ x), by
    simp only [List.map_cons, List.nodup_cons]
    exact ⟨fun hm => by obtain ⟨x, hx, e⟩ := List.mem_map.1 hm; exact hn x hx e, S.nd⟩⟩
/-- ONE WALK; operation i, the last but one, makes the variable. -/
theorem wp_region_one {id : Nat} {Q : Exit → Act → World → Prop} {a : Act} {w : World} {l : List Oper} (i : Nat) (oi ot : Oper) (d : Tmp) (cs : Array Value) (T : TypeId) (hm : P.follows .mixedOrders = true) (hoi : l[i]? = some oi) (hot : l[i + 1]? = some ot) (hB : floatB l i oi = true) (hd : oi.dst = some d)
    (hrun : ∀ a W, oi.wp P a W (fun a' W' => a' = a.put (some d) (.pointer (some ⟨W.heap.size, 0, none⟩)) ∧ W' = W.alloc (.cells cs T)) QF)
    (h : wpOne P l.toArray (fun W => ∃ u, W = mix w u) (fun a' => ∀ W g, Below w.heap.size w W → w.heap.size ≤ g → W.heap[g]? = some (.cells cs T (0, 0)) → wpMix P l.toArray (fun W => ∃ u, W = mix w u) (Q .normal) [ot] (a'.put (some d) (.pointer (some ⟨g, 0, none⟩))) W) (l.take i) a) :
    (Code.region id l.toArray true).wp P Q a w := by
  refine wp_region_float (C := fun W => ∃ u, W = mix w u) i oi hm hoi hB (below_mix (Below.refl _ w).drew) ?_
  simp only [floatB, Bool.and_eq_true, Bool.not_eq_true'] at hB
  obtain ⟨⟨⟨⟨⟨⟨⟨⟨⟨⟨hs, hb⟩, he⟩, hap⟩, hz'⟩, hie⟩, hig⟩, hic⟩, hif⟩, hg⟩, hte⟩ := hB
  replace hz' : l.length = i + 2 := Nat.eq_of_beq_eq_true hz'
  have el : l = l.take i ++ [oi, ot] := by
    obtain ⟨h1, h2⟩ := List.getElem?_eq_some_iff.1 hoi
    obtain ⟨h3, h4⟩ := List.getElem?_eq_some_iff.1 hot
    conv => lhs; rw [← List.take_append_drop i l, List.drop_eq_getElem_cons h1, List.drop_eq_getElem_cons h3, h2, h4, List.drop_of_length_le (by omega)]
  have hlen : (l.take i).length = i := by simp; omega
  have key := fl_one (P := P) (ops := l.toArray) (C := fun W => ∃ u, W = mix w u) (Q := Q .normal) (oi := oi) (ot := ot) hd (by simpa using hig) hic (fun W W' ⟨u, hu⟩ b => by
      subst hu
      exact below_mix ((mix_below w u).trans (b.mono (mix_below w u).size))) (.cells cs T) hrun (fun W => ⟨heap_alloc_new W _, box_below W _⟩) (G := fun g => w.heap.size ≤ g) (fun W ⟨u, hu⟩ => by subst hu; exact (mix_below w u).size)
    (fun a W g hg hk ⟨u, hu⟩ hb => hk W g (hu ▸ mix_below w u) hg hb) (l.take i) a w.drew (fun o ho => ⟨List.all_eq_true.1 hif o ho, fun cs b => ?_⟩) (below_mix (Below.refl _ w).drew) h
  · rw [hlen, ← el] at key
    exact key
  · obtain ⟨j, hj, e⟩ := List.getElem_of_mem (List.mem_of_mem_take ho)
    exact Region.noSelect_spec hs j o cs b (by rw [List.getElem?_toArray]; exact List.getElem?_eq_some_iff.2 ⟨hj, e⟩)
end
end Go.Proofs.Ytpkbimmhimgamaa
