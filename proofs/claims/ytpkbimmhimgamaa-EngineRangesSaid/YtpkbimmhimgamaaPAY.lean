/-
  Part of the proof of EngineRanges.
-/
import Derived.Test.YtpkbimmhimgamaaPAS
import Derived.Test.YtpkbimmhimgamaaPAX
import Derived.Test.YtpkbimmhimgamaaPAL
import Derived.Test.YtpkbimmhimgamaaPAM
namespace Go.Proofs.Ytpkbimmhimgamaa
set_option linter.unusedSimpArgs false
set_option linter.unusedVariables false
set_option linter.unnecessarySimpa false
open Go.RowKit
/-- What State answers. -/
def ES.stRow (s : ES) : Array Value := #[.int .i64 s.st, .int .u64 s.now, .int .u64 s.w.cw, .int .u64 s.w.th, .int .u64 s.l.flight, .int .u64 s.smooth, .int .u64 s.timer, .int .u64 s.l.all.length, .int .u64 s.l.low, .int .u64 ((s.q.b.length : Int) - (s.q.base : Int)), .int .u64 s.tr, .int .u64 s.g.mal, .int .u64 s.g.drp, .int .u64 s.g.tak, .int .u64 s.g.cha, .int .u64 s.g.lat]
theorem eng_dead_u {s : ES} (g : s.Good) : isU64 s.dead := by
  have u := g.c.u
  have ht : isU64 s.tmo := by
    have h1 := g.r.sm
    have h2 := mulS_u (a := 4) ⟨by omega, by omega⟩ g.r.vr
    have h3 := mulS_u (a := 2) ⟨by omega, by omega⟩ u.2.2.2.2.2.2.1
    unfold ES.tmo timeS
    split
    · exact u64_sadd h1 (max_u h2 u.2.2.2.2.2.2.2.1)
    · exact u64_sadd u.2.2.2.2.2.2.1 (max_u h3 u.2.2.2.2.2.2.2.1)
  exact deadS_u g.pf ht u.2.2.2.2.2.2.2.2.1
theorem infoSt : (Try.prog.info? 35).map (·.size) = some 16 := by kernel_rfl
def regE (n : Nat) : Code → Option Code
  | .region i o b => if i = n then some (.region i o b) else none
  | .seq a b => match regE n a with
    | some c => some c
    | none => regE n b
  | .block _ c => regE n c
  | .scope c => regE n c
  | .cond _ a b => match regE n a with
    | some c => some c
    | none => regE n b
  | _ => none
noncomputable def stACode : Code := (Try.f7.body.bind (regE 3)).getD .skip
set_option maxHeartbeats 64000000 in
set_option maxRecDepth 1000000 in
theorem stA {u1 u2 u3 u4 u5 u6 u7 u8 u9 u10 u11 u12 u13 u14 u15 u16 u17 u18 u19 u20 u21 u22 u23 u24 u25 u26 u27 u28 u29 u30 u31 u32 u33 u34 u35 u36 u37 u38 u39 u40 u41 u42 u43 u44 u45 u46 u47 u48 u49 u50 u51 u52 u53 u54 u55 u56 u57 u58 u59 u60 u61 u62 u63 u64 u65 u66 u67 u68 u69 u70 u71 u72 u73 u74 u75 u76 u77 u78 : Value} {f : Ft} {b : Nat} {s : ES} {Q : Exit → Act → World → Prop} {wr : World}
    (h : EngC wr f b s)
    (hQ : Hid (∀ (g : Nat) (x7 x8 x9 x10 x11 x12 x13 x14 x15 x16 x17 x18 x19 x20 x21 x22 x23 x24 x25 x26 x27 x28 x29 x30 x31 x32 x33 x34 x35 x36 x37 x38 x39 x40 x41 x42 x43 x44 x45 x46 x47 x48 x49 x50 x51 x52 x53 x54 x55 x56 x57 x58 x59 x60 x61 x62 x63 x64 x65 : Value) (wx : World), Hid (wx.heap[g]? = some (.cells #[.int .i64 s.st, .int .u64 s.now, .int .u64 s.w.cw, .int .u64 s.w.th, .int .u64 s.l.flight, .int .u64 s.smooth, .int .u64 18446744073709551615, .int .u64 s.l.all.length, .int .u64 s.l.low, .int .u64 ((s.q.b.length : Int) - (s.q.base : Int)), .int .u64 s.tr, .int .u64 s.g.mal, .int .u64 s.g.drp, .int .u64 s.g.tak, .int .u64 s.g.cha, .int .u64 s.g.lat] 35 (0, 0)) ∧ wr.heap.size ≤ g ∧ Below wr.heap.size wr wx) → Q .normal ⟨#[.pointer (some ⟨b, 0, none⟩), u1, u2, .pointer (some ⟨g, 0, none⟩), u4, u5, u6, x7, x8, x9, x10, x11, x12, x13, x14, x15, x16, x17, x18, x19, x20, x21, x22, x23, x24, x25, x26, x27, x28, x29, x30, x31, x32, x33, x34, x35, x36, x37, x38, x39, x40, x41, x42, x43, x44, x45, x46, x47, x48, x49, x50, x51, x52, x53, x54, x55, x56, x57, x58, x59, x60, x61, x62, x63, x64, x65, u66, u67, u68, u69, u70, u71, u72, u73, u74, u75, u76, u77, u78], []⟩ wx)) :
    Code.wp Try.prog stACode Q ⟨#[.pointer (some ⟨b, 0, none⟩), u1, u2, u3, u4, u5, u6, u7, u8, u9, u10, u11, u12, u13, u14, u15, u16, u17, u18, u19, u20, u21, u22, u23, u24, u25, u26, u27, u28, u29, u30, u31, u32, u33, u34, u35, u36, u37, u38, u39, u40, u41, u42, u43, u44, u45, u46, u47, u48, u49, u50, u51, u52, u53, u54, u55, u56, u57, u58, u59, u60, u61, u62, u63, u64, u65, u66, u67, u68, u69, u70, u71, u72, u73, u74, u75, u76, u77, u78], []⟩ wr := by
  conv => arg 2; whnf
  have bl := h.q.good
  have bl0 := s.q.base_le bl
  have bl1 := h.q.few
  unfold QS.Few at bl1
  have HM := Lib.hid (fun W (q : ∃ u, W = mix wr u) => (by obtain ⟨u, rfl⟩ := q; exact h.mix u : EngC W f b s))
  have K1 := Lib.hid (fun W (q : ∃ u, W = mix wr u) => led_flight W _ f.p s.l (HM.out W q).l)
  have K2 := Lib.hid (fun W (q : ∃ u, W = mix wr u) => calls_bl (eng_smooth W f b s (HM.out W q)))
  have K3 := Lib.hid (fun W (q : ∃ u, W = mix wr u) => calls_bl (led_next W _ f.p s.l (HM.out W q).l))
  have K4 := Lib.hid (fun W (q : ∃ u, W = mix wr u) => calls_bl (led_low W _ f.p s.l (HM.out W q).l))
  have K5 := Lib.hid (fun W (q : ∃ u, W = mix wr u) => calls_bl (que_end W _ f.q s.q (HM.out W q).q))
  have K6 := Lib.hid (fun W (q : ∃ u, W = mix wr u) => calls_bl (que_baseQ W _ f.q s.q (HM.out W q).q))
  have K7 := Lib.hid (fun W (q : ∃ u, W = mix wr u) => gua_counts W _ _ f.g s.g (HM.out W q).g)
  clear HM
  have m17 : ∀ u, (Go.Proofs.Ytpkbimmhimgamaa.mix wr u).cell? ⟨b, 17, none⟩ = some (.int .u64 s.now) := mixc (h.c 17 rfl)
  have m18 : ∀ u, (Go.Proofs.Ytpkbimmhimgamaa.mix wr u).cell? ⟨b, 18, none⟩ = some (.int .i64 s.st) := mixc (h.c 18 rfl)
  have m19 : ∀ u, (Go.Proofs.Ytpkbimmhimgamaa.mix wr u).cell? ⟨b, 19, none⟩ = some (.pointer (some ⟨f.sb, 0, none⟩)) := mixc (h.c 19 rfl)
  have m20 : ∀ u, (Go.Proofs.Ytpkbimmhimgamaa.mix wr u).cell? ⟨b, 20, none⟩ = some (.pointer (some ⟨f.q, 0, none⟩)) := mixc (h.c 20 rfl)
  have m21 : ∀ u, (Go.Proofs.Ytpkbimmhimgamaa.mix wr u).cell? ⟨b, 21, none⟩ = some (.pointer (some ⟨f.p, 0, none⟩)) := mixc (h.c 21 rfl)
  have m22 : ∀ u, (Go.Proofs.Ytpkbimmhimgamaa.mix wr u).cell? ⟨b, 22, none⟩ = some (.pointer (some ⟨f.g, 0, none⟩)) := mixc (h.c 22 rfl)
  have m30 : ∀ u, (Go.Proofs.Ytpkbimmhimgamaa.mix wr u).cell? ⟨b, 30, none⟩ = some (.int .u64 s.w.cw) := mixc (h.c 30 rfl)
  have m31 : ∀ u, (Go.Proofs.Ytpkbimmhimgamaa.mix wr u).cell? ⟨b, 31, none⟩ = some (.int .u64 s.w.th) := mixc (h.c 31 rfl)
  have m41 : ∀ u, (Go.Proofs.Ytpkbimmhimgamaa.mix wr u).cell? ⟨b, 41, none⟩ = some (.int .u64 s.tr) := mixc (h.c 41 rfl)
  unfold ctsRow at K7
  have bl2 : (0 : Int) ≤ (s.q.b.length : Int) - (s.q.base : Int) := by omega
  have bl3 : (s.q.b.length : Int) - (s.q.base : Int) < 18446744073709551616 := by omega
  clear h bl bl0 bl1
  generalize s.st = st at *
  generalize s.now = now at *
  generalize s.w.cw = cw at *
  generalize s.w.th = th at *
  generalize s.tr = tr at *
  generalize s.l.flight = fl at *
  generalize s.smooth = sm at *
  generalize s.l.all.length = n at *
  generalize s.l.low = lo at *
  generalize (s.q.b.length : Int) = le at *
  generalize (s.q.base : Int) = ba at *
  generalize s.g.mal = g0 at *
  generalize s.g.drp = g1 at *
  generalize s.g.tak = g2 at *
  generalize s.g.cha = g3 at *
  generalize s.g.lat = g4 at *
  refine wp_region_one 59 _ _ 3 #[.int .i64 0, .int .u64 0, .int .u64 0, .int .u64 0, .int .u64 0, .int .u64 0, .int .u64 0, .int .u64 0, .int .u64 0, .int .u64 0, .int .u64 0, .int .u64 0, .int .u64 0, .int .u64 0, .int .u64 0, .int .u64 0] 35 (by kernel_rfl) (by rfl) (by rfl) (by kernel_rfl) rfl (by intro _ _; exact ⟨rfl, rfl⟩) ?_
  simp only [List.take_succ_cons, List.take_zero]
  repeat (refine wpOne_seg rfl rfl ?_; go_big_quiet_step (fail); refine wpQuiet_nil ?_)
  refine wpOne_call rfl rfl ?_
  apply Exists.intro
  refine And.intro (fun C' h1 h2 => ?_) ?_
  · go_big_quiet_step ((intro hW; exact calls_up h1 hW (K1.out _ (h2 _ hW))))
    exact wpQuiet_nil rfl
  repeat (refine wpOne_seg rfl rfl ?_; go_big_quiet_step (fail); refine wpQuiet_nil ?_)
  refine wpOne_call rfl rfl ?_
  apply Exists.intro
  refine And.intro (fun C' h1 h2 => ?_) ?_
  · go_big_quiet_step ((intro hW; exact calls_up h1 hW (K2.out _ (h2 _ hW))))
    exact wpQuiet_nil rfl
  repeat (refine wpOne_seg rfl rfl ?_; go_big_quiet_step (fail); refine wpQuiet_nil ?_)
  refine wpOne_call rfl rfl ?_
  apply Exists.intro
  refine And.intro (fun C' h1 h2 => ?_) ?_
  · go_big_quiet_step ((intro hW; exact calls_up h1 hW (K3.out _ (h2 _ hW))))
    exact wpQuiet_nil rfl
  repeat (refine wpOne_seg rfl rfl ?_; go_big_quiet_step (fail); refine wpQuiet_nil ?_)
  refine wpOne_call rfl rfl ?_
  apply Exists.intro
  refine And.intro (fun C' h1 h2 => ?_) ?_
  · go_big_quiet_step ((intro hW; exact calls_up h1 hW (K4.out _ (h2 _ hW))))
    exact wpQuiet_nil rfl
  repeat (refine wpOne_seg rfl rfl ?_; go_big_quiet_step (fail); refine wpQuiet_nil ?_)
  refine wpOne_call rfl rfl ?_
  apply Exists.intro
  refine And.intro (fun C' h1 h2 => ?_) ?_
  · go_big_quiet_step ((intro hW; exact calls_up h1 hW (K5.out _ (h2 _ hW))))
    exact wpQuiet_nil rfl
  repeat (refine wpOne_seg rfl rfl ?_; go_big_quiet_step (fail); refine wpQuiet_nil ?_)
  refine wpOne_call rfl rfl ?_
  apply Exists.intro
  refine And.intro (fun C' h1 h2 => ?_) ?_
  · go_big_quiet_step ((intro hW; exact calls_up h1 hW (K6.out _ (h2 _ hW))))
    exact wpQuiet_nil rfl
  repeat (refine wpOne_seg rfl rfl ?_; go_big_quiet_step (fail); refine wpQuiet_nil ?_)
  refine wpOne_call rfl rfl ?_
  apply Exists.intro
  refine And.intro (fun C' h1 h2 => ?_) ?_
  · go_big_quiet_step ((intro hW; exact calls_up h1 hW (K7.out _ (h2 _ hW))))
    exact wpQuiet_nil rfl
  repeat (refine wpOne_seg rfl rfl ?_; go_big_quiet_step (fail); refine wpQuiet_nil ?_)
  refine wpOne_nil ?_
  intro W g hb hge hbox
  have S0 : Bx wr W [(g, #[.int .i64 0, .int .u64 0, .int .u64 0, .int .u64 0, .int .u64 0, .int .u64 0, .int .u64 0, .int .u64 0, .int .u64 0, .int .u64 0, .int .u64 0, .int .u64 0, .int .u64 0, .int .u64 0, .int .u64 0, .int .u64 0], 35)] := ⟨hb, by intro x hx; obtain rfl := List.mem_singleton.1 hx; exact ⟨hge, hbox⟩, by simp⟩
  have b := cells_of hbox
  clear hb hbox
  replace S0 := S0.fill 0 0 [.int .i64 st, .int .u64 now, .int .u64 cw, .int .u64 th, .int .u64 fl, .int .u64 sm, .int .u64 18446744073709551615, .int .u64 n, .int .u64 lo, .int .u64 (le - ba), .int .u64 tr, .int .u64 g0, .int .u64 g1, .int .u64 g2, .int .u64 g3, .int .u64 g4] rfl
  simp only [putAll, setAll, Nat.reduceAdd, List.setIfInBounds_toArray, List.set_cons_succ, List.set_cons_zero] at S0
  have hc0 := Lib.hid (below_mix S0.bel)
  have hm := Lib.hid (And.intro (S0.get 0 rfl) (And.intro hge S0.bel))
  clear S0 hge
  dsimp only [Act.put, List.setIfInBounds_toArray, List.set_cons_succ, List.set_cons_zero]
  refine wpMix_bar rfl (by rfl) ?_
  go_wp2
  refine ⟨hc0.out, ?_⟩
  refine wpMix_nil ?_
  refine hQ.out g _ _ _ _ _ _ _ _ _ _ _ _ _ _ _ _ _ _ _ _ _ _ _ _ _ _ _ _ _ _ _ _ _ _ _ _ _ _ _ _ _ _ _ _ _ _ _ _ _ _ _ _ _ _ _ _ _ _ _ _ ?_
  exact hm
set_option maxHeartbeats 8000000 in
set_option maxRecDepth 1000000 in
theorem eng_state (w : World) (f : Ft) (b : Nat) (s : ES) (h : EngC w f b s) :
    Calls Try.prog 7 #[.pointer (some ⟨b, 0, none⟩)] w fun e w' => e = .returned (.agg s.stRow) ∧ Below w.heap.size w w' := by
  have S := (Bx.nil (Below.refl w.heap.size w)).alloc #[.int .i64 0, .int .u64 0, .int .u64 0, .int .u64 0, .int .u64 0, .int .u64 0, .int .u64 0, .int .u64 0, .int .u64 0, .int .u64 0, .int .u64 0, .int .u64 0, .int .u64 0, .int .u64 0, .int .u64 0, .int .u64 0] 35
  have KO := Lib.hid (fun W (q : Below w.heap.size w W) => eng_over W f b s (h.below q))
  have KD := Lib.hid (fun W (q : Below w.heap.size w W) => eng_deadline W f b s (h.below q))
  have UT := Lib.hid (And.intro h.good.tm (eng_dead_u h.good))
  have H0 := Lib.hid (fun W (q : Below w.heap.size w W) => h.below q)
  have hbw := lt_of_block h.t
  have h1 := h.below S.bel
  generalize hw0 : w.alloc (.cells #[.int .i64 0, .int .u64 0, .int .u64 0, .int .u64 0, .int .u64 0, .int .u64 0, .int .u64 0, .int .u64 0, .int .u64 0, .int .u64 0, .int .u64 0, .int .u64 0, .int .u64 0, .int .u64 0, .int .u64 0, .int .u64 0] 35) = w0 at *
  have K := Lib.hid h1
  have HO : Hid (s.timer = if s.over then 18446744073709551615 else min s.tm s.dead) := Lib.hid rfl
  have HR : Hid (s.stRow = #[.int .i64 s.st, .int .u64 s.now, .int .u64 s.w.cw, .int .u64 s.w.th, .int .u64 s.l.flight, .int .u64 s.smooth, .int .u64 s.timer, .int .u64 s.l.all.length, .int .u64 s.l.low, .int .u64 ((s.q.b.length : Int) - (s.q.base : Int)), .int .u64 s.tr, .int .u64 s.g.mal, .int .u64 s.g.drp, .int .u64 s.g.tak, .int .u64 s.g.cha, .int .u64 s.g.lat]) := Lib.hid rfl
  clear h h1
  go_enter Try.func7, Try.ntmps7
  go_upto_region 1 with fail
  clear hw0
  go_upto_region 3 with fail
  refine stA K.out (Lib.hid ?_)
  intro g _ _ _ _ _ _ _ _ _ _ _ _ _ _ _ _ _ _ _ _ _ _ _ _ _ _ _ _ _ _ _ _ _ _ _ _ _ _ _ _ _ _ _ _ _ _ _ _ _ _ _ _ _ _ _ _ _ _ _ wr hG
  clear K
  generalize s.timer = ti at *
  generalize s.st = st at *
  generalize s.now = now at *
  generalize s.w.cw = cw at *
  generalize s.w.th = th at *
  generalize s.tr = tr at *
  generalize s.l.flight = fl at *
  generalize s.smooth = sm at *
  generalize s.l.all.length = n at *
  generalize s.l.low = lo at *
  generalize (s.q.b.length : Int) = le at *
  generalize (s.q.base : Int) = ba at *
  generalize s.g.mal = g0 at *
  generalize s.g.drp = g1 at *
  generalize s.g.tak = g2 at *
  generalize s.g.cha = g3 at *
  generalize s.g.lat = g4 at *
  have lt0 := lt_of_block (S.get 0 rfl)
  have hgw := hG.out.2.1
  replace S := (S.step hG.out.2.2).cons hG.out.1 (by omega) (by intro x hx; obtain rfl := List.mem_singleton.1 hx; show w.heap.size ≠ g; omega)
  clear hG
  have hbg : b ≠ g := by omega
  clear lt0 hgw hbw
  have a := And.intro (cells_of (S.get 0 rfl)) (cells_of (S.get 1 rfl))
  go_wp2_with fail
  refine (KO.out _ S.bel).mono ?_
  rintro e w2 ⟨rfl, q⟩
  replace S := S.stepQ q
  clear q a
  have a := And.intro (cells_of (S.get 0 rfl)) (cells_of (S.get 1 rfl))
  clear KO
  by_cases ho : s.over
  · have hti := HO.out
    rw [if_pos ho] at hti
    subst hti
    rw [decide_eq_true ho]
    clear ho
    replace S := S.fill 1 0 [.int .i64 st, .int .u64 now, .int .u64 cw, .int .u64 th, .int .u64 fl, .int .u64 sm, .int .u64 18446744073709551615, .int .u64 n, .int .u64 lo, .int .u64 (le - ba), .int .u64 tr, .int .u64 g0, .int .u64 g1, .int .u64 g2, .int .u64 g3, .int .u64 g4] rfl
    simp only [putAll, setAll, Nat.reduceAdd, List.setIfInBounds_toArray, List.set_cons_succ, List.set_cons_zero] at S
    have E := Lib.hid S
    clear S
    go_wp2
    (try simp only [Exit.inBlock, Exit.then])
    exact bodyPost_ret (results_cell_row rfl _ _ (w.heap.size) _ _ _ _ rfl (E.out.get 1 rfl) Try.underlying35 rfl infoSt) rfl ⟨congrArg (fun x => Ending.returned (.agg x)) HR.out.symm, E.out.bel⟩
  · have hti := HO.out
    rw [if_neg ho] at hti
    subst hti
    rw [decide_eq_false ho]
    clear ho
    have X42 : ∀ u, (mixF (fun j => j = g) w2 u).cell? ⟨b, 42, none⟩ = some (.int .u64 s.tm) := mixF_cell ((H0.out w2 S.bel).c 42 rfl) hbg
    clear H0
    generalize s.tm = tm at *
    generalize s.dead = de at *
    go_upto_region 5 with fail
    replace S := S.step ((Below.refl _ w2).drew)
    clear a
    refine wp_region_chg (fun j => j = g) (by kernel_rfl) (by kernel_rfl) ?_
    repeat (refine wpMix_seg 1 _ _ rfl ?_; simp only [List.take_succ_cons, List.take_zero, List.drop_succ_cons, List.drop_zero]; go_big_quiet_step (fail); refine wpQuiet_nil ?_)
    generalize hv0 : w2.drew = v0 at *
    have hq : Hid (Chg (fun j => j = g) w2 v0) := Lib.hid (by rw [← hv0]; exact (Chg.refl _ _).drew)
    clear hv0
    refine wpMix_bar rfl (by rfl) ?_
    go_wp2_with fail
    refine (KD.out _ S.bel).mono ?_
    rintro e v1 ⟨rfl, q⟩
    go_wp2
    refine ⟨chg_mixF (hq.out.thenBelow q hq.out.size), ?_⟩
    repeat (refine wpMix_seg 1 _ _ rfl ?_; simp only [List.take_succ_cons, List.take_zero, List.drop_succ_cons, List.drop_zero]; go_big_quiet_step (fail); refine wpQuiet_nil ?_)
    replace S := S.step q
    have hq1 := Lib.hid (hq.out.thenBelow q hq.out.size)
    clear q hq KD X42
    have bb := box_below v1 (.cells #[.int .u64 tm, .int .u64 de] 22)
    have RL := Lib.hid (Rd.lit_at v1 1 #[.int .u64 tm, .int .u64 de] 22 2 (Us [tm, de]) v1.heap.size rfl rfl rfl (by unfold maxLen; omega))
    replace S := S.step bb
    have hq2 := Lib.hid (hq1.out.thenBelow bb hq1.out.size)
    refine wpMix_bar rfl (by rfl) ?_
    go_wp2
    refine ⟨chg_mixF hq2.out, ?_⟩
    repeat (refine wpMix_seg 1 _ _ rfl ?_; simp only [List.take_succ_cons, List.take_zero, List.drop_succ_cons, List.drop_zero]; go_big_quiet_step (fail); refine wpQuiet_nil ?_)
    clear bb hq1
    generalize v1.alloc (.cells #[.int .u64 tm, .int .u64 de] 22) = v2 at *
    generalize v1.heap.size = z at *
    refine wpMix_bar rfl (by rfl) ?_
    go_wp2_with fail
    refine (clk_first (some ⟨z, 0, none⟩) 2 tm de _ RL.out UT.out.1 UT.out.2).mono ?_
    rintro e v3 ⟨rfl, q⟩
    go_wp2
    refine ⟨chg_mixF (hq2.out.thenBelow q.below hq2.out.size), ?_⟩
    repeat (refine wpMix_seg 1 _ _ rfl ?_; simp only [List.take_succ_cons, List.take_zero, List.drop_succ_cons, List.drop_zero]; go_big_quiet_step (fail); refine wpQuiet_nil ?_)
    replace S := S.step q.below
    have hq3 := Lib.hid ((hq2.out.thenBelow q.below hq2.out.size).setCell (p := ⟨g, 6, none⟩) (.inl rfl) (.int .u64 (min tm de)))
    clear q hq2 RL UT
    have a := cells_of (S.get 0 rfl)
    refine wpMix_bar rfl (by rfl) ?_
    go_wp2
    refine ⟨chg_mixF hq3.out, ?_⟩
    repeat (refine wpMix_seg 1 _ _ rfl ?_; simp only [List.take_succ_cons, List.take_zero, List.drop_succ_cons, List.drop_zero]; go_big_quiet_step (fail); refine wpQuiet_nil ?_)
    refine wpMix_nil ?_
    clear hq3
    replace S := S.set 0 6 (.int .u64 (min tm de)) rfl
    simp only [List.setIfInBounds_toArray, List.set_cons_succ, List.set_cons_zero] at S
    go_upto_region 6 with fail
    generalize (v3.setCell ⟨g, 6, none⟩ (.int .u64 (min tm de))) = v4 at *
    clear a
    have a := And.intro (cells_of (S.get 0 rfl)) (cells_of (S.get 1 rfl))
    replace S := S.fill 1 0 [.int .i64 st, .int .u64 now, .int .u64 cw, .int .u64 th, .int .u64 fl, .int .u64 sm, .int .u64 (min tm de), .int .u64 n, .int .u64 lo, .int .u64 (le - ba), .int .u64 tr, .int .u64 g0, .int .u64 g1, .int .u64 g2, .int .u64 g3, .int .u64 g4] rfl
    simp only [putAll, setAll, Nat.reduceAdd, List.setIfInBounds_toArray, List.set_cons_succ, List.set_cons_zero] at S
    have E := Lib.hid S
    clear S
    go_wp2
    (try simp only [Exit.inBlock, Exit.then])
    exact bodyPost_ret (results_cell_row rfl _ _ (w.heap.size) _ _ _ _ rfl (E.out.get 1 rfl) Try.underlying35 rfl infoSt) rfl ⟨congrArg (fun x => Ending.returned (.agg x)) HR.out.symm, E.out.bel⟩
end Go.Proofs.Ytpkbimmhimgamaa
namespace Go.Proofs.Ytpkbimmhimgamaa
set_option linter.unusedSimpArgs false
set_option linter.unusedVariables false
set_option linter.unnecessarySimpa false
open Go.RowKit
def U4 (l : List Int) : List Value := l.map (Value.int .u32)
def isU32 (x : Int) : Prop := 0 ≤ x ∧ x ≤ 4294967295
theorem law_at (A : Option Addr) (c : Nat) (l : List Int) (i : Nat) (w : World) (hr : Rd w 1 A l.length c (U4 l)) (hu : ∀ x ∈ l, isU32 x) (hi : i < 100) :
    Calls Try.prog 37 #[.slice A l.length c, .int .i64 i] w fun e w' => e = .returned (.int .u64 (l.getD i 0)) ∧ Qt w w' := by
  have hm := hr.max
  have hc := hr.cap
  unfold maxLen at hm
  have d0 : decide ((i : Int) < 0) = false := decide_eq_false (by omega)
  by_cases h : i < l.length
  · obtain ⟨g, off, rfl, hx⟩ := hr.on_ (by omega)
    have hx := hx i (.int .u32 (l.getD i 0)) (by simp [U4, h, List.getD_eq_getElem?_getD])
    have hu := hu (l.getD i 0) (by rw [List.getD_eq_getElem?_getD, List.getElem?_eq_getElem h]; exact List.getElem_mem h)
    have k1 : IntKind.u64.wrap (l.getD i 0) = l.getD i 0 := IntWalk.u64_in _ (by have := hu; unfold isU32 at this; omega)
    have d1 : decide ((l.length : Int) ≤ (i : Int)) = false := decide_eq_false (by omega)
    have d2 : decide (l.length ≤ i) = false := decide_eq_false (by omega)
    have d3 : decide (i < l.length) = true := decide_eq_true h
    generalize l.getD i 0 = v at *
    clear hr hu
    go_enter Try.func37, Try.ntmps37
    go_wp2
    go_ret
    exact ⟨rfl, Qt.refl _⟩
  · have hv : l.getD i 0 = 0 := by rw [List.getD_eq_getElem?_getD, List.getElem?_eq_none (by omega)]; rfl
    rw [hv]
    have d1 : decide ((l.length : Int) ≤ (i : Int)) = true := decide_eq_true (by omega)
    have d2 : decide (l.length ≤ i) = true := decide_eq_true (by omega)
    clear hr hu hv
    go_enter Try.func37, Try.ntmps37
    go_wp2
    go_ret
    exact ⟨rfl, Qt.refl _⟩
/-- The configuration of any numbers. -/
def cfS (l : List Int) : Cfg :=
  let a := fun i => l.getD i 0
  let mss := 1 + a 0 % 40
  let lea := 2 * mss + a 1 % 50
  let ini := lea + a 2 % 100
  let gr := 1 + a 11 % 2000
  ⟨if a 4 % 4 = 1 then 1 + a 4 / 4 % 64 else 64, if 0 < a 5 % 4 then 2 + a 5 / 4 % 30 else 0, 4 + a 6 % 40, if a 7 % 4 = 1 then a 7 / 4 % 60 else 4611686018427387903, 1 + a 8 % 300, mss, ini, lea, ini + a 3 % 400, 1 + a 9 % 2, 1 + a 10 % 200000, gr, gr + a 12 % 400000, mss + a 13 % 400, 1 + a 14 % 100000, a 15 % 5, 1 + a 16 % 100000⟩
theorem getD_u32 {l : List Int} (hu : ∀ x ∈ l, isU32 x) (i : Nat) : isU32 (l.getD i 0) := by
  rw [List.getD_eq_getElem?_getD]
  rcases Nat.lt_or_ge i l.length with h | h
  · rw [List.getElem?_eq_getElem h]
    exact hu _ (List.getElem_mem h)
  · rw [List.getElem?_eq_none h]
    exact ⟨by decide, by decide⟩
theorem cfS_ok {l : List Int} (hu : ∀ x ∈ l, isU32 x) : (cfS l).Ok := by
  have u := getD_u32 hu
  unfold isU32 at u
  have u0 := u 0
  have u1 := u 1
  have u2 := u 2
  have u3 := u 3
  have u4 := u 4
  have u5 := u 5
  have u6 := u 6
  have u7 := u 7
  have u8 := u 8
  have u9 := u 9
  have u10 := u 10
  have u11 := u 11
  have u12 := u 12
  have u13 := u 13
  have u14 := u 14
  have u15 := u 15
  have u16 := u 16
  clear u
  unfold cfS
  constructor <;> simp only [isU64] <;> (try split) <;> omega
end Go.Proofs.Ytpkbimmhimgamaa
