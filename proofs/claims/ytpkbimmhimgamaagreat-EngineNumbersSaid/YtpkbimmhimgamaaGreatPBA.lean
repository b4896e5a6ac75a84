/-
  Part of the proof of EngineNumbers.
-/
import Derived.Test.YtpkbimmhimgamaaGreatPAZ
namespace Go.Proofs.YtpkbimmhimgamaaGreat
set_option linter.unusedSimpArgs false
set_option linter.unusedVariables false
set_option linter.unnecessarySimpa false
open Go.RowKit
theorem ES.begun_eq (s : ES) (pn num den cn cd : Int) : s.begun pn num den cn cd = { s with w := (begunW s.c s.w s.re s.rc pn s.next num den cn cd).1, re := (begunW s.c s.w s.re s.rc pn s.next num den cn cd).2.1, rc := (begunW s.c s.w s.re s.rc pn s.next num den cn cd).2.2.1 } := by
  unfold ES.begun begunW
  split <;> rfl
theorem beginS_u {a b pn next : Int} (ha : isU64 a) (hb : isU64 b) (hp : isU64 pn) (hn : isU64 next) : isU64 (beginS a b pn next).1 ∧ isU64 (beginS a b pn next).2.1 := by
  have h1 := u64_sadd hp (show isU64 (1 : Int) from ⟨by omega, by omega⟩)
  have h2 := u64_sadd hb (show isU64 (1 : Int) from ⟨by omega, by omega⟩)
  unfold beginS
  split
  · refine ⟨?_, h2⟩
    simp only
    split
    · exact h1
    · exact hn
  · exact ⟨ha, hb⟩
theorem begunW_good {s : ES} (g : s.Good) (gl : s.l.Good) {pn num den cn cd : Int} (hp : isU64 pn) (h1 : isU64 num) (h2 : isU64 den) (h3 : isU64 cn) (h4 : isU64 cd) : (begunW s.c s.w s.re s.rc pn s.next num den cn cd).1.Good ∧ isU64 (begunW s.c s.w s.re s.rc pn s.next num den cn cd).2.1 ∧ isU64 (begunW s.c s.w s.re s.rc pn s.next num den cn cd).2.2.1 := by
  have hn : isU64 s.next := by
    have h1 := gl.len
    have h2 := gl.lim1
    unfold ES.next isU64
    omega
  have hb := beginS_u (next := s.next) g.re g.rc hp hn
  unfold begunW
  split
  · exact ⟨cutW_good g.c g.w h1 h2 h3 h4, hb.1, hb.2⟩
  · exact ⟨g.w, g.re, g.rc⟩
theorem ES.Good.cc {s : ES} (g : s.Good) {v : Wn} {re rc : Int} (gv : v.Good) (h1 : isU64 re) (h2 : isU64 rc) : ({ s with w := v, re := re, rc := rc } : ES).Good := by
  obtain ⟨g1, g2, g3, g4, g5, g6, g7, g8, g9, g10, g11, g12, g13, g14, g15, g16, g17, g18, g19, g20, g21⟩ := g
  exact ⟨g1, g2, g3, g4, g5, g6, g7, g8, g9, gv, h1, h2, g13, g14, g15, g16, g17, g18, g19, g20, g21⟩
theorem EngC.ccTo {W : World} {f : Ft} {b : Nat} {s : ES} (h : EngC W f b s) (v : Wn) (re rc : Int) (gv : v.Good) (h1 : isU64 re) (h2 : isU64 rc) : EngTo W f b (putAll b 30 [.int .u64 v.cw, .int .u64 v.th, .int .u64 v.ac, .int .u64 v.pk, .int .u64 v.ep, .int .u64 v.kk, .int .u64 v.fr, .int .u64 re, .int .u64 rc] W) { s with w := v, re := re, rc := rc } :=
  h.fillTo _ 30 _ (h.fill { s with w := v, re := re, rc := rc } 30 _ (by simp only [engRow, setAll, Nat.reduceAdd, List.setIfInBounds_toArray, List.set_cons_succ, List.set_cons_zero]) rfl rfl rfl rfl rfl (h.good.cc gv h1 h2))
theorem ES.Good.pr {s : ES} (g : s.Good) {pc pf : Int} (h1 : 0 ≤ pc ∧ pc ≤ 60) (h2 : isU64 pf) (b : Bool) : ({ s with pc := pc, pf := pf, pb := b } : ES).Good := by
  obtain ⟨g1, g2, g3, g4, g5, g6, g7, g8, g9, g10, g11, g12, g13, g14, g15, g16, g17, g18, g19, g20, g21⟩ := g
  exact ⟨g1, g2, g3, g4, g5, g6, g7, h1, h2, g10, g11, g12, g13, g14, g15, g16, g17, g18, g19, g20, g21⟩
theorem EngC.prTo {W : World} {f : Ft} {b : Nat} {s : ES} (h : EngC W f b s) (pc pf : Int) (h1 : 0 ≤ pc ∧ pc ≤ 60) (h2 : isU64 pf) : EngTo W f b (putAll b 28 [.int .i64 pc, .int .u64 pf] W) { s with pc := pc, pf := pf } :=
  h.fillTo _ 28 _ (h.fill { s with pc := pc, pf := pf } 28 _ (by simp only [engRow, setAll, Nat.reduceAdd, List.setIfInBounds_toArray, List.set_cons_succ, List.set_cons_zero]) rfl rfl rfl rfl rfl (h.good.pr h1 h2 s.pb))
theorem ES.Good.tick {s : ES} (g : s.Good) {now : Int} (hn : isU64 now) : (s.tick now).Good := by
  obtain ⟨g1, g2, g3, g4, g5, g6, g7, g8, g9, g10, g11, g12, g13, g14, g15, g16, g17, g18, g19, g20, g21⟩ := g
  exact ⟨g1, max_u g2 hn, g3, g4, g5, g6, g7, g8, g9, g10, g11, g12, g13, g14, g15, g16, g17, g18, g19, g20, g21⟩
theorem EngC.ticked {W : World} {f : Ft} {b : Nat} {s : ES} (h : EngC W f b s) {now : Int} (hn : isU64 now) : EngC (W.setCell ⟨b, 17, none⟩ (.int .u64 (max s.now now))) f b (s.tick now) :=
  h.set (s.tick now) 17 _ rfl rfl rfl rfl rfl rfl (h.good.tick hn)
theorem lastV_nil {L : List Int} (h : L = []) : lastV L = .tuple #[.int .u64 0, .bool false] := by rw [h]; rfl
theorem lastV_some {L : List Int} {pn : Int} (h : L.getLast? = some pn) : lastV L = .tuple #[.int .u64 pn, .bool true] := by
  unfold lastV
  rw [h]
  cases L with
  | nil => simp at h
  | cons => rfl
theorem ES.lostTo_some {s : ES} {L : List Int} {pn : Int} (h : L.getLast? = some pn) : s.lostTo L = s.begun pn 1 2 7 10 := by
  unfold ES.lostTo
  rw [h]
theorem ES.lostTo_nil {s : ES} {L : List Int} (h : L = []) : s.lostTo L = s := by
  rw [h]
  rfl
/-- What the walk of 'e.cc, _ = control.Loss(..)' needs. -/
structure CcW (W : World) (f : Ft) (b : Nat) (s : ES) (C : Array Value) : Prop where
  c : EngC W f b s
  hC : s.c.val = .agg C
  ld : ∀ w, (∃ u, w = Go.Proofs.YtpkbimmhimgamaaGreat.mix W u) → (loadVar 26 ⟨b, 0, none⟩).run Tryz.prog w = .ok (.agg C) w
theorem CcW.of {W : World} {f : Ft} {b : Nat} {s : ES} (h : EngC W f b s) : ∃ C, CcW W f b s C := ⟨s.c.arr, h, rfl, h.cfgM⟩
set_option maxHeartbeats 4000000 in
set_option maxRecDepth 100000 in
theorem eng_onTick1 (w : World) (f : Ft) (b : Nat) (s : ES) (now : Int) (h : EngC w f b s) (hn : isU64 now) (h1 : s.over ∨ ES.due (s.tick now).now s.tm = true) :
    Calls Tryz.prog 18 #[.pointer (some ⟨b, 0, none⟩), .int .u64 now] w fun e w' => e = .returned (.tuple #[]) ∧ EngTo w f b w' (s.onTick now) := by
  have HO : Hid (s.onTick now = if s.over then s.tick now else ((s.tick now).find.lostTo (s.tick now).lostL).paced) := Lib.hid (by
    unfold ES.onTick
    split
    · rfl
    · rename_i h2
      rw [if_pos (h1.resolve_left h2)])
  have C1 := Lib.hid (h.ticked hn)
  have T1 := Lib.hid (EngTo.of_set h C1.out)
  have KO := Lib.hid (eng_over _ f b _ C1.out)
  have e0 : decide (s.tick now).over = decide s.over := rfl
  rw [e0] at KO
  clear e0
  have e17 : w.cell? ⟨b, 17, none⟩ = some (.int .u64 s.now) := h.c 17 rfl
  have fz17 : w.frozen? ⟨b, 17, none⟩ = false := h.fz 17
  generalize ht : s.tick now = t at *
  generalize hw1 : w.setCell ⟨b, 17, none⟩ (.int .u64 (max s.now now)) = w1 at *
  have HW1 := Lib.hid hw1
  have HT := Lib.hid ht
  clear h
  by_cases ho : s.over
  · rw [if_pos ho] at HO
    rw [decide_eq_true ho] at KO
    clear ho h1 hn ht hw1
    go_enter Tryz.func18, Tryz.ntmps18
    go_upto_region 2 with fail
    rw [HW1.out]
    clear e17 fz17
    go_wp2_with fail
    refine KO.out.mono ?_
    rintro e w2 ⟨rfl, q⟩
    have T2 := Lib.hid (T1.out.below q.below)
    clear q
    go_wp2
    first | (refine bodyPost_ret (results_none rfl _ _ _) rfl ?_) | (refine bodyPost_end (results_none rfl _ _ _) rfl ?_)
    exact ⟨rfl, by rw [HO.out]; exact T2.out⟩
  · rw [if_neg ho] at HO
    rw [decide_eq_false ho] at KO
    have hd := h1.resolve_left ho
    have et : t.tm = s.tm := by rw [← ht]; rfl
    rw [← et] at hd
    have KD := Lib.hid (fun w => clk_due t.now t.tm w)
    rw [hd] at KD
    clear ho h1 hn ht hw1 hd et
    have KF := Lib.hid (fun W (c : EngC W f b t) => eng_find W f b t c)
    go_enter Tryz.func18, Tryz.ntmps18
    go_upto_region 2 with fail
    rw [HW1.out]
    clear e17 fz17
    go_wp2_with fail
    refine KO.out.mono ?_
    rintro e w2 ⟨rfl, q⟩
    have C2 := Lib.hid (C1.out.qt q)
    have T2 := Lib.hid (T1.out.below q.below)
    have Q2 := Lib.hid q
    have D1 : Hid (Chg f.mut w w1) := Lib.hid (by rw [← HW1.out]; exact (Chg.refl f.mut w).setCell (p := ⟨b, 17, none⟩) (.inl ⟨by rw [C1.out.tb]; omega, by rw [C1.out.tb]; omega⟩) _)
    clear q T1 C1 KO HW1
    go_upto_region 3 with fail
    have m17 : ∀ u, (Go.Proofs.YtpkbimmhimgamaaGreat.mix w2 u).cell? ⟨b, 17, none⟩ = some (.int .u64 t.now) := mixc (C2.out.c 17 rfl)
    have m42 : ∀ u, (Go.Proofs.YtpkbimmhimgamaaGreat.mix w2 u).cell? ⟨b, 42, none⟩ = some (.int .u64 t.tm) := mixc (C2.out.c 42 rfl)
    refine wp_region_below (by kernel_rfl) (by kernel_rfl) ?_
    repeat (first | go_big_quiet_step ((go_at_call 58; with_reducible exact Calls.mix_qt (KD.out _))) | quiet_step ((go_at_call 58; with_reducible exact Calls.mix_qt (KD.out _))))
    refine wpQuiet_nil ?_
    intro w3 q
    have C3 := Lib.hid (C2.out.below q)
    have D3 := Lib.hid ((D1.out.thenBelow Q2.out.below D1.out.size).thenBelow q (D1.out.thenBelow Q2.out.below D1.out.size).size)
    clear q m17 m42 C2 Q2 D1 T2 KD
    have hpu := Lib.hid (lost_u C3.out.l.good.keptOk t.lg t.now t.wnd)
    by_cases hL : t.lostL = []
    · rw [lastV_nil hL] at KF
      rw [ES.lostTo_nil hL] at HO
      clear hL
      go_wp2_with fail
      refine (KF.out _ C3.out).mono ?_
      rintro e w4 ⟨rfl, T'⟩
      obtain ⟨f4, c4, t4, d4⟩ := EngTo.trans C3.out.lt (fun _ _ => rfl) D3.out T'
      have K := Lib.hid (eng_paced w4 f4 b _ c4)
      have HX := Lib.hid (fun W s' (T' : EngTo w4 f4 b W s') => (EngTo.trans c4.lt t4 d4 T' : EngTo w f b W s'))
      clear T' c4 t4 d4 C3 D3 KF
      go_wp2_with fail
      refine K.out.mono ?_
      rintro e w5 ⟨rfl, T5⟩
      have T6 := Lib.hid (HX.out _ _ T5)
      clear T5 K HX
      go_wp2
      first | (refine bodyPost_ret (results_none rfl _ _ _) rfl ?_) | (refine bodyPost_end (results_none rfl _ _ _) rfl ?_)
      exact ⟨rfl, by rw [HO.out]; exact T6.out⟩
    · obtain ⟨pn, hp⟩ : ∃ pn, t.lostL.getLast? = some pn := by
        cases hq : t.lostL.getLast? with
        | none => exact absurd (List.getLast?_eq_none_iff.1 hq) hL
        | some x => exact ⟨x, rfl⟩
      have up := hpu.out pn (List.mem_of_getLast? hp)
      rw [lastV_some hp] at KF
      rw [ES.lostTo_some hp, ES.begun_eq] at HO
      clear hL hp hpu
      generalize t.find = r at *
      go_wp2_with fail
      refine (KF.out _ C3.out).mono ?_
      rintro e w4 ⟨rfl, T'⟩
      obtain ⟨f4, c4, t4, d4⟩ := EngTo.trans C3.out.lt (fun _ _ => rfl) D3.out T'
      clear T' C3 D3 KF
      obtain ⟨C, hC⟩ := CcW.of c4
      have HC := Lib.hid hC
      have gx := Lib.hid (begunW_good (num := 1) (den := 2) (cn := 7) (cd := 10) c4.good c4.l.good up ⟨by omega, by omega⟩ ⟨by omega, by omega⟩ ⟨by omega, by omega⟩ ⟨by omega, by omega⟩)
      have K1 := Lib.hid (fun u => led_next _ _ f4.p r.l (c4.mix u).l)
      have K2 := Lib.hid (fun w => ctl_loss r.c r.w r.re r.rc pn r.next w c4.good.c c4.good.w c4.good.re c4.good.rc up)
      rw [hC.hC] at K2
      have HX := Lib.hid (fun W s' (T' : EngTo w4 f4 b W s') => (EngTo.trans c4.lt t4 d4 T' : EngTo w f b W s'))
      have en : r.next = (r.l.all.length : Int) := rfl
      rw [en] at K2 gx HO
      generalize begunW r.c r.w r.re r.rc pn (r.l.all.length : Int) 1 2 7 10 = x at *
      obtain ⟨v, re, rc, bb⟩ := x
      dsimp only [ccv] at K2 gx HO
      generalize r.l.all.length = nx at *
      have m21 : ∀ u, (Go.Proofs.YtpkbimmhimgamaaGreat.mix w4 u).cell? ⟨b, 21, none⟩ = some (.pointer (some ⟨f4.p, 0, none⟩)) := mixc (c4.c 21 rfl)
      have m30 : ∀ u, (Go.Proofs.YtpkbimmhimgamaaGreat.mix w4 u).cell? ⟨b, 30, none⟩ = some (.int .u64 r.w.cw) := mixc (c4.c 30 rfl)
      have m31 : ∀ u, (Go.Proofs.YtpkbimmhimgamaaGreat.mix w4 u).cell? ⟨b, 31, none⟩ = some (.int .u64 r.w.th) := mixc (c4.c 31 rfl)
      have m32 : ∀ u, (Go.Proofs.YtpkbimmhimgamaaGreat.mix w4 u).cell? ⟨b, 32, none⟩ = some (.int .u64 r.w.ac) := mixc (c4.c 32 rfl)
      have m33 : ∀ u, (Go.Proofs.YtpkbimmhimgamaaGreat.mix w4 u).cell? ⟨b, 33, none⟩ = some (.int .u64 r.w.pk) := mixc (c4.c 33 rfl)
      have m34 : ∀ u, (Go.Proofs.YtpkbimmhimgamaaGreat.mix w4 u).cell? ⟨b, 34, none⟩ = some (.int .u64 r.w.ep) := mixc (c4.c 34 rfl)
      have m35 : ∀ u, (Go.Proofs.YtpkbimmhimgamaaGreat.mix w4 u).cell? ⟨b, 35, none⟩ = some (.int .u64 r.w.kk) := mixc (c4.c 35 rfl)
      have m36 : ∀ u, (Go.Proofs.YtpkbimmhimgamaaGreat.mix w4 u).cell? ⟨b, 36, none⟩ = some (.int .u64 r.w.fr) := mixc (c4.c 36 rfl)
      have m37 : ∀ u, (Go.Proofs.YtpkbimmhimgamaaGreat.mix w4 u).cell? ⟨b, 37, none⟩ = some (.int .u64 r.re) := mixc (c4.c 37 rfl)
      have m38 : ∀ u, (Go.Proofs.YtpkbimmhimgamaaGreat.mix w4 u).cell? ⟨b, 38, none⟩ = some (.int .u64 r.rc) := mixc (c4.c 38 rfl)
      clear up hC t4 d4 en
      go_upto_region 6 with fail
      refine wp_region_pure 21 18 _ _ (by kernel_rfl) (by rfl) (by rfl) (by kernel_rfl) (C := fun w' => ∃ u, w' = Go.Proofs.YtpkbimmhimgamaaGreat.mix w4 u) (below_mix (Below.refl _ _).drew) ?_
      simp only [List.take_succ_cons, List.take_zero, List.drop_succ_cons, List.drop_zero]
      repeat (first | (refine wpQuiet_load_part rfl 26 _ rfl _ _ rfl _ HC.out.ld ?_) | go_big_quiet_step ((first | (go_at_call 47; with_reducible exact Calls.mix_qt (K1.out _)) | (go_at_call 60; with_reducible exact Calls.mix_of (K2.out _)))) | quiet_step ((first | (go_at_call 47; with_reducible exact Calls.mix_qt (K1.out _)) | (go_at_call 60; with_reducible exact Calls.mix_of (K2.out _)))))
      refine wpQuiet_nil ?_
      rintro w5 ⟨u, hu⟩
      have q : Below w4.heap.size w4 w5 := hu ▸ mix_below w4 u
      clear hu
      dsimp only [withEdge]
      have c5 := c4.below q
      have e30 : w5.cell? ⟨b, 30, none⟩ = some (.int .u64 r.w.cw) := c5.c 30 rfl
      have e31 : w5.cell? ⟨b, 31, none⟩ = some (.int .u64 r.w.th) := c5.c 31 rfl
      have e32 : w5.cell? ⟨b, 32, none⟩ = some (.int .u64 r.w.ac) := c5.c 32 rfl
      have e33 : w5.cell? ⟨b, 33, none⟩ = some (.int .u64 r.w.pk) := c5.c 33 rfl
      have e34 : w5.cell? ⟨b, 34, none⟩ = some (.int .u64 r.w.ep) := c5.c 34 rfl
      have e35 : w5.cell? ⟨b, 35, none⟩ = some (.int .u64 r.w.kk) := c5.c 35 rfl
      have e36 : w5.cell? ⟨b, 36, none⟩ = some (.int .u64 r.w.fr) := c5.c 36 rfl
      have e37 : w5.cell? ⟨b, 37, none⟩ = some (.int .u64 r.re) := c5.c 37 rfl
      have e38 : w5.cell? ⟨b, 38, none⟩ = some (.int .u64 r.rc) := c5.c 38 rfl
      have fz30 : w5.frozen? ⟨b, 30, none⟩ = false := c5.fz 30
      have fz31 : w5.frozen? ⟨b, 31, none⟩ = false := c5.fz 31
      have fz32 : w5.frozen? ⟨b, 32, none⟩ = false := c5.fz 32
      have fz33 : w5.frozen? ⟨b, 33, none⟩ = false := c5.fz 33
      have fz34 : w5.frozen? ⟨b, 34, none⟩ = false := c5.fz 34
      have fz35 : w5.frozen? ⟨b, 35, none⟩ = false := c5.fz 35
      have fz36 : w5.frozen? ⟨b, 36, none⟩ = false := c5.fz 36
      have fz37 : w5.frozen? ⟨b, 37, none⟩ = false := c5.fz 37
      have fz38 : w5.frozen? ⟨b, 38, none⟩ = false := c5.fz 38
      have T5 := (EngTo.trans c5.lt (fun _ _ => rfl) ((Chg.refl f4.mut w4).thenBelow q (Nat.le_refl _)) (c5.ccTo v re rc gx.out.1 gx.out.2.1 gx.out.2.2))
      simp only [putAll, Nat.reduceAdd] at T5
      have T5 := Lib.hid (HX.out _ _ T5)
      clear m21 m30 m31 m32 m33 m34 m35 m36 m37 m38 c4 c5 q HC gx K1 K2 HX
      go_wp2_with fail
      refine NoPanic.normal ?_
      go_upto_region 7 with fail
      generalize ((((((((w5.setCell ⟨b, 30, none⟩ (.int .u64 v.cw)).setCell ⟨b, 31, none⟩ (.int .u64 v.th)).setCell ⟨b, 32, none⟩ (.int .u64 v.ac)).setCell ⟨b, 33, none⟩ (.int .u64 v.pk)).setCell ⟨b, 34, none⟩ (.int .u64 v.ep)).setCell ⟨b, 35, none⟩ (.int .u64 v.kk)).setCell ⟨b, 36, none⟩ (.int .u64 v.fr)).setCell ⟨b, 37, none⟩ (.int .u64 re)).setCell ⟨b, 38, none⟩ (.int .u64 rc) = w6 at *
      clear e30 e31 e32 e33 e34 e35 e36 e37 e38 fz30 fz31 fz32 fz33 fz34 fz35 fz36 fz37 fz38
      obtain ⟨f6, c6, t6, d6⟩ := T5.out
      have K := Lib.hid (eng_paced w6 f6 b _ c6)
      have HX := Lib.hid (fun W s' (T' : EngTo w6 f6 b W s') => (EngTo.trans c6.lt t6 d6 T' : EngTo w f b W s'))
      clear c6 t6 d6 T5
      go_wp2_with fail
      refine K.out.mono ?_
      rintro e w7 ⟨rfl, T7⟩
      have T8 := Lib.hid (HX.out _ _ T7)
      clear T7 K HX
      go_wp2
      first | (refine bodyPost_ret (results_none rfl _ _ _) rfl ?_) | (refine bodyPost_end (results_none rfl _ _ _) rfl ?_)
      exact ⟨rfl, by rw [HO.out]; exact T8.out⟩
end Go.Proofs.YtpkbimmhimgamaaGreat
namespace Go.Proofs.YtpkbimmhimgamaaGreat
set_option linter.unusedSimpArgs false
set_option linter.unusedVariables false
set_option linter.unnecessarySimpa false
open Go.RowKit
theorem least_u {l : LS} (g : l.Good) : isU64 (l.least : Int) := by
  have h1 := l.least_le
  have h2 := g.len
  have h3 := g.lim1
  unfold isU64
  omega
theorem ES.Good.lay {s : ES} (g : s.Good) (b : Bool) : ({ s with pb := b } : ES).Good := by
  obtain ⟨g1, g2, g3, g4, g5, g6, g7, g8, g9, g10, g11, g12, g13, g14, g15, g16, g17, g18, g19, g20, g21⟩ := g
  exact ⟨g1, g2, g3, g4, g5, g6, g7, g8, g9, g10, g11, g12, g13, g14, g15, g16, g17, g18, g19, g20, g21⟩
theorem EngC.laid {W : World} {f : Ft} {b : Nat} {s : ES} (h : EngC W f b s) (x : Bool) : EngTo W f b (W.setCell ⟨b, 46, none⟩ (.bool x)) { s with pb := x } :=
  .of_set h (h.set { s with pb := x } 46 _ rfl rfl rfl rfl rfl rfl (h.good.lay x))
theorem coll_good {s : ES} (g : s.Good) : ({ cutW s.c s.w 1 2 7 10 with cw := s.c.lea } : Wn).Good := by
  have h := cutW_good (num := 1) (den := 2) (cn := 7) (cd := 10) g.c g.w ⟨by omega, by omega⟩ ⟨by omega, by omega⟩ ⟨by omega, by omega⟩ ⟨by omega, by omega⟩
  exact ⟨g.c.u.2.2.2.2.1, h.th, h.ac, h.pk, h.ep, h.kk, h.fr⟩
set_option maxHeartbeats 4000000 in
set_option maxRecDepth 100000 in
theorem eng_onTick2 (w : World) (f : Ft) (b : Nat) (s : ES) (now : Int) (h : EngC w f b s) (hn : isU64 now) (h1 : ¬ s.over) (h2 : ES.due (s.tick now).now s.tm = false) :
    Calls Tryz.prog 18 #[.pointer (some ⟨b, 0, none⟩), .int .u64 now] w fun e w' => e = .returned (.tuple #[]) ∧ EngTo w f b w' (s.onTick now) := by
  have HO : Hid (s.onTick now = if ES.due (s.tick now).now (s.tick now).dead = true then (s.tick now).fired else s.tick now) := Lib.hid (by
    unfold ES.onTick
    rw [if_neg h1, if_neg (by rw [h2]; simp)])
  have C1 := Lib.hid (h.ticked hn)
  have KO := Lib.hid (eng_over _ f b _ C1.out)
  have e0 : decide (s.tick now).over = decide s.over := rfl
  rw [e0, decide_eq_false h1] at KO
  clear e0
  have e17 : w.cell? ⟨b, 17, none⟩ = some (.int .u64 s.now) := h.c 17 rfl
  have fz17 : w.frozen? ⟨b, 17, none⟩ = false := h.fz 17
  generalize ht : s.tick now = t at *
  generalize hw1 : w.setCell ⟨b, 17, none⟩ (.int .u64 (max s.now now)) = w1 at *
  have HW1 := Lib.hid hw1
  have et : t.tm = s.tm := by rw [← ht]; rfl
  rw [← et] at h2
  have KD := Lib.hid (fun w => clk_due t.now t.tm w)
  have KE := Lib.hid (fun w => clk_due t.now t.dead w)
  rw [h2] at KD
  have D1 : Hid (Chg f.mut w w1) := Lib.hid (by rw [← hw1]; exact (Chg.refl f.mut w).setCell (p := ⟨b, 17, none⟩) (.inl ⟨by rw [h.tb]; omega, by rw [h.tb]; omega⟩) _)
  clear h1 hn ht hw1 h2 et h
  go_enter Tryz.func18, Tryz.ntmps18
  go_upto_region 2 with fail
  rw [HW1.out]
  clear e17 fz17
  go_wp2_with fail
  refine KO.out.mono ?_
  rintro e w2 ⟨rfl, q⟩
  have C2 := Lib.hid (C1.out.qt q)
  have D2 := Lib.hid (D1.out.thenBelow q.below D1.out.size)
  clear q C1 KO HW1 D1
  go_upto_region 3 with fail
  have m17 : ∀ u, (Go.Proofs.YtpkbimmhimgamaaGreat.mix w2 u).cell? ⟨b, 17, none⟩ = some (.int .u64 t.now) := mixc (C2.out.c 17 rfl)
  have m42 : ∀ u, (Go.Proofs.YtpkbimmhimgamaaGreat.mix w2 u).cell? ⟨b, 42, none⟩ = some (.int .u64 t.tm) := mixc (C2.out.c 42 rfl)
  refine wp_region_below (by kernel_rfl) (by kernel_rfl) ?_
  repeat (first | go_big_quiet_step ((go_at_call 58; with_reducible exact Calls.mix_qt (KD.out _))) | quiet_step ((go_at_call 58; with_reducible exact Calls.mix_qt (KD.out _))))
  refine wpQuiet_nil ?_
  intro w3 q
  have C3 := Lib.hid (C2.out.below q)
  have D3 := Lib.hid (D2.out.thenBelow q D2.out.size)
  clear q m17 m42 C2 D2 KD
  have KL := Lib.hid (fun u => eng_deadline _ f b t (C3.out.mix u))
  have m17 : ∀ u, (Go.Proofs.YtpkbimmhimgamaaGreat.mix w3 u).cell? ⟨b, 17, none⟩ = some (.int .u64 t.now) := mixc (C3.out.c 17 rfl)
  go_upto_region 8 with fail
  by_cases hd : ES.due t.now t.dead = true
  · rw [if_pos hd] at HO
    rw [hd] at KE
    clear hd
    generalize t.dead = dd at *
    refine wp_region_below (by kernel_rfl) (by kernel_rfl) ?_
    repeat (first | go_big_quiet_step ((first | (go_at_call 58; with_reducible exact Calls.mix_qt (KE.out _)) | (go_at_call 57; with_reducible exact Calls.mix_of (KL.out _)))) | quiet_step ((first | (go_at_call 58; with_reducible exact Calls.mix_qt (KE.out _)) | (go_at_call 57; with_reducible exact Calls.mix_of (KL.out _)))))
    refine wpQuiet_nil ?_
    intro w4 q
    have C4 := Lib.hid (C3.out.below q)
    have D4 := Lib.hid (D3.out.thenBelow q D3.out.size)
    clear q m17 C3 D3 KE KL
    have HO2 : Hid (t.fired = ((if 3 ≤ firedS t.pc then (({ ({ t with pc := firedS t.pc, pf := t.now } : ES).lose t.l.least with pb := true } : ES).coll) else ({ ({ t with pc := firedS t.pc, pf := t.now } : ES).lose t.l.least with pb := true } : ES)) : ES).paced) := Lib.hid rfl
    have hf := firedS_u t.pc
    have KP := Lib.hid (fun w => pb_fired t.pc t.pf t.now w)
    dsimp only [pbv] at KP
    go_upto_region 9 with fail
    have m28 : ∀ u, (Go.Proofs.YtpkbimmhimgamaaGreat.mix w4 u).cell? ⟨b, 28, none⟩ = some (.int .i64 t.pc) := mixc (C4.out.c 28 rfl)
    have m29 : ∀ u, (Go.Proofs.YtpkbimmhimgamaaGreat.mix w4 u).cell? ⟨b, 29, none⟩ = some (.int .u64 t.pf) := mixc (C4.out.c 29 rfl)
    have m17 : ∀ u, (Go.Proofs.YtpkbimmhimgamaaGreat.mix w4 u).cell? ⟨b, 17, none⟩ = some (.int .u64 t.now) := mixc (C4.out.c 17 rfl)
    refine wp_region_bt 12 (by kernel_rfl) (by kernel_rfl) ?_
    simp only [List.take_succ_cons, List.take_zero, List.drop_succ_cons, List.drop_zero]
    repeat (first | go_big_quiet_step ((go_at_call 62; with_reducible exact Calls.mix_of (KP.out _))) | quiet_step ((go_at_call 62; with_reducible exact Calls.mix_of (KP.out _))))
    refine wpQuiet_nil ?_
    intro w5 q
    have c5 := C4.out.below q
    have e28 : w5.cell? ⟨b, 28, none⟩ = some (.int .i64 t.pc) := c5.c 28 rfl
    have e29 : w5.cell? ⟨b, 29, none⟩ = some (.int .u64 t.pf) := c5.c 29 rfl
    have fz28 : w5.frozen? ⟨b, 28, none⟩ = false := c5.fz 28
    have fz29 : w5.frozen? ⟨b, 29, none⟩ = false := c5.fz 29
    have T5 := EngTo.trans c5.lt (fun _ _ => rfl) (D4.out.thenBelow q D4.out.size) (c5.prTo (firedS t.pc) t.now (by omega) c5.good.now)
    simp only [putAll, Nat.reduceAdd] at T5
    have T5 := Lib.hid T5
    clear m28 m29 m17 c5 q C4 D4 KP hf
    go_upto_region 10 with fail
    generalize (w5.setCell ⟨b, 28, none⟩ (.int .i64 (firedS t.pc))).setCell ⟨b, 29, none⟩ (.int .u64 t.now) = w6 at *
    clear e28 e29 fz28 fz29
    obtain ⟨t1, ht1⟩ : ∃ t1 : ES, t1 = { t with pc := firedS t.pc, pf := t.now } := ⟨_, rfl⟩
    have el : t.l.least = t1.l.least := by rw [ht1]
    have ep : firedS t.pc = (({ t1.lose t1.l.least with pb := true } : ES)).pc := by rw [ht1]; rfl
    rw [← ht1] at T5 HO2
    rw [el, ep] at HO2
    clear ht1 el ep
    obtain ⟨f6, c6, t6, d6⟩ := T5.out
    have C6 := Lib.hid c6
    have ul := least_u c6.l.good
    have K1 := Lib.hid (led_least w6 _ f6.p t1.l c6.l)
    have K2 := Lib.hid (fun W (c : EngC W f6 b t1) => eng_lose W f6 b t1 t1.l.least c ul)
    have HX2 := Lib.hid (fun W (q : Below w6.heap.size w6 W) W' s' (T' : EngTo W f6 b W' s') => (EngTo.trans c6.lt t6 d6 (EngTo.trans (c6.below q).lt (fun _ _ => rfl) ((Chg.refl f6.mut w6).thenBelow q (Nat.le_refl _)) T') : EngTo w f b W' s'))
    have e21 : w6.cell? ⟨b, 21, none⟩ = some (.pointer (some ⟨f6.p, 0, none⟩)) := c6.c 21 rfl
    clear c6 t6 d6 T5 ul
    go_wp2_with fail
    refine K1.out.mono ?_
    rintro e w7 ⟨rfl, q⟩
    have QH := Lib.hid q
    clear q e21
    go_wp2_with fail
    refine (K2.out _ (C6.out.below QH.out)).mono ?_
    rintro e w8 ⟨rfl, T8⟩
    have T8 := Lib.hid (HX2.out _ QH.out _ _ T8)
    clear C6 K1 K2 HX2 QH
    obtain ⟨f8, c8, t8, d8⟩ := T8.out
    have T9 := Lib.hid (EngTo.trans c8.lt t8 d8 (c8.laid true))
    have e46 : w8.cell? ⟨b, 46, none⟩ = some (.bool (t1.lose t1.l.least).pb) := c8.c 46 rfl
    have fz46 := c8.fz 46
    clear c8 t8 d8 T8
    go_upto_region 12 with fail
    generalize w8.setCell ⟨b, 46, none⟩ (.bool true) = w9 at *
    clear e46 fz46
    obtain ⟨r, hr⟩ : ∃ r : ES, r = { t1.lose t1.l.least with pb := true } := ⟨_, rfl⟩
    have er : (t1.lose t1.l.least).pc = r.pc := by rw [hr]
    rw [← hr] at T9 HO2
    rw [er] at HO2
    clear hr er
    obtain ⟨f9, c9, t9, d9⟩ := T9.out
    have e28 : w9.cell? ⟨b, 28, none⟩ = some (.int .i64 r.pc) := c9.c 28 rfl
    by_cases h3 : 3 ≤ r.pc
    · rw [if_pos h3] at HO2
      have dd3 : decide (3 ≤ r.pc) = true := decide_eq_true h3
      obtain ⟨C, hC⟩ := CcW.of c9
      have HC := Lib.hid hC
      have gx := Lib.hid (coll_good c9.good)
      have gg := Lib.hid c9.good
      have K2 := Lib.hid (fun w => ctl_collapse r.c r.w r.re r.rc w c9.good.c c9.good.w)
      rw [hC.hC] at K2
      have HX := Lib.hid (fun W s' (T' : EngTo w9 f9 b W s') => (EngTo.trans c9.lt t9 d9 T' : EngTo w f b W s'))
      have HU : Hid (r.coll = { r with w := { cutW r.c r.w 1 2 7 10 with cw := r.c.lea }, re := r.re, rc := r.rc }) := Lib.hid rfl
      generalize hv : ({ cutW r.c r.w 1 2 7 10 with cw := r.c.lea } : Wn) = v at *
      dsimp only [ccv] at K2
      clear hv
      have m30 : ∀ u, (Go.Proofs.YtpkbimmhimgamaaGreat.mix w9 u).cell? ⟨b, 30, none⟩ = some (.int .u64 r.w.cw) := mixc (c9.c 30 rfl)
      have m31 : ∀ u, (Go.Proofs.YtpkbimmhimgamaaGreat.mix w9 u).cell? ⟨b, 31, none⟩ = some (.int .u64 r.w.th) := mixc (c9.c 31 rfl)
      have m32 : ∀ u, (Go.Proofs.YtpkbimmhimgamaaGreat.mix w9 u).cell? ⟨b, 32, none⟩ = some (.int .u64 r.w.ac) := mixc (c9.c 32 rfl)
      have m33 : ∀ u, (Go.Proofs.YtpkbimmhimgamaaGreat.mix w9 u).cell? ⟨b, 33, none⟩ = some (.int .u64 r.w.pk) := mixc (c9.c 33 rfl)
      have m34 : ∀ u, (Go.Proofs.YtpkbimmhimgamaaGreat.mix w9 u).cell? ⟨b, 34, none⟩ = some (.int .u64 r.w.ep) := mixc (c9.c 34 rfl)
      have m35 : ∀ u, (Go.Proofs.YtpkbimmhimgamaaGreat.mix w9 u).cell? ⟨b, 35, none⟩ = some (.int .u64 r.w.kk) := mixc (c9.c 35 rfl)
      have m36 : ∀ u, (Go.Proofs.YtpkbimmhimgamaaGreat.mix w9 u).cell? ⟨b, 36, none⟩ = some (.int .u64 r.w.fr) := mixc (c9.c 36 rfl)
      have m37 : ∀ u, (Go.Proofs.YtpkbimmhimgamaaGreat.mix w9 u).cell? ⟨b, 37, none⟩ = some (.int .u64 r.re) := mixc (c9.c 37 rfl)
      have m38 : ∀ u, (Go.Proofs.YtpkbimmhimgamaaGreat.mix w9 u).cell? ⟨b, 38, none⟩ = some (.int .u64 r.rc) := mixc (c9.c 38 rfl)
      clear hC t9 d9
      go_upto_region 13 with fail
      refine wp_region_bt 12 (by kernel_rfl) (by kernel_rfl) ?_
      simp only [List.take_succ_cons, List.take_zero, List.drop_succ_cons, List.drop_zero]
      repeat (first | (refine wpQuiet_load_part rfl 26 _ rfl _ _ rfl _ HC.out.ld ?_) | go_big_quiet_step ((go_at_call 65; with_reducible exact Calls.mix_of (K2.out _))) | quiet_step ((go_at_call 65; with_reducible exact Calls.mix_of (K2.out _))))
      refine wpQuiet_nil ?_
      intro w10 q
      have c5 := c9.below q
      have e30 : w10.cell? ⟨b, 30, none⟩ = some (.int .u64 r.w.cw) := c5.c 30 rfl
      have e31 : w10.cell? ⟨b, 31, none⟩ = some (.int .u64 r.w.th) := c5.c 31 rfl
      have e32 : w10.cell? ⟨b, 32, none⟩ = some (.int .u64 r.w.ac) := c5.c 32 rfl
      have e33 : w10.cell? ⟨b, 33, none⟩ = some (.int .u64 r.w.pk) := c5.c 33 rfl
      have e34 : w10.cell? ⟨b, 34, none⟩ = some (.int .u64 r.w.ep) := c5.c 34 rfl
      have e35 : w10.cell? ⟨b, 35, none⟩ = some (.int .u64 r.w.kk) := c5.c 35 rfl
      have e36 : w10.cell? ⟨b, 36, none⟩ = some (.int .u64 r.w.fr) := c5.c 36 rfl
      have e37 : w10.cell? ⟨b, 37, none⟩ = some (.int .u64 r.re) := c5.c 37 rfl
      have e38 : w10.cell? ⟨b, 38, none⟩ = some (.int .u64 r.rc) := c5.c 38 rfl
      have fz30 : w10.frozen? ⟨b, 30, none⟩ = false := c5.fz 30
      have fz31 : w10.frozen? ⟨b, 31, none⟩ = false := c5.fz 31
      have fz32 : w10.frozen? ⟨b, 32, none⟩ = false := c5.fz 32
      have fz33 : w10.frozen? ⟨b, 33, none⟩ = false := c5.fz 33
      have fz34 : w10.frozen? ⟨b, 34, none⟩ = false := c5.fz 34
      have fz35 : w10.frozen? ⟨b, 35, none⟩ = false := c5.fz 35
      have fz36 : w10.frozen? ⟨b, 36, none⟩ = false := c5.fz 36
      have fz37 : w10.frozen? ⟨b, 37, none⟩ = false := c5.fz 37
      have fz38 : w10.frozen? ⟨b, 38, none⟩ = false := c5.fz 38
      have T5 := (EngTo.trans c5.lt (fun _ _ => rfl) ((Chg.refl f9.mut w9).thenBelow q (Nat.le_refl _)) (c5.ccTo v r.re r.rc gx.out gg.out.re gg.out.rc))
      simp only [putAll, Nat.reduceAdd] at T5
      rw [← HU.out] at T5
      have T5 := Lib.hid (HX.out _ _ T5)
      clear m30 m31 m32 m33 m34 m35 m36 m37 m38 c9 c5 q HC gx gg K2 HX HU e28
      go_upto_region 14 with fail
      generalize ((((((((w10.setCell ⟨b, 30, none⟩ (.int .u64 v.cw)).setCell ⟨b, 31, none⟩ (.int .u64 v.th)).setCell ⟨b, 32, none⟩ (.int .u64 v.ac)).setCell ⟨b, 33, none⟩ (.int .u64 v.pk)).setCell ⟨b, 34, none⟩ (.int .u64 v.ep)).setCell ⟨b, 35, none⟩ (.int .u64 v.kk)).setCell ⟨b, 36, none⟩ (.int .u64 v.fr)).setCell ⟨b, 37, none⟩ (.int .u64 r.re)).setCell ⟨b, 38, none⟩ (.int .u64 r.rc) = w11 at *
      clear e30 e31 e32 e33 e34 e35 e36 e37 e38 fz30 fz31 fz32 fz33 fz34 fz35 fz36 fz37 fz38
      obtain ⟨f6, c6, t6, d6⟩ := T5.out
      have K := Lib.hid (eng_paced w11 f6 b _ c6)
      have HX := Lib.hid (fun W s' (T' : EngTo w11 f6 b W s') => (EngTo.trans c6.lt t6 d6 T' : EngTo w f b W s'))
      clear c6 t6 d6 T5
      go_wp2_with fail
      refine K.out.mono ?_
      rintro e w12 ⟨rfl, T7⟩
      have T8 := Lib.hid (HX.out _ _ T7)
      clear T7 K HX
      go_wp2
      first | (refine bodyPost_ret (results_none rfl _ _ _) rfl ?_) | (refine bodyPost_end (results_none rfl _ _ _) rfl ?_)
      exact ⟨rfl, by rw [HO.out, HO2.out]; exact T8.out⟩
    · rw [if_neg h3] at HO2
      have dd3 : decide (3 ≤ r.pc) = false := decide_eq_false h3
      have K := Lib.hid (eng_paced w9 f9 b _ c9)
      have HX := Lib.hid (fun W s' (T' : EngTo w9 f9 b W s') => (EngTo.trans c9.lt t9 d9 T' : EngTo w f b W s'))
      clear c9 t9 d9 T9
      go_wp2_with fail
      refine K.out.mono ?_
      rintro e w12 ⟨rfl, T7⟩
      have T8 := Lib.hid (HX.out _ _ T7)
      clear T7 K HX
      go_wp2
      first | (refine bodyPost_ret (results_none rfl _ _ _) rfl ?_) | (refine bodyPost_end (results_none rfl _ _ _) rfl ?_)
      exact ⟨rfl, by rw [HO.out, HO2.out]; exact T8.out⟩
  · rw [if_neg hd] at HO
    rw [Bool.not_eq_true _ |>.mp hd] at KE
    clear hd
    generalize t.dead = dd at *
    refine wp_region_below (by kernel_rfl) (by kernel_rfl) ?_
    repeat (first | go_big_quiet_step ((first | (go_at_call 58; with_reducible exact Calls.mix_qt (KE.out _)) | (go_at_call 57; with_reducible exact Calls.mix_of (KL.out _)))) | quiet_step ((first | (go_at_call 58; with_reducible exact Calls.mix_qt (KE.out _)) | (go_at_call 57; with_reducible exact Calls.mix_of (KL.out _)))))
    refine wpQuiet_nil ?_
    intro w4 q
    have T4 := Lib.hid (EngTo.trans C3.out.lt (fun _ _ => rfl) D3.out ((EngTo.refl C3.out).below q))
    clear q
    go_wp2
    first | (refine bodyPost_ret (results_none rfl _ _ _) rfl ?_) | (refine bodyPost_end (results_none rfl _ _ _) rfl ?_)
    exact ⟨rfl, by rw [HO.out]; exact T4.out⟩
theorem eng_onTick (w : World) (f : Ft) (b : Nat) (s : ES) (now : Int) (h : EngC w f b s) (hn : isU64 now) :
    Calls Tryz.prog 18 #[.pointer (some ⟨b, 0, none⟩), .int .u64 now] w fun e w' => e = .returned (.tuple #[]) ∧ EngTo w f b w' (s.onTick now) := by
  by_cases h1 : s.over
  · exact eng_onTick1 w f b s now h hn (.inl h1)
  · cases h2 : ES.due (s.tick now).now s.tm with
    | true => exact eng_onTick1 w f b s now h hn (.inr h2)
    | false => exact eng_onTick2 w f b s now h hn h1 h2
end Go.Proofs.YtpkbimmhimgamaaGreat
