/-
  Part of the proof of EngineNumbers.
-/
import Derived.Test.YtpkbimmhimgamaaGreatPAX
import Derived.Test.YtpkbimmhimgamaaGreatPAB
import Derived.Test.YtpkbimmhimgamaaGreatPAE
import Derived.Test.YtpkbimmhimgamaaGreatPAF
namespace Go.Proofs.YtpkbimmhimgamaaGreat
set_option linter.unusedSimpArgs false
set_option linter.unusedVariables false
set_option linter.unnecessarySimpa false
open Go.RowKit
theorem ES.Good.sm {s : ES} (g : s.Good) : isU64 s.smooth := by
  have h := g.c.u
  unfold ES.smooth
  split
  · exact g.r.sm
  · exact h.2.2.2.2.2.2.1
theorem eng_smooth (w : World) (f : Ft) (b : Nat) (s : ES) (h : EngC w f b s) :
    Calls Tryz.prog 51 #[.pointer (some ⟨b, 0, none⟩)] w fun e w' => e = .returned (.int .u64 s.smooth) ∧ Qt w w' := by
  have e23 : w.cell? ⟨b, 23, none⟩ = some (.bool s.r.has) := h.c 23 rfl
  have e25 : w.cell? ⟨b, 25, none⟩ = some (.int .u64 s.r.sm) := h.c 25 rfl
  have e10 : w.cell? ⟨b, 10, none⟩ = some (.int .u64 s.c.fst) := h.c 10 rfl
  have HS : Hid (s.smooth = if s.r.has then s.r.sm else s.c.fst) := Lib.hid rfl
  clear h
  generalize s.smooth = x at *
  generalize s.r.has = hs at *
  cases hs
  · go_enter Tryz.func51, Tryz.ntmps51
    go_wp2
    go_ret
    exact ⟨by rw [HS.out]; rfl, Qt.refl _⟩
  · go_enter Tryz.func51, Tryz.ntmps51
    go_wp2
    go_ret
    exact ⟨by rw [HS.out]; rfl, Qt.refl _⟩
theorem eng_over (w : World) (f : Ft) (b : Nat) (s : ES) (h : EngC w f b s) :
    Calls Tryz.prog 43 #[.pointer (some ⟨b, 0, none⟩)] w fun e w' => e = .returned (.bool (decide s.over)) ∧ Qt w w' := by
  have e18 : w.cell? ⟨b, 18, none⟩ = some (.int .i64 s.st) := h.c 18 rfl
  clear h
  unfold ES.over
  by_cases h3 : s.st = 3
  · have d1 : (s.st == 3) = true := by simp [h3]
    have HD : Hid (decide (s.st = 3 ∨ s.st = 4) = true) := Lib.hid (by simp [h3])
    clear h3
    go_enter Tryz.func43, Tryz.ntmps43
    go_wp2
    go_ret
    exact ⟨congrArg (fun x => Ending.returned (.bool x)) HD.out.symm, Qt.refl _⟩
  · have d1 : (s.st == 3) = false := by simp [h3]
    have HD : Hid (decide (s.st = 3 ∨ s.st = 4) = (s.st == 4)) := Lib.hid (by simp [h3]; rfl)
    clear h3
    go_enter Tryz.func43, Tryz.ntmps43
    go_wp2
    go_ret
    exact ⟨congrArg (fun x => Ending.returned (.bool x)) HD.out.symm, Qt.refl _⟩
set_option maxHeartbeats 1000000 in
theorem eng_rate (w : World) (f : Ft) (b : Nat) (s : ES) (h : EngC w f b s) :
    Calls Tryz.prog 41 #[.pointer (some ⟨b, 0, none⟩)] w fun e w' => e = .returned (.int .u64 s.rate) ∧ Below w.heap.size w w' := by
  have m30 : ∀ u, (Go.Proofs.YtpkbimmhimgamaaGreat.mix w u).cell? ⟨b, 30, none⟩ = some (.int .u64 s.w.cw) := mixc (h.c 30 rfl)
  have m14 : ∀ u, (Go.Proofs.YtpkbimmhimgamaaGreat.mix w u).cell? ⟨b, 14, none⟩ = some (.int .u64 s.c.slo) := mixc (h.c 14 rfl)
  have K1 := Lib.hid (fun u => eng_smooth _ f b s (h.mix u))
  have K2 := Lib.hid (fun w => pc_rate s.w.cw s.smooth s.c.slo w h.good.w.cw h.good.sm)
  have HR : Hid (s.rate = rateS s.w.cw s.smooth s.c.slo) := Lib.hid rfl
  rw [← HR.out] at K2
  clear HR h
  generalize s.rate = y at *
  generalize s.smooth = x at *
  go_enter Tryz.func41, Tryz.ntmps41
  go_wp2
  refine wp_region_below (by kernel_rfl) (by kernel_rfl) ?_
  repeat (first | go_big_quiet_step ((first | (go_at_call 51; with_reducible exact Calls.mix_qt (K1.out _)) | (go_at_call 99; with_reducible first | exact Calls.mix_qt (K2.out _) | exact Calls.mix_of (K2.out _)))) | quiet_step ((first | (go_at_call 51; with_reducible exact Calls.mix_qt (K1.out _)) | (go_at_call 99; with_reducible first | exact Calls.mix_qt (K2.out _) | exact Calls.mix_of (K2.out _)))))
  refine wpQuiet_nil ?_
  intro w1 q
  go_wp2
  go_ret
  exact ⟨rfl, q⟩
theorem que_baseQ (w : World) (F : Nat → Prop) (q : Nat) (s : QS) (h : QueP w F q s) :
    Calls Tryz.prog 54 #[.pointer (some ⟨q, 0, none⟩)] w fun e w' => e = .returned (.int .u64 s.base) ∧ Qt w w' :=
  (que_base w F q s h).mono fun e w' he => ⟨he.1, he.2 ▸ Qt.refl _⟩
set_option maxHeartbeats 1000000 in
theorem eng_deadline (w : World) (f : Ft) (b : Nat) (s : ES) (h : EngC w f b s) :
    Calls Tryz.prog 57 #[.pointer (some ⟨b, 0, none⟩)] w fun e w' => e = .returned (.int .u64 s.dead) ∧ Below w.heap.size w w' := by
  have u := h.good.c.u
  have m28 : ∀ u, (Go.Proofs.YtpkbimmhimgamaaGreat.mix w u).cell? ⟨b, 28, none⟩ = some (.int .i64 s.pc) := mixc (h.c 28 rfl)
  have m29 : ∀ u, (Go.Proofs.YtpkbimmhimgamaaGreat.mix w u).cell? ⟨b, 29, none⟩ = some (.int .u64 s.pf) := mixc (h.c 29 rfl)
  have m21 : ∀ u, (Go.Proofs.YtpkbimmhimgamaaGreat.mix w u).cell? ⟨b, 21, none⟩ = some (.pointer (some ⟨f.p, 0, none⟩)) := mixc (h.c 21 rfl)
  have m23 : ∀ u, (Go.Proofs.YtpkbimmhimgamaaGreat.mix w u).cell? ⟨b, 23, none⟩ = some (.bool s.r.has) := mixc (h.c 23 rfl)
  have m24 : ∀ u, (Go.Proofs.YtpkbimmhimgamaaGreat.mix w u).cell? ⟨b, 24, none⟩ = some (.int .u64 s.r.lt) := mixc (h.c 24 rfl)
  have m25 : ∀ u, (Go.Proofs.YtpkbimmhimgamaaGreat.mix w u).cell? ⟨b, 25, none⟩ = some (.int .u64 s.r.sm) := mixc (h.c 25 rfl)
  have m26 : ∀ u, (Go.Proofs.YtpkbimmhimgamaaGreat.mix w u).cell? ⟨b, 26, none⟩ = some (.int .u64 s.r.vr) := mixc (h.c 26 rfl)
  have m27 : ∀ u, (Go.Proofs.YtpkbimmhimgamaaGreat.mix w u).cell? ⟨b, 27, none⟩ = some (.int .u64 s.r.ls) := mixc (h.c 27 rfl)
  have m10 : ∀ u, (Go.Proofs.YtpkbimmhimgamaaGreat.mix w u).cell? ⟨b, 10, none⟩ = some (.int .u64 s.c.fst) := mixc (h.c 10 rfl)
  have m11 : ∀ u, (Go.Proofs.YtpkbimmhimgamaaGreat.mix w u).cell? ⟨b, 11, none⟩ = some (.int .u64 s.c.gr) := mixc (h.c 11 rfl)
  have m12 : ∀ u, (Go.Proofs.YtpkbimmhimgamaaGreat.mix w u).cell? ⟨b, 12, none⟩ = some (.int .u64 s.c.cap) := mixc (h.c 12 rfl)
  have ht : isU64 s.tmo := by
    have h1 := h.good.r.sm
    have h2 := mulS_u (a := 4) ⟨by omega, by omega⟩ h.good.r.vr
    have h3 := mulS_u (a := 2) ⟨by omega, by omega⟩ u.2.2.2.2.2.2.1
    unfold ES.tmo timeS
    split
    · exact u64_sadd h1 (max_u h2 u.2.2.2.2.2.2.2.1)
    · exact u64_sadd u.2.2.2.2.2.2.1 (max_u h3 u.2.2.2.2.2.2.2.1)
  have K1 := Lib.hid (fun v => led_flight _ _ f.p s.l (h.mix v).l)
  have K2 := Lib.hid (fun w => rtt_timeout s.r.has s.r.lt s.r.sm s.r.vr s.r.ls s.c.fst s.c.gr w h.good.r.sm h.good.r.vr u.2.2.2.2.2.2.1 u.2.2.2.2.2.2.2.1)
  have K3 := Lib.hid (fun w => pb_deadline s.pc s.pf s.tmo s.c.cap (decide (0 < s.l.flight)) w h.good.pf (by have := h.good.pc; omega) ht u.2.2.2.2.2.2.2.2.1)
  have HR : Hid (s.dead = deadS s.pc s.pf (decide (0 < s.l.flight)) s.tmo s.c.cap) := Lib.hid rfl
  have HT : Hid (s.tmo = timeS s.r.has s.r.sm s.r.vr s.c.fst s.c.gr) := Lib.hid rfl
  rw [← HR.out] at K3
  rw [← HT.out] at K2
  clear HR HT h ht u
  generalize s.dead = y at *
  generalize s.tmo = x at *
  generalize s.l.flight = z at *
  dsimp only [rtv, pbv] at K2 K3
  go_enter Tryz.func57, Tryz.ntmps57
  go_wp2
  refine wp_region_below (by kernel_rfl) (by kernel_rfl) ?_
  repeat (first | go_big_quiet_step ((first | (go_at_call 46; with_reducible first | exact Calls.mix_qt (K1.out _) | exact Calls.mix_of (K1.out _)) | (go_at_call 116; with_reducible first | exact Calls.mix_qt (K2.out _) | exact Calls.mix_of (K2.out _)) | (go_at_call 115; with_reducible first | exact Calls.mix_qt (K3.out _) | exact Calls.mix_of (K3.out _)))) | quiet_step ((first | (go_at_call 46; with_reducible first | exact Calls.mix_qt (K1.out _) | exact Calls.mix_of (K1.out _)) | (go_at_call 116; with_reducible first | exact Calls.mix_qt (K2.out _) | exact Calls.mix_of (K2.out _)) | (go_at_call 115; with_reducible first | exact Calls.mix_qt (K3.out _) | exact Calls.mix_of (K3.out _)))))
  refine wpQuiet_nil ?_
  intro w1 q
  go_wp2
  go_ret
  exact ⟨rfl, q⟩
end Go.Proofs.YtpkbimmhimgamaaGreat
namespace Go.Proofs.YtpkbimmhimgamaaGreat
set_option linter.unusedSimpArgs false
set_option linter.unusedVariables false
set_option linter.unnecessarySimpa false
open Go.RowKit
theorem min_u {x y : Int} (hx : isU64 x) (hy : isU64 y) : isU64 (min x y) := by
  unfold isU64 at *
  omega
theorem rate_u {s : ES} (g : s.Good) : isU64 s.rate := by
  have h := g.c.u
  have h1 := downS_u (a := s.w.cw) (b := 1250000) (d := max s.smooth 1) g.w.cw ⟨by omega, by omega⟩ (max_u g.sm ⟨by omega, by omega⟩)
  have h2 := h.2.2.2.2.2.2.2.2.2.2.1
  unfold ES.rate rateS
  unfold isU64 at *
  omega
theorem ES.Good.paced {s : ES} (g : s.Good) : s.paced.Good := by
  have h := g.c.u
  obtain ⟨g1, g2, g3, g4, g5, g6, g7, g8, g9, g10, g11, g12, g13, g14, g15, g16, g17, g18, g19, g20, g21⟩ := g
  exact ⟨g1, g2, g3, g4, g5, g6, g7, g8, g9, g10, g11, g12, fillT_u g13 g14 g15 h.2.2.2.2.2.2.2.2.2.1 g2, max_u g14 g2, min_u (rate_u ⟨g1, g2, g3, g4, g5, g6, g7, g8, g9, g10, g11, g12, g13, g14, g15, g16, g17, g18, g19, g20, g21⟩) ⟨by omega, by omega⟩, g16, g17, g18, g19, g20, g21⟩
theorem row3 {w : World} {f : Ft} {b : Nat} {s s' : ES} (h : EngC w f b s) (i : Nat) (x y z : Value) (hr : engRow f s' = (((engRow f s).setIfInBounds i x).setIfInBounds (i + 1) y).setIfInBounds (i + 2) z) (h1 : s'.ws = s.ws) (h2 : s'.k = s.k) (h3 : s'.q = s.q) (h4 : s'.l = s.l) (h5 : s'.g = s.g) (hg : s'.Good) : EngTo w f b (((w.setCell ⟨b, i, none⟩ x).setCell ⟨b, i + 1, none⟩ y).setCell ⟨b, i + 2, none⟩ z) s' := by
  have c := (((Chg.refl (fun j => j = b) w).setCell (p := ⟨b, i, none⟩) (.inl rfl) x).setCell (p := ⟨b, i + 1, none⟩) (.inl rfl) y).setCell (p := ⟨b, i + 2, none⟩) (.inl rfl) z
  refine .row h c (h.row c ?_ h1 h2 h3 h4 h5 hg)
  rw [hr]
  exact heap_setCell_same _ b (i + 2) _ _ z (heap_setCell_same _ b (i + 1) _ _ y (heap_setCell_same w b i _ _ x h.t))
set_option maxHeartbeats 1000000 in
set_option maxRecDepth 100000 in
theorem eng_paced (w : World) (f : Ft) (b : Nat) (s : ES) (h : EngC w f b s) :
    Calls Tryz.prog 61 #[.pointer (some ⟨b, 0, none⟩)] w fun e w' => e = .returned (.tuple #[]) ∧ EngTo w f b w' s.paced := by
  have u := h.good.c.u
  have g := h.good
  have m39 : ∀ u, (Go.Proofs.YtpkbimmhimgamaaGreat.mix w u).cell? ⟨b, 39, none⟩ = some (.int .u64 s.tk) := mixc (h.c 39 rfl)
  have m40 : ∀ u, (Go.Proofs.YtpkbimmhimgamaaGreat.mix w u).cell? ⟨b, 40, none⟩ = some (.int .u64 s.ta) := mixc (h.c 40 rfl)
  have m41 : ∀ u, (Go.Proofs.YtpkbimmhimgamaaGreat.mix w u).cell? ⟨b, 41, none⟩ = some (.int .u64 s.tr) := mixc (h.c 41 rfl)
  have m13 : ∀ u, (Go.Proofs.YtpkbimmhimgamaaGreat.mix w u).cell? ⟨b, 13, none⟩ = some (.int .u64 s.c.bur) := mixc (h.c 13 rfl)
  have m17 : ∀ u, (Go.Proofs.YtpkbimmhimgamaaGreat.mix w u).cell? ⟨b, 17, none⟩ = some (.int .u64 s.now) := mixc (h.c 17 rfl)
  have K1 := Lib.hid (fun u => eng_rate _ f b s (h.mix u))
  have K2 := Lib.hid (fun w => pc_set s.tk s.ta s.tr s.c.bur s.now s.rate w g.tk g.ta g.tr u.2.2.2.2.2.2.2.2.2.1 g.now)
  have HE := Lib.hid (fun w' (q : Below w.heap.size w w') => h.below q)
  have HF : Hid (∀ w', EngC w' f b s → EngTo w' f b (((w'.setCell ⟨b, 39, none⟩ (.int .u64 (fillT s.tk s.ta s.tr s.c.bur s.now))).setCell ⟨b, 40, none⟩ (.int .u64 (max s.ta s.now))).setCell ⟨b, 41, none⟩ (.int .u64 (min s.rate 4294967296))) s.paced) := Lib.hid (fun w' h' => row3 h' 39 _ _ _ rfl rfl rfl rfl rfl rfl g.paced)
  have HX := Lib.hid (fun w' (q : Below w.heap.size w w') (s' : ES) (T : EngTo w' f b (((w'.setCell ⟨b, 39, none⟩ (.int .u64 (fillT s.tk s.ta s.tr s.c.bur s.now))).setCell ⟨b, 40, none⟩ (.int .u64 (max s.ta s.now))).setCell ⟨b, 41, none⟩ (.int .u64 (min s.rate 4294967296))) s') => (EngTo.step (h.below q) (fun _ _ => rfl) ((Chg.refl f.mut w).thenBelow q (Nat.le_refl _)) T : EngTo w f b _ s'))
  dsimp only [pcv] at K2
  generalize s.rate = y at *
  generalize fillT s.tk s.ta s.tr s.c.bur s.now = x at *
  clear u g h
  go_enter Tryz.func61, Tryz.ntmps61
  go_wp2
  refine wp_region_bt 19 (by kernel_rfl) (by kernel_rfl) ?_
  simp only [List.take_succ_cons, List.take_zero, List.drop_succ_cons, List.drop_zero]
  repeat (first | go_big_quiet_step ((first | (go_at_call 41; with_reducible exact Calls.mix_of (K1.out _)) | (go_at_call 120; with_reducible exact Calls.mix_of (K2.out _)))) | quiet_step ((first | (go_at_call 41; with_reducible exact Calls.mix_of (K1.out _)) | (go_at_call 120; with_reducible exact Calls.mix_of (K2.out _)))))
  refine wpQuiet_nil ?_
  intro w1 q
  have h1 := HE.out _ q
  have fz39 : w1.frozen? ⟨b, 39, none⟩ = false := h1.fz 39
  have fz40 : w1.frozen? ⟨b, 40, none⟩ = false := h1.fz 40
  have fz41 : w1.frozen? ⟨b, 41, none⟩ = false := h1.fz 41
  have e39 : w1.cell? ⟨b, 39, none⟩ = some (.int .u64 s.tk) := h1.c 39 rfl
  have e40 : w1.cell? ⟨b, 40, none⟩ = some (.int .u64 s.ta) := h1.c 40 rfl
  have e41 : w1.cell? ⟨b, 41, none⟩ = some (.int .u64 s.tr) := h1.c 41 rfl
  have T := Lib.hid (HX.out _ q _ (HF.out _ h1))
  clear h1 q
  go_wp2
  refine bodyPost_end (results_none rfl _ _ _) rfl ?_
  exact ⟨rfl, T.out⟩
theorem get_u {l : LS} (g : l.Good) (pn : Int) : isU64 (l.get pn).1.off ∧ isU64 (l.get pn).1.len := by
  unfold LS.get
  split
  · rename_i hp
    have := (g.at' hp).1
    exact ⟨this.off, this.len⟩
  · exact ⟨⟨by simp [LS.zero], by simp [LS.zero]⟩, ⟨by simp [LS.zero], by simp [LS.zero]⟩⟩
theorem settle_lim (l : LS) (pn st : Int) : (l.settle pn st).1.limit = l.limit ∧ (l.settle pn st).1.ring = l.ring := by
  unfold LS.settle
  split <;> exact ⟨rfl, rfl⟩
theorem LedP.grow {w w' : World} {F : Nat → Prop} {p : Nat} {l : LS} (h : LedP w' F p l) : LedP w' (Grow F w) p l := h.chg (Chg.refl (fun _ => False) w') (fun _ _ _ h => h) (fun _ _ h => .inl h)
set_option maxHeartbeats 1000000 in
set_option maxRecDepth 100000 in
theorem eng_lose (w : World) (f : Ft) (b : Nat) (s : ES) (pn : Int) (h : EngC w f b s) (hu : isU64 pn) :
    Calls Tryz.prog 63 #[.pointer (some ⟨b, 0, none⟩), .int .u64 pn] w fun e w' => e = .returned (.tuple #[]) ∧ EngTo w f b w' (s.lose pn) := by
  have ux := get_u h.l.good pn
  have HS : Hid (s.lose pn = { s with l := (s.l.settle pn 3).1, q := (s.q.lost (s.l.get pn).1.off (s.l.get pn).1.len).1 }) := Lib.hid rfl
  have K1 := Lib.hid (fun W (c : EngC W f b s) => led_get W _ f.p s.l pn c.l hu)
  have K2 := Lib.hid (fun W (c : EngC W f b s) => led_settle W _ f.p s.l pn 3 c.l hu)
  generalize (s.l.get pn).1 = x at *
  generalize (s.l.get pn).2 = bx at *
  have H := Lib.hid h
  unfold Snt.val at K1
  have e21 : w.cell? ⟨b, 21, none⟩ = some (.pointer (some ⟨f.p, 0, none⟩)) := h.c 21 rfl
  clear h hu
  go_enter Tryz.func63, Tryz.ntmps63
  go_wp2_with fail
  refine (K1.out _ H.out).mono ?_
  rintro e w1 ⟨rfl, b1⟩
  go_upto_region 1 with fail
  have b2 := box_below w1 (.cells #[.int .u64 x.pn, .int .u64 x.off, .int .u64 x.len, .int .u64 x.nonce, .int .u64 x.at_, .bool x.coin, .bool x.used, .int .i64 x.state] 91)
  have n2 := Lib.hid (heap_alloc_new w1 (.cells #[.int .u64 x.pn, .int .u64 x.off, .int .u64 x.len, .int .u64 x.nonce, .int .u64 x.at_, .bool x.coin, .bool x.used, .int .i64 x.state] 91))
  have B2 := Lib.hid (b1.trans (b2.mono b1.size))
  have hb := Lib.hid b1.size
  generalize w1.alloc (.cells #[.int .u64 x.pn, .int .u64 x.off, .int .u64 x.len, .int .u64 x.nonce, .int .u64 x.at_, .bool x.coin, .bool x.used, .int .i64 x.state] 91) = w2 at *
  generalize w1.heap.size = g1 at *
  have h2 := H.out.below B2.out
  clear e21 b1 b2
  have e21 : w2.cell? ⟨b, 21, none⟩ = some (.pointer (some ⟨f.p, 0, none⟩)) := h2.c 21 rfl
  go_wp2_with fail
  refine (K2.out _ h2).mono ?_
  rintro e w3 ⟨rfl, hl, hc⟩
  have hg1 : f.tag g1 = 0 := by
    rcases Decidable.em (f.tag g1 = 0) with e | e
    · exact e
    · have := H.out.lt g1 e
      have := hb.out
      omega
  have n3 := Lib.hid (hc.blk n2.out (by omega))
  have T := Lib.hid (EngTo.trans h2.lt (fun _ _ => rfl) ((Chg.refl f.mut w).thenBelow B2.out (Nat.le_refl _)) (h2.led hl.grow hc (settle_lim _ _ _).1 (settle_lim _ _ _).2))
  clear e21 h2 hl hc n2
  obtain ⟨f3, c3, t3, d3⟩ := T.out
  have q3 := cells_of n3.out
  have e20 : w3.cell? ⟨b, 20, none⟩ = some (.pointer (some ⟨f3.q, 0, none⟩)) := c3.c 20 rfl
  have C3 := Lib.hid c3
  have K3 := Lib.hid (fun W (c : EngC W f3 b { s with l := (s.l.settle pn 3).1 }) => que_lost W _ f3.q s.q x.off x.len c.q ux.1 ux.2)
  clear T c3
  go_upto_region 2 with fail
  refine wp_region_qtt 8 (by kernel_rfl) (by kernel_rfl) ?_
  simp only [List.take_succ_cons, List.take_zero, List.drop_succ_cons, List.drop_zero]
  repeat (first | go_big_quiet_step ((fail)) | quiet_step ((fail)))
  refine wpQuiet_nil ?_
  intro w4 q4
  go_wp2_with fail
  refine (K3.out _ (C3.out.qt q4)).mono ?_
  rintro e w5 ⟨rfl, hq, hc⟩
  have T := Lib.hid (EngTo.trans C3.out.lt t3 d3 (EngTo.trans (C3.out.qt q4).lt (fun _ _ => rfl) ((Chg.refl f3.mut w3).thenBelow q4.below (Nat.le_refl _)) ((C3.out.qt q4).que hq hc)))
  clear hq hc q4
  go_wp2
  refine bodyPost_end (results_none rfl _ _ _) rfl ?_
  exact ⟨rfl, by rw [HS.out]; exact T.out⟩
end Go.Proofs.YtpkbimmhimgamaaGreat
namespace Go.Proofs.YtpkbimmhimgamaaGreat
set_option linter.unusedSimpArgs false
set_option linter.unusedVariables false
set_option linter.unnecessarySimpa false
open Go.RowKit
namespace LS
def NoFly (s : LS) : Prop := ∀ x ∈ s.all, x.state ≠ 1
theorem ahead_all {l : List Snt} (h : ∀ x ∈ l, x.state ≠ 1) : ahead l = l.length := by
  induction l with
  | nil => rfl
  | cons x l ih =>
    simp only [ahead, if_neg (h x (by simp)), List.length_cons]
    rw [ih (fun y hy => h y (List.mem_cons_of_mem _ hy))]
theorem NoFly.least {s : LS} (h : s.NoFly) : s.least = s.all.length := by
  have e : ahead s.kept = s.kept.length := ahead_all (fun x hx => h x (List.mem_of_mem_drop hx))
  have := s.kept_len
  have := s.low_le
  simp only [LS.least, e, low] at *
  omega
theorem NoFly.room {s : LS} (h : s.NoFly) : s.room = s.ring := by
  unfold LS.room
  rw [h.least]
  omega
theorem NoFly.new (ring limit : Int) : (new ring limit).NoFly := fun x hx => by simp [LS.new] at hx

end LS
end Go.Proofs.YtpkbimmhimgamaaGreat
namespace Go.Proofs.YtpkbimmhimgamaaGreat
set_option linter.unusedSimpArgs false
set_option linter.unusedVariables false
set_option linter.unnecessarySimpa false
open Go.RowKit
end Go.Proofs.YtpkbimmhimgamaaGreat
namespace Go.Proofs.YtpkbimmhimgamaaGreat
set_option linter.unusedSimpArgs false
set_option linter.unusedVariables false
set_option linter.unnecessarySimpa false
open Go.RowKit
attribute [local go_sem ↓] run_min_int run_max_int
end Go.Proofs.YtpkbimmhimgamaaGreat
namespace Go.Proofs.YtpkbimmhimgamaaGreat
set_option linter.unusedSimpArgs false
set_option linter.unusedVariables false
set_option linter.unnecessarySimpa false
open Go.RowKit
attribute [local go_sem ↓] run_min_int run_max_int
set_option maxHeartbeats 4000000 in
set_option maxRecDepth 100000 in
theorem loss_findN (w : World) (F : Nat → Prop) (b : Nat) (s : LS) (lg now win : Int) (h : LedP w F b s) (h1 : isU64 lg) (h2 : isU64 now) (h3 : isU64 win) :
    Calls Tryz.prog 117 #[.pointer (some ⟨b, 0, none⟩), .int .u64 lg, .int .u64 now, .int .u64 win] w fun e w' => ∃ A n c, e = .returned (.tuple #[.slice A n c, .int .u64 (Loss.next lg now win s.kept)]) ∧
      Rd w' 1 A n c (Us (Loss.lost lg now win s.kept)) ∧ (∀ g off, A = some ⟨g, off, none⟩ → 0 < n → w.heap.size ≤ g) ∧ Below w.heap.size w w' := by
  obtain ⟨i0, hi0, hz0, hz1, hz2⟩ := info_parts infoU64
  have g5 := s.kept_le
  have g2 := h.good.ring256
  have HK := Lib.hid h.good.keptOk
  have U1 := Lib.hid h1
  have U2 := Lib.hid h2
  have U3 := Lib.hid h3
  obtain ⟨lg0, lg1⟩ := h1
  obtain ⟨no0, no1⟩ := h2
  obtain ⟨wi0, wi1⟩ := h3
  go_enter Tryz.func117, Tryz.ntmps117
  go_wp2_with fail
  refine (led_all w F b s h).mono ?_
  rintro e w1 ⟨A, c, rfl, ho, b1⟩
  have R1 := Rd.of_own ho
  have HW1 := Lib.hid b1.size
  have HA := Lib.hid (R1.lt (by omega))
  have b1s := b1.size
  have st : Hid (Found w w1 w1 A s.kept.length c s.kept lg now win 0 (.slice none 0 0) 18446744073709551615) := ⟨by simpa [Loss.lost, Us] using World.ownsRow_nil _ _ _ _, by simp [Loss.next], R1, b1, Nat.le_refl _⟩
  clear ho h b1 R1
  go_wp2
  go_loopw [10, 11, 17] (fun v m i wr => ∃ (k : Nat) (q : Int) (z : Value), z = v ∧ k ≤ s.kept.length ∧ i = .int .i64 k ∧ m = .int .u64 q ∧ Hid (Found w w1 wr A s.kept.length c s.kept lg now win k z q)) (fun _ _ i _ => s.kept.length - (intOf i).toNat)
  case atStart => exact ⟨0, _, _, rfl, Nat.zero_le _, rfl, rfl, st⟩
  case round =>
    obtain ⟨k, q, z, rfl, hk, rfl, rfl, HF⟩ := hrel
    by_cases hlt : k < s.kept.length
    · obtain ⟨bb, off, rfl, d0, d1, d2, d3, d4, d5, d6, d7⟩ := HF.out.all.snt hlt
      have L1 := Lib.hid (Loss.lost_take lg now win s.kept k hlt)
      have L2 := Lib.hid (Loss.next_take lg now win s.kept k hlt)
      have okx := HK.out s.kept[k] (List.getElem_mem _)
      have UA := Lib.hid okx.at_
      obtain ⟨p0, p1⟩ := okx.pn
      obtain ⟨t0, t1⟩ := okx.at_
      have hlen := Loss.lost_len lg now win (s.kept.take k)
      have hlen2 := List.length_take_le k s.kept
      have hq : isU64 q := by
        have e := HF.out.next
        have a := Loss.next_le lg now win (s.kept.take k)
        have b := Loss.next_nonneg lg now win (s.kept.take k) wi0 (fun x hx => (HK.out x (List.mem_of_mem_take hx)).at_.1)
        unfold isU64
        omega
      have UQ := Lib.hid hq
      have hgs := HF.out.ge
      clear okx hq
      generalize s.kept[k] = x at *
      have adv : Hid (∀ wr', Below wr.heap.size wr wr' → ¬ Loss.cand lg x → Found w w1 wr' (some ⟨bb, off, none⟩) s.kept.length c s.kept lg now win (k + 1) z q) := fun wr' hb hc =>
        ⟨by rw [L1.out, if_neg (fun h => hc h.1), List.append_nil]; exact own_chg HF.out.row (chg_below hb (F := fun _ => False)) (fun _ _ h => h), by rw [L2.out, if_neg (fun h => hc h.1)]; exact HF.out.next, HF.out.all.below hb, HF.out.bel.trans (hb.mono HF.out.bel.size), Nat.le_trans hgs hb.size⟩
      by_cases e1 : x.pn < lg
      · by_cases e2 : x.state = 1
        · have hc : Loss.cand lg x := ⟨e2, e1⟩
          have Hx := Lib.hid hc
          clear hc adv
          have e2' : (x.state != 1) = false := by simp [e2]
          have RW : Hid (∀ W, Below wr.heap.size wr W → W.ownsRow w1.heap.size 24 1 z (Loss.lost lg now win (s.kept.take k)).length (Us (Loss.lost lg now win (s.kept.take k)))) := fun W hb => own_chg HF.out.row (chg_below hb (F := fun _ => False)) (fun _ _ h => h)
          have ADV : Hid (∀ W v5 w5, Below wr.heap.size wr W → Loss.gone lg now win x → w5.ownsRow w1.heap.size 24 1 v5 ((Loss.lost lg now win (s.kept.take k)).length + 1) (Us (Loss.lost lg now win (s.kept.take k)) ++ [.int .u64 x.pn]) → W.grownBy w5 z.ownBlock →
              Found w w1 w5 (some ⟨bb, off, none⟩) s.kept.length c s.kept lg now win (k + 1) v5 q) := fun W v5 w5 hb hg ho hgr => by
            have hW := HF.out.all.below hb
            refine ⟨?_, ?_, hW.grown hgr (fun b' off' e hn e' => ?_), Below.grownOwn (HF.out.bel.trans (hb.mono HF.out.bel.size)) (RW.out W hb) b1s (Nat.le_trans HF.out.bel.size hb.size) hgr, Nat.le_trans (Nat.le_trans hgs hb.size) hgr.size⟩
            · rw [L1.out, if_pos ⟨Hx.out, hg⟩]
              simpa [Us] using ho
            · rw [L2.out, if_neg (fun h => h.2 hg)]
              exact HF.out.next
            · injection e with e
              injection e with e1 e2 _
              subst e1
              have := (HF.out.row.lt _ e').1
              have := HA.out (by omega) _ _ rfl
              omega
          have hlq : (Loss.lost lg now win (s.kept.take k)).length ≤ 256 := by omega
          by_cases e3 : 3 ≤ lg - x.pn
          · have hx2 : Loss.gone lg now win x := .inl e3
            go_wp2_with (
              at_builtin
              refine wpList_app1 (wr.alloc (.cells #[.int .u64 x.pn, .int .u64 x.off, .int .u64 x.len, .int .u64 x.nonce, .int .u64 x.at_, .bool x.coin, .bool x.used, .int .i64 1] 91)) rfl (.tmp 43) (.tmp 46) 23 rfl w1.heap.size 24 i0 (.int .u64 0) 1 8 Tryz.underlying23 hi0 hz0 hz1 hz2 rfl (by decide) z _ _ rfl (RW.out _ (box_below _ _)) #[.int .u64 x.pn] _ rfl (by simp) rfl (by simp [Value.oneCell']) (by unfold maxLen; omega) (by omega) (Nat.le_trans hgs (box_below _ _).size) ?_
              intro v5 w5 ho5 hg5 hn5
              have F5 := Lib.hid (ADV.out _ v5 w5 (box_below _ _) hx2 ho5 hg5)
              clear ho5 hg5 hn5)
            go_roundw
            case rel => exact ⟨k + 1, q, _, rfl, by omega, by go_num, rfl, F5⟩
            case measure => simp [intOf]; omega
          · have hd3 : decide ((3 : Int) ≤ lg - x.pn) = false := by simp; omega
            by_cases e4 : win ≤ ssub now x.at_
            · have hx2 : Loss.gone lg now win x := .inr e4
              go_wp2_with fail
              refine (clk_since now x.at_ _ U2.out UA.out).mono ?_
              rintro e w2 ⟨rfl, n2, rfl⟩
              go_wp2_with (
                at_builtin
                refine wpList_app1 ((wr.alloc (.cells #[.int .u64 x.pn, .int .u64 x.off, .int .u64 x.len, .int .u64 x.nonce, .int .u64 x.at_, .bool x.coin, .bool x.used, .int .i64 1] 91)).drewN n2) rfl (.tmp 43) (.tmp 46) 23 rfl w1.heap.size 24 i0 (.int .u64 0) 1 8 Tryz.underlying23 hi0 hz0 hz1 hz2 rfl (by decide) z _ _ rfl (RW.out _ (below_drewN (box_below _ _) n2)) #[.int .u64 x.pn] _ rfl (by simp) rfl (by simp [Value.oneCell']) (by unfold maxLen; omega) (by omega) (Nat.le_trans hgs (below_drewN (box_below _ _) n2).size) ?_
                intro v5 w5 ho5 hg5 hn5
                have F5 := Lib.hid (ADV.out _ v5 w5 (below_drewN (box_below _ _) n2) hx2 ho5 hg5)
                clear ho5 hg5 hn5)
              go_roundw
              case rel => exact ⟨k + 1, q, _, rfl, by omega, by go_num, rfl, F5⟩
              case measure => simp [intOf]; omega
            · have hx2 : ¬ Loss.gone lg now win x := fun h => h.elim e3 e4
              have F5 : Hid (∀ wr', Below wr.heap.size wr wr' → Found w w1 wr' (some ⟨bb, off, none⟩) s.kept.length c s.kept lg now win (k + 1) z (min q (sadd x.at_ win))) := fun wr' hb =>
                ⟨by rw [L1.out, if_neg (fun h => hx2 h.2), List.append_nil]; exact RW.out wr' hb, by rw [L2.out, if_pos ⟨Hx.out, hx2⟩, HF.out.next], HF.out.all.below hb, HF.out.bel.trans (hb.mono HF.out.bel.size), Nat.le_trans hgs hb.size⟩
              go_wp2_with fail
              refine (clk_since now x.at_ _ U2.out UA.out).mono ?_
              rintro e w2 ⟨rfl, n2, rfl⟩
              go_wp2_with fail
              refine (clk_after x.at_ win _ UA.out U3.out).mono ?_
              rintro e w2 ⟨rfl, n3, rfl⟩
              have RL := Lib.hid (Rd.lit_at (wr.alloc (.cells #[.int .u64 x.pn, .int .u64 x.off, .int .u64 x.len, .int .u64 x.nonce, .int .u64 x.at_, .bool x.coin, .bool x.used, .int .i64 1] 91)) 1 #[.int .u64 q, .int .u64 (sadd x.at_ win)] 24 2 (Us [q, sadd x.at_ win]) (wr.heap.size + 1) (by simp) rfl rfl (by unfold maxLen; omega))
              go_wp2_with fail
              refine (clk_first (some ⟨wr.heap.size + 1, 0, none⟩) 2 q (sadd x.at_ win) _ (RL.out.dn) UQ.out (u64_sadd UA.out U3.out)).mono ?_
              rintro e w2 ⟨rfl, n4, rfl⟩
              go_wp2
              go_roundw
              case rel =>
                refine ⟨k + 1, _, _, rfl, by omega, by go_num, rfl, F5.out _ ?_⟩
                repeat (first | exact Below.refl _ _ | (refine Below.alloc ?_ (by first | exact Nat.le_refl _ | omega | (simp; done) | (simp; omega)) _) | (refine below_drewN ?_ _))
              case measure => simp [intOf]; omega
        · have e2' : (x.state != 1) = true := by simp [e2]
          go_wp2
          go_roundw
          case rel => exact ⟨k + 1, q, _, rfl, by omega, by go_num, rfl, adv.out _ (box_below _ _) (fun h => e2 h.1)⟩
          case measure => simp [intOf]; omega
      · go_wp2
        go_roundw
        case rel => exact ⟨k + 1, q, _, rfl, by omega, by go_num, rfl, adv.out _ (box_below _ _) (fun h => e1 h.2)⟩
        case measure => simp [intOf]; omega
    · obtain rfl : k = s.kept.length := by omega
      go_wp2
      go_ret2
      have hr := HF.out.row
      have hn := HF.out.next
      rw [List.take_length] at hr hn
      obtain ⟨A', c', rfl, _⟩ := own_slice hr
      exact ⟨A', _, c', by rw [← hn]; rfl, Rd.of_own hr, fun g off e h0 => Nat.le_trans HW1.out (own_base2 hr g off e h0), HF.out.bel⟩
end Go.Proofs.YtpkbimmhimgamaaGreat
namespace Go.Proofs.YtpkbimmhimgamaaGreat
set_option linter.unusedSimpArgs false
set_option linter.unusedVariables false
set_option linter.unnecessarySimpa false
open Go.RowKit
/-- A list of numbers that is only read, apart from an engine's own blocks. -/
structure Lst (w : World) (B : Nat) (A : Option Addr) (n c : Nat) (L : List Int) : Prop where
  r : Rd w 1 A n c (Us L)
  nw : ∀ g off, A = some ⟨g, off, none⟩ → 0 < n → B ≤ g
theorem foldl_take {α : Type} (g : α → Int → α) (z : α) (L : List Int) {k : Nat} (hk : k < L.length) : (L.take (k + 1)).foldl g z = g ((L.take k).foldl g z) (L.getD k 0) := by
  rw [List.take_add_one, List.foldl_append]
  simp [hk]
theorem EngTo.keeps {w W : World} {f : Ft} {b : Nat} {s : ES} (h : EngTo w f b W s) (hl : ∀ k, f.tag k ≠ 0 → k < w.heap.size) {g : Nat} (hg : f.tag g = 0) : ¬ f.mut g := fun hm => by
  unfold Ft.mut at hm
  omega
theorem windS_u {s : ES} (g : s.Good) : isU64 s.wnd := by
  have h := g.c.u
  have h1 := g.r.sm
  have h2 := g.r.lt
  have h3 := downS_u (a := if s.r.has then max s.r.sm s.r.lt else s.c.fst) (b := 9) (d := 8) (by split; exact max_u h1 h2; exact h.2.2.2.2.2.2.1) ⟨by omega, by omega⟩ ⟨by omega, by omega⟩
  unfold ES.wnd windS
  exact max_u h3 h.2.2.2.2.2.2.2.1
theorem next_u {s : ES} (g : s.Good) (gl : s.l.Good) : isU64 (Loss.next s.lg s.now s.wnd s.l.kept) :=
  ⟨Loss.next_nonneg _ _ _ _ (windS_u g).1 (fun x hx => (gl.keptOk x hx).at_.1), by have := Loss.next_le s.lg s.now s.wnd s.l.kept; omega⟩
theorem lost_u {l : List Snt} (h : ∀ x ∈ l, x.ok) (lg now win : Int) : ∀ y ∈ Loss.lost lg now win l, isU64 y := by
  induction l with
  | nil => intro y hy; simp [Loss.lost] at hy
  | cons x l ih =>
    intro y hy
    unfold Loss.lost at hy
    split at hy
    · rcases List.mem_cons.1 hy with rfl | hy
      · exact (h x (by simp)).pn
      · exact ih (fun z hz => h z (by simp [hz])) y hy
    · exact ih (fun z hz => h z (by simp [hz])) y hy
/-- What find hands out. -/
def lastV (L : List Int) : Value := .tuple #[.int .u64 (L.getLast?.getD 0), .bool (!L.isEmpty)]
def ES.timed (s : ES) : ES := { s with tm := Loss.next s.lg s.now s.wnd s.l.kept }
theorem ES.Good.timed {s : ES} (g : s.Good) (gl : s.l.Good) : s.timed.Good := by
  have h := next_u g gl
  obtain ⟨g1, g2, g3, g4, g5, g6, g7, g8, g9, g10, g11, g12, g13, g14, g15, g16, g17, g18, g19, g20, g21⟩ := g
  exact ⟨g1, g2, g3, g4, g5, g6, g7, g8, g9, g10, g11, g12, g13, g14, g15, h, g17, g18, g19, g20, g21⟩
set_option maxHeartbeats 4000000 in
set_option maxRecDepth 100000 in
theorem eng_find (w : World) (f : Ft) (b : Nat) (s : ES) (h : EngC w f b s) :
    Calls Tryz.prog 59 #[.pointer (some ⟨b, 0, none⟩)] w fun e w' => e = .returned (lastV s.lostL) ∧ EngTo w f b w' s.find := by
  have u := h.good.c.u
  have uw := windS_u h.good
  have K1 := Lib.hid (fun w => rtt_window s.r.has s.r.lt s.r.sm s.r.vr s.r.ls s.c.fst s.c.gr w h.good.r.lt h.good.r.sm u.2.2.2.2.2.2.1)
  have K2 := Lib.hid (fun W (c : EngC W f b s) => loss_findN W _ f.p s.l s.lg s.now s.wnd c.l c.good.lg c.good.now uw)
  have HT : Hid (windS s.r.has s.r.lt s.r.sm s.c.fst s.c.gr = s.wnd) := Lib.hid rfl
  have HL : Hid (Loss.lost s.lg s.now s.wnd s.l.kept = s.lostL) := Lib.hid rfl
  have HU := Lib.hid (lost_u h.l.good.keptOk s.lg s.now s.wnd)
  have HN : Hid (s.timed = { s with tm := Loss.next s.lg s.now s.wnd s.l.kept }) := Lib.hid rfl
  have HF : Hid (s.find = s.lostL.foldl ES.lose s.timed) := Lib.hid rfl
  have HG := Lib.hid (h.good.timed h.l.good)
  have Hlen : Hid ((Loss.lost s.lg s.now s.wnd s.l.kept).length ≤ 256) := Lib.hid (by have h1 := Loss.lost_len s.lg s.now s.wnd s.l.kept; have h2 := s.l.kept_le; have h3 := h.l.good.ring256; omega)
  rw [HT.out] at K1
  dsimp only [rtv] at K1
  have HS : Hid (∀ W, EngC W f b s → EngTo W f b (W.setCell ⟨b, 42, none⟩ (.int .u64 (Loss.next s.lg s.now s.wnd s.l.kept))) s.timed) := Lib.hid (fun W c => .row c ((Chg.refl (fun j => j = b) W).setCell (p := ⟨b, 42, none⟩) (.inl rfl) _) (c.set s.timed 42 _ rfl rfl rfl rfl rfl rfl HG.out))
  have x21 : ∀ u, (mixF (fun _ => False) w u).cell? ⟨b, 21, none⟩ = some (.pointer (some ⟨f.p, 0, none⟩)) := mixF_cell (h.c 21 rfl) id
  have x43 : ∀ u, (mixF (fun _ => False) w u).cell? ⟨b, 43, none⟩ = some (.int .u64 s.lg) := mixF_cell (h.c 43 rfl) id
  have x17 : ∀ u, (mixF (fun _ => False) w u).cell? ⟨b, 17, none⟩ = some (.int .u64 s.now) := mixF_cell (h.c 17 rfl) id
  have x23 : ∀ u, (mixF (fun _ => False) w u).cell? ⟨b, 23, none⟩ = some (.bool s.r.has) := mixF_cell (h.c 23 rfl) id
  have x24 : ∀ u, (mixF (fun _ => False) w u).cell? ⟨b, 24, none⟩ = some (.int .u64 s.r.lt) := mixF_cell (h.c 24 rfl) id
  have x25 : ∀ u, (mixF (fun _ => False) w u).cell? ⟨b, 25, none⟩ = some (.int .u64 s.r.sm) := mixF_cell (h.c 25 rfl) id
  have x26 : ∀ u, (mixF (fun _ => False) w u).cell? ⟨b, 26, none⟩ = some (.int .u64 s.r.vr) := mixF_cell (h.c 26 rfl) id
  have x27 : ∀ u, (mixF (fun _ => False) w u).cell? ⟨b, 27, none⟩ = some (.int .u64 s.r.ls) := mixF_cell (h.c 27 rfl) id
  have x10 : ∀ u, (mixF (fun _ => False) w u).cell? ⟨b, 10, none⟩ = some (.int .u64 s.c.fst) := mixF_cell (h.c 10 rfl) id
  have x11 : ∀ u, (mixF (fun _ => False) w u).cell? ⟨b, 11, none⟩ = some (.int .u64 s.c.gr) := mixF_cell (h.c 11 rfl) id
  have H := Lib.hid h
  clear h u uw HT
  generalize Loss.next s.lg s.now s.wnd s.l.kept = y at *
  rw [HL.out] at K2 HU Hlen
  generalize s.lostL = L at *
  generalize s.wnd = x at *
  clear HL
  go_enter Tryz.func59, Tryz.ntmps59
  go_upto_region 1 with fail
  go_cut [4, 5] (fun s4 s5 wx => ∃ A c, s4 = .slice A L.length c ∧ s5 = .int .u64 y ∧ Hid (Lst wx w.heap.size A L.length c L ∧ Below w.heap.size w wx))
  case first =>
    refine wp_region_chg (fun _ => False) (by kernel_rfl) (by kernel_rfl) ?_
    repeat (refine wpMix_seg 1 _ _ rfl ?_; simp only [List.take_succ_cons, List.take_zero, List.drop_succ_cons, List.drop_zero]; go_big_quiet_step (fail); refine wpQuiet_nil ?_)
    refine wpMix_bar rfl (by rfl) ?_
    go_wp2_with fail
    refine (K1.out _).mono ?_
    rintro e w1 ⟨rfl, q1⟩
    go_wp2
    refine ⟨chg_mixF ((chg_below (((Below.refl _ _).drew).trans q1))), ?_⟩
    repeat (refine wpMix_seg 1 _ _ rfl ?_; simp only [List.take_succ_cons, List.take_zero, List.drop_succ_cons, List.drop_zero]; go_big_quiet_step (fail); refine wpQuiet_nil ?_)
    have b1 : Below w.heap.size w w1 := ((Below.refl _ _).drew).trans q1
    clear q1
    refine wpMix_bar rfl (by rfl) ?_
    go_wp2_with fail
    refine (K2.out _ (H.out.below b1)).mono ?_
    rintro e w2 ⟨A, n, c, rfl, r2, nw, b2⟩
    have hn : n = L.length := by have := r2.len; simpa [Us] using this.symm
    subst hn
    have HR := Lib.hid (And.intro (⟨r2, fun g off e h0 => Nat.le_trans b1.size (nw g off e h0)⟩ : Lst w2 w.heap.size A L.length c L) (b1.trans (b2.mono b1.size)))
    have hc2 := Lib.hid (chg_mixF (chg_below HR.out.2 (F := fun _ => False)))
    clear b1 r2 nw b2
    go_wp2
    refine ⟨hc2.out, ?_⟩
    repeat (refine wpMix_seg 1 _ _ rfl ?_; simp only [List.take_succ_cons, List.take_zero, List.drop_succ_cons, List.drop_zero]; go_big_quiet_step (fail); refine wpQuiet_nil ?_)
    refine wpMix_nil ?_
    go_wp2_with fail
    go_meet
    exact ⟨_, _, rfl, rfl, HR⟩
  case rest =>
    obtain ⟨A, c, rfl, rfl, HR⟩ := hcut
    have c1 := H.out.below HR.out.2
    have T1 := Lib.hid (HS.out wc c1)
    have fz42 : wc.frozen? ⟨b, 42, none⟩ = false := c1.fz 42
    have e42 : wc.cell? ⟨b, 42, none⟩ = some (.int .u64 s.tm) := c1.c 42 rfl
    clear x21 x43 x17 x23 x24 x25 x26 x27 x10 x11 K1 K2 HS HN HG
    have hz := HR.out.2.size
    have HC : Hid (∀ g off, A = some ⟨g, off, none⟩ → 0 < L.length → ¬ f.mut g) := Lib.hid (fun g off e h0 hm => by
      have h1 := HR.out.1.nw g off e h0
      have h2 := H.out.lt g (by unfold Ft.mut at hm; omega)
      omega)
    have HQ : Hid (∀ W s', EngTo wc f b W s' → Rd W 1 A L.length c (Us L)) := Lib.hid (fun W s' T => by
      obtain ⟨f', c', t', d'⟩ := T
      exact HR.out.1.r.chg d' HC.out)
    have hcap := (HR.out.1.r.cap)
    have hmax := Hlen.out
    go_upto_region 3 with fail
    generalize hw2 : wc.setCell ⟨b, 42, none⟩ (.int .u64 y) = w2 at *
    clear hw2 c1 fz42 e42
    go_wp2
    go_loopw [7, 45] (fun _ s45 wr => ∃ k : Nat, k ≤ L.length ∧ s45 = .int .i64 k ∧ Hid (EngTo wc f b wr ((L.take k).foldl ES.lose s.timed))) (fun _ i _ => L.length - (intOf i).toNat)
    case atStart => exact ⟨0, by omega, rfl, T1⟩
    case round =>
      obtain ⟨k, hk, rfl, T⟩ := hrel
      by_cases hlt : k < L.length
      · obtain ⟨bb, off, rfl, d0⟩ := (HQ.out _ _ T.out).u64 hlt
        have hu := HU.out (L.getD k 0) (by rw [List.getD_eq_getElem?_getD, List.getElem?_eq_getElem hlt]; exact List.getElem_mem hlt)
        have HT := Lib.hid (foldl_take ES.lose s.timed L hlt)
        obtain ⟨f3, c3, t3, d3⟩ := T.out
        have K := Lib.hid (eng_lose wr f3 b _ (L.getD k 0) c3 hu)
        have HX := Lib.hid (fun W s' (T' : EngTo wr f3 b W s') => (EngTo.trans c3.lt t3 d3 T' : EngTo wc f b W s'))
        have e1 : decide ((k : Int) < (L.length : Int)) = true := decide_eq_true (by omega)
        clear c3 t3 d3 T hu
        generalize L.getD k 0 = pn at *
        go_wp2_with fail
        refine K.out.mono ?_
        rintro e w5 ⟨rfl, T5⟩
        have T6 := Lib.hid (HX.out _ _ T5)
        clear T5 K HX
        go_wp2
        refine ⟨⟨k + 1, by omega, by simp, ?_⟩, ?_⟩
        · rw [HT.out]
          exact T6
        · simp [intOf]
          omega
      · have hkl : k = L.length := by omega
        subst hkl
        rw [List.take_length, ← HF.out] at T
        have e1 : decide ((L.length : Int) < (L.length : Int)) = false := decide_eq_false (by omega)
        by_cases hL : L.length = 0
        · have e2 : L = [] := List.length_eq_zero_iff.1 hL
          have HV : Hid (lastV L = .tuple #[.int .u64 0, .bool false]) := Lib.hid (by rw [e2]; rfl)
          have e3 : ((L.length : Int) == 0) = true := by simp [hL]
          have e4 : (L.length == 0) = true := by simp [hL]
          clear e2
          go_wp2
          go_ret2
          exact ⟨congrArg Ending.returned HV.out.symm, EngTo.step (H.out.below HR.out.2) (fun _ _ => rfl) ((Chg.refl f.mut w).thenBelow HR.out.2 (Nat.le_refl _)) T.out⟩
        · obtain ⟨m, hm⟩ : ∃ m, L.length = m + 1 := ⟨L.length - 1, by omega⟩
          obtain ⟨bb, off, rfl, d0⟩ := (HQ.out _ _ T.out).u64 (k := m) (show m < L.length by omega)
          have HV : Hid (lastV L = .tuple #[.int .u64 (L.getD m 0), .bool true]) := Lib.hid (by
            have e1 : L.getLast?.getD 0 = L.getD m 0 := by rw [List.getLast?_eq_getElem?, hm]; simp
            have e2 : L.isEmpty = false := by cases L with | nil => simp at hm | cons => rfl
            unfold lastV
            rw [e1, e2]
            rfl)
          have e3 : ((L.length : Int) == 0) = false := beq_eq_false_iff_ne.2 (by omega)
          have e4 : (L.length == 0) = false := by simp [hL]
          have e5 : IntKind.i64.wrap ((L.length : Int) - 1) = (m : Int) := by rw [IntWalk.i64_in _ (by omega)]; omega
          have e6 : m < L.length := by omega
          generalize L.getD m 0 = z at *
          clear hL hm
          go_wp2
          go_ret2
          exact ⟨congrArg Ending.returned HV.out.symm, EngTo.step (H.out.below HR.out.2) (fun _ _ => rfl) ((Chg.refl f.mut w).thenBelow HR.out.2 (Nat.le_refl _)) T.out⟩
end Go.Proofs.YtpkbimmhimgamaaGreat
