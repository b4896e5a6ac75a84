/-
  Part of the proof of EngineRanges.
-/
import Derived.Test.YtpkbimmhimgamaaPAU
import Derived.Test.YtpkbimmhimgamaaPAV
namespace Go.Proofs.Ytpkbimmhimgamaa
set_option linter.unusedSimpArgs false
set_option linter.unusedVariables false
set_option linter.unnecessarySimpa false
open Go.RowKit
/-- The bytes that a poll gives. -/
def pollB (r : ES × Option DatD × Int × Int) : List Int := match r.2.1 with
  | some d => putDatP d
  | none => if r.2.2.1 = 0 then 3 :: putN r.2.2.2 else []
def PollTo (w : World) (f : Ft) (b : Nat) (s : ES) (now : Int) (e : Ending) (w' : World) : Prop := ∃ A c, e = .returned (.tuple #[.slice A (pollB (s.poll now)).length c, .int .i64 (s.poll now).2.2.1]) ∧
  Rd8 w' w.heap.size A (pollB (s.poll now)).length c (pollB (s.poll now)) ∧ EngTo w f b w' (s.poll now).1
theorem pollTo_of {w w' : World} {f : Ft} {b : Nat} {s : ES} {now : Int} {e : Ending} {R : ES × Option DatD × Int × Int} (h : s.poll now = R) {A : Option Addr} {c : Nat} (he : e = .returned (.tuple #[.slice A (pollB R).length c, .int .i64 R.2.2.1])) (hr : Rd8 w' w.heap.size A (pollB R).length c (pollB R)) (ht : EngTo w f b w' R.1) : PollTo w f b s now e w' := by
  subst h
  exact ⟨A, c, he, hr, ht⟩
theorem rd8_nil (w : World) (B : Nat) : Rd8 w B none 0 0 [] := ⟨Rd.nil_ _ _, fun _ _ e => by simp at e⟩
theorem pollTo_no {w w' : World} {f : Ft} {b : Nat} {s : ES} {now n : Int} {e : Ending} {t : ES} (h : s.poll now = (t, none, n, 0)) (hn : n ≠ 0) (he : e = .returned (.tuple #[.slice none 0 0, .int .i64 n])) (ht : EngTo w f b w' t) : PollTo w f b s now e w' := by
  have e0 : pollB (t, none, n, 0) = [] := by unfold pollB; exact if_neg hn
  exact pollTo_of h (A := none) (c := 0) (by rw [e0]; exact he) (by rw [e0]; exact rd8_nil _ _) ht
theorem ES.Good.owes {s : ES} (g : s.Good) {a c : Int} (h1 : 0 ≤ a ∧ a ≤ 1000000000) (h2 : 0 ≤ c ∧ c ≤ 1000000000) : ({ s with told := a, owed := c } : ES).Good := by
  obtain ⟨g1, g2, g3, g4, g5, g6, g7, g8, g9, g10, g11, g12, g13, g14, g15, g16, g17, g18, g19, g20, g21⟩ := g
  exact ⟨g1, g2, g3, g4, g5, g6, g7, g8, g9, g10, g11, g12, g13, g14, g15, g16, g17, h1, h2, g20, g21⟩
theorem ES.Good.pay {s : ES} (g : s.Good) {a c : Int} (h1 : isU64 a) (h2 : isU64 c) : ({ s with tk := a, ta := c } : ES).Good := by
  obtain ⟨g1, g2, g3, g4, g5, g6, g7, g8, g9, g10, g11, g12, g13, g14, g15, g16, g17, g18, g19, g20, g21⟩ := g
  exact ⟨g1, g2, g3, g4, g5, g6, g7, g8, g9, g10, g11, g12, h1, h2, g15, g16, g17, g18, g19, g20, g21⟩
theorem poll_over (s : ES) (now : Int) (h : (s.tick now).over) : s.poll now = (s.tick now, none, 9, 0) := by
  unfold ES.poll
  simp only [if_pos h]
theorem poll_owed (s : ES) (now : Int) (h : ¬ (s.tick now).over) (h2 : 0 < (s.tick now).owed) : s.poll now = ({ s.tick now with owed := (s.tick now).owed - 1, told := (s.tick now).told + 1 }, none, 0, (s.tick now).told) := by
  unfold ES.poll
  simp only [if_neg h, if_pos h2]
theorem poll_none (s : ES) (now : Int) (h : ¬ (s.tick now).over) (h2 : ¬ 0 < (s.tick now).owed) (h3 : (s.tick now).q.next (s.tick now).c.mss = none) : s.poll now = (s.tick now, none, 10, 0) := by
  unfold ES.poll
  simp only [if_neg h, if_neg h2, h3]
theorem poll_some (s : ES) (now : Int) {a z : Nat} (h : ¬ (s.tick now).over) (h2 : ¬ 0 < (s.tick now).owed) (h3 : (s.tick now).q.next (s.tick now).c.mss = some (a, z)) : s.poll now =
    if (s.tick now).pb = false ∧ (s.tick now).w.cw < (s.tick now).l.flight + (z - a : Nat) then (s.tick now, none, 7, 0) else
    if (s.tick now).c.lim < (s.tick now).next then ({ s.tick now with st := 3 }, none, 8, 0) else
    if (s.tick now).l.room < 1 then (s.tick now, none, 7, 0) else
    if fillT (s.tick now).tk (s.tick now).ta (s.tick now).tr (s.tick now).c.bur (s.tick now).now < fullS (z - a : Nat) then (s.tick now, none, 7, 0) else
    ((({ s.tick now with tk := takeT (s.tick now).tk (s.tick now).ta (s.tick now).tr (s.tick now).c.bur (s.tick now).now (z - a : Nat), ta := max (s.tick now).ta (s.tick now).now } : ES).skipped).sendP a z, some ((({ s.tick now with tk := takeT (s.tick now).tk (s.tick now).ta (s.tick now).tr (s.tick now).c.bur (s.tick now).now (z - a : Nat), ta := max (s.tick now).ta (s.tick now).now } : ES).skipped).datOf a z), 0, 0) := by
  unfold ES.poll
  simp only [if_neg h, if_neg h2, h3]
set_option maxHeartbeats 8000000 in
set_option maxRecDepth 100000 in
theorem eng_poll1 (w : World) (f : Ft) (b : Nat) (s : ES) (now : Int) (h : EngC w f b s) (hn : isU64 now) (ho : (s.tick now).over) :
    Calls Try.prog 19 #[.pointer (some ⟨b, 0, none⟩), .int .u64 now] w fun e w' => PollTo w f b s now e w' := by
  have HR := Lib.hid (poll_over s now ho)
  have hov : decide (s.tick now).over = true := decide_eq_true ho
  clear ho
  have C1 := Lib.hid (h.ticked hn)
  have KO := Lib.hid (eng_over _ f b _ C1.out)
  rw [hov] at KO
  have e17 : w.cell? ⟨b, 17, none⟩ = some (.int .u64 s.now) := h.c 17 rfl
  have fz17 : w.frozen? ⟨b, 17, none⟩ = false := h.fz 17
  generalize ht : s.tick now = t at *
  have D1 : Hid (Chg f.mut w (w.setCell ⟨b, 17, none⟩ (.int .u64 (max s.now now)))) := Lib.hid ((Chg.refl f.mut w).setCell (p := ⟨b, 17, none⟩) (.inl ⟨by rw [h.tb]; omega, by rw [h.tb]; omega⟩) _)
  have HL := Lib.hid h.lt
  clear hn ht h
  go_enter Try.func19, Try.ntmps19
  go_upto_region 4 with fail
  generalize w.setCell ⟨b, 17, none⟩ (.int .u64 (max s.now now)) = w1 at *
  clear e17 fz17
  go_wp2_with fail
  refine KO.out.mono ?_
  rintro e w2 ⟨rfl, q⟩
  have C2 := Lib.hid (C1.out.qt q)
  have D2 := Lib.hid (D1.out.thenBelow q.below D1.out.size)
  clear q C1 KO D1
  have T2 := Lib.hid (EngTo.trans C2.out.lt (fun _ _ => rfl) D2.out (EngTo.refl C2.out))
  clear C2 D2 HL hov
  go_wp2
  go_ret2
  exact pollTo_no HR.out (by decide) rfl T2.out
set_option maxHeartbeats 8000000 in
set_option maxRecDepth 100000 in
theorem eng_poll2 (w : World) (f : Ft) (b : Nat) (s : ES) (now : Int) (h : EngC w f b s) (hn : isU64 now) (ho : ¬ (s.tick now).over) (hw : 0 < (s.tick now).owed) (ht9 : (s.tick now).told + 1 ≤ 1000000000) :
    Calls Try.prog 19 #[.pointer (some ⟨b, 0, none⟩), .int .u64 now] w fun e w' => PollTo w f b s now e w' := by
  have HR := Lib.hid (poll_owed s now ho hw)
  have hov : decide (s.tick now).over = false := decide_eq_false ho
  have g := (h.good.tick hn)
  have d1 : decide (0 < (s.tick now).owed) = true := decide_eq_true hw
  have k1 : IntKind.u64.wrap ((s.tick now).owed - 1) = (s.tick now).owed - 1 := IntWalk.u64_in _ (by have := g.owed; omega)
  have k2 : IntKind.u64.wrap ((s.tick now).told + 1) = (s.tick now).told + 1 := IntWalk.u64_in _ (by have := g.told; omega)
  have G := Lib.hid (g.owes (a := (s.tick now).told + 1) (c := (s.tick now).owed - 1) (by have := g.told; omega) (by have := g.owed; omega))
  have G2 := Lib.hid (g.owes (a := (s.tick now).told) (c := (s.tick now).owed - 1) g.told (by have := g.owed; omega))
  have KC := Lib.hid (fun W => ack_challenge (s.tick now).told W g.told.1 (by have := g.told; omega))
  clear ho hw g ht9
  have C1 := Lib.hid (h.ticked hn)
  have KO := Lib.hid (eng_over _ f b _ C1.out)
  rw [hov] at KO
  have e17 : w.cell? ⟨b, 17, none⟩ = some (.int .u64 s.now) := h.c 17 rfl
  have fz17 : w.frozen? ⟨b, 17, none⟩ = false := h.fz 17
  generalize ht : s.tick now = t at *
  have D1 : Hid (Chg f.mut w (w.setCell ⟨b, 17, none⟩ (.int .u64 (max s.now now)))) := Lib.hid ((Chg.refl f.mut w).setCell (p := ⟨b, 17, none⟩) (.inl ⟨by rw [h.tb]; omega, by rw [h.tb]; omega⟩) _)
  have HL := Lib.hid h.lt
  clear hn ht h
  go_enter Try.func19, Try.ntmps19
  go_upto_region 4 with fail
  generalize w.setCell ⟨b, 17, none⟩ (.int .u64 (max s.now now)) = w1 at *
  clear e17 fz17
  go_wp2_with fail
  refine KO.out.mono ?_
  rintro e w2 ⟨rfl, q⟩
  have C2 := Lib.hid (C1.out.qt q)
  have D2 := Lib.hid (D1.out.thenBelow q.below D1.out.size)
  clear q C1 KO D1
  have e45 : w2.cell? ⟨b, 45, none⟩ = some (.int .u64 t.owed) := C2.out.c 45 rfl
  have e44 : w2.cell? ⟨b, 44, none⟩ = some (.int .u64 t.told) := C2.out.c 44 rfl
  go_upto_region 7 with fail
  go_wp2_with fail
  refine (KC.out _).mono ?_
  rintro e w3 ⟨A, c, rfl, r, q⟩
  have C3 := Lib.hid (C2.out.below q)
  have D3 := Lib.hid (D2.out.thenBelow q D2.out.size)
  have R3 := Lib.hid r
  have h1 := C3.out.set { t with owed := t.owed - 1 } 45 (.int .u64 (t.owed - 1)) rfl rfl rfl rfl rfl rfl G2.out
  have h2 := Lib.hid (h1.set { t with told := t.told + 1, owed := t.owed - 1 } 44 (.int .u64 (t.told + 1)) rfl rfl rfl rfl rfl rfl G.out)
  have T5 := Lib.hid (EngTo.trans C3.out.lt (fun _ _ => rfl) D3.out (EngTo.row C3.out (((Chg.refl (fun j => j = b) w3).setCell (p := ⟨b, 45, none⟩) (.inl rfl) (.int .u64 (t.owed - 1))).setCell (p := ⟨b, 44, none⟩) (.inl rfl) (.int .u64 (t.told + 1))) h2.out))
  have e45 : w3.cell? ⟨b, 45, none⟩ = some (.int .u64 t.owed) := C3.out.c 45 rfl
  have e44 : w3.cell? ⟨b, 44, none⟩ = some (.int .u64 t.told) := C3.out.c 44 rfl
  have fz45 : w3.frozen? ⟨b, 45, none⟩ = false := C3.out.fz 45
  have fz44 : w3.frozen? ⟨b, 44, none⟩ = false := C3.out.fz 44
  have e44' : (w3.setCell ⟨b, 45, none⟩ (.int .u64 (t.owed - 1))).cell? ⟨b, 44, none⟩ = some (.int .u64 t.told) := h1.c 44 rfl
  have f44' := h1.fz 44
  have R5 : Hid (Rd8 ((w3.setCell ⟨b, 45, none⟩ (.int .u64 (t.owed - 1))).setCell ⟨b, 44, none⟩ (.int .u64 (t.told + 1))) w.heap.size A (3 :: putN t.told).length c (3 :: putN t.told)) := Lib.hid ⟨R3.out.rd.chg (((Chg.refl (fun j => j = b) w3).setCell (p := ⟨b, 45, none⟩) (.inl rfl) (.int .u64 (t.owed - 1))).setCell (p := ⟨b, 44, none⟩) (.inl rfl) (.int .u64 (t.told + 1))) (fun k off e h0 => by have h1 := R3.out.nw k off e (by simpa [U8] using h0); have h2 := lt_of_block C2.out.t; omega), fun k off e h0 => Nat.le_trans D2.out.size (R3.out.nw k off e h0)⟩
  clear r q h1 h2 C2 D2 HL hov G G2 KC C3 D3 R3
  generalize hP : (3 :: putN t.told) = P at *
  go_wp2
  go_ret2
  refine pollTo_of HR.out (A := A) (c := c) ?_ ?_ T5.out
  · show _ = Ending.returned (.tuple #[.slice A (3 :: putN t.told).length c, .int .i64 0])
    rw [hP]
    rfl
  · show Rd8 _ _ _ (3 :: putN t.told).length _ (3 :: putN t.told)
    rw [hP]
    exact R5.out
set_option maxHeartbeats 8000000 in
set_option maxRecDepth 100000 in
theorem eng_poll3 (w : World) (f : Ft) (b : Nat) (s : ES) (now : Int) (h : EngC w f b s) (hn : isU64 now) (ho : ¬ (s.tick now).over) (hw : ¬ 0 < (s.tick now).owed) (hq : (s.tick now).q.next (s.tick now).c.mss = none) :
    Calls Try.prog 19 #[.pointer (some ⟨b, 0, none⟩), .int .u64 now] w fun e w' => PollTo w f b s now e w' := by
  have HR := Lib.hid (poll_none s now ho hw hq)
  have hov : decide (s.tick now).over = false := decide_eq_false ho
  have d1 : decide (0 < (s.tick now).owed) = false := decide_eq_false hw
  have HQ := Lib.hid hq
  clear ho hw hq
  have C1 := Lib.hid (h.ticked hn)
  have KO := Lib.hid (eng_over _ f b _ C1.out)
  rw [hov] at KO
  have e17 : w.cell? ⟨b, 17, none⟩ = some (.int .u64 s.now) := h.c 17 rfl
  have fz17 : w.frozen? ⟨b, 17, none⟩ = false := h.fz 17
  generalize ht : s.tick now = t at *
  have D1 : Hid (Chg f.mut w (w.setCell ⟨b, 17, none⟩ (.int .u64 (max s.now now)))) := Lib.hid ((Chg.refl f.mut w).setCell (p := ⟨b, 17, none⟩) (.inl ⟨by rw [h.tb]; omega, by rw [h.tb]; omega⟩) _)
  have HL := Lib.hid h.lt
  clear hn ht h
  go_enter Try.func19, Try.ntmps19
  go_upto_region 4 with fail
  generalize w.setCell ⟨b, 17, none⟩ (.int .u64 (max s.now now)) = w1 at *
  clear e17 fz17
  go_wp2_with fail
  refine KO.out.mono ?_
  rintro e w2 ⟨rfl, q⟩
  have C2 := Lib.hid (C1.out.qt q)
  have D2 := Lib.hid (D1.out.thenBelow q.below D1.out.size)
  clear q C1 KO D1
  have e45 : w2.cell? ⟨b, 45, none⟩ = some (.int .u64 t.owed) := C2.out.c 45 rfl
  go_upto_region 11 with fail
  refine pA0 C2.out HQ.out (Lib.hid ?_)
  intro g _ _ _ _ _ _ _ _ _ _ _ _ _ _ w3 hG
  have T3 := Lib.hid (EngTo.trans C2.out.lt (fun _ _ => rfl) D2.out ((EngTo.refl C2.out).below hG.out))
  clear C2 D2 HL hov hG e45 HQ
  go_wp2
  go_ret2
  exact pollTo_no HR.out (by decide) rfl T3.out
set_option maxHeartbeats 8000000 in
set_option maxRecDepth 100000 in
theorem eng_poll4 (w : World) (f : Ft) (b : Nat) (s : ES) (now : Int) (h : EngC w f b s) (hn : isU64 now) (ho : ¬ (s.tick now).over) (hw : ¬ 0 < (s.tick now).owed) (a z : Nat) (hq : (s.tick now).q.next (s.tick now).c.mss = some (a, z)) (hk : s.k + 3 < 1000000000) :
    Calls Try.prog 19 #[.pointer (some ⟨b, 0, none⟩), .int .u64 now] w fun e w' => PollTo w f b s now e w' := by
  have HR := Lib.hid (poll_some s now ho hw hq)
  have hov : decide (s.tick now).over = false := decide_eq_false ho
  have d1 : decide (0 < (s.tick now).owed) = false := decide_eq_false hw
  have HQ := Lib.hid hq
  have hin := next_in h.q.good hq
  have hf : s.q.b.length ≤ 1000000 := h.q.few
  have g := (h.good.tick hn)
  have hm : z - a ≤ 1500 := by have := g.c.mss; have := hin.2.2.1; omega
  have hn64 : IntKind.u64.wrap ((z - a : Nat) : Int) = ((z - a : Nat) : Int) := IntWalk.u64_in _ (by omega)
  have HN : Hid (isU64 ((z - a : Nat) : Int) ∧ 0 ≤ ((z - a : Nat) : Int) ∧ ((z - a : Nat) : Int) ≤ 1500) := Lib.hid ⟨⟨by omega, by omega⟩, by omega, by omega⟩
  have HI : Hid (a < z ∧ z ≤ (s.tick now).q.b.length ∧ z - a ≤ 1500 ∧ (s.tick now).k + 3 < 1000000000) := Lib.hid ⟨hin.1, hin.2.1, hm, hk⟩
  have gP := Lib.hid (g.pay (takeT_u (size := ((z - a : Nat) : Int)) g.tk g.ta g.tr g.c.u.2.2.2.2.2.2.2.2.2.1 g.now HN.out.1) (max_u g.ta g.now))
  clear ho hw hq hin hf hm g hk
  have C1 := Lib.hid (h.ticked hn)
  have KO := Lib.hid (eng_over _ f b _ C1.out)
  rw [hov] at KO
  have e17 : w.cell? ⟨b, 17, none⟩ = some (.int .u64 s.now) := h.c 17 rfl
  have fz17 : w.frozen? ⟨b, 17, none⟩ = false := h.fz 17
  generalize ht : s.tick now = t at *
  have D1 : Hid (Chg f.mut w (w.setCell ⟨b, 17, none⟩ (.int .u64 (max s.now now)))) := Lib.hid ((Chg.refl f.mut w).setCell (p := ⟨b, 17, none⟩) (.inl ⟨by rw [h.tb]; omega, by rw [h.tb]; omega⟩) _)
  have HL := Lib.hid h.lt
  clear hn ht h
  go_enter Try.func19, Try.ntmps19
  go_upto_region 4 with fail
  generalize w.setCell ⟨b, 17, none⟩ (.int .u64 (max s.now now)) = w1 at *
  clear e17 fz17
  go_wp2_with fail
  refine KO.out.mono ?_
  rintro e w2 ⟨rfl, q⟩
  have C2 := Lib.hid (C1.out.qt q)
  have D2 := Lib.hid (D1.out.thenBelow q.below D1.out.size)
  clear q C1 KO D1
  have e45 : w2.cell? ⟨b, 45, none⟩ = some (.int .u64 t.owed) := C2.out.c 45 rfl
  have h2z := D2.out.size
  go_upto_region 11 with fail
  refine pA1 C2.out HQ.out (Lib.hid ?_)
  intro g A c _ _ _ _ _ _ _ _ _ _ _ _ _ _ w3 hG
  obtain ⟨q, hg, hB, hR, hA⟩ := hG.out
  have C3 := Lib.hid (C2.out.below q)
  have D3 := Lib.hid (D2.out.thenBelow q D2.out.size)
  have B3 := Lib.hid hB
  have R3 := Lib.hid hR
  have A3 : Hid (∀ k off, A = some ⟨k, off, none⟩ → 0 < z - a → f.tag k = 0) := Lib.hid (fun k off e h0 => Classical.byContradiction fun hn => by have h1 := HL.out k hn; have h2 := hA k off e h0; omega)
  have g3 := Lib.hid (show w.heap.size ≤ g by omega)
  have y1 : w3.cell? ⟨g, 1, none⟩ = some (.slice A (z - a) c) := cell_of_row _ _ 1 _ _ _ B3.out
  clear q hg hB hR hA hG C2 D2 hov e45 h2z
  generalize hnn : z - a = n at *
  have hnn := Lib.hid hnn
  go_upto_region 15 with fail
  clear y1
  refine pB C3.out HN.out.2 (Lib.hid ?_)
  intro  _ _ _ _ _ _ _ _ _ _ _ _ _ _ _ _ _ _ _ _ w4 hG
  have C4 := Lib.hid (C3.out.below hG.out)
  have D4 := Lib.hid (D3.out.thenBelow hG.out D3.out.size)
  have B4 := Lib.hid ((hG.out.block _ (lt_of_block B3.out)).trans B3.out)
  have R4 := Lib.hid (R3.out.below hG.out)
  clear hG C3 D3 B3 R3
  by_cases hwin : t.pb = false ∧ t.w.cw < t.l.flight + (n : Int)
  · rw [if_pos hwin] at HR
    have dw : (!t.pb && decide (t.w.cw < t.l.flight + (n : Int))) = true := by rw [hwin.1, decide_eq_true hwin.2]; rfl
    rw [dw]
    have T := Lib.hid (EngTo.trans C4.out.lt (fun _ _ => rfl) D4.out (EngTo.refl C4.out))
    clear hwin dw C4 D4 B4 R4
    go_wp2
    go_ret2
    exact pollTo_no HR.out (by decide) rfl T.out
  · rw [if_neg hwin] at HR
    have dw : (!t.pb && decide (t.w.cw < t.l.flight + (n : Int))) = false := by
      cases hp : t.pb
      · have : ¬ t.w.cw < t.l.flight + (n : Int) := fun h => hwin ⟨hp, h⟩
        rw [decide_eq_false this]
        rfl
      · rfl
    rw [dw]
    clear hwin dw
    go_upto_region 17 with fail
    refine pC C4.out (Lib.hid ?_)
    intro  _ _ _ _ _ _ _ _ _ _ w5 hG
    have C5 := Lib.hid (C4.out.below hG.out)
    have D5 := Lib.hid (D4.out.thenBelow hG.out D4.out.size)
    have B5 := Lib.hid ((hG.out.block _ (lt_of_block B4.out)).trans B4.out)
    have R5 := Lib.hid (R4.out.below hG.out)
    clear hG C4 D4 B4 R4
    by_cases hlim : t.c.lim < t.next
    · rw [if_pos hlim] at HR
      rw [decide_eq_true hlim]
      have T := Lib.hid (EngTo.trans C5.out.lt (fun _ _ => rfl) D5.out (EngTo.of_set C5.out (C5.out.set { t with st := 3 } 18 (.int .i64 3) rfl rfl rfl rfl rfl rfl (C5.out.good.stat 3 (by omega)))))
      have e18 : w5.cell? ⟨b, 18, none⟩ = some (.int .i64 t.st) := C5.out.c 18 rfl
      have fz18 := C5.out.fz 18
      clear hlim C5 D5 B5 R5
      go_wp2
      go_ret2
      exact pollTo_no HR.out (by decide) rfl T.out
    · rw [if_neg hlim] at HR
      rw [decide_eq_false hlim]
      have KR := Lib.hid (led_room w5 _ f.p t.l C5.out.l)
      have e21 : w5.cell? ⟨b, 21, none⟩ = some (.pointer (some ⟨f.p, 0, none⟩)) := C5.out.c 21 rfl
      have HLim : Hid (¬ t.c.lim < t.next) := Lib.hid hlim
      clear hlim
      by_cases hroom : t.l.room < 1
      · rw [if_pos hroom] at HR
        have dr : decide (t.l.room < 1) = true := decide_eq_true hroom
        clear hroom
        go_upto_region 20 with fail
        go_wp2_with fail
        refine KR.out.mono ?_
        rintro e w6 ⟨rfl, q⟩
        have T := Lib.hid (EngTo.trans C5.out.lt (fun _ _ => rfl) D5.out ((EngTo.refl C5.out).below q))
        clear q C5 D5 B5 R5 e21 KR
        go_wp2
        go_ret2
        exact pollTo_no HR.out (by decide) rfl T.out
      · rw [if_neg hroom] at HR
        have dr : decide (t.l.room < 1) = false := decide_eq_false hroom
        have HRoom : Hid (1 ≤ t.l.room) := Lib.hid (by omega)
        clear hroom
        go_upto_region 20 with fail
        go_wp2_with fail
        refine KR.out.mono ?_
        rintro e w6 ⟨rfl, q⟩
        have C6 := Lib.hid (C5.out.below q)
        have D6 := Lib.hid (D5.out.thenBelow q D5.out.size)
        have B6 := Lib.hid ((q.block _ (lt_of_block B5.out)).trans B5.out)
        have R6 := Lib.hid (R5.out.below q)
        clear q C5 D5 B5 R5 e21 KR
        go_upto_region 22 with fail
        clear dr
        refine pD C6.out HN.out.1 (Lib.hid ?_)
        intro h _ _ _ _ _ _ _ _ _ _ _ _ _ _ _ _ _ _ w7 hG
        obtain ⟨q, hh, hH⟩ := hG.out
        have C7 := Lib.hid (C6.out.below q)
        have D7 := Lib.hid (D6.out.thenBelow q D6.out.size)
        have B7 := Lib.hid ((q.block _ (lt_of_block B6.out)).trans B6.out)
        have R7 := Lib.hid (R6.out.below q)
        have H7 := Lib.hid hH
        clear q hh hH hG C6 D6 B6 R6
        by_cases hfil : fillT t.tk t.ta t.tr t.c.bur t.now < fullS (n : Int)
        · rw [if_pos hfil] at HR
          rw [decide_eq_false (show ¬ fullS (n : Int) ≤ fillT t.tk t.ta t.tr t.c.bur t.now by omega)]
          have T := Lib.hid (EngTo.trans C7.out.lt (fun _ _ => rfl) D7.out (EngTo.refl C7.out))
          clear hfil C7 D7 B7 R7 H7
          go_wp2
          go_ret2
          exact pollTo_no HR.out (by decide) rfl T.out
        · rw [if_neg hfil] at HR
          rw [decide_eq_true (show fullS (n : Int) ≤ fillT t.tk t.ta t.tr t.c.bur t.now by omega)]
          obtain ⟨u, hu⟩ : ∃ u : ES, u = { t with tk := takeT t.tk t.ta t.tr t.c.bur t.now n, ta := max t.ta t.now } := ⟨_, rfl⟩
          have k8 : Chg (fun j => j = b) w7 (((w7.setCell ⟨b, 39, none⟩ (.int .u64 (takeT t.tk t.ta t.tr t.c.bur t.now n))).setCell ⟨b, 40, none⟩ (.int .u64 (max t.ta t.now))).setCell ⟨b, 41, none⟩ (.int .u64 t.tr)) := (((Chg.refl (fun j => j = b) w7).setCell (p := ⟨b, 39, none⟩) (.inl rfl) _).setCell (p := ⟨b, 40, none⟩) (.inl rfl) _).setCell (p := ⟨b, 41, none⟩) (.inl rfl) _
          have C8 : Hid (EngC (((w7.setCell ⟨b, 39, none⟩ (.int .u64 (takeT t.tk t.ta t.tr t.c.bur t.now n))).setCell ⟨b, 40, none⟩ (.int .u64 (max t.ta t.now))).setCell ⟨b, 41, none⟩ (.int .u64 t.tr)) f b u) := Lib.hid (by
            rw [hu]
            exact C7.out.row k8 (heap_setCell_same _ b 41 _ _ _ (heap_setCell_same _ b 40 _ _ _ (heap_setCell_same w7 b 39 _ _ _ C7.out.t))) rfl rfl rfl rfl rfl gP.out)
          have hb1 : f.tag b = 1 := C7.out.tb
          have hgb : ¬ g = b := fun e => by
            have h1 := HL.out b (by omega)
            have h2 := g3.out
            omega
          have B8 := Lib.hid (k8.blk B7.out hgb)
          have R8 := Lib.hid (R7.out.chg k8 (fun k off e h0 e2 => by have h1 := A3.out k off e (by simpa [U8] using h0); rw [e2] at h1; omega))
          have HT : Hid (∀ W v, EngTo (((w7.setCell ⟨b, 39, none⟩ (.int .u64 (takeT t.tk t.ta t.tr t.c.bur t.now n))).setCell ⟨b, 40, none⟩ (.int .u64 (max t.ta t.now))).setCell ⟨b, 41, none⟩ (.int .u64 t.tr)) f b W v → EngTo w f b W v) := Lib.hid (fun W v T => EngTo.trans C7.out.lt (fun _ _ => rfl) D7.out (EngTo.trans C8.out.lt (fun _ _ => rfl) (k8.mono fun k _ e => by rw [e]; exact ⟨by omega, by omega⟩) T))
          have HZ : Hid (w.heap.size ≤ (((w7.setCell ⟨b, 39, none⟩ (.int .u64 (takeT t.tk t.ta t.tr t.c.bur t.now n))).setCell ⟨b, 40, none⟩ (.int .u64 (max t.ta t.now))).setCell ⟨b, 41, none⟩ (.int .u64 t.tr)).heap.size) := Lib.hid (Nat.le_trans D7.out.size k8.size)
          have K : Hid (Calls Try.prog 43 #[.pointer (some ⟨b, 0, none⟩), .agg #[.int .u64 a, .slice A (z - a) c]] (((w7.setCell ⟨b, 39, none⟩ (.int .u64 (takeT t.tk t.ta t.tr t.c.bur t.now n))).setCell ⟨b, 40, none⟩ (.int .u64 (max t.ta t.now))).setCell ⟨b, 41, none⟩ (.int .u64 t.tr)) _) := Lib.hid (eng_send _ f b u a z A c C8.out (by rw [hu]; exact HI.out.2.2.2) (by rw [hu]; exact HRoom.out) (by rw [hu]; first | exact HLim.out | exact Int.not_lt.1 HLim.out) HI.out.1 (by rw [hu]; exact HI.out.2.1) (by rw [hnn.out]; exact HI.out.2.2.1) (by rw [hu, hnn.out]; exact R8.out) (fun k off e h0 => A3.out k off e (by rw [← hnn.out]; exact h0)))
          rw [hnn.out] at K
          have z0 : w7.cell? ⟨h, 0, none⟩ = some (.int .u64 (takeT t.tk t.ta t.tr t.c.bur t.now n)) := cell_of_row _ _ 0 _ _ _ H7.out
          have z1 : w7.cell? ⟨h, 1, none⟩ = some (.int .u64 (max t.ta t.now)) := cell_of_row _ _ 1 _ _ _ H7.out
          have z2 : w7.cell? ⟨h, 2, none⟩ = some (.int .u64 t.tr) := cell_of_row _ _ 2 _ _ _ H7.out
          have e39 : w7.cell? ⟨b, 39, none⟩ = some (.int .u64 t.tk) := C7.out.c 39 rfl
          have e40 : w7.cell? ⟨b, 40, none⟩ = some (.int .u64 t.ta) := C7.out.c 40 rfl
          have e41 : w7.cell? ⟨b, 41, none⟩ = some (.int .u64 t.tr) := C7.out.c 41 rfl
          have fz39 : w7.frozen? ⟨b, 39, none⟩ = false := C7.out.fz 39
          have fz40 : w7.frozen? ⟨b, 40, none⟩ = false := C7.out.fz 40
          have fz41 : w7.frozen? ⟨b, 41, none⟩ = false := C7.out.fz 41
          have HRU : Hid (s.poll now = (u.skipped.sendP a z, some (u.skipped.datOf a z), 0, 0)) := Lib.hid (by rw [HR.out, hu])
          clear hu hfil HR k8 hb1 hgb R8 R7 B7 H7 HI gP D7
          generalize takeT t.tk t.ta t.tr t.c.bur t.now n = tk at *
          go_upto_region 26 with fail
          clear z0 z1 z2 e39 e40 e41 fz39 fz40 fz41
          generalize (((w7.setCell ⟨b, 39, none⟩ (.int .u64 tk)).setCell ⟨b, 40, none⟩ (.int .u64 (max t.ta t.now))).setCell ⟨b, 41, none⟩ (.int .u64 t.tr)) = w8 at *
          have y0 : w8.cell? ⟨g, 0, none⟩ = some (.int .u64 a) := cell_of_row _ _ 0 _ _ _ B8.out
          have y1 : w8.cell? ⟨g, 1, none⟩ = some (.slice A n c) := cell_of_row _ _ 1 _ _ _ B8.out
          go_wp2_with fail
          refine K.out.mono ?_
          rintro e w9 ⟨A', c', rfl, r, T⟩
          have O := Lib.hid (And.intro (⟨r.rd, fun k off e h0 => Nat.le_trans HZ.out (r.nw k off e h0)⟩ : Rd8 w9 w.heap.size A' _ c' _) (HT.out _ _ T))
          clear r T K HT HZ B8 C8 y0 y1
          generalize hP : putDatP (u.skipped.datOf a z) = P at *
          have hP := Lib.hid hP
          go_wp2
          go_ret2
          refine pollTo_of HRU.out (A := A') (c := c') ?_ ?_ O.out.2
          · show _ = Ending.returned (.tuple #[.slice A' (putDatP (u.skipped.datOf a z)).length c', .int .i64 0])
            rw [hP.out]
            rfl
          · show Rd8 _ _ _ (putDatP (u.skipped.datOf a z)).length _ (putDatP (u.skipped.datOf a z))
            rw [hP.out]
            exact O.out.1
theorem eng_poll (w : World) (f : Ft) (b : Nat) (s : ES) (now : Int) (h : EngC w f b s) (hn : isU64 now) (hk : s.k + 3 < 1000000000) (ht : s.told + 1 ≤ 1000000000) :
    Calls Try.prog 19 #[.pointer (some ⟨b, 0, none⟩), .int .u64 now] w fun e w' => PollTo w f b s now e w' := by
  by_cases h1 : (s.tick now).over
  · exact eng_poll1 w f b s now h hn h1
  · by_cases h2 : 0 < (s.tick now).owed
    · exact eng_poll2 w f b s now h hn h1 h2 ht
    · cases h3 : (s.tick now).q.next (s.tick now).c.mss with
      | none => exact eng_poll3 w f b s now h hn h1 h2 h3
      | some p => exact eng_poll4 w f b s now h hn h1 h2 p.1 p.2 h3 hk
end Go.Proofs.Ytpkbimmhimgamaa
