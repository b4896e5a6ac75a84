/-
  The program's guard: Take, the walk.
-/
import Derived.Test.YtpfmhkkglaghgaaGreatGua1
import Derived.Deep.DeepCutAuto
import Derived.Deep.RegionHeld3
namespace Go.Proofs.YtpfmhkkglaghgaaGreat
set_option linter.unusedSimpArgs false
set_option linter.unusedVariables false
set_option linter.unnecessarySimpa false
open Go.RowKit

theorem AkE.zero (w : World) (E : Nat → Prop) : AkE w E ⟨none, 0, none, 0, [], [], 0, 0, false⟩ := AkE.nil _ _ _ rfl rfl rfl rfl rfl rfl ⟨by decide, by decide⟩ ⟨by decide, by decide⟩
/-- The budget has been asked; its answer stands in a new variable. -/
structure DropS (W3 wx : World) (F E F' E' : Nat → Prop) (b qb h : Nat) (g : GS) (a0 : Ak) (s : BS) (y : Int) (ch : Bool) : Prop where
  gua : GuaC wx F' E' b { g with b := s } qb a0
  t : wx.heap[h]? = some (.cells #[.int .i64 1, .int .i64 y, .int .u64 0, .bool ch] 43 (0, 0))
  h0 : W3.heap.size ≤ h
  chg : Chg F W3 wx
  gF : ∀ k, F' k → (F k ∨ W3.heap.size ≤ k) ∧ k ≠ h
  gE : ∀ k, E' k → E k ∧ k < W3.heap.size
theorem DropS.last {W3 W vA : World} {F E : Nat → Prop} {b qb : Nat} {g : GS} {a0 : Ak} {s : BS} {y : Int} {ch : Bool} (hG : GuaC W3 F E b g qb a0) (b1 : Below W3.heap.size W3 W) (hB : BudP vA (Grow (fun k => F k ∧ k ≠ b) W) qb s) (hc : Chg (fun k => F k ∧ k ≠ b) W vA) (hF : ∀ k, F k → k < W3.heap.size) (hE : ∀ k, E k → k < W3.heap.size) :
    ∃ F' E', DropS W3 (vA.alloc (.cells #[.int .i64 1, .int .i64 y, .int .u64 0, .bool ch] 43)) F E F' E' b qb vA.heap.size g a0 s y ch := by
  have h1 := (hG.below b1).asked hB hc
  have s1 := b1.size
  have s2 := hc.size
  refine ⟨fun k => Grow F W k ∧ k < vA.heap.size, fun k => E k ∧ k < W3.heap.size, ?_, heap_alloc_new vA _, by omega, ?_, fun k hk => ⟨hk.1.elim .inl (fun h => .inr (by omega)), by have := hk.2; omega⟩, fun k hk => hk⟩
  · exact h1.chg (chg_below (box_below vA _) (F := fun _ => False)) (fun _ _ _ h => h) (fun k hk h => ⟨h, hk⟩) (fun k hk h => ⟨h.1, hE k h.1⟩) (fun k hk hf => hf.1.elim (hG.dj k hk.1) (fun e => by have := hk.2; omega))
  · exact ((chg_below b1).step (hc.mono (fun k _ h => h.1)) (fun _ _ h => h)).thenBelow (box_below vA _) (by omega)
theorem DropS.first {W3 W vA : World} {F E : Nat → Prop} {b qb h : Nat} {g : GS} {a0 : Ak} {s : BS} {y : Int} {ch : Bool} {cs : Array Value} (hG : GuaC W3 F E b g qb a0) (b1 : Below W3.heap.size W3 W) (ht : W.heap[h]? = some (.cells cs 43 (0, 0))) (hcs : cs.size = 4) (hh : W3.heap.size ≤ h) (hB : BudP vA (Grow (fun k => F k ∧ k ≠ b) W) qb s) (hc : Chg (fun k => F k ∧ k ≠ b) W vA) (hF : ∀ k, F k → k < W3.heap.size) (hE : ∀ k, E k → k < W3.heap.size) :
    ∃ F' E', DropS W3 (fillFrom vA h 0 [.int .i64 1, .int .i64 y, .int .u64 0, .bool ch]) F E F' E' b qb h g a0 s y ch := by
  have h1 := (hG.below b1).asked hB hc
  have s1 := b1.size
  have s2 := hc.size
  have hl := lt_of_block ht
  have t2 := hc.blk ht (fun e => by have := hF h e.1; omega)
  have f1 := fill_all [.int .i64 1, .int .i64 y, .int .u64 0, .bool ch] t2 hcs.symm
  have c1 := fill_chg h [.int .i64 1, .int .i64 y, .int .u64 0, .bool ch] vA 0
  refine ⟨fun k => Grow F W k ∧ k ≠ h, fun k => E k ∧ k < W3.heap.size, ?_, f1, hh, ?_, fun k hk => ⟨hk.1.elim .inl (fun h => .inr (by omega)), hk.2⟩, fun k hk => hk⟩
  · have hno : ∀ k, Grow F W k → k ≠ h := fun k hk e => hk.elim (fun hf => by have := hF k hf; omega) (fun e' => by omega)
    exact h1.chg c1 (fun k _ hk e => hk.elim (fun hf => hno k hf e) (fun he => by have := hE k he.1; omega)) (fun k _ hf => ⟨hf, hno k hf⟩) (fun k _ h => ⟨h.1, hE k h.1⟩) (fun k hk hf => hf.1.elim (hG.dj k hk.1) (fun e => by have := hk.2; omega))
  · exact ((chg_below b1).step (hc.mono (fun k _ h => h.1)) (fun _ _ h => h)).trans (c1.mono fun k _ e => .inr (by omega))

theorem TkM.dropped {w W wx : World} {T F E F' E' : Nat → Prop} {p b qb h : Nat} {now : Int} {s : LS} {g : GS} {a0 : Ak} {bs : BS} {y : Int} {ch : Bool} (M : TkM w T F E F E p b qb now s g a0 W) (D : DropS W wx F E F' E' b qb h g a0 bs y ch) (hg : ({ g with b := bs } : GS).Good) :
    TkM w T F E F' E' p b qb now s { g with b := bs } a0 wx := by
  have hsz := M.sz
  refine ⟨M.led.chg D.chg (fun k _ hk hf => (M.tT k hk).2.1 hf) (fun _ _ h => h), D.gua, hg, M.tb.chg D.chg (fun k hk => (M.gF k hk).2), M.chg.trans (D.chg.mono fun k _ hk => .inl (.inr hk)), Nat.le_trans hsz D.chg.size, fun k hk => ⟨(M.tT k hk).1, fun hf => ?_, fun he => (M.tT k hk).2.2 (D.gE k he).1⟩, fun k hk => ?_, fun k hk => M.gE k (D.gE k hk).1⟩
  · have := (M.tT k hk).1
    exact (D.gF k hf).1.elim (M.tT k hk).2.1 (fun e => by omega)
  · exact (D.gF k hk).1.elim (fun hf => M.gF k hf) (fun e => ⟨.inr (by omega), .inr (by omega)⟩)

theorem TkM.ended {w W W' : World} {T F E : Nat → Prop} {p b qb : Nat} {now : Int} {s : LS} {g : GS} {a0 : Ak} {ev : Ev} (M : TkM w T F E F E p b qb now s g a0 W) (hG : GuaP W' (fun k => F k ∧ k < W.heap.size) (fun k => W.heap.size ≤ k) b (g.ended ev)) (hC : Chg (fun j => j = b) W W') (hb : ∀ k, k = b → F k ∧ k < w.heap.size) (hlt : ∀ k, T k ∨ F k ∨ E k → k < w.heap.size) :
    ∃ qb' a', TkM w T F E (fun k => F k ∧ k < W.heap.size) (fun k => W.heap.size ≤ k) p b qb' now s (g.ended ev) a' W' := by
  obtain ⟨good, qb', a', hC'⟩ := hG
  have hsz := M.sz
  refine ⟨qb', a', M.led.chg hC (fun k _ hk e => (M.tT k hk).2.1 (hb k e).1) (fun _ _ h => h), hC', good, M.tb.chg hC (fun k e => .inl (hb k e).2), M.chg.trans (hC.mono fun k _ e => .inl (.inr (hb k e).1)), Nat.le_trans hsz hC.size, fun k hk => ⟨(M.tT k hk).1, fun h => (M.tT k hk).2.1 h.1, fun h => by have := (M.tT k hk).1; omega⟩, fun k hk => M.gF k hk.1, fun k hk => ⟨.inr (by omega), .inr (by omega)⟩⟩

theorem bud_ask4 (w : World) (F : Nat → Prop) (q : Nat) (s : BS) (n : Int) (h : BudP w F q s) (hn : isU64 n) (a0 a1 a2 a3 : Addr) (v0 v1 v2 v3 : Value) (l0 : w.cell? a0 = some v0) (l1 : w.cell? a1 = some v1) (l2 : w.cell? a2 = some v2) (l3 : w.cell? a3 = some v3) (f0 : ¬ F a0.block) (f1 : ¬ F a1.block) (f2 : ¬ F a2.block) (f3 : ¬ F a3.block) :
    Calls Tryz.prog 53 #[.pointer (some ⟨q, 0, none⟩), .int .u64 n] w fun e w' => e = .returned (.bool (s.ask n).2) ∧ BudP w' (Grow F w) q (s.ask n).1 ∧ Chg F w w' ∧ (a0.block < w'.heap.size ∧ a1.block < w'.heap.size ∧ a2.block < w'.heap.size ∧ a3.block < w'.heap.size) ∧ w'.cell? a0 = some v0 ∧ w'.cell? a1 = some v1 ∧ w'.cell? a2 = some v2 ∧ w'.cell? a3 = some v3 := by
  refine (bud_ask w F q s n h hn).mono ?_
  rintro e w' ⟨h1, h2, h3⟩
  have c0 := h3.cell l0 f0
  have c1 := h3.cell l1 f1
  have c2 := h3.cell l2 f2
  have c3 := h3.cell l3 f3
  exact ⟨h1, h2, h3, ⟨block_lt_of_cell c0, block_lt_of_cell c1, block_lt_of_cell c2, block_lt_of_cell c3⟩, c0, c1, c2, c3⟩

set_option maxHeartbeats 16000000 in
set_option maxRecDepth 100000 in
theorem gua_take (w : World) (T F E : Nat → Prop) (p b : Nat) (s : LS) (g : GS) (A : Option Addr) (c : Nat) (l : List Int) (now : Int) (hL : LedP w T p s) (hG : GuaP w F E b g) (hlt : ∀ k, T k ∨ F k ∨ E k → k < w.heap.size) (dj : ∀ k, T k → ¬ F k ∧ ¬ E k)
    (hr : Rd w 1 A l.length c (U8 l)) (hb : ∀ x ∈ l, 0 ≤ x ∧ x ≤ 255) (hl : l.length ≤ 70368744177664) (hnow : isU64 now) :
    Calls Tryz.prog 28 #[.pointer (some ⟨b, 0, none⟩), .pointer (some ⟨p, 0, none⟩), .slice A l.length c, .int .u64 now] w fun e w' => GTakeVal w T F E p b (g.take s l now) e w' := by
  obtain ⟨good, qb, a0, hC⟩ := hG
  obtain ⟨tb, bel, hsz⟩ := TkB.start w b now
  have hFb := hC.fb
  have M := Lib.hid (TkM.mk (w := w) (T := T) (F0 := F) (E0 := E) (F := F) (E := E) (hL.below bel) (hC.below bel) good tb (chg_below bel) (by omega) (fun k hk => ⟨hlt k (.inl hk), dj k hk⟩) (fun k hk => ⟨.inl hk, .inl (hlt k (.inr (.inl hk)))⟩) (fun k hk => ⟨.inl hk, .inl (hlt k (.inr (.inr hk)))⟩))
  have R := Lib.hid (hr.below bel)
  have HB := Lib.hid hb
  have HLT := Lib.hid hlt
  have HNOW := Lib.hid hnow
  have KD := Lib.hid (ack_decode _ A c l R.out hb hl)
  have hnot : ∀ (x : Bool) (w : World), (Op.unary .not (.bool x)).run Tryz.prog w = .ok (.bool (!x)) w := fun _ _ => rfl
  have hmf : ∀ (fn : Fn) (first cap : Array Value) (w : World), (Instr.makeFunc fn first cap).run Tryz.prog w = .ok (.func fn first cap) w := fun _ _ _ _ => rfl
  have hbw : b < w.heap.size := hlt b (.inr (.inl hFb))
  clear hL hC tb bel hr hb hlt dj hnow good
  go_enter Tryz.func28, Tryz.ntmps28
  go_upto_region 1 with fail
  generalize (((w.alloc (.cells #[.pointer (some ⟨b, 0, none⟩)] 67)).alloc (.cells #[.int .u64 now] 27)).alloc (.cells #[.int .i64 0, .int .i64 0, .int .u64 0, .bool false] 43)).alloc (.cells #[.slice none 0 0, .slice none 0 0, .int .u64 0, .int .u64 0, .bool false] 74) = w1 at *
  have x0 := cell_of_row w1 w.heap.size 0 _ _ _ M.out.tb.q0
  cases hov : g.over with
  | true =>
    have K := Lib.hid (bool_load ⟨b, 6, none⟩ 1 w1 (M.out.gua.c6 hov))
    have K5 := Lib.hid (u64_add ⟨b, 5, none⟩ g.lat w1 (M.out.gua.c 5 rfl) (M.out.gua.fz 5))
    go_wp2_with fail
    refine K.out.mono ?_
    rintro e w2 ⟨rfl, rfl⟩
    go_wp2_with fail
    refine K5.out.mono ?_
    rintro e w2 ⟨rfl, rfl⟩
    have M2 := Lib.hid (M.out.set hFb (g' := g.late) 5 (.int .u64 (IntKind.u64.wrap (g.lat + 1))) rfl rfl rfl M.out.good.late)
    clear K K5 KD x0
    generalize w1.setCell ⟨b, 5, none⟩ (.int .u64 (IntKind.u64.wrap (g.lat + 1))) = w3 at *
    have v2 := M2.out.tb.q2
    have v3 := M2.out.tb.q3
    have y0 := cell_of_row w3 (w.heap.size + 2) 0 _ _ _ v2
    have fy0 := frozen_of_row w3 (w.heap.size + 2) 0 _ _ v2
    have y1 := cell_of_row w3 (w.heap.size + 2) 1 _ _ _ v2
    have fy1 := frozen_of_row w3 (w.heap.size + 2) 1 _ _ v2
    have y2 := cell_of_row w3 (w.heap.size + 2) 2 _ _ _ v2
    have fy2 := frozen_of_row w3 (w.heap.size + 2) 2 _ _ v2
    have y3 := cell_of_row w3 (w.heap.size + 2) 3 _ _ _ v2
    have fy3 := frozen_of_row w3 (w.heap.size + 2) 3 _ _ v2
    have z0 := cell_of_row w3 (w.heap.size + 3) 0 _ _ _ v3
    have fz0 := frozen_of_row w3 (w.heap.size + 3) 0 _ _ v3
    have z1 := cell_of_row w3 (w.heap.size + 3) 1 _ _ _ v3
    have fz1 := frozen_of_row w3 (w.heap.size + 3) 1 _ _ v3
    have z2 := cell_of_row w3 (w.heap.size + 3) 2 _ _ _ v3
    have fz2 := frozen_of_row w3 (w.heap.size + 3) 2 _ _ v3
    have z3 := cell_of_row w3 (w.heap.size + 3) 3 _ _ _ v3
    have fz3 := frozen_of_row w3 (w.heap.size + 3) 3 _ _ v3
    have z4 := cell_of_row w3 (w.heap.size + 3) 4 _ _ _ v3
    have fz4 := frozen_of_row w3 (w.heap.size + 3) 4 _ _ v3
    go_wp2
    obtain ⟨d1, d2, d3⟩ := gtake_done M2.out (.int .i64 1) (.int .i64 8) (.int .u64 0) (.bool false) ⟨none, 0, none, 0, [], [], 0, 0, false⟩ (AkE.zero _ _)
    simp only [fillFrom, List.length_nil, Int.natCast_zero] at d1 d2 d3
    refine bodyPost_ret (results_cell_cell_row rfl _ _ _ _ _ _ _ _ _ _ _ _ rfl d1 rfl d2 Tryz.underlying43 rfl infoVd Tryz.underlying74 rfl infoAck2) rfl ?_
    rw [GS.take_late hov]
    exact d3 ⟨1, 8, 0, false⟩ AckD.zero rfl ⟨rfl, rfl, rfl, rfl, rfl⟩
  | false =>
    have K := Lib.hid (bool_load ⟨b, 6, none⟩ 0 w1 (M.out.gua.c6 hov))
    go_wp2_with fail
    refine K.out.mono ?_
    rintro e w2 ⟨rfl, rfl⟩
    go_wp2_with fail
    refine KD.out.mono ?_
    rintro e w2 hv
    clear K KD x0 R
    unfold DecVal at hv
    cases hp : ackP l with
    | error er =>
      rw [hp] at hv
      obtain ⟨rfl, hb2⟩ := hv
      have HP := Lib.hid hp
      have he : (er != 0) = true := by simp [ackP_err hp]
      have M2 := Lib.hid ((M.out.below hb2).below (box_below w2 (.cells #[.slice none 0 0, .slice none 0 0, .int .u64 0, .int .u64 0, .bool false] 74)))
      clear hb2 hp M
      simp only [zAck]
      go_upto_region 7 with fail
      generalize w2.alloc (.cells #[.slice none 0 0, .slice none 0 0, .int .u64 0, .int .u64 0, .bool false] 74) = w3 at *
      have x0 := cell_of_row w3 w.heap.size 0 _ _ _ M2.out.tb.q0
      have K1 := Lib.hid (u64_add ⟨b, 1, none⟩ g.mal w3 (M2.out.gua.c 1 rfl) (M2.out.gua.fz 1))
      go_wp2_with fail
      refine K1.out.mono ?_
      rintro e w4 ⟨rfl, rfl⟩
      have M3 := Lib.hid (M2.out.set hFb (g' := g.bad) 1 (.int .u64 (IntKind.u64.wrap (g.mal + 1))) rfl rfl rfl M2.out.good.bad)
      clear K1 x0 M2
      generalize w3.setCell ⟨b, 1, none⟩ (.int .u64 (IntKind.u64.wrap (g.mal + 1))) = w4 at *
      have v2 := M3.out.tb.q2
      have v3 := M3.out.tb.q3
      have y0 := cell_of_row w4 (w.heap.size + 2) 0 _ _ _ v2
      have fy0 := frozen_of_row w4 (w.heap.size + 2) 0 _ _ v2
      have y1 := cell_of_row w4 (w.heap.size + 2) 1 _ _ _ v2
      have fy1 := frozen_of_row w4 (w.heap.size + 2) 1 _ _ v2
      have y2 := cell_of_row w4 (w.heap.size + 2) 2 _ _ _ v2
      have fy2 := frozen_of_row w4 (w.heap.size + 2) 2 _ _ v2
      have y3 := cell_of_row w4 (w.heap.size + 2) 3 _ _ _ v2
      have fy3 := frozen_of_row w4 (w.heap.size + 2) 3 _ _ v2
      have z0 := cell_of_row w4 (w.heap.size + 3) 0 _ _ _ v3
      have fz0 := frozen_of_row w4 (w.heap.size + 3) 0 _ _ v3
      have z1 := cell_of_row w4 (w.heap.size + 3) 1 _ _ _ v3
      have fz1 := frozen_of_row w4 (w.heap.size + 3) 1 _ _ v3
      have z2 := cell_of_row w4 (w.heap.size + 3) 2 _ _ _ v3
      have fz2 := frozen_of_row w4 (w.heap.size + 3) 2 _ _ v3
      have z3 := cell_of_row w4 (w.heap.size + 3) 3 _ _ _ v3
      have fz3 := frozen_of_row w4 (w.heap.size + 3) 3 _ _ v3
      have z4 := cell_of_row w4 (w.heap.size + 3) 4 _ _ _ v3
      have fz4 := frozen_of_row w4 (w.heap.size + 3) 4 _ _ v3
      go_wp2
      obtain ⟨d1, d2, d3⟩ := gtake_done M3.out (.int .i64 1) (.int .i64 1) (.int .u64 0) (.bool false) ⟨none, 0, none, 0, [], [], 0, 0, false⟩ (AkE.zero _ _)
      simp only [fillFrom, List.length_nil, Int.natCast_zero] at d1 d2 d3
      refine bodyPost_ret (results_cell_cell_row rfl _ _ _ _ _ _ _ _ _ _ _ _ rfl d1 rfl d2 Tryz.underlying43 rfl infoVd Tryz.underlying74 rfl infoAck2) rfl ?_
      rw [GS.take_bad hov s HP.out now]
      exact d3 ⟨1, 1, 0, false⟩ AckD.zero rfl ⟨rfl, rfl, rfl, rfl, rfl⟩
    | ok d =>
      rw [hp] at hv
      obtain ⟨a, rfl, e1, e2, e3, e4, e5, hA, hb2, n1, n2⟩ := hv
      have HP := Lib.hid hp
      have DG := Lib.hid (ackP_good hp HB.out)
      have IS : Hid (a.is d) := Lib.hid ⟨e1, e2, e3, e4, e5⟩
      have M2 := Lib.hid (M.out.below hb2)
      have NA := Lib.hid (And.intro n1 n2)
      have hs1 : w.heap.size + 4 ≤ w1.heap.size := M.out.sz
      have hs2 : w1.heap.size ≤ w2.heap.size := hb2.size
      obtain ⟨A2, c2, B2, dd2, sp, mm, tr, xo, od⟩ := a
      simp only at NA
      clear e1 e2 e3 e4 e5 hb2 n1 n2 hp M
      have eb := box_below w2 (.cells #[.slice A2 sp.length c2, .slice B2 mm.length dd2, .int .u64 tr, .int .u64 xo, .bool od] 74)
      have M3 := Lib.hid (M2.out.below eb)
      have HL2 := Lib.hid hA
      have HA := Lib.hid (hA.below eb)
      have T3 := Lib.hid (heap_alloc_new w2 (.cells #[.slice A2 sp.length c2, .slice B2 mm.length dd2, .int .u64 tr, .int .u64 xo, .bool od] 74))
      unfold Ak.val
      simp only [Ak.cells]
      go_upto_region 10 with fail
      generalize (w2.alloc (.cells #[.slice A2 sp.length c2, .slice B2 mm.length dd2, .int .u64 tr, .int .u64 xo, .bool od] 74)) = w3 at *
      have NC : Hid ((∀ b off, A2 = some ⟨b, off, none⟩ → 0 < sp.length → b < w2.heap.size) ∧ (∀ b off, B2 = some ⟨b, off, none⟩ → 0 < mm.length → b < w2.heap.size)) := Lib.hid ⟨fun b off e hn => HL2.out.rs.lt (by omega) hn b off e, fun b off e hn => HL2.out.rm.lt (by omega) hn b off e⟩
      clear HL2
      generalize w2.heap.size = h10 at *
      have KL := Lib.hid (look_any w3 T p s ⟨A2, c2, B2, dd2, sp, mm, tr, xo, od⟩ M3.out.led HA.out)
      rw [IS.out.look] at KL
      have hs3 := lt_of_block T3.out
      clear eb hA M2
      have k3 := T3.out
      have z0 := cell_of_row w3 h10 0 _ _ _ k3
      have fz0 := frozen_of_row w3 h10 0 _ _ k3
      have z1 := cell_of_row w3 h10 1 _ _ _ k3
      have fz1 := frozen_of_row w3 h10 1 _ _ k3
      have z2 := cell_of_row w3 h10 2 _ _ _ k3
      have fz2 := frozen_of_row w3 h10 2 _ _ k3
      have z3 := cell_of_row w3 h10 3 _ _ _ k3
      have fz3 := frozen_of_row w3 h10 3 _ _ k3
      have z4 := cell_of_row w3 h10 4 _ _ _ k3
      have fz4 := frozen_of_row w3 h10 4 _ _ k3
      clear k3
      go_wp2_with fail
      refine KL.out.mono ?_
      rintro e w4 ⟨rfl, hb4⟩
      have M4 := Lib.hid (M3.out.below hb4)
      have HA4 := Lib.hid (HA.out.below hb4)
      have T4 := Lib.hid ((hb4.block _ hs3).trans T3.out)
      have hs4 := hb4.size
      clear KL hb4 M3 HA T3 z0 z1 z2 z3 z4 fz0 fz1 fz2 fz3 fz4
      rcases hlk : d.ak.look s with ⟨x, y⟩
      have HLK := Lib.hid hlk
      clear hlk
      simp only
      have e12 := box_below w4 (.cells #[.int .u64 x] 27)
      have n12 := heap_alloc_new w4 (.cells #[.int .u64 x] 27)
      have e13 := box_below (w4.alloc (.cells #[.int .u64 x] 27)) (.cells #[.int .i64 y] 3)
      have n13 := heap_alloc_new (w4.alloc (.cells #[.int .u64 x] 27)) (.cells #[.int .i64 y] 3)
      rw [World.size_alloc] at n13
      have M5 := Lib.hid ((M4.out.below e12).below e13)
      have HA5 := Lib.hid ((HA4.out.below e12).below e13)
      have T5 := Lib.hid ((e13.block _ (by simp; omega)).trans ((e12.block _ (by omega)).trans T4.out))
      have X5 := Lib.hid ((e13.block _ (by simp)).trans n12)
      have Y5 := Lib.hid n13
      clear e12 n12 e13 n13 M4 HA4 T4
      have hs5 : ((w4.alloc (.cells #[.int .u64 x] 27)).alloc (.cells #[.int .i64 y] 3)).heap.size = w4.heap.size + 2 := by simp
      go_upto_region 11 with fail
      generalize ((w4.alloc (.cells #[.int .u64 x] 27)).alloc (.cells #[.int .i64 y] 3)) = w5 at *
      generalize w4.heap.size = h12 at *
      have y13 := cell_of_row w5 (h12 + 1) 0 _ _ _ Y5.out
      by_cases hy : y = 0
      · subst hy
        have hx : isU64 x := by have := Ak.look_u64 d.ak M5.out.led.good; rw [HLK.out] at this; exact this
        have KU := Lib.hid (led_use w5 T p s x M5.out.led hx)
        have x12 := cell_of_row w5 h12 0 _ _ _ X5.out
        go_wp2_with fail
        refine KU.out.mono ?_
        rintro e w6 ⟨rfl, hL6, hC6⟩
        have M6 := Lib.hid (M5.out.used hL6 hC6)
        have nT : Hid (∀ k, w.heap.size ≤ k → ¬ T k) := Lib.hid (fun k hk ht => by have := (M5.out.tT k ht).1; omega)
        have X6 := Lib.hid (hC6.blk X5.out (nT.out _ (by omega)))
        have Y6 := Lib.hid (hC6.blk Y5.out (nT.out _ (by omega)))
        have T6 := Lib.hid (hC6.blk T5.out (nT.out _ (by omega)))
        have HA6 : Hid (AkR w6 ⟨A2, c2, B2, dd2, sp, mm, tr, xo, od⟩) := Lib.hid ⟨HA5.out.rs.chg hC6 (fun b off e hn => nT.out _ (by have := NA.out.1 b off e hn; omega)), HA5.out.rm.chg hC6 (fun b off e hn => nT.out _ (by have := NA.out.2 b off e hn; omega)), HA5.out.us, HA5.out.um, HA5.out.ut, HA5.out.ux⟩
        have hs6 := hC6.size
        clear KU x12 y13 M5 X5 Y5 T5 HA5 hL6 hC6
        generalize hs' : (s.use x).1 = s' at *
        have HS' := Lib.hid hs'
        clear hs'
        have KC := Lib.hid (check_any w6 T p s' ⟨A2, c2, B2, dd2, sp, mm, tr, xo, od⟩ M6.out.led HA6.out)
        rw [IS.out.check] at KC
        rcases hck : d.ak.check s' with ⟨y2, z⟩
        rw [hck] at KC
        have HCK := Lib.hid hck
        clear hck
        have k3 := T6.out
        have z0 := cell_of_row w6 h10 0 _ _ _ k3
        have fz0 := frozen_of_row w6 h10 0 _ _ k3
        have z1 := cell_of_row w6 h10 1 _ _ _ k3
        have fz1 := frozen_of_row w6 h10 1 _ _ k3
        have z2 := cell_of_row w6 h10 2 _ _ _ k3
        have fz2 := frozen_of_row w6 h10 2 _ _ k3
        have z3 := cell_of_row w6 h10 3 _ _ _ k3
        have fz3 := frozen_of_row w6 h10 3 _ _ k3
        have z4 := cell_of_row w6 h10 4 _ _ _ k3
        have fz4 := frozen_of_row w6 h10 4 _ _ k3
        clear k3
        go_wp2_with fail
        refine KC.out.mono ?_
        rintro e w7 ⟨rfl, hb7⟩
        clear z0 z1 z2 z3 z4 fz0 fz1 fz2 fz3 fz4 KC
        have hs7 := hb7.size
        have M7 := Lib.hid (M6.out.below hb7)
        have X7 := Lib.hid ((hb7.block _ (by omega)).trans X6.out)
        have Y7 := Lib.hid ((hb7.block _ (by omega)).trans Y6.out)
        have T7 := Lib.hid ((hb7.block _ (by omega)).trans T6.out)
        have HA7 := Lib.hid (HA6.out.below hb7)
        clear M6 X6 Y6 T6 HA6 hb7
        have yr := Y7.out
        have y0 := cell_of_row w7 (h12 + 1) 0 _ _ _ yr
        have fy0 := frozen_of_row w7 (h12 + 1) 0 _ _ yr
        have hyl := lt_of_block yr
        go_upto_region 19 with fail
        clear y0 fy0
        have hnl : ∀ k, w.heap.size ≤ k → ¬ F k ∧ ¬ E k := fun k hk => ⟨fun hf => by have := HLT.out k (.inr (.inl hf)); omega, fun he => by have := HLT.out k (.inr (.inr he)); omega⟩
        have hnT : ∀ k, w.heap.size ≤ k → ¬ T k := fun k hk ht => by have := HLT.out k (.inl ht); omega
        have C8 : Chg (fun j => j = h12 + 1) w7 (w7.setCell ⟨h12 + 1, 0, none⟩ (.int .i64 y2)) := (Chg.refl (fun j => j = h12 + 1) w7).setCell (p := ⟨h12 + 1, 0, none⟩) (.inl rfl) _
        have Y8 := heap_setCell_same w7 (h12 + 1) 0 _ _ (.int .i64 y2) yr
        have e8 := box_below (w7.setCell ⟨h12 + 1, 0, none⟩ (.int .i64 y2)) (.cells #[.int .u64 z] 27)
        have P8 := heap_alloc_new (w7.setCell ⟨h12 + 1, 0, none⟩ (.int .i64 y2)) (.cells #[.int .u64 z] 27)
        rw [World.size_setCell] at P8
        have hl10 := lt_of_block T7.out
        have hl12 := lt_of_block X7.out
        have M8 := Lib.hid ((M7.out.own C8 (fun k e => by rw [show k = h12 + 1 from e]; exact ⟨by omega, (hnl _ (by omega)).1, (hnl _ (by omega)).2⟩)).below e8)
        have NB : Hid ((∀ b off, A2 = some ⟨b, off, none⟩ → 0 < sp.length → w.heap.size + 4 ≤ b ∧ b < h10) ∧ (∀ b off, B2 = some ⟨b, off, none⟩ → 0 < mm.length → w.heap.size + 4 ≤ b ∧ b < h10)) := Lib.hid ⟨fun b off e hn => ⟨by have := NA.out.1 b off e hn; omega, NC.out.1 b off e hn⟩, fun b off e hn => ⟨by have := NA.out.2 b off e hn; omega, NC.out.2 b off e hn⟩⟩
        have HA8 : Hid (AkR ((w7.setCell ⟨h12 + 1, 0, none⟩ (.int .i64 y2)).alloc (.cells #[.int .u64 z] 27)) ⟨A2, c2, B2, dd2, sp, mm, tr, xo, od⟩) := Lib.hid (AkR.below ⟨HA7.out.rs.chg C8 (fun b off e hn he => by have := (NB.out.1 b off e hn).2; omega), HA7.out.rm.chg C8 (fun b off e hn he => by have := (NB.out.2 b off e hn).2; omega), HA7.out.us, HA7.out.um, HA7.out.ut, HA7.out.ux⟩ e8)
        have X8 := Lib.hid ((e8.block _ (by simp; omega)).trans (C8.blk X7.out (by omega)))
        have T8 := Lib.hid ((e8.block _ (by simp; omega)).trans (C8.blk T7.out (by omega)))
        have Y8 := Lib.hid ((e8.block _ (by simp; omega)).trans Y8)
        have P8 := Lib.hid P8
        simp at Y8
        clear C8 e8 M7 X7 Y7 T7 HA7 yr
        generalize ((w7.setCell ⟨h12 + 1, 0, none⟩ (.int .i64 y2)).alloc (.cells #[.int .u64 z] 27)) = w8 at *
        generalize w7.heap.size = h15 at *
        have Y8 : Hid (w8.heap[h12 + 1]? = some (.cells #[.int .i64 y2] 3 (0, 0))) := Y8
        have y13 := cell_of_row w8 (h12 + 1) 0 _ _ _ Y8.out
        have HNL := Lib.hid hnl
        have HNT := Lib.hid hnT
        clear hnl hnT
        by_cases hy2 : y2 = 0
        · subst hy2
          have HT := Lib.hid (GS.take_took hov HP.out now HLK.out (by rw [HS'.out]; exact HCK.out))
          rw [HS'.out] at HT
          have x0 := cell_of_row w8 w.heap.size 0 _ _ _ M8.out.tb.q0
          have K3 := Lib.hid (u64_add ⟨b, 3, none⟩ g.tak w8 (M8.out.gua.c 3 rfl) (M8.out.gua.fz 3))
          go_wp2_with fail
          refine K3.out.mono ?_
          rintro e w9 ⟨rfl, rfl⟩
          have M9 := Lib.hid (M8.out.set hFb (g' := g.took) 3 (.int .u64 (IntKind.u64.wrap (g.tak + 1))) rfl rfl rfl M8.out.good.took)
          have C9 : Chg (fun j => j = b) w8 (w8.setCell ⟨b, 3, none⟩ (.int .u64 (IntKind.u64.wrap (g.tak + 1)))) := (Chg.refl (fun j => j = b) w8).setCell (p := ⟨b, 3, none⟩) (.inl rfl) _
          have X9 := C9.blk X8.out (by omega)
          have T9 := C9.blk T8.out (by omega)
          have HA9 : Hid (AkE (w8.setCell ⟨b, 3, none⟩ (.int .u64 (IntKind.u64.wrap (g.tak + 1)))) (fun k => w.heap.size + 4 ≤ k) ⟨A2, c2, B2, dd2, sp, mm, tr, xo, od⟩) := Lib.hid ⟨⟨HA8.out.rs.chg C9 (fun g off e hn he => by have := (NB.out.1 g off e hn).1; omega), HA8.out.rm.chg C9 (fun g off e hn he => by have := (NB.out.2 g off e hn).1; omega), HA8.out.us, HA8.out.um, HA8.out.ut, HA8.out.ux⟩, fun g off e hn => (NB.out.1 g off e hn).1, fun g off e hn => (NB.out.2 g off e hn).1⟩
          clear K3 x0 y13 M8 X8 T8 Y8 P8 HA8 C9
          generalize w8.setCell ⟨b, 3, none⟩ (.int .u64 (IntKind.u64.wrap (g.tak + 1))) = w9 at *
          have hnn1 : h12 ≠ w.heap.size + 2 ∧ h12 ≠ w.heap.size + 3 := by omega
          have hnn2 : h10 ≠ w.heap.size + 2 ∧ h10 ≠ w.heap.size + 3 := by omega
          have N0 := mixF_cell (F := fun j => j = w.heap.size + 2 ∨ j = w.heap.size + 3) (cell_of_row w9 h12 0 _ _ _ X9) (fun e => e.elim hnn1.1 hnn1.2)
          have N1 := mixF_cell (F := fun j => j = w.heap.size + 2 ∨ j = w.heap.size + 3) (cell_of_row w9 h10 0 _ _ _ T9) (fun e => e.elim hnn2.1 hnn2.2)
          have N2 := mixF_cell (F := fun j => j = w.heap.size + 2 ∨ j = w.heap.size + 3) (cell_of_row w9 h10 1 _ _ _ T9) (fun e => e.elim hnn2.1 hnn2.2)
          have N3 := mixF_cell (F := fun j => j = w.heap.size + 2 ∨ j = w.heap.size + 3) (cell_of_row w9 h10 2 _ _ _ T9) (fun e => e.elim hnn2.1 hnn2.2)
          have N4 := mixF_cell (F := fun j => j = w.heap.size + 2 ∨ j = w.heap.size + 3) (cell_of_row w9 h10 3 _ _ _ T9) (fun e => e.elim hnn2.1 hnn2.2)
          have N5 := mixF_cell (F := fun j => j = w.heap.size + 2 ∨ j = w.heap.size + 3) (cell_of_row w9 h10 4 _ _ _ T9) (fun e => e.elim hnn2.1 hnn2.2)
          simp only [List.getElem_toArray, List.getElem_cons_zero, List.getElem_cons_succ] at N0 N1 N2 N3 N4 N5
          go_upto_region 24 with fail
          have MM := Lib.hid (M9.out.below (Below.refl _ _).drew)
          have HH := Lib.hid (HA9.out.below (Below.refl _ _).drew)
          refine wp_region_chg (fun j => j = w.heap.size + 2 ∨ j = w.heap.size + 3) (by kernel_rfl) (by kernel_rfl) ?_
          repeat (refine wpMix_seg 1 _ _ rfl ?_; simp only [List.take_succ_cons, List.take_zero, List.drop_succ_cons, List.drop_zero]; go_big_quiet_step (fail); refine wpQuiet_nil ?_)
          generalize hw10 : w9.drew = w10 at *
          have HQ : Hid (Chg (fun j => j = w.heap.size + 2 ∨ j = w.heap.size + 3) w9 w10) := Lib.hid (by rw [← hw10]; exact (Chg.refl _ _).drew)
          clear hw10
          have DN := Lib.hid (gtake_done MM.out (.int .i64 2) (.int .i64 0) (.int .u64 x) (.bool false) ⟨A2, c2, B2, dd2, sp, mm, tr, xo, od⟩ HH.out)
          have c1 := fill_chg (w.heap.size + 2) [.int .i64 2, .int .i64 0, .int .u64 x, .bool false] w10 0
          have c2' := fill_chg (w.heap.size + 3) [.slice A2 sp.length c2, .slice B2 mm.length dd2, .int .u64 tr, .int .u64 xo, .bool od] (fillFrom w10 (w.heap.size + 2) 0 [.int .i64 2, .int .i64 0, .int .u64 x, .bool false]) 0
          simp only [fillFrom] at c1 c2'
          have C1 := Lib.hid (c1.mono (G := fun j => j = w.heap.size + 2 ∨ j = w.heap.size + 3) fun _ _ h => .inl h)
          have C2 := Lib.hid (c2'.mono (G := fun j => j = w.heap.size + 2 ∨ j = w.heap.size + 3) fun _ _ h => .inr h)
          clear c1 c2'
          have v2 := MM.out.tb.q2
          have v3 := MM.out.tb.q3
          have yy0 := cell_of_row w10 (w.heap.size + 2) 0 _ _ _ v2
          have fyy0 := frozen_of_row w10 (w.heap.size + 2) 0 _ _ v2
          have yy1 := cell_of_row w10 (w.heap.size + 2) 1 _ _ _ v2
          have fyy1 := frozen_of_row w10 (w.heap.size + 2) 1 _ _ v2
          have yy2 := cell_of_row w10 (w.heap.size + 2) 2 _ _ _ v2
          have fyy2 := frozen_of_row w10 (w.heap.size + 2) 2 _ _ v2
          have yy3 := cell_of_row w10 (w.heap.size + 2) 3 _ _ _ v2
          have fyy3 := frozen_of_row w10 (w.heap.size + 2) 3 _ _ v2
          have zz0 := cell_of_row w10 (w.heap.size + 3) 0 _ _ _ v3
          have fzz0 := frozen_of_row w10 (w.heap.size + 3) 0 _ _ v3
          have zz1 := cell_of_row w10 (w.heap.size + 3) 1 _ _ _ v3
          have fzz1 := frozen_of_row w10 (w.heap.size + 3) 1 _ _ v3
          have zz2 := cell_of_row w10 (w.heap.size + 3) 2 _ _ _ v3
          have fzz2 := frozen_of_row w10 (w.heap.size + 3) 2 _ _ v3
          have zz3 := cell_of_row w10 (w.heap.size + 3) 3 _ _ _ v3
          have fzz3 := frozen_of_row w10 (w.heap.size + 3) 3 _ _ v3
          have zz4 := cell_of_row w10 (w.heap.size + 3) 4 _ _ _ v3
          have fzz4 := frozen_of_row w10 (w.heap.size + 3) 4 _ _ v3
          clear v2 v3
          refine wpMix_bar rfl (by rfl) ?_
          go_wp2
          refine ⟨chg_mixF (HQ.out.step C1.out (fun _ _ h => h)), ?_⟩
          repeat (refine wpMix_seg 1 _ _ rfl ?_; simp only [List.take_succ_cons, List.take_zero, List.drop_succ_cons, List.drop_zero]; go_big_quiet_step (fail); refine wpQuiet_nil ?_)
          refine wpMix_bar rfl (by rfl) ?_
          go_wp2
          refine ⟨chg_mixF ((HQ.out.step C1.out (fun _ _ h => h)).step C2.out (fun _ _ h => h)), ?_⟩
          repeat (refine wpMix_seg 1 _ _ rfl ?_; simp only [List.take_succ_cons, List.take_zero, List.drop_succ_cons, List.drop_zero]; go_big_quiet_step (fail); refine wpQuiet_nil ?_)
          refine wpMix_nil ?_
          go_wp2
          obtain ⟨d1, d2, d3⟩ := DN.out
          simp only [fillFrom] at d1 d2 d3
          refine bodyPost_ret (results_cell_cell_row rfl _ _ _ _ _ _ _ _ _ _ _ _ rfl d1 rfl d2 Tryz.underlying43 rfl infoVd Tryz.underlying74 rfl infoAck2) rfl ?_
          rw [HT.out]
          exact d3 ⟨2, 0, x, false⟩ d rfl IS.out
        · have hyd : (y2 != 0) = true := by simp [hy2]
          have HT := Lib.hid (GS.take_end hov HP.out now HLK.out (by rw [HS'.out]; exact HCK.out) hy2)
          rw [HS'.out] at HT
          have x0 : w8.cell? ⟨w.heap.size, 0, none⟩ = some (.pointer (some ⟨b, 0, none⟩)) := cell_of_row w8 w.heap.size 0 _ _ _ M8.out.tb.q0
          have x1 : w8.cell? ⟨w.heap.size + 1, 0, none⟩ = some (.int .u64 now) := cell_of_row w8 (w.heap.size + 1) 0 _ _ _ M8.out.tb.q1
          have x2 : w8.cell? ⟨h12, 0, none⟩ = some (.int .u64 x) := cell_of_row w8 h12 0 _ _ _ X8.out
          have x3 : w8.cell? ⟨h12 + 1, 0, none⟩ = some (.int .i64 y2) := cell_of_row w8 (h12 + 1) 0 _ _ _ Y8.out
          have x4 : w8.cell? ⟨h15, 0, none⟩ = some (.int .u64 z) := cell_of_row w8 h15 0 _ _ _ P8.out
          have hl15 := lt_of_block P8.out
          have KS := Lib.hid (bool_store ⟨b, 6, none⟩ _ w8 (M8.out.gua.c6 hov) (M8.out.gua.fz 6))
          have KO := Lib.hid (gua_once w8 F E b qb g a0 M8.out.gua M8.out.good hov (w.heap.size + 1) h15 h12 (h12 + 1) h10 w.heap.size now z x y2 ⟨A2, c2, B2, dd2, sp, mm, tr, xo, od⟩ d x1 x4 x2 x3 T8.out x0 HA8.out IS.out DG.out (by omega) (by omega) (by omega) (by omega) (by omega) (by omega) (fun g off e hn => by have := (NB.out.1 g off e hn).1; omega) (fun g off e hn => by have := (NB.out.2 g off e hn).1; omega))
          have C9 : Chg (fun j => j = b) w8 (w8.drew.setCell ⟨b, 6, none⟩ (.int .u32 1)) := (Chg.refl (fun j => j = b) w8).drew.setCell (p := ⟨b, 6, none⟩) (.inl rfl) _
          have x0' := C9.cell x0 (by show w.heap.size ≠ b; omega)
          clear x1 x2 x3 x4
          go_wp2_with fail
          refine KS.out.mono ?_
          rintro e w9 ⟨rfl, rfl⟩
          clear KS y13
          go_wp2_with fail
          refine KO.out.mono ?_
          rintro e w9 ⟨rfl, hG9, hC9⟩
          have M9 := Lib.hid (M8.out.ended hG9 hC9 (fun k e => by rw [e]; exact ⟨hFb, by omega⟩) HLT.out)
          obtain ⟨qb9, a9, M9⟩ := M9.out
          have M9 := Lib.hid M9
          have X9 := hC9.blk X8.out (by omega)
          have Y9 := hC9.blk Y8.out (by omega)
          have P9 := hC9.blk P8.out (by omega)
          have T9 := hC9.blk T8.out (by omega)
          have HA9 : Hid (AkE w9 (fun k => w.heap.size + 4 ≤ k) ⟨A2, c2, B2, dd2, sp, mm, tr, xo, od⟩) := Lib.hid ⟨⟨HA8.out.rs.chg hC9 (fun g off e hn he => by have := (NB.out.1 g off e hn).1; omega), HA8.out.rm.chg hC9 (fun g off e hn he => by have := (NB.out.2 g off e hn).1; omega), HA8.out.us, HA8.out.um, HA8.out.ut, HA8.out.ux⟩, fun g off e hn => (NB.out.1 g off e hn).1, fun g off e hn => (NB.out.2 g off e hn).1⟩
          clear KO x0 x0' C9 M8 X8 T8 Y8 P8 HA8 hG9 hC9
          have hnn1 : h15 ≠ w.heap.size + 2 ∧ h15 ≠ w.heap.size + 3 := by omega
          have hnn2 : h10 ≠ w.heap.size + 2 ∧ h10 ≠ w.heap.size + 3 := by omega
          have hnn3 : h12 + 1 ≠ w.heap.size + 2 ∧ h12 + 1 ≠ w.heap.size + 3 := by omega
          have N0 := mixF_cell (F := fun j => j = w.heap.size + 2 ∨ j = w.heap.size + 3) (cell_of_row w9 h15 0 _ _ _ P9) (fun e => e.elim hnn1.1 hnn1.2)
          have N6 := mixF_cell (F := fun j => j = w.heap.size + 2 ∨ j = w.heap.size + 3) (cell_of_row w9 (h12 + 1) 0 _ _ _ Y9) (fun e => e.elim hnn3.1 hnn3.2)
          have N1 := mixF_cell (F := fun j => j = w.heap.size + 2 ∨ j = w.heap.size + 3) (cell_of_row w9 h10 0 _ _ _ T9) (fun e => e.elim hnn2.1 hnn2.2)
          have N2 := mixF_cell (F := fun j => j = w.heap.size + 2 ∨ j = w.heap.size + 3) (cell_of_row w9 h10 1 _ _ _ T9) (fun e => e.elim hnn2.1 hnn2.2)
          have N3 := mixF_cell (F := fun j => j = w.heap.size + 2 ∨ j = w.heap.size + 3) (cell_of_row w9 h10 2 _ _ _ T9) (fun e => e.elim hnn2.1 hnn2.2)
          have N4 := mixF_cell (F := fun j => j = w.heap.size + 2 ∨ j = w.heap.size + 3) (cell_of_row w9 h10 3 _ _ _ T9) (fun e => e.elim hnn2.1 hnn2.2)
          have N5 := mixF_cell (F := fun j => j = w.heap.size + 2 ∨ j = w.heap.size + 3) (cell_of_row w9 h10 4 _ _ _ T9) (fun e => e.elim hnn2.1 hnn2.2)
          simp only [List.getElem_toArray, List.getElem_cons_zero, List.getElem_cons_succ] at N0 N1 N2 N3 N4 N5 N6
          go_upto_region 22 with fail
          have MM := Lib.hid (M9.out.below (Below.refl _ _).drew)
          have HH := Lib.hid (HA9.out.below (Below.refl _ _).drew)
          refine wp_region_chg (fun j => j = w.heap.size + 2 ∨ j = w.heap.size + 3) (by kernel_rfl) (by kernel_rfl) ?_
          repeat (refine wpMix_seg 1 _ _ rfl ?_; simp only [List.take_succ_cons, List.take_zero, List.drop_succ_cons, List.drop_zero]; go_big_quiet_step (fail); refine wpQuiet_nil ?_)
          generalize hw10 : w9.drew = w10 at *
          have HQ : Hid (Chg (fun j => j = w.heap.size + 2 ∨ j = w.heap.size + 3) w9 w10) := Lib.hid (by rw [← hw10]; exact (Chg.refl _ _).drew)
          clear hw10
          have DN := Lib.hid (gtake_done MM.out (.int .i64 3) (.int .i64 y2) (.int .u64 z) (.bool false) ⟨A2, c2, B2, dd2, sp, mm, tr, xo, od⟩ HH.out)
          have c1 := fill_chg (w.heap.size + 2) [.int .i64 3, .int .i64 y2, .int .u64 z, .bool false] w10 0
          have c2' := fill_chg (w.heap.size + 3) [.slice A2 sp.length c2, .slice B2 mm.length dd2, .int .u64 tr, .int .u64 xo, .bool od] (fillFrom w10 (w.heap.size + 2) 0 [.int .i64 3, .int .i64 y2, .int .u64 z, .bool false]) 0
          simp only [fillFrom] at c1 c2'
          have C1 := Lib.hid (c1.mono (G := fun j => j = w.heap.size + 2 ∨ j = w.heap.size + 3) fun _ _ h => .inl h)
          have C2 := Lib.hid (c2'.mono (G := fun j => j = w.heap.size + 2 ∨ j = w.heap.size + 3) fun _ _ h => .inr h)
          clear c1 c2'
          have v2 := MM.out.tb.q2
          have v3 := MM.out.tb.q3
          have yy0 := cell_of_row w10 (w.heap.size + 2) 0 _ _ _ v2
          have fyy0 := frozen_of_row w10 (w.heap.size + 2) 0 _ _ v2
          have yy1 := cell_of_row w10 (w.heap.size + 2) 1 _ _ _ v2
          have fyy1 := frozen_of_row w10 (w.heap.size + 2) 1 _ _ v2
          have yy2 := cell_of_row w10 (w.heap.size + 2) 2 _ _ _ v2
          have fyy2 := frozen_of_row w10 (w.heap.size + 2) 2 _ _ v2
          have yy3 := cell_of_row w10 (w.heap.size + 2) 3 _ _ _ v2
          have fyy3 := frozen_of_row w10 (w.heap.size + 2) 3 _ _ v2
          have zz0 := cell_of_row w10 (w.heap.size + 3) 0 _ _ _ v3
          have fzz0 := frozen_of_row w10 (w.heap.size + 3) 0 _ _ v3
          have zz1 := cell_of_row w10 (w.heap.size + 3) 1 _ _ _ v3
          have fzz1 := frozen_of_row w10 (w.heap.size + 3) 1 _ _ v3
          have zz2 := cell_of_row w10 (w.heap.size + 3) 2 _ _ _ v3
          have fzz2 := frozen_of_row w10 (w.heap.size + 3) 2 _ _ v3
          have zz3 := cell_of_row w10 (w.heap.size + 3) 3 _ _ _ v3
          have fzz3 := frozen_of_row w10 (w.heap.size + 3) 3 _ _ v3
          have zz4 := cell_of_row w10 (w.heap.size + 3) 4 _ _ _ v3
          have fzz4 := frozen_of_row w10 (w.heap.size + 3) 4 _ _ v3
          clear v2 v3
          refine wpMix_bar rfl (by rfl) ?_
          go_wp2
          refine ⟨chg_mixF (HQ.out.step C1.out (fun _ _ h => h)), ?_⟩
          repeat (refine wpMix_seg 1 _ _ rfl ?_; simp only [List.take_succ_cons, List.take_zero, List.drop_succ_cons, List.drop_zero]; go_big_quiet_step (fail); refine wpQuiet_nil ?_)
          refine wpMix_bar rfl (by rfl) ?_
          go_wp2
          refine ⟨chg_mixF ((HQ.out.step C1.out (fun _ _ h => h)).step C2.out (fun _ _ h => h)), ?_⟩
          repeat (refine wpMix_seg 1 _ _ rfl ?_; simp only [List.take_succ_cons, List.take_zero, List.drop_succ_cons, List.drop_zero]; go_big_quiet_step (fail); refine wpQuiet_nil ?_)
          refine wpMix_nil ?_
          go_wp2
          obtain ⟨d1, d2, d3⟩ := DN.out
          simp only [fillFrom] at d1 d2 d3
          refine bodyPost_ret (results_cell_cell_row rfl _ _ _ _ _ _ _ _ _ _ _ _ rfl d1 rfl d2 Tryz.underlying43 rfl infoVd Tryz.underlying74 rfl infoAck2) rfl ?_
          rw [HT.out]
          exact d3 ⟨3, y2, z, false⟩ d rfl IS.out
      · have hyd : (y != 0) = true := by simp [hy]
        have x0 := cell_of_row w5 w.heap.size 0 _ _ _ M5.out.tb.q0
        have K2 := Lib.hid (u64_add ⟨b, 2, none⟩ g.drp w5 (M5.out.gua.c 2 rfl) (M5.out.gua.fz 2))
        go_wp2_with fail
        refine K2.out.mono ?_
        rintro e w6 ⟨rfl, rfl⟩
        have hgd : ({ g with drp := inc g.drp } : GS).Good := ⟨M5.out.good.b, M5.out.good.mal, inc_u64 _, M5.out.good.tak, M5.out.good.cha, M5.out.good.lat, M5.out.good.no⟩
        have M6 := Lib.hid (M5.out.set hFb (g' := { g with drp := inc g.drp }) 2 (.int .u64 (IntKind.u64.wrap (g.drp + 1))) rfl rfl rfl hgd)
        have hC6 : Chg (fun j => j = b) w5 (w5.setCell ⟨b, 2, none⟩ (.int .u64 (IntKind.u64.wrap (g.drp + 1)))) := (Chg.refl (fun j => j = b) w5).setCell (p := ⟨b, 2, none⟩) (.inl rfl) _
        have Y6 := Lib.hid (hC6.blk Y5.out (by omega))
        have hs6 : (w5.setCell ⟨b, 2, none⟩ (.int .u64 (IntKind.u64.wrap (g.drp + 1)))).heap.size = w5.heap.size := by simp
        clear K2 x0 y13 M5 hC6 HA5 T5 X5 Y5 hgd
        generalize w5.setCell ⟨b, 2, none⟩ (.int .u64 (IntKind.u64.wrap (g.drp + 1))) = w6 at *
        have x0 : w6.cell? ⟨w.heap.size, 0, none⟩ = some (.pointer (some ⟨b, 0, none⟩)) := cell_of_row w6 w.heap.size 0 _ _ _ M6.out.tb.q0
        have x1 : w6.cell? ⟨w.heap.size + 1, 0, none⟩ = some (.int .u64 now) := cell_of_row w6 (w.heap.size + 1) 0 _ _ _ M6.out.tb.q1
        have x2 : w6.cell? ⟨h12 + 1, 0, none⟩ = some (.int .i64 y) := cell_of_row w6 (h12 + 1) 0 _ _ _ Y6.out
        have x3 : w6.cell? ⟨b, 0, none⟩ = some (.pointer (some ⟨qb, 0, none⟩)) := M6.out.gua.c 0 rfl
        have l0 := block_lt_of_cell x0
        have l1 := block_lt_of_cell x1
        have l2 := block_lt_of_cell x2
        have l3 := block_lt_of_cell x3
        simp only at l0 l1 l2 l3
        have nG0 : Hid (¬ (F w.heap.size ∧ w.heap.size ≠ b)) := Lib.hid (fun e => by have := HLT.out _ (.inr (.inl e.1)); omega)
        have nG1 : Hid (¬ (F (w.heap.size + 1) ∧ w.heap.size + 1 ≠ b)) := Lib.hid (fun e => by have := HLT.out _ (.inr (.inl e.1)); omega)
        have nG2 : Hid (¬ (F (h12 + 1) ∧ h12 + 1 ≠ b)) := Lib.hid (fun e => by have := HLT.out _ (.inr (.inl e.1)); omega)
        have nG3 : Hid (¬ (F b ∧ b ≠ b)) := Lib.hid (fun e => e.2 rfl)
        have nG4 : Hid (¬ (F w6.heap.size ∧ w6.heap.size ≠ b)) := Lib.hid (fun e => by have := HLT.out _ (.inr (.inl e.1)); omega)
        have ln0 : w.heap.size ≠ w6.heap.size := by omega
        have ln1 : w.heap.size + 1 ≠ w6.heap.size := by omega
        have ln2 : h12 + 1 ≠ w6.heap.size := by omega
        have ln3 : b ≠ w6.heap.size := by omega
        have lm0 : w6.heap.size ≠ w.heap.size := by omega
        have lm1 : w6.heap.size ≠ w.heap.size + 1 := by omega
        have lm2 : w6.heap.size ≠ h12 + 1 := by omega
        have lm3 : w6.heap.size ≠ b := by omega
        have KB := Lib.hid (fun (W : World) (q : Below w6.heap.size w6 W) => bud_ask4 W (fun k => F k ∧ k ≠ b) qb g.b now (M6.out.gua.bud.below q) HNOW.out _ _ _ _ _ _ _ _ ((q.cell l0).trans x0) ((q.cell l1).trans x1) ((q.cell l2).trans x2) ((q.cell l3).trans x3) nG0.out nG1.out nG2.out nG3.out)
        have hF6 : Hid (∀ k, F k → k < w6.heap.size) := Lib.hid (fun k hk => by have := HLT.out k (.inr (.inl hk)); omega)
        have hE6 : Hid (∀ k, E k → k < w6.heap.size) := Lib.hid (fun k hk => by have := HLT.out k (.inr (.inr hk)); omega)
        have HS6 := Lib.hid hs6
        have HS5 := Lib.hid hs5
        clear hs6 hs5
        go_upto_region 13 with fail
        go_cut [14] (fun s14 wx => ∃ (h : Nat) (F' E' : Nat → Prop), s14 = .pointer (some ⟨h, 0, none⟩) ∧ Hid (DropS w6 wx F E F' E' b qb h { g with drp := inc g.drp } a0 (g.b.ask now).1 y (g.b.ask now).2))
        case first =>
          go_region_held3 (fun W => W.cell? ⟨w.heap.size, 0, none⟩ = some (.pointer (some ⟨b, 0, none⟩)) ∧ W.cell? ⟨w.heap.size + 1, 0, none⟩ = some (.int .u64 now) ∧ W.cell? ⟨h12 + 1, 0, none⟩ = some (.int .i64 y) ∧ W.cell? ⟨b, 0, none⟩ = some (.pointer (some ⟨qb, 0, none⟩)))
            (first
              | (go_keep; done)
              | ((try dsimp only); refine ⟨bC.cell ?_ nG0.out, bC.cell ?_ nG1.out, bC.cell ?_ nG2.out, bC.cell ?_ nG3.out⟩ <;> (first | assumption | (simp [*, World.cell?_alloc_lt]; done)))
              | ((try dsimp only); refine ⟨?_, ?_, ?_, ?_⟩ <;> (first | (go_keep; done) | assumption | (simp [*, World.cell?_alloc_lt]; done) | (simp [*, World.cell?_alloc_lt, World.cell?_setCell_other]; done))))
            (first
              | (go_at_call 53; refine Calls.mono (KB.out w6.drew ?_) ?_; (focus (repeat (first | exact Below.refl _ _ | (refine Below.alloc ?_ (by first | exact Nat.le_refl _ | omega | (simp; omega)) _) | (refine Below.drew ?_)))); rintro e vA ⟨rfl, hB, bC, ⟨lA0, lA1, lA2, lA3⟩, kA0, kA1, kA2, kA3⟩; (try simp only at lA0 lA1 lA2 lA3))
              | (go_at_call 53; refine Calls.mono (KB.out (w6.alloc (.cells #[.int .i64 0, .int .i64 0, .int .u64 0, .bool false] 43)).drew ?_) ?_; (focus (repeat (first | exact Below.refl _ _ | (refine Below.alloc ?_ (by first | exact Nat.le_refl _ | omega | (simp; omega)) _) | (refine Below.drew ?_)))); rintro e vA ⟨rfl, hB, bC, ⟨lA0, lA1, lA2, lA3⟩, kA0, kA1, kA2, kA3⟩; (try simp only at lA0 lA1 lA2 lA3); have zA : vA.heap[w6.heap.size]? = some (.cells #[.int .i64 0, .int .i64 0, .int .u64 0, .bool false] 43 (0, 0)) := bC.blk (by first | exact heap_alloc_new w6 _ | exact heap_alloc_new w6.drew _) nG4.out; have zA0 : vA.cell? ⟨w6.heap.size, 0, none⟩ = some (.int .i64 0) := cell_of_row vA w6.heap.size 0 _ _ _ zA; have zA1 : vA.cell? ⟨w6.heap.size, 1, none⟩ = some (.int .i64 0) := cell_of_row vA w6.heap.size 1 _ _ _ zA; have zA2 : vA.cell? ⟨w6.heap.size, 2, none⟩ = some (.int .u64 0) := cell_of_row vA w6.heap.size 2 _ _ _ zA; have zA3 : vA.cell? ⟨w6.heap.size, 3, none⟩ = some (.bool false) := cell_of_row vA w6.heap.size 3 _ _ _ zA; have fzA0 := frozen_of_row vA w6.heap.size 0 _ _ zA; have fzA1 := frozen_of_row vA w6.heap.size 1 _ _ zA; have fzA2 := frozen_of_row vA w6.heap.size 2 _ _ zA; have fzA3 := frozen_of_row vA w6.heap.size 3 _ _ zA))
          · go_wp2_with fail
            go_meet
            obtain ⟨F', E', hD⟩ := DropS.last (y := y) (ch := (g.b.ask now).2) M6.out.gua (Below.refl w6.heap.size w6).drew hB bC hF6.out hE6.out
            exact ⟨vA.heap.size, F', E', rfl, Lib.hid hD⟩
          · go_wp2_with fail
            go_meet
            obtain ⟨F', E', hD⟩ := DropS.first (y := y) (ch := (g.b.ask now).2) M6.out.gua (box_below w6 _).drew (h := w6.heap.size) (heap_alloc_new w6 (.cells #[.int .i64 0, .int .i64 0, .int .u64 0, .bool false] 43)) rfl (Nat.le_refl _) hB bC hF6.out hE6.out
            exact ⟨w6.heap.size, F', E', rfl, Lib.hid hD⟩
        case rest =>
        obtain ⟨h, F', E', rfl, D⟩ := hcut
        have HT := Lib.hid (GS.take_drop hov HP.out now HLK.out hy)
        have GD := Lib.hid (M6.out.good.b.ask HNOW.out)
        have GD2 := Lib.hid (M6.out.good)
        generalize g.b.ask now = r at *
        obtain ⟨bs, ch⟩ := r
        simp only at D
        have M7 := Lib.hid (M6.out.dropped D.out ⟨GD.out, GD2.out.mal, GD2.out.drp, GD2.out.tak, GD2.out.cha, GD2.out.lat, GD2.out.no⟩)
        have T7 := Lib.hid D.out.t
        have H7 := Lib.hid (show w.heap.size + 4 ≤ h by have := D.out.h0; have := M6.out.sz; omega)
        have hfh : Hid (¬ F' h) := Lib.hid (fun e => (D.out.gF h e).2 rfl)
        have heh : Hid (¬ E' h) := Lib.hid (fun e => by have := (D.out.gE h e).2; have := D.out.h0; omega)
        clear D M6 Y6 x0 x1 x2 x3 l0 l1 l2 l3 KB hF6 hE6 nG0 nG1 nG2 nG3 nG4 ln0 ln1 ln2 ln3 lm0 lm1 lm2 lm3 HS6 HS5
        generalize wc = w7 at *
        have tv := T7.out
        have t0 := cell_of_row w7 h 0 _ _ _ tv
        have ft0 := frozen_of_row w7 h 0 _ _ tv
        have t1 := cell_of_row w7 h 1 _ _ _ tv
        have ft1 := frozen_of_row w7 h 1 _ _ tv
        have t2 := cell_of_row w7 h 2 _ _ _ tv
        have ft2 := frozen_of_row w7 h 2 _ _ tv
        have t3 := cell_of_row w7 h 3 _ _ _ tv
        have ft3 := frozen_of_row w7 h 3 _ _ tv
        cases ch with
        | true =>
          have x0 := cell_of_row w7 w.heap.size 0 _ _ _ M7.out.tb.q0
          have K4 := Lib.hid (u64_add ⟨b, 4, none⟩ g.cha w7 (M7.out.gua.c 4 rfl) (M7.out.gua.fz 4))
          go_wp2_with fail
          refine K4.out.mono ?_
          rintro e w8 ⟨rfl, rfl⟩
          have M8 := Lib.hid (M7.out.set hFb (g' := g.drop (bs, true)) 4 (.int .u64 (IntKind.u64.wrap (g.cha + 1))) rfl rfl rfl ⟨GD.out, GD2.out.mal, GD2.out.drp, GD2.out.tak, inc_u64 _, GD2.out.lat, GD2.out.no⟩)
          have hC8 : Chg (fun j => j = b) w7 (w7.setCell ⟨b, 4, none⟩ (.int .u64 (IntKind.u64.wrap (g.cha + 1)))) := (Chg.refl (fun j => j = b) w7).setCell (p := ⟨b, 4, none⟩) (.inl rfl) _
          have t8 := hC8.blk tv (by have := H7.out; omega)
          clear K4 x0 M7 hC8 T7 tv t0 t1 t2 t3 ft0 ft1 ft2 ft3
          generalize w7.setCell ⟨b, 4, none⟩ (.int .u64 (IntKind.u64.wrap (g.cha + 1))) = w8 at *
          have v2 := M8.out.tb.q2
          have v3 := M8.out.tb.q3
          have t0 := cell_of_row w8 h 0 _ _ _ t8
          have ft0 := frozen_of_row w8 h 0 _ _ t8
          have t1 := cell_of_row w8 h 1 _ _ _ t8
          have ft1 := frozen_of_row w8 h 1 _ _ t8
          have t2 := cell_of_row w8 h 2 _ _ _ t8
          have ft2 := frozen_of_row w8 h 2 _ _ t8
          have t3 := cell_of_row w8 h 3 _ _ _ t8
          have ft3 := frozen_of_row w8 h 3 _ _ t8
          have y0 := cell_of_row w8 (w.heap.size + 2) 0 _ _ _ v2
          have fy0 := frozen_of_row w8 (w.heap.size + 2) 0 _ _ v2
          have y1 := cell_of_row w8 (w.heap.size + 2) 1 _ _ _ v2
          have fy1 := frozen_of_row w8 (w.heap.size + 2) 1 _ _ v2
          have y2 := cell_of_row w8 (w.heap.size + 2) 2 _ _ _ v2
          have fy2 := frozen_of_row w8 (w.heap.size + 2) 2 _ _ v2
          have y3 := cell_of_row w8 (w.heap.size + 2) 3 _ _ _ v2
          have fy3 := frozen_of_row w8 (w.heap.size + 2) 3 _ _ v2
          have z0 := cell_of_row w8 (w.heap.size + 3) 0 _ _ _ v3
          have fz0 := frozen_of_row w8 (w.heap.size + 3) 0 _ _ v3
          have z1 := cell_of_row w8 (w.heap.size + 3) 1 _ _ _ v3
          have fz1 := frozen_of_row w8 (w.heap.size + 3) 1 _ _ v3
          have z2 := cell_of_row w8 (w.heap.size + 3) 2 _ _ _ v3
          have fz2 := frozen_of_row w8 (w.heap.size + 3) 2 _ _ v3
          have z3 := cell_of_row w8 (w.heap.size + 3) 3 _ _ _ v3
          have fz3 := frozen_of_row w8 (w.heap.size + 3) 3 _ _ v3
          have z4 := cell_of_row w8 (w.heap.size + 3) 4 _ _ _ v3
          have fz4 := frozen_of_row w8 (w.heap.size + 3) 4 _ _ v3
          go_wp2
          obtain ⟨d1, d2, d3⟩ := gtake_done M8.out (.int .i64 1) (.int .i64 y) (.int .u64 0) (.bool true) ⟨none, 0, none, 0, [], [], 0, 0, false⟩ (AkE.zero _ _)
          simp only [fillFrom, List.length_nil, Int.natCast_zero] at d1 d2 d3
          refine bodyPost_ret (results_cell_cell_row rfl _ _ _ _ _ _ _ _ _ _ _ _ rfl d1 rfl d2 Tryz.underlying43 rfl infoVd Tryz.underlying74 rfl infoAck2) rfl ?_
          rw [HT.out]
          exact d3 ⟨1, y, 0, true⟩ AckD.zero rfl ⟨rfl, rfl, rfl, rfl, rfl⟩
        | false =>
          have v2 := M7.out.tb.q2
          have v3 := M7.out.tb.q3
          have y0 := cell_of_row w7 (w.heap.size + 2) 0 _ _ _ v2
          have fy0 := frozen_of_row w7 (w.heap.size + 2) 0 _ _ v2
          have y1 := cell_of_row w7 (w.heap.size + 2) 1 _ _ _ v2
          have fy1 := frozen_of_row w7 (w.heap.size + 2) 1 _ _ v2
          have y2 := cell_of_row w7 (w.heap.size + 2) 2 _ _ _ v2
          have fy2 := frozen_of_row w7 (w.heap.size + 2) 2 _ _ v2
          have y3 := cell_of_row w7 (w.heap.size + 2) 3 _ _ _ v2
          have fy3 := frozen_of_row w7 (w.heap.size + 2) 3 _ _ v2
          have z0 := cell_of_row w7 (w.heap.size + 3) 0 _ _ _ v3
          have fz0 := frozen_of_row w7 (w.heap.size + 3) 0 _ _ v3
          have z1 := cell_of_row w7 (w.heap.size + 3) 1 _ _ _ v3
          have fz1 := frozen_of_row w7 (w.heap.size + 3) 1 _ _ v3
          have z2 := cell_of_row w7 (w.heap.size + 3) 2 _ _ _ v3
          have fz2 := frozen_of_row w7 (w.heap.size + 3) 2 _ _ v3
          have z3 := cell_of_row w7 (w.heap.size + 3) 3 _ _ _ v3
          have fz3 := frozen_of_row w7 (w.heap.size + 3) 3 _ _ v3
          have z4 := cell_of_row w7 (w.heap.size + 3) 4 _ _ _ v3
          have fz4 := frozen_of_row w7 (w.heap.size + 3) 4 _ _ v3
          go_wp2
          obtain ⟨d1, d2, d3⟩ := gtake_done M7.out (.int .i64 1) (.int .i64 y) (.int .u64 0) (.bool false) ⟨none, 0, none, 0, [], [], 0, 0, false⟩ (AkE.zero _ _)
          simp only [fillFrom, List.length_nil, Int.natCast_zero] at d1 d2 d3
          refine bodyPost_ret (results_cell_cell_row rfl _ _ _ _ _ _ _ _ _ _ _ _ rfl d1 rfl d2 Tryz.underlying43 rfl infoVd Tryz.underlying74 rfl infoAck2) rfl ?_
          rw [HT.out]
          exact d3 ⟨1, y, 0, false⟩ AckD.zero rfl ⟨rfl, rfl, rfl, rfl, rfl⟩

end Go.Proofs.YtpfmhkkglaghgaaGreat
