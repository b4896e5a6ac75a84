/-
  The walk of PeerSoon.
-/
import Derived.Test.YtkedfipeebjcjaaPlTells
import Derived.Deep.DeepCutAuto
namespace Go.Proofs.Ytkedfipeebjcjaa
set_option linter.unusedSimpArgs false
set_option linter.unusedVariables false
set_option linter.unnecessarySimpa false
open Go.RowKit

namespace PS
theorem take_delay (p : PS) (d : DatD) (now : Int) : (p.take d now).1.delay = p.delay := by
  have U := kept_up p d
  have e1 : (p.kept d).delay = p.delay := U.dl
  have f1 : ∀ q : PS, ((q.newest' d).still).delay = q.delay := fun _ => rfl
  have f2 : ∀ q : PS, (q.silent d now).delay = q.delay := fun _ => rfl
  rcases take_ways p d now with ⟨h1, h2⟩ | ⟨h1, h2, h3⟩ | ⟨h1, h2, h3⟩ | ⟨h1, h2, h4, h3⟩
  · rw [h2]
  · rw [h3]; exact e1
  · rw [h3]; dsimp only; rw [f1, e1]
  · rw [h3]; dsimp only; rw [f2, e1]
theorem soonB {p : PS} (hg : p.Good) (hw : p.Waits) {l : List Int} (hb : ∀ x ∈ l, 0 ≤ x ∧ x ≤ 255) (now : Int) :
    (p.takeB l now).1.delay = p.delay ∧
    (((p.takeB l now).2.isSome = true ∧ (p.takeB l now).1.waits = 0 ∧ (p.takeB l now).1.due = 18446744073709551615) ∨
    ((p.takeB l now).2.isSome = false ∧ (p.takeB l now).1.waits = p.waits ∧ (p.takeB l now).1.due = p.due ∧ sz (p.takeB l now).1.got ≤ sz p.got) ∨
    ((p.takeB l now).2.isSome = false ∧ p.waits = 0 ∧ (p.takeB l now).1.waits = 1 ∧ (p.takeB l now).1.due = min (now + p.delay) 18446744073709551615)) := by
  unfold takeB
  split
  · exact ⟨rfl, .inr (.inl ⟨rfl, rfl, rfl, Int.le_refl _⟩)⟩
  · rename_i d hd
    have ok := datP_ok hd hb
    have h0 : 0 ≤ d.pn := by have := ok.le; omega
    refine ⟨take_delay p d now, ?_⟩
    rcases soon_ways hg hw ok h0 now with ⟨h1, h2⟩ | ⟨h1, h2⟩ | ⟨h1, h2⟩
    · refine .inl ⟨?_, h2⟩
      cases h : (p.take d now).2 with
      | none => exact absurd h h1
      | some a => rfl
    · exact .inr (.inl ⟨by rw [h1]; rfl, h2⟩)
    · exact .inr (.inr ⟨by rw [h1]; rfl, h2⟩)
end PS

/-- Where the loop stands. -/
structure PnS (w : World) (p : Nat) (delay now : Int) (j q : Nat) (s : PS) (W : World) : Prop where
  ex : ∃ F1 : Nat → Prop, PeP W F1 (fun _ => False) p s ∧ ∀ k, F1 k → w.heap.size ≤ k ∧ k < W.heap.size
  few : s.s.length ≤ j
  n0 : 0 ≤ now
  n1 : now ≤ j * 4294967295
  dl : s.delay = delay
  wt : q ≤ 1 ∧ (q : Int) ≤ s.waits
  due : s.waits = 1 → s.due ≤ j * 4294967295 + 65535
  bel : Below w.heap.size w W
theorem PnS.good {w : World} {p : Nat} {delay now : Int} {j q : Nat} {s : PS} {W : World} (h : PnS w p delay now j q s W) : s.Good ∧ s.Waits := by
  obtain ⟨F1, h1, -⟩ := h.ex
  exact ⟨h1.good, h1.wt⟩
theorem got_count (w : World) (A : Option Addr) (c : Nat) (s : PS) (h : s.Good) (hr : Rd w 2 A s.got.length c (Ss s.got)) :
    Calls Try.prog 19 #[.slice A s.got.length c] w fun e w' => e = .returned (.int .u64 (sz s.got)) ∧ Below w.heap.size w w' := by
  have hm := h.mid
  have hl := PS.Mid.lo hm
  refine (countNums_any A s.got.length c s.got w hr (gd_u2 hm.gd hl.1) hm.gd.good).mono ?_
  rintro e w' ⟨h1, q⟩
  rw [sumTo_sz] at h1
  exact ⟨h1, q.below⟩

set_option maxHeartbeats 8000000 in
set_option maxRecDepth 100000 in
theorem peerSoon_any (delay : Int) (A1 : Option Addr) (n1 c1 : Nat) (l1 : List Pk) (w : World) (hd : 0 ≤ delay ∧ delay ≤ 65535) (hp : Packs w A1 n1 c1 l1) :
    Calls Try.prog 7 #[.int .u16 delay, .slice A1 n1 c1] w fun e w' => e = .returned (.bool true) ∧ Below w.heap.size w w' := by
  have hcap := hp.rd.cap
  have hmax := hp.rd.max
  unfold maxLen at hmax
  obtain rfl := hp.count
  have SH := Lib.hid hp
  have wd : IntKind.u64.wrap delay = delay := IntWalk.u64_in _ (by omega)
  clear hp
  go_enter Try.func7, Try.ntmps7
  go_wp2_with fail
  refine (peer_new delay w ⟨by omega, by omega⟩).mono ?_
  rintro e w1 ⟨p, rfl, hP, b1⟩
  have P1 : Hid (PeP w1 (fun k => w.heap.size ≤ k ∧ k < w1.heap.size) (fun _ => False) p (PS.new delay)) := Lib.hid (hP.sub (fun k hk e => ⟨e, hk⟩) (fun _ _ h => .inr h))
  have B1 := Lib.hid b1
  clear hP b1
  go_wp2_with fail
  refine (peerAlive w1).mono ?_
  rintro e w2 ⟨rfl, b2⟩
  have T2 : Hid (PnS w p delay 0 0 0 (PS.new delay) w2) := Lib.hid ⟨⟨_, P1.out.below b2, fun k h => ⟨h.1, Nat.lt_of_lt_of_le h.2 b2.size⟩⟩, Nat.le_refl _, Int.le_refl _, by omega, rfl, ⟨by omega, by show ((0 : Nat) : Int) ≤ 0; omega⟩, (fun e => absurd (show (0 : Int) = 1 from e) (by decide)), B1.out.trans (b2.mono B1.out.size)⟩
  clear b2 P1 B1
  by_cases h30 : 100 < l1.length
  · have hd : decide ((100 : Int) < (l1.length : Int)) = true := decide_eq_true (by omega)
    go_wp2_with fail
    refine (peerAlive w2).mono ?_
    rintro e w3 ⟨rfl, b3⟩
    go_wp2
    go_ret
    exact ⟨rfl, T2.out.bel.trans (b3.mono T2.out.bel.size)⟩
  · have hd : decide ((100 : Int) < (l1.length : Int)) = false := decide_eq_false (by omega)
    go_wp2_with fail
    go_loopw [6, 7, 39] (fun nv qv iv wr => ∃ (j q : Nat) (now : Int) (s : PS), j ≤ l1.length ∧ iv = .int .i64 j ∧ nv = .int .u64 now ∧ qv = .int .i64 q ∧ Hid (PnS w p delay now j q s wr)) (fun _ _ i _ => l1.length - (intOf i).toNat)
    case atStart => exact ⟨0, 0, 0, _, Nat.zero_le _, rfl, rfl, rfl, T2⟩
    case round =>
      obtain ⟨j, q, now, s, hj, rfl, rfl, rfl, S⟩ := hrel
      clear T2
      by_cases hlt : j < l1.length
      · obtain ⟨bb, off, eA, hX⟩ := SH.out.one hlt
        subst eA
        have X := Lib.hid (hX.below S.out.bel)
        have hS := S.out.bel.size
        generalize l1[j] = x at *
        generalize hoff : off + j * 10 = o9 at *
        clear hX
        obtain ⟨F1, PR, hF⟩ := S.out.ex
        have R0 := Lib.hid PR
        have HF := Lib.hid hF
        have hfew := S.out.few
        have hw := X.out.ok.w
        have q0 := S.out.n0
        have q1 := S.out.n1
        have GG := Lib.hid S.out.good
        have wn : IntKind.u64.wrap (now + x.wait) = now + x.wait := IntWalk.u64_in _ (by omega)
        have ww : IntKind.u64.wrap x.wait = x.wait := IntWalk.u64_in _ (by omega)
        have wnd : IntKind.u64.wrap (now + x.wait + delay) = now + x.wait + delay := IntWalk.u64_in _ (by omega)
        have y7 := X.out.at_.c7
        clear PR hF
        -- Got, twice
        have K1 := Lib.hid (peer_pgot wr F1 (fun _ => False) p s R0.out)
        go_wp2_with fail
        refine K1.out.mono ?_
        rintro e w3 ⟨A3, c3, rfl, r3, b3⟩
        have R3 := Lib.hid (R0.out.below b3)
        have B3 := Lib.hid (S.out.bel.trans (b3.mono hS))
        have D3 := Lib.hid b3.size
        have K2 := Lib.hid (peer_pgot w3 F1 (fun _ => False) p s R3.out)
        clear b3 K1 r3 y7
        go_wp2_with fail
        refine K2.out.mono ?_
        rintro e w4 ⟨A4, c4, rfl, r4, b4⟩
        have R4 := Lib.hid (R3.out.below b4)
        have B4 := Lib.hid (B3.out.trans (b4.mono B3.out.size))
        have D4 := Lib.hid (Nat.le_trans D3.out b4.size)
        have K3 := Lib.hid (got_count w4 A4 c4 s GG.out.1 r4.rd)
        clear b4 K2 r4 R3 B3 D3
        go_wp2_with fail
        refine K3.out.mono ?_
        rintro e w5 ⟨rfl, b5⟩
        have R5 := Lib.hid (R4.out.below b5)
        have B5 := Lib.hid (B4.out.trans (b5.mono B4.out.size))
        have D5 := Lib.hid (Nat.le_trans D4.out b5.size)
        have X5 := Lib.hid (SH.out)
        clear b5 K3 R4 B4 D4 X5
        -- the Pack
        have X5 : Hid (PkIn w5 w.heap.size bb o9 x) := Lib.hid (X.out.chg (Z := fun k => w.heap.size ≤ k) ⟨by have h1 := S.out.bel.os; have h2 := B5.out.os; exact h2.trans h1.symm, by have h1 := S.out.bel.tape; have h2 := B5.out.tape; exact h2.trans h1.symm, by have h1 := S.out.bel.output; have h2 := B5.out.output; exact h2.trans h1.symm, D5.out, fun k hk hn => by
          have h1 := S.out.bel.block k (by omega)
          have h2 := B5.out.block k (by omega)
          exact h2.trans h1.symm⟩ (fun k hk e => by omega))
        have y0 := X5.out.at_.c0
        have y1 := X5.out.at_.c1
        have y2 := X5.out.at_.c2
        have y3 := X5.out.at_.c3
        have y4 := X5.out.at_.c4
        have y5 := X5.out.at_.c5
        have y6 := X5.out.at_.c6
        have y7 := X5.out.at_.c7
        have y8 := X5.out.at_.c8
        have y9 := X5.out.at_.c9
        have KB := Lib.hid (X5.out.bytes F1 (fun k hk => ⟨(HF.out k hk).1, Nat.lt_of_lt_of_le (HF.out k hk).2 D5.out⟩))
        go_wp2_with fail
        refine KB.out.mono ?_
        rintro e w6 ⟨A6, c6, rfl, r6, b6, a6⟩
        have RB := Lib.hid r6
        have R6 := Lib.hid (R5.out.below b6)
        have B6 := Lib.hid (B5.out.trans (b6.mono B5.out.size))
        have D6 := Lib.hid (Nat.le_trans D5.out b6.size)
        have U8b := Lib.hid (x.bytes_u8 X.out.ok)
        have L8b := Lib.hid (x.bytes_len X.out.ok)
        have FW := Lib.hid S.out.few
        have SO := Lib.hid (PS.soonB GG.out.1 GG.out.2 U8b.out (now + x.wait))
        have FEW := Lib.hid (PS.takeB_few s x.bytes (now + x.wait))
        have DL := Lib.hid S.out.dl
        have WT := Lib.hid S.out.wt
        have DU := Lib.hid S.out.due
        clear r6 a6 b6 KB R0 X X5 y0 y1 y2 y3 y4 y5 y6 y7 y8 y9 S R5 B5 D5 ww wn
        generalize hnw : now + x.wait = nw at *
        have HNW := Lib.hid hnw
        clear hnw
        have hnw0 : 0 ≤ nw := by have := HNW.out; omega
        have hnw1 : nw ≤ (j + 1) * 4294967295 := by have := HNW.out; omega
        have KP := Lib.hid (peer_take w6 F1 (fun _ => False) p s A6 c6 x.bytes nw R6.out RB.out U8b.out (Nat.le_trans L8b.out (by decide)) ⟨by omega, by omega⟩ (by omega))
        go_wp2_with fail
        refine KP.out.mono ?_
        rintro e w7 ⟨tv, hP, hC⟩
        obtain ⟨A7, c7, rfl, r7, n7⟩ := tv.un
        have R7 : Hid (PeP w7 (GrowB F1 w6 w7) (fun _ => False) p (s.takeB x.bytes nw).1) := Lib.hid (hP.sub (fun k hk e => ⟨e, hk⟩) (fun _ _ e => .inr e))
        have B7 := Lib.hid (B6.out.trans (hC.below (Nat.le_trans hS D6.out) (fun k hk hf => by have := (HF.out k hf).1; omega)))
        have HF7 : Hid (∀ k, GrowB F1 w6 w7 k → w.heap.size ≤ k ∧ k < w7.heap.size) := Lib.hid (fun k hk => ⟨GrowB.ge (fun k h => (HF.out k h).1) (Nat.le_trans hS D6.out) k hk, hk.2⟩)
        have G7 := Lib.hid (And.intro hP.good hP.wt)
        clear tv hP hC r7 n7 KP R6 B6 D6 RB U8b L8b
        generalize GrowB F1 w6 w7 = F7 at *
        generalize (s.takeB x.bytes nw).1 = s1 at *
        generalize (s.takeB x.bytes nw).2 = o1 at *
        obtain ⟨SD, SO⟩ := SO.out
        rcases SO with ⟨e1, e2, e3⟩ | ⟨e1, e2, e3, e4⟩ | ⟨e1, e2, e3, e4⟩
        · have K8 := peer_pdue w7 F7 (fun _ => False) p s1 R7.out
          rw [e3] at K8
          have K8 := Lib.hid K8
          have T8 : Hid (PnS w p delay nw (j + 1) 0 s1 w7) := Lib.hid ⟨⟨F7, R7.out, HF7.out⟩, by have := FEW.out; omega, by omega, by omega, SD.trans DL.out, ⟨by omega, by omega⟩, (fun e => by omega), B7.out⟩
          clear e2 e3 SD
          go_wp2_with fail
          refine K8.out.mono ?_
          rintro e w8 ⟨rfl, rfl⟩
          go_wp2
          go_roundw
          case rel => exact ⟨j + 1, 0, nw, s1, by omega, by go_num, rfl, rfl, T8⟩
          case measure => simp [intOf]; omega
        all_goals
          have K8 := Lib.hid (peer_pgot w7 F7 (fun _ => False) p s1 R7.out)
          have SD := Lib.hid SD
          have E2 := Lib.hid e2
          have E3 := Lib.hid e3
          have E4 := Lib.hid e4
          clear e2 e3 e4
          go_wp2_with fail
          refine K8.out.mono ?_
          rintro e w8 ⟨A8, c8, rfl, r8, b8⟩
          have R8 := Lib.hid (R7.out.below b8)
          have B8 := Lib.hid (B7.out.trans (b8.mono B7.out.size))
          have D8 := Lib.hid b8.size
          have K9 := Lib.hid (got_count w8 A8 c8 s1 G7.out.1 r8.rd)
          clear b8 K8 r8
          go_wp2_with fail
          refine K9.out.mono ?_
          rintro e w9 ⟨rfl, b9⟩
          have R9 := Lib.hid (R8.out.below b9)
          have B9 := Lib.hid (B8.out.trans (b9.mono B8.out.size))
          have D9 := Lib.hid (Nat.le_trans D8.out b9.size)
          clear b9 K9 R8 B8 D8
        · have hdc : decide (sz s.got < sz s1.got) = false := decide_eq_false (by have := E4.out; omega)
          have T9 : Hid (PnS w p delay nw (j + 1) q s1 w9) := Lib.hid ⟨⟨F7, R9.out, fun k h => ⟨(HF7.out k h).1, Nat.lt_of_lt_of_le (HF7.out k h).2 D9.out⟩⟩, by have := FEW.out; omega, by omega, by omega, SD.out.trans DL.out, ⟨WT.out.1, by have := WT.out.2; have := E2.out; omega⟩, (fun e => by have := DU.out (by rw [← E2.out]; exact e); have := E3.out; omega), B9.out⟩
          go_wp2
          go_roundw
          case rel => exact ⟨j + 1, q, nw, s1, by omega, by go_num, rfl, rfl, T9⟩
          case measure => simp [intOf]; omega
        · have hq0 : q = 0 := by have := WT.out; have := E2.out; omega
          subst hq0
          by_cases hc1 : sz s.got < sz s1.got
          · have hdc : decide (sz s.got < sz s1.got) = true := decide_eq_true hc1
            have K10 := Lib.hid (peer_pgot w9 F7 (fun _ => False) p s1 R9.out)
            go_wp2_with fail
            refine K10.out.mono ?_
            rintro e w10 ⟨A10, c10, rfl, r10, b10⟩
            have R10 := Lib.hid (R9.out.below b10)
            have B10 := Lib.hid (B9.out.trans (b10.mono B9.out.size))
            have D10 := Lib.hid (Nat.le_trans D9.out b10.size)
            clear K10 r10 b10
            have hdue : s1.due = nw + delay := by have := E4.out; have := DL.out; omega
            have HDUE := Lib.hid hdue
            clear hdue
            by_cases hc2 : s.got.length ≤ s1.got.length
            · have hdl : decide ((s.got.length : Int) ≤ (s1.got.length : Int)) = true := decide_eq_true (by omega)
              have K11 := peer_pdue w10 F7 (fun _ => False) p s1 R10.out
              rw [HDUE.out] at K11
              have K11 := Lib.hid K11
              go_wp2_with fail
              refine K11.out.mono ?_
              rintro e w11 ⟨rfl, rfl⟩
              have T10 : Hid (PnS w p delay nw (j + 1) 1 s1 w10) := Lib.hid ⟨⟨F7, R10.out, fun k h => ⟨(HF7.out k h).1, Nat.lt_of_lt_of_le (HF7.out k h).2 D10.out⟩⟩, by have := FEW.out; omega, by omega, by omega, SD.out.trans DL.out, ⟨by omega, by have := E3.out; omega⟩, (fun e => by have := HDUE.out; omega), B10.out⟩
              go_wp2
              go_roundw
              case rel => exact ⟨j + 1, 1, nw, s1, by omega, by go_num, rfl, rfl, T10⟩
              case measure => simp [intOf]; omega
            · have hdl : decide ((s.got.length : Int) ≤ (s1.got.length : Int)) = false := decide_eq_false (by omega)
              have T10 : Hid (PnS w p delay nw (j + 1) 0 s1 w10) := Lib.hid ⟨⟨F7, R10.out, fun k h => ⟨(HF7.out k h).1, Nat.lt_of_lt_of_le (HF7.out k h).2 D10.out⟩⟩, by have := FEW.out; omega, by omega, by omega, SD.out.trans DL.out, ⟨by omega, by have := E3.out; omega⟩, (fun e => by have := HDUE.out; omega), B10.out⟩
              go_wp2
              go_roundw
              case rel => exact ⟨j + 1, 0, nw, s1, by omega, by go_num, rfl, rfl, T10⟩
              case measure => simp [intOf]; omega
          · have hdc : decide (sz s.got < sz s1.got) = false := decide_eq_false (by omega)
            have T9 : Hid (PnS w p delay nw (j + 1) 0 s1 w9) := Lib.hid ⟨⟨F7, R9.out, fun k h => ⟨(HF7.out k h).1, Nat.lt_of_lt_of_le (HF7.out k h).2 D9.out⟩⟩, by have := FEW.out; omega, by omega, by omega, SD.out.trans DL.out, ⟨by omega, by have := E3.out; omega⟩, (fun e => by have := E4.out; have := DL.out; omega), B9.out⟩
            go_wp2
            go_roundw
            case rel => exact ⟨j + 1, 0, nw, s1, by omega, by go_num, rfl, rfl, T9⟩
            case measure => simp [intOf]; omega
      · obtain rfl : j = l1.length := by omega
        by_cases hq0 : q = 0
        · subst hq0
          go_wp2
          go_ret
          exact ⟨rfl, S.out.bel⟩
        · have hwt := S.out.wt
          obtain rfl : q = 1 := by omega
          obtain ⟨F1, PR, hF⟩ := S.out.ex
          have hg := PR.good
          have hw1 : s.waits = 1 := by
            rcases hg.wt with e | e
            · have := hwt.2; omega
            · exact e
          have hdu := S.out.due hw1
          have hnu := hg.num.2.2.1.1
          have hne : s.due ≠ 18446744073709551615 := by omega
          have TN : Hid (s.tick s.due = (s.still, some s.told)) := Lib.hid (if_pos ⟨hne, Int.le_refl _⟩)
          have TE : Hid (s.due = 0 ∨ (s.due ≠ 0 ∧ (s.tick (IntKind.u64.wrap (s.due - 1))).2.isSome = false)) := by
            by_cases hz : s.due = 0
            · exact Lib.hid (.inl hz)
            · have e : IntKind.u64.wrap (s.due - 1) = s.due - 1 := IntWalk.u64_in _ (by omega)
              rw [e]
              exact Lib.hid (.inr ⟨hz, by
                have : s.tick (s.due - 1) = (s, none) := if_neg (fun h => by have := h.2; omega)
                rw [this]
                rfl⟩)
          have K1 := Lib.hid (peer_pdue wr F1 (fun _ => False) p s PR)
          have KF := Lib.hid (peer_fork wr F1 (fun _ => False) p s PR)
          have B0 := Lib.hid S.out.bel
          have HF := Lib.hid hF
          have NE := Lib.hid hne
          clear PR hF hg hwt hw1 S hq0 hdu hnu hne
          go_wp2_with fail
          refine K1.out.mono ?_
          rintro e w3 ⟨rfl, rfl⟩
          go_wp2_with fail
          refine KF.out.mono ?_
          rintro e w4 ⟨rfl, ⟨H1, h1, hp1, hq1⟩, b4⟩
          have B4 := Lib.hid (B0.out.trans (b4.mono B0.out.size))
          have KQ := Lib.hid (peer_tick w4 _ _ wr.heap.size s (IntKind.u64.wrap (s.due - 1)) hq1)
          have HP1 := Lib.hid hp1
          have HH := Lib.hid h1
          clear hp1 hq1 K1 KF b4 h1
          go_wp2_with fail
          refine KQ.out.mono ?_
          rintro e w5 ⟨tv, -, hC⟩
          obtain ⟨A5, c5, rfl, r5, n5⟩ := tv.un
          have P5 := Lib.hid (PeP.chg (F' := H1) (M' := fun k => (F1 k ∨ False) ∧ k < wr.heap.size ∧ ¬ H1 k) HP1.out hC (fun k hk e h => by
            rcases e with e | e
            · have := (HH.out k e).2; omega
            · have := e.2.1; omega) (fun _ _ h => h) (fun _ _ h => .inr h))
          have B5 := Lib.hid (B4.out.trans (hC.below B4.out.size (fun k hk hf => by have := B0.out.size; omega)))
          have KP := peer_tick w5 _ _ p s s.due P5.out
          rw [TN.out] at KP
          have KP := Lib.hid KP
          clear tv hC r5 n5 KQ HP1 B4
          go_wp2_with fail
          refine KP.out.mono ?_
          rintro e w6 ⟨tv, hP, hC⟩
          obtain ⟨A6, c6, rfl, r6, n6⟩ := tv.un
          have B6 := Lib.hid (B5.out.trans (hC.below B5.out.size (fun k hk hf => by have := (HF.out k (HH.out k hf).1).1; omega)))
          have K7 := peer_pdue w6 _ _ p s.still hP
          rw [show s.still.due = 18446744073709551615 from rfl] at K7
          have K7 := Lib.hid K7
          clear tv hP hC r6 n6 KP P5 B5
          generalize (s.tick (IntKind.u64.wrap (s.due - 1))).2.isSome = ea at *
          have ne1 : (s.due != 18446744073709551615) = true := by simpa using NE.out
          rcases TE.out with hz | ⟨hz, hz2⟩
          · have z1 : (s.due == 0) = true := by simp [hz]
            generalize s.due = du at *
            go_wp2_with fail
            refine K7.out.mono ?_
            rintro e w7 ⟨rfl, rfl⟩
            go_wp2
            go_ret
            exact ⟨rfl, B6.out⟩
          · have z1 : (s.due == 0) = false := by simp [hz]
            subst hz2
            generalize s.due = du at *
            clear hz
            go_wp2_with fail
            refine K7.out.mono ?_
            rintro e w7 ⟨rfl, rfl⟩
            go_wp2
            go_ret
            exact ⟨rfl, B6.out⟩

end Go.Proofs.Ytkedfipeebjcjaa
