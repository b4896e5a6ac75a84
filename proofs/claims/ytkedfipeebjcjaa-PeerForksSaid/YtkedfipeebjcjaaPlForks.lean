/-
  The walk of PeerForks.
-/
import Derived.Test.YtkedfipeebjcjaaPlTells
import Derived.Test.YtkedfipeebjcjaaRpe3
namespace Go.Proofs.Ytkedfipeebjcjaa
set_option linter.unusedSimpArgs false
set_option linter.unusedVariables false
set_option linter.unnecessarySimpa false
open Go.RowKit

/-- Where the second loop stands: the old pair and the forked one. -/
structure PfS (w : World) (p r q t : Nat) (s : PS) (j : Nat) (u : PS) (W : World) : Prop where
  ex : ∃ F1 F2 G1 G2 M : Nat → Prop, PR2 W F1 F2 M p r s s ∧ PR2 W G1 G2 M q t u u ∧ (∀ k, F1 k ∨ F2 k → ¬ (G1 k ∨ G2 k)) ∧ ∀ k, F1 k ∨ F2 k ∨ G1 k ∨ G2 k → w.heap.size ≤ k
  few : u.s.length ≤ 60 + j
  bel : Below w.heap.size w W

set_option maxHeartbeats 8000000 in
set_option maxRecDepth 100000 in
theorem peerForks_any (delay : Int) (A1 : Option Addr) (n1 c1 : Nat) (l1 : List Pk) (A2 : Option Addr) (n2 c2 : Nat) (l2 : List Pk) (w : World) (hd : isU64 delay) (hp : Packs w A1 n1 c1 l1) (hp2 : Packs w A2 n2 c2 l2) :
    Calls Try.prog 6 #[.int .u64 delay, .slice A1 n1 c1, .slice A2 n2 c2] w fun e w' => e = .returned (.bool true) ∧ Below w.heap.size w w' := by
  have hcap := hp.rd.cap
  have hmax := hp.rd.max
  have hcap2 := hp2.rd.cap
  have hmax2 := hp2.rd.max
  unfold maxLen at hmax hmax2
  obtain rfl := hp.count
  obtain rfl := hp2.count
  have SH := Lib.hid hp
  have SG := Lib.hid hp2
  have HD := Lib.hid hd
  clear hp hd hp2
  go_enter Try.func6, Try.ntmps6
  go_wp2_with fail
  refine (peer_new delay w HD.out).mono ?_
  rintro e w1 ⟨p, rfl, hP, b1⟩
  have P1 : Hid (PeP w1 (fun k => w.heap.size ≤ k ∧ k < w1.heap.size) (fun _ => False) p (PS.new delay)) := Lib.hid (hP.sub (fun k hk e => ⟨e, hk⟩) (fun _ _ h => .inr h))
  have B1 := Lib.hid b1
  clear hP b1
  go_wp2_with fail
  refine (peerAlive w1).mono ?_
  rintro e w2 ⟨rfl, b2⟩
  have P2 := Lib.hid (P1.out.below b2)
  have B2 := Lib.hid (B1.out.trans (b2.mono B1.out.size))
  have S2 := Lib.hid b2.size
  clear b2
  by_cases h30 : 60 < l1.length ∨ 60 < l2.length
  · have hd : decide ((60 : Int) < (l1.length : Int)) = true ∨ decide ((60 : Int) < (l1.length : Int)) = false ∧ decide ((60 : Int) < (l2.length : Int)) = true := by
      rcases h30 with h | h
      · exact .inl (decide_eq_true (by omega))
      · by_cases h2 : 60 < l1.length
        · exact .inl (decide_eq_true (by omega))
        · exact .inr ⟨decide_eq_false (by omega), decide_eq_true (by omega)⟩
    rcases hd with hd | ⟨hd, hd2⟩
    all_goals
      go_wp2_with fail
      refine (peerAlive w2).mono ?_
      rintro e w3 ⟨rfl, b3⟩
      go_wp2
      go_ret
      exact ⟨rfl, B2.out.trans (b3.mono B2.out.size)⟩
  · have h31 : l1.length ≤ 60 := by omega
    have h32 : l2.length ≤ 60 := by omega
    have hd : decide ((60 : Int) < (l1.length : Int)) = false := decide_eq_false (by omega)
    have hd2 : decide ((60 : Int) < (l2.length : Int)) = false := decide_eq_false (by omega)
    clear h30
    go_wp2_with fail
    refine (rp_new delay w2 HD.out).mono ?_
    rintro e w3 ⟨r, rfl, hR, b3⟩
    have T3 : Hid (PtS w p r 0 0 (PS.new delay) w3) := Lib.hid ⟨⟨_, fun k => w2.heap.size ≤ k ∧ k < w3.heap.size, ⟨fun k h => h.elim, P2.out.below b3, hR.sub (fun k hk e => ⟨e, hk⟩) (fun _ _ h => .inr h), fun k h1 h2 => by have := S2.out; omega, fun k h => ⟨fun h => h, by have := S2.out; have := b3.size; omega⟩⟩, fun k h => by have := B2.out.size; omega⟩, Nat.le_refl _, Int.le_refl _, by omega, B2.out.trans (b3.mono B2.out.size)⟩
    clear hR b3 P1 P2 B1 B2 S2
    go_wp2_with fail
    go_loopw [44] (fun iv wr => ∃ (j : Nat) (s : PS), j ≤ l1.length ∧ iv = .int .i64 j ∧ Hid (PtS w p r 0 j s wr)) (fun i _ => l1.length - (intOf i).toNat)
    case atStart => exact ⟨0, _, Nat.zero_le _, rfl, T3⟩
    case round =>
      obtain ⟨j, s, hj, rfl, S⟩ := hrel
      clear T3
      by_cases hlt : j < l1.length
      · obtain ⟨bb, off, eA, hX⟩ := SH.out.one hlt
        subst eA
        have X := Lib.hid (hX.below S.out.bel)
        have hS := S.out.bel.size
        generalize l1[j] = x at *
        generalize hoff : off + j * 10 = o9 at *
        clear hX
        obtain ⟨F1, F2, PR, hF⟩ := S.out.ex
        have R0 := Lib.hid PR
        have HF := Lib.hid hF
        have hfew := S.out.few
        have wj : IntKind.u64.wrap (j : Int) = j := IntWalk.u64_in _ (by omega)
        have y0 := X.out.at_.c0
        have y1 := X.out.at_.c1
        have y2 := X.out.at_.c2
        have y3 := X.out.at_.c3
        have y4 := X.out.at_.c4
        have y5 := X.out.at_.c5
        have y6 := X.out.at_.c6
        have y7 := X.out.at_.c7
        have y8 := X.out.at_.c8
        have y9 := X.out.at_.c9
        clear PR hF
        have KB := Lib.hid (X.out.bytes (fun k => F1 k ∨ F2 k) (fun k hk => ⟨HF.out k hk, (R0.out.g k hk).2⟩))
        go_wp2_with fail
        refine KB.out.mono ?_
        rintro e w4 ⟨A4, c4, rfl, r4, b4, a4⟩
        have RB := Lib.hid r4
        have NB := Lib.hid a4
        have R4 := Lib.hid (R0.out.below b4)
        have X4 := Lib.hid (X.out.below (b4.mono hS))
        have B4 := Lib.hid (S.out.bel.trans (b4.mono hS))
        have hS4 := Lib.hid (Nat.le_trans hS b4.size)
        have U8b := Lib.hid (x.bytes_u8 X.out.ok)
        have L8b := Lib.hid (x.bytes_len X.out.ok)
        have FW := Lib.hid S.out.few
        clear r4 a4 b4 KB R0 X y0 y1 y2 y3 y4 y5 y6 y7 y8 y9 S
        have KP := Lib.hid (peer_take w4 F1 (fun _ => False) p s A4 c4 x.bytes j R4.out.P RB.out U8b.out (Nat.le_trans L8b.out (by decide)) ⟨by omega, by omega⟩ (by omega))
        go_wp2_with fail
        refine KP.out.mono ?_
        rintro e w5 ⟨tv, hP, hC⟩
        obtain ⟨A5, c5, rfl, r5, n5⟩ := tv.un
        have R5 := Lib.hid (R4.out.movP hP hC)
        have X5 := Lib.hid (X4.out.chg hC (fun k hk hf => by have := HF.out k (.inl hf); omega))
        have B5 := Lib.hid (B4.out.trans (hC.below hS4.out (fun k hk hf => by have := HF.out k (.inl hf); omega)))
        have H5 := Lib.hid hC.size
        have HF5 : Hid (∀ k, GrowB F1 w4 w5 k ∨ F2 k → w.heap.size ≤ k) := Lib.hid (fun k hk => hk.elim (GrowB.ge (fun k h => HF.out k (.inl h)) hS4.out k) (fun h => HF.out k (.inr h)))
        clear tv hP hC r5 n5 KP RB NB
        generalize GrowB F1 w4 w5 = G1 at *
        have y0 := X5.out.at_.c0
        have y1 := X5.out.at_.c1
        have y2 := X5.out.at_.c2
        have y3 := X5.out.at_.c3
        have y4 := X5.out.at_.c4
        have y5 := X5.out.at_.c5
        have y6 := X5.out.at_.c6
        have y7 := X5.out.at_.c7
        have y8 := X5.out.at_.c8
        have y9 := X5.out.at_.c9
        have KB := Lib.hid (X5.out.bytes (fun k => G1 k ∨ F2 k) (fun k hk => ⟨HF5.out k hk, (R5.out.g k hk).2⟩))
        go_wp2_with fail
        refine KB.out.mono ?_
        rintro e w6 ⟨A6, c6, rfl, r6, b6, a6⟩
        have RB := Lib.hid r6
        have R6 := Lib.hid (R5.out.below b6)
        have B6 := Lib.hid (B5.out.trans (b6.mono B5.out.size))
        clear r6 a6 b6 KB R4 R5 X4 X5 B4 B5 y0 y1 y2 y3 y4 y5 y6 y7 y8 y9
        have KR := Lib.hid (rp_take w6 F2 (fun _ => False) r s A6 c6 x.bytes j R6.out.R RB.out U8b.out (Nat.le_trans L8b.out (by decide)) ⟨by omega, by omega⟩ (by omega))
        go_wp2_with fail
        refine KR.out.mono ?_
        rintro e w7 ⟨tv, hP, hC⟩
        obtain ⟨A7, c7, rfl, r7, n7⟩ := tv.un
        have R7 := Lib.hid (R6.out.movR hP hC)
        have B7 := Lib.hid (B6.out.trans (hC.below B6.out.size (fun k hk hf => by have := HF.out k (.inr hf); omega)))
        have HF7 : Hid (∀ k, G1 k ∨ GrowB F2 w6 w7 k → w.heap.size ≤ k) := Lib.hid (fun k hk => hk.elim (fun h => HF5.out k (.inl h)) (GrowB.ge (fun k h => HF.out k (.inr h)) B6.out.size k))
        have FW7 := Lib.hid (Nat.le_trans (PS.takeB_few s x.bytes j) (Nat.succ_le_succ FW.out))
        clear tv hP hC r7 n7 KR RB
        generalize (s.takeB x.bytes j).1 = s1 at *
        generalize (s.takeB x.bytes j).2 = o1 at *
        go_wp2
        go_roundw
        case rel => exact ⟨j + 1, s1, by omega, by go_num, Lib.hid ⟨⟨_, _, R7.out, HF7.out⟩, FW7.out, Int.le_refl _, by omega, B7.out⟩⟩
        case measure => simp [intOf]; omega
      · obtain rfl : j = l1.length := by omega
        obtain ⟨F1, F2, PR, hF⟩ := S.out.ex
        have KF := Lib.hid (peer_fork wr F1 (fun _ => False) p s PR.P)
        go_wp2_with fail
        refine KF.out.mono ?_
        rintro e w4 ⟨rfl, ⟨H1, h1, hp1, hq1⟩, b4⟩
        have hR4 := PR.R.below b4
        have KG := Lib.hid (rp_fork w4 F2 (fun _ => False) r s hR4)
        go_wp2_with fail
        refine KG.out.mono ?_
        rintro e w5 ⟨rfl, ⟨H2, h2, hp2, hq2⟩, b5⟩
        have z4 := b4.size
        have z5 := b5.size
        have T5 : Hid (PfS w p r wr.heap.size w4.heap.size s 0 s w5) := by
          have hB := S.out.bel.size
          have f1 : ∀ k, F1 k → k < wr.heap.size ∧ ¬ F2 k ∧ w.heap.size ≤ k := fun k e => ⟨(PR.g k (.inl e)).2, PR.d k e, hF k (.inl e)⟩
          have f2 : ∀ k, F2 k → k < wr.heap.size ∧ ¬ F1 k ∧ w.heap.size ≤ k := fun k e => ⟨(PR.g k (.inr e)).2, fun e2 => PR.d k e2 e, hF k (.inr e)⟩
          refine Lib.hid ⟨⟨H1, H2, fun k => wr.heap.size ≤ k ∧ k < w4.heap.size, fun k => w4.heap.size ≤ k ∧ k < w5.heap.size, fun k => (F1 k ∧ ¬ H1 k) ∨ (F2 k ∧ ¬ H2 k), ⟨?_, ?_, ?_, ?_, ?_⟩, ⟨?_, ?_, ?_, ?_, ?_⟩, ?_, ?_⟩, by have := S.out.few; omega, S.out.bel.trans ((b4.mono hB).trans (b5.mono (by omega)))⟩
          · rintro k (h | h)
            · have := f1 k h.1; omega
            · have := f2 k h.1; omega
          · exact (hp1.below b5).sub (fun k _ e => e) (fun k _ e => .inr (.inl ⟨e.1.elim id (fun h => h.elim), e.2.2⟩))
          · exact hp2.sub (fun k _ e => e) (fun k _ e => .inr (.inr ⟨e.1.elim id (fun h => h.elim), e.2.2⟩))
          · intro k e1 e2
            exact (f1 k (h1 k e1).1).2.1 (h2 k e2).1
          · rintro k (e | e)
            · have g1 := f1 k (h1 k e).1
              exact ⟨fun h => h.elim (fun h => h.2 e) (fun h => g1.2.1 h.1), by omega⟩
            · have g1 := f2 k (h2 k e).1
              exact ⟨fun h => h.elim (fun h => g1.2.1 h.1) (fun h => h.2 e), by omega⟩
          · rintro k (h | h)
            · have := f1 k h.1; omega
            · have := f2 k h.1; omega
          · exact (hq1.sub (G := fun k => wr.heap.size ≤ k ∧ k < w4.heap.size) (N := fun k => (F1 k ∧ ¬ H1 k) ∨ (F2 k ∧ ¬ H2 k)) (fun k hk e => ⟨e, hk⟩) (fun k _ e => .inr (.inl ⟨e.1.elim id (fun h => h.elim), e.2.2⟩))).below b5
          · exact hq2.sub (fun k hk e => ⟨e, hk⟩) (fun k _ e => .inr (.inr ⟨e.1.elim id (fun h => h.elim), e.2.2⟩))
          · intro k e1 e2
            omega
          · rintro k (e | e)
            · exact ⟨fun h => h.elim (fun h => by have := f1 k h.1; omega) (fun h => by have := f2 k h.1; omega), by omega⟩
            · exact ⟨fun h => h.elim (fun h => by have := f1 k h.1; omega) (fun h => by have := f2 k h.1; omega), by omega⟩
          · rintro k (e | e) h
            · have := f1 k (h1 k e).1; omega
            · have := f2 k (h2 k e).1; omega
          · rintro k (e | e | e | e)
            · exact (f1 k (h1 k e).1).2.2
            · exact (f2 k (h2 k e).1).2.2
            · omega
            · omega
        clear PR hF KF KG hp1 hq1 b4 hR4 hp2 hq2 b5 S z4 z5 h1 h2
        generalize wr.heap.size = q at *
        generalize w4.heap.size = t at *
        obtain ⟨E1, E2, G1, G2, M, Q1, Q2, -, -⟩ := T5.out.ex
        have KS := Lib.hid (pr_same w5 _ _ q t s Q2.rel)
        clear Q1 Q2
        go_wp2_with fail
        refine KS.out.mono ?_
        rintro e w6 ⟨rfl, b6⟩
        have T6 : Hid (PfS w p r q t s 0 s w6) := by
          obtain ⟨E1, E2, G1, G2, M, Q1, Q2, q3, q4⟩ := T5.out.ex
          exact Lib.hid ⟨⟨E1, E2, G1, G2, M, Q1.below b6, Q2.below b6, q3, q4⟩, T5.out.few, T5.out.bel.trans (b6.mono T5.out.bel.size)⟩
        clear T5 KS b6
        go_wp2_with fail
        rename World => w6
        go_loopw [80] (fun iv wr => ∃ (j : Nat) (u : PS), j ≤ l2.length ∧ iv = .int .i64 j ∧ Hid (PfS w p r q t s j u wr)) (fun i _ => l2.length - (intOf i).toNat)
        case atStart => exact ⟨0, _, Nat.zero_le _, rfl, T6⟩
        case round =>
          obtain ⟨j, u, hj, rfl, S⟩ := hrel
          clear T6
          by_cases hlt : j < l2.length
          · obtain ⟨bb, off, eA, hX⟩ := SG.out.one hlt
            subst eA
            have X := Lib.hid (hX.below S.out.bel)
            have hS := S.out.bel.size
            generalize l2[j] = x at *
            generalize hoff : off + j * 10 = o9 at *
            clear hX
            obtain ⟨F1, F2, G1, G2, M, PO, PN, hno, hF⟩ := S.out.ex
            have O0 := Lib.hid PO
            have R0 := Lib.hid PN
            have HF := Lib.hid hF
            have NO := Lib.hid hno
            have hfew := S.out.few
            have wj0 : IntKind.i64.wrap (100 + (j : Int)) = 100 + j := IntWalk.i64_in _ (by omega)
            have wj : IntKind.u64.wrap (100 + (j : Int)) = 100 + j := IntWalk.u64_in _ (by omega)
            have y0 := X.out.at_.c0
            have y1 := X.out.at_.c1
            have y2 := X.out.at_.c2
            have y3 := X.out.at_.c3
            have y4 := X.out.at_.c4
            have y5 := X.out.at_.c5
            have y6 := X.out.at_.c6
            have y7 := X.out.at_.c7
            have y8 := X.out.at_.c8
            have y9 := X.out.at_.c9
            clear PO PN hF hno
            have KB := Lib.hid (X.out.bytes (fun k => G1 k ∨ G2 k) (fun k hk => ⟨HF.out k (.inr (.inr hk)), (R0.out.g k hk).2⟩))
            go_wp2_with fail
            refine KB.out.mono ?_
            rintro e w7 ⟨A4, c4, rfl, r4, b4, a4⟩
            have RB := Lib.hid r4
            have O4 := Lib.hid (O0.out.below b4)
            have R4 := Lib.hid (R0.out.below b4)
            have X4 := Lib.hid (X.out.below (b4.mono hS))
            have B4 := Lib.hid (S.out.bel.trans (b4.mono hS))
            have hS4 := Lib.hid (Nat.le_trans hS b4.size)
            have U8b := Lib.hid (x.bytes_u8 X.out.ok)
            have L8b := Lib.hid (x.bytes_len X.out.ok)
            have FW := Lib.hid S.out.few
            clear r4 a4 b4 KB R0 O0 X y0 y1 y2 y3 y4 y5 y6 y7 y8 y9 S
            have KP := Lib.hid (peer_take w7 G1 M q u A4 c4 x.bytes (100 + j) R4.out.P RB.out U8b.out (Nat.le_trans L8b.out (by decide)) ⟨by omega, by omega⟩ (by omega))
            go_wp2_with fail
            refine KP.out.mono ?_
            rintro e w8 ⟨tv, hP, hC⟩
            obtain ⟨A5, c5, rfl, r5, n5⟩ := tv.un
            have R5 := Lib.hid (R4.out.movP hP hC)
            have O5 := Lib.hid (O4.out.chg hC (fun k hk e hf => e.elim (fun e => NO.out k (.inl e) (.inl hf)) (fun e => e.elim (fun e => NO.out k (.inr e) (.inl hf)) (fun e => (R4.out.g k (.inl hf)).1 e))))
            have X5 := Lib.hid (X4.out.chg hC (fun k hk hf => by have := HF.out k (.inr (.inr (.inl hf))); omega))
            have B5 := Lib.hid (B4.out.trans (hC.below hS4.out (fun k hk hf => by have := HF.out k (.inr (.inr (.inl hf))); omega)))
            have H5 := Lib.hid hC.size
            have T5 := Lib.hid r5
            have N5 := Lib.hid n5
            have HF5 : Hid (∀ k, GrowB G1 w7 w8 k ∨ G2 k → w.heap.size ≤ k) := Lib.hid (fun k hk => hk.elim (GrowB.ge (fun k h => HF.out k (.inr (.inr (.inl h)))) hS4.out k) (fun h => HF.out k (.inr (.inr (.inr h)))))
            have NO5 : Hid (∀ k, F1 k ∨ F2 k → ¬ (GrowB G1 w7 w8 k ∨ G2 k)) := Lib.hid (fun k e h => h.elim (fun h => h.1.elim (fun h => NO.out k e (.inl h)) (fun h => by have := (O4.out.g k e).2; omega)) (fun h => NO.out k e (.inr h)))
            clear tv hP hC r5 n5 KP RB
            generalize GrowB G1 w7 w8 = G1' at *
            have y0 := X5.out.at_.c0
            have y1 := X5.out.at_.c1
            have y2 := X5.out.at_.c2
            have y3 := X5.out.at_.c3
            have y4 := X5.out.at_.c4
            have y5 := X5.out.at_.c5
            have y6 := X5.out.at_.c6
            have y7 := X5.out.at_.c7
            have y8 := X5.out.at_.c8
            have y9 := X5.out.at_.c9
            have KB := Lib.hid (X5.out.bytes (fun k => G1' k ∨ G2 k) (fun k hk => ⟨HF5.out k hk, (R5.out.g k hk).2⟩))
            go_wp2_with fail
            refine KB.out.mono ?_
            rintro e w9 ⟨A6, c6, rfl, r6, b6, a6⟩
            have RB := Lib.hid r6
            have R6 := Lib.hid (R5.out.below b6)
            have O6 := Lib.hid (O5.out.below b6)
            have B6 := Lib.hid (B5.out.trans (b6.mono B5.out.size))
            have T6 := Lib.hid (T5.out.below b6)
            have H6 := Lib.hid b6.size
            clear r6 a6 b6 KB R5 O5 O4 X4 X5 B4 B5 T5 y0 y1 y2 y3 y4 y5 y6 y7 y8 y9
            have KR := Lib.hid (rp_take w9 G2 M t u A6 c6 x.bytes (100 + j) R6.out.R RB.out U8b.out (Nat.le_trans L8b.out (by decide)) ⟨by omega, by omega⟩ (by omega))
            go_wp2_with fail
            refine KR.out.mono ?_
            rintro e w10 ⟨tv, hP, hC⟩
            obtain ⟨A7, c7, rfl, r7, n7⟩ := tv.un
            have R7 := Lib.hid (R6.out.movR hP hC)
            have O7 := Lib.hid (O6.out.chg hC (fun k hk e hf => e.elim (fun e => NO5.out k (.inl e) (.inr hf)) (fun e => e.elim (fun e => NO5.out k (.inr e) (.inr hf)) (fun e => (R6.out.g k (.inr hf)).1 e))))
            have B7 := Lib.hid (B6.out.trans (hC.below B6.out.size (fun k hk hf => by have := HF5.out k (.inr hf); omega)))
            have T7 := Lib.hid (T6.out.chg hC (fun b off e hn hf => by have := N5.out b off e hn; have := (R4.out.g b (.inr hf)).2; omega))
            have HF7 : Hid (∀ k, F1 k ∨ F2 k ∨ G1' k ∨ GrowB G2 w9 w10 k → w.heap.size ≤ k) := Lib.hid (fun k hk => hk.elim (fun h => HF.out k (.inl h)) (fun h => h.elim (fun h => HF.out k (.inr (.inl h))) (fun h => h.elim (fun h => HF5.out k (.inl h)) (GrowB.ge (fun k h => HF5.out k (.inr h)) B6.out.size k))))
            have NO7 : Hid (∀ k, F1 k ∨ F2 k → ¬ (G1' k ∨ GrowB G2 w9 w10 k)) := Lib.hid (fun k e h => h.elim (fun h => NO5.out k e (.inl h)) (fun h => h.1.elim (fun h => NO5.out k e (.inr h)) (fun h => by have := (O6.out.g k e).2; omega)))
            have FW7 := Lib.hid (Nat.le_trans (PS.takeB_few u x.bytes (100 + j)) (Nat.succ_le_succ FW.out))
            obtain ⟨cv1, cv2⟩ := told_same T7.out r7
            clear tv hP hC r7 n7 KR RB T6 N5 R4 R6 T7
            generalize (u.takeB x.bytes (100 + j)).1 = u1 at *
            generalize (u.takeB x.bytes (100 + j)).2 = o1 at *
            go_wp2
            go_roundw
            case rel => exact ⟨j + 1, u1, by omega, by go_num, Lib.hid ⟨⟨_, _, _, _, M, O7.out, R7.out, NO7.out, HF7.out⟩, by have := FW7.out; omega, B7.out⟩⟩
            case measure => simp [intOf]; omega
          · obtain rfl : j = l2.length := by omega
            obtain ⟨E1, E2, G1, G2, M, Q1, Q2, q3, q4⟩ := S.out.ex
            have B0 := Lib.hid S.out.bel
            have KS := Lib.hid (pr_same wr _ _ q t u Q2.rel)
            have O0 := Lib.hid Q1
            clear Q1 Q2 q3 q4 S
            go_wp2_with fail
            refine KS.out.mono ?_
            rintro e w7 ⟨rfl, b7⟩
            have KS2 := Lib.hid (pr_same w7 _ _ p r s (O0.out.below b7).rel)
            have B7 := Lib.hid (B0.out.trans (b7.mono B0.out.size))
            clear KS O0 B0 b7
            go_wp2_with fail
            refine KS2.out.mono ?_
            rintro e w8 ⟨rfl, b8⟩
            go_wp2
            go_ret
            exact ⟨rfl, B7.out.trans (b8.mono B7.out.size)⟩

end Go.Proofs.Ytkedfipeebjcjaa
