/-
  The walk of PeerTells.
-/
import Derived.Test.YtkedfipeebjcjaaPlw3
import Derived.Deep.DeepCutAuto
namespace Go.Proofs.Ytkedfipeebjcjaa
set_option linter.unusedSimpArgs false
set_option linter.unusedVariables false
set_option linter.unnecessarySimpa false
open Go.RowKit

/-- Where the loop stands. -/
structure PtS (w : World) (p r : Nat) (now : Int) (j : Nat) (s : PS) (W : World) : Prop where
  ex : ∃ F1 F2 : Nat → Prop, PR2 W F1 F2 (fun _ => False) p r s s ∧ ∀ k, F1 k ∨ F2 k → w.heap.size ≤ k
  few : s.s.length ≤ j
  n0 : 0 ≤ now
  n1 : now ≤ j * 4294967295
  bel : Below w.heap.size w W

/-- Two told rows are the same text. -/
theorem told_same {W : World} {A B : Option Addr} {c d : Nat} {l : List Int} (h : Rd W 1 A l.length c (U8 l)) (k : Rd W 1 B l.length d (U8 l)) :
    (convert 22 9 (.slice A l.length c)).run Try.prog W = .ok (.string (strOfNums l)) W ∧ (convert 22 9 (.slice B l.length d)).run Try.prog W = .ok (.string (strOfNums l)) W :=
  ⟨conv_row (dst := 9) Try.underlying22 Try.underlying5 Try.underlying9 h, conv_row (dst := 9) Try.underlying22 Try.underlying5 Try.underlying9 k⟩
/-- The program's receiver takes, then the reference's: what both tell lies in memory behind both. -/
theorem GrowB.ge {F : Nat → Prop} {w w' : World} {B : Nat} (h : ∀ k, F k → B ≤ k) (hb : B ≤ w.heap.size) : ∀ k, GrowB F w w' k → B ≤ k := fun k hk => hk.1.elim (h k) (Nat.le_trans hb)

set_option maxHeartbeats 8000000 in
set_option maxRecDepth 100000 in
theorem peerTells_any (delay : Int) (A1 : Option Addr) (n1 c1 : Nat) (l1 : List Pk) (w : World) (hd : isU64 delay) (hp : Packs w A1 n1 c1 l1) :
    Calls Try.prog 5 #[.int .u64 delay, .slice A1 n1 c1] w fun e w' => e = .returned (.bool true) ∧ Below w.heap.size w w' := by
  have hcap := hp.rd.cap
  have hmax := hp.rd.max
  unfold maxLen at hmax
  obtain rfl := hp.count
  have SH := Lib.hid hp
  have HD := Lib.hid hd
  clear hp hd
  go_enter Try.func5, Try.ntmps5
  go_wp2_with fail
  refine (peer_new delay w HD.out).mono ?_
  rintro e w1 ⟨p, rfl, hP, b1⟩
  have P1 : Hid (PeP w1 (fun k => w.heap.size ≤ k ∧ k < w1.heap.size) (fun _ => False) p (PS.new delay)) := Lib.hid (hP.sub (fun k hk e => ⟨e, hk⟩) (fun _ _ h => .inr h))
  have B1 := Lib.hid b1
  clear hP b1
  go_wp2_with fail
  refine (peerAlive w1).mono ?_
  rintro e w2 ⟨rfl, b2⟩
  have P2 := Lib.hid (P1.out.below b2)
  have B2 := Lib.hid (B1.out.trans (b2.mono B1.out.size))
  have S2 := Lib.hid b2.size
  clear b2
  by_cases h30 : 120 < l1.length
  · have hd : decide ((120 : Int) < (l1.length : Int)) = true := decide_eq_true (by omega)
    go_wp2_with fail
    refine (peerAlive w2).mono ?_
    rintro e w3 ⟨rfl, b3⟩
    go_wp2
    go_ret
    exact ⟨rfl, B2.out.trans (b3.mono B2.out.size)⟩
  · have hd : decide ((120 : Int) < (l1.length : Int)) = false := decide_eq_false (by omega)
    go_wp2_with fail
    refine (rp_new delay w2 HD.out).mono ?_
    rintro e w3 ⟨r, rfl, hR, b3⟩
    have T3 : Hid (PtS w p r 0 0 (PS.new delay) w3) := Lib.hid ⟨⟨_, fun k => w2.heap.size ≤ k ∧ k < w3.heap.size, ⟨fun k h => h.elim, P2.out.below b3, hR.sub (fun k hk e => ⟨e, hk⟩) (fun _ _ h => .inr h), fun k h1 h2 => by have := S2.out; omega, fun k h => ⟨fun h => h, by have := S2.out; have := b3.size; omega⟩⟩, fun k h => by have := B2.out.size; omega⟩, Nat.le_refl _, Int.le_refl _, by omega, B2.out.trans (b3.mono B2.out.size)⟩
    clear hR b3 P1 P2 B1 B2 S2
    go_wp2_with fail
    go_loopw [7, 36] (fun nv iv wr => ∃ (j : Nat) (now : Int) (s : PS), j ≤ l1.length ∧ iv = .int .i64 j ∧ nv = .int .u64 now ∧ Hid (PtS w p r now j s wr)) (fun _ i _ => l1.length - (intOf i).toNat)
    case atStart => exact ⟨0, 0, _, Nat.zero_le _, rfl, rfl, T3⟩
    case round =>
      obtain ⟨j, now, s, hj, rfl, rfl, S⟩ := hrel
      clear T3
      by_cases hlt : j < l1.length
      · obtain ⟨bb, off, eA, hX⟩ := SH.out.one hlt
        subst eA
        have X := Lib.hid (hX.below S.out.bel)
        have hS := S.out.bel.size
        generalize l1[j] = x at *
        generalize hoff : off + j * 10 = o9 at *
        clear hX
        obtain ⟨F1, F2, PR, hF⟩ := S.out.ex
        have R0 := Lib.hid PR
        have HF := Lib.hid hF
        have hfew := S.out.few
        have hw := X.out.ok.w
        have q0 := S.out.n0
        have q1 := S.out.n1
        have wn : IntKind.u64.wrap (now + x.wait) = now + x.wait := IntWalk.u64_in _ (by omega)
        have ww : IntKind.u64.wrap x.wait = x.wait := IntWalk.u64_in _ (by omega)
        have y0 := X.out.at_.c0
        have y1 := X.out.at_.c1
        have y2 := X.out.at_.c2
        have y3 := X.out.at_.c3
        have y4 := X.out.at_.c4
        have y5 := X.out.at_.c5
        have y6 := X.out.at_.c6
        have y7 := X.out.at_.c7
        have y8 := X.out.at_.c8
        have y9 := X.out.at_.c9
        clear PR hF
        have hnow : isU64 (now + x.wait) := ⟨by omega, by omega⟩
        have HN := Lib.hid hnow
        clear hnow
        have KB := Lib.hid (X.out.bytes (fun k => F1 k ∨ F2 k) (fun k hk => ⟨HF.out k hk, (R0.out.g k hk).2⟩))
        go_wp2_with fail
        refine KB.out.mono ?_
        rintro e w4 ⟨A4, c4, rfl, r4, b4, a4⟩
        have RB := Lib.hid r4
        have NB := Lib.hid a4
        have R4 := Lib.hid (R0.out.below b4)
        have X4 := Lib.hid (X.out.below (b4.mono hS))
        have B4 := Lib.hid (S.out.bel.trans (b4.mono hS))
        have hS4 := Lib.hid (Nat.le_trans hS b4.size)
        have U8b := Lib.hid (x.bytes_u8 X.out.ok)
        have L8b := Lib.hid (x.bytes_len X.out.ok)
        have NL := Lib.hid S.out.n1
        have FW := Lib.hid S.out.few
        clear r4 a4 b4 KB R0 X y0 y1 y2 y3 y4 y5 y6 y7 y8 y9 S wn ww
        generalize hnw : now + x.wait = nw at *
        have HNW := Lib.hid hnw
        clear hnw
        -- the program's
        have KP := Lib.hid (peer_take w4 F1 (fun _ => False) p s A4 c4 x.bytes nw R4.out.P RB.out U8b.out (Nat.le_trans L8b.out (by decide)) HN.out (by omega))
        go_wp2_with fail
        refine KP.out.mono ?_
        rintro e w5 ⟨tv, hP, hC⟩
        obtain ⟨A5, c5, rfl, r5, n5⟩ := tv.un
        have R5 := Lib.hid (R4.out.movP hP hC)
        have RB5 := Lib.hid (RB.out.chg hC (fun b off e hn hf => NB.out b off e hn (.inl hf)))
        have X5 := Lib.hid (X4.out.chg hC (fun k hk hf => by have := HF.out k (.inl hf); omega))
        have B5 := Lib.hid (B4.out.trans (hC.below hS4.out (fun k hk hf => by have := HF.out k (.inl hf); omega)))
        have T5 := Lib.hid r5
        have N5 := Lib.hid n5
        have H5 := Lib.hid hC.size
        clear tv hP hC r5 n5 KP
        -- the reference's
        have KR := Lib.hid (rp_take w5 F2 (fun _ => False) r s A4 c4 x.bytes nw R5.out.R RB5.out U8b.out (Nat.le_trans L8b.out (by decide)) HN.out (by omega))
        go_wp2_with fail
        refine KR.out.mono ?_
        rintro e w6 ⟨tv, hP, hC⟩
        obtain ⟨A6, c6, rfl, r6, n6⟩ := tv.un
        have R6 := Lib.hid (R5.out.movR hP hC)
        have X6 := Lib.hid (X5.out.chg hC (fun k hk hf => by have := HF.out k (.inr hf); omega))
        have B6 := Lib.hid (B5.out.trans (hC.below B5.out.size (fun k hk hf => by have := HF.out k (.inr hf); omega)))
        have T6 := Lib.hid (T5.out.chg hC (fun b off e hn hf => by have := N5.out b off e hn; have := (R4.out.g b (.inr hf)).2; omega))
        have HF6 : Hid (∀ k, GrowB F1 w4 w5 k ∨ GrowB F2 w5 w6 k → w.heap.size ≤ k) := Lib.hid (fun k hk => hk.elim (GrowB.ge (fun k h => HF.out k (.inl h)) hS4.out k) (GrowB.ge (fun k h => HF.out k (.inr h)) (Nat.le_trans hS4.out H5.out) k))
        have FW6 := Lib.hid (Nat.le_trans (PS.takeB_few s x.bytes nw) (Nat.succ_le_succ FW.out))
        obtain ⟨cv1, cv2⟩ := told_same T6.out r6
        have y8 := X6.out.at_.c8
        have z4 := Lib.hid (Nat.le_trans hS4.out (Nat.le_trans H5.out hC.size))
        clear tv hP hC r6 n6 KR R4 R5 X4 X5 B4 B5 T5 N5 RB RB5 NB U8b L8b T6
        generalize (s.takeB x.bytes nw).1 = s1 at *
        generalize (s.takeB x.bytes nw).2 = o1 at *
        generalize GrowB F1 w4 w5 = G1 at *
        generalize GrowB F2 w5 w6 = G2 at *
        cases htk : x.tick
        · rw [htk] at y8
          have KS := Lib.hid (pr_same w6 _ _ p r s1 R6.out.rel)
          go_wp2_with fail
          refine KS.out.mono ?_
          rintro e w7 ⟨rfl, b7⟩
          go_wp2
          go_roundw
          case rel => exact ⟨j + 1, nw, s1, by omega, by go_num, rfl, Lib.hid ⟨⟨G1, G2, R6.out.below b7, HF6.out⟩, FW6.out, by have := HNW.out; omega, by have := HNW.out; omega, B6.out.trans (b7.mono B6.out.size)⟩⟩
          case measure => simp [intOf]; omega
        · rw [htk] at y8
          have KP := Lib.hid (peer_tick w6 G1 (fun _ => False) p s1 nw R6.out.P)
          go_wp2_with fail
          refine KP.out.mono ?_
          rintro e w7 ⟨tv, hP, hC⟩
          obtain ⟨A7, c7, rfl, r7, n7⟩ := tv.un
          have R7 := Lib.hid (R6.out.movP hP hC)
          have B7 := Lib.hid (B6.out.trans (hC.below z4.out (fun k hk hf => by have := HF6.out k (.inl hf); omega)))
          have T7 := Lib.hid r7
          have N7 := Lib.hid n7
          have H7 := Lib.hid hC.size
          clear tv hP hC r7 n7 KP cv1 cv2 y8
          have KR := Lib.hid (rp_tick w7 G2 (fun _ => False) r s1 nw R7.out.R)
          go_wp2_with fail
          refine KR.out.mono ?_
          rintro e w8 ⟨tv, hP, hC⟩
          obtain ⟨A8, c8, rfl, r8, n8⟩ := tv.un
          have R8 := Lib.hid (R7.out.movR hP hC)
          have B8 := Lib.hid (B7.out.trans (hC.below B7.out.size (fun k hk hf => by have := HF6.out k (.inr hf); omega)))
          have T8 := Lib.hid (T7.out.chg hC (fun b off e hn hf => by have := N7.out b off e hn; have := (R6.out.g b (.inr hf)).2; omega))
          have HF8 : Hid (∀ k, GrowB G1 w6 w7 k ∨ GrowB G2 w7 w8 k → w.heap.size ≤ k) := Lib.hid (fun k hk => hk.elim (GrowB.ge (fun k h => HF6.out k (.inl h)) z4.out k) (GrowB.ge (fun k h => HF6.out k (.inr h)) (Nat.le_trans z4.out H7.out) k))
          have FW8 : Hid ((s1.tick nw).1.s.length ≤ j + 1) := Lib.hid (by rw [PS.tick_few]; exact FW6.out)
          obtain ⟨cv1, cv2⟩ := told_same T8.out r8
          have KS := Lib.hid (pr_same w8 _ _ p r _ R8.out.rel)
          clear tv hP hC r8 n8 KR T7 N7 T8 R6 R7 B6 B7
          generalize (s1.tick nw).1 = s2 at *
          generalize (s1.tick nw).2 = o2 at *
          go_wp2_with fail
          refine KS.out.mono ?_
          rintro e w9 ⟨rfl, b9⟩
          go_wp2
          go_roundw
          case rel => exact ⟨j + 1, nw, s2, by omega, by go_num, rfl, Lib.hid ⟨⟨_, _, R8.out.below b9, HF8.out⟩, FW8.out, by have := HNW.out; omega, by have := HNW.out; omega, B8.out.trans (b9.mono B8.out.size)⟩⟩
          case measure => simp [intOf]; omega
      · obtain rfl : j = l1.length := by omega
        go_wp2
        go_ret
        exact ⟨rfl, S.out.bel⟩

end Go.Proofs.Ytkedfipeebjcjaa
