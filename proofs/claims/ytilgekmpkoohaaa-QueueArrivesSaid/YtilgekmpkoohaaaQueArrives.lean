/-
  The walk of QueueArrives.
-/
import Derived.Test.YtilgekmpkoohaaaQueA
import Derived.Test.YtilgekmpkoohaaaQueL
namespace Go.Proofs.Ytilgekmpkoohaaa
set_option linter.unusedSimpArgs false
set_option linter.unusedVariables false
set_option linter.unnecessarySimpa false
open Go.RowKit

set_option maxHeartbeats 4000000 in
set_option maxRecDepth 100000 in
theorem queueArrives_any (A0 A2 : Option Addr) (n0 n2 c0 c2 : Nat) (lb : List Int) (ll : List Bool) (m : Int) (w : World) (hr0 : Rd w 1 A0 n0 c0 (U8 lb)) (hr2 : Rd w 1 A2 n2 c2 (Bs ll)) (hb : ∀ x ∈ lb, 0 ≤ x ∧ x ≤ 255) (hm : 0 ≤ m ∧ m ≤ 255) :
    Calls Try.prog 6 #[.slice A0 n0 c0, .int .u8 m, .slice A2 n2 c2] w fun e w' => e = .returned (.bool true) ∧ Below w.heap.size w w' := by
  have hl0 : lb.length = n0 := by have := hr0.len; simpa using this
  have hl2 : ll.length = n2 := by have := hr2.len; simpa using this
  subst hl0 hl2
  have hc0 := hr0.cap
  have hx0 := hr0.max
  have hc2 := hr2.cap
  have hx2 := hr2.max
  unfold maxLen at hx0 hx2
  have R0 := Lib.hid hr0
  have R2 := Lib.hid hr2
  have HB := Lib.hid hb
  obtain ⟨m0, m1⟩ := hm
  clear hr0 hr2 hb
  by_cases h3 : 300 < lb.length
  · go_enter Try.func6, Try.ntmps6
    go_wp2_with fail
    refine (que_new 400 _).mono ?_
    rintro e w1 ⟨rfl, -, b1⟩
    go_wp2_with fail
    refine (queAlive _).mono ?_
    rintro e w2 ⟨rfl, b2⟩
    go_wp2_with fail
    refine (queAlive _).mono ?_
    rintro e w3 ⟨rfl, b3⟩
    go_wp2
    go_ret
    exact ⟨rfl, b1.trans ((b2.trans (b3.mono b2.size)).mono b1.size)⟩
  · have d3 : decide ((300 : Int) < (lb.length : Int)) = false := by simp; omega
    by_cases h1 : 100 < ll.length
    · go_enter Try.func6, Try.ntmps6
      go_wp2_with fail
      refine (que_new 400 _).mono ?_
      rintro e w1 ⟨rfl, -, b1⟩
      go_wp2_with fail
      refine (queAlive _).mono ?_
      rintro e w2 ⟨rfl, b2⟩
      go_wp2_with fail
      refine (queAlive _).mono ?_
      rintro e w3 ⟨rfl, b3⟩
      go_wp2
      go_ret
      exact ⟨rfl, b1.trans ((b2.trans (b3.mono b2.size)).mono b1.size)⟩
    · have d1 : decide ((100 : Int) < (ll.length : Int)) = false := by simp; omega
      have hmo : 0 ≤ m % 50 := by omega
      have hmo2 : m % 50 < 50 := by omega
      go_enter Try.func6, Try.ntmps6
      go_wp2_with fail
      refine (que_new 400 _).mono ?_
      rintro e w1 ⟨rfl, hL, b1⟩
      have S1 : Hid (AQ w [] (QS.new 400) w1) := ⟨⟨⟨_, hL, fun k _ h => ⟨h, by simp⟩⟩, fun k hk => by simp at hk, b1.size⟩, b1⟩
      clear hL b1
      go_wp2_with fail
      refine (queAlive _).mono ?_
      rintro e w2 ⟨rfl, b2⟩
      have S2 := Lib.hid (S1.out.below b2)
      clear b2 S1
      have W3 := Lib.hid (S2.out.call (s' := ((QS.new 400).write lb).1) (fun F hF => que_write w2 F _ _ lb A0 c0 hF (R0.out.below S2.out.bel) HB.out (by simp [QS.new]; omega)))
      go_wp2_with fail
      refine W3.out.mono ?_
      rintro e w3 ⟨rfl, hS, -⟩
      have S3 := Lib.hid hS
      have I3 : Hid (QS.Arr lb.length ll.length 0 ((QS.new 400).write lb).1) := QS.Arr.new 400 lb HB.out (by omega) (by omega)
      clear hS W3 S2
      go_wp2
      generalize hmm : m % 50 + 1 = mm at *
      have hm1 : 1 ≤ mm := by omega
      have hm2 : mm < 9223372036854775808 := by omega
      clear hmm
      go_loopw [9] (fun i wr => ∃ (k : Nat) (s : QS), i = .int .i64 k ∧ Hid (AQ w [] s wr) ∧ Hid (QS.Arr lb.length ll.length k s)) (fun i _ => ll.length + lb.length + 1 - (intOf i).toNat)
      case atStart => exact ⟨0, _, rfl, S3, I3⟩
      case round =>
        obtain ⟨k, s, rfl, S, I⟩ := hrel
        have hk := I.out.bound
        have NX := Lib.hid (S.out.next mm hm2)
        have GD := Lib.hid I.out.good
        have FW : Hid s.Few := by
          show s.b.length ≤ 1000000
          have := I.out.len
          omega
        go_wp2_with fail
        refine NX.out.mono ?_
        rintro e w4 ⟨A4, c4, rfl, hr4, hS, -⟩
        have hc4 := hr4.cap
        have hx4 := hr4.max
        unfold maxLen at hx4
        have S4 := Lib.hid (hS.box (.cells #[.int .u64 (s.nOff mm), .slice A4 (s.nBody mm).length c4] 43))
        have X4 := Lib.hid (heap_alloc_new w4 (.cells #[.int .u64 (s.nOff mm), .slice A4 (s.nBody mm).length c4] 43))
        have g4 := lt_of_block X4.out
        clear hr4 hS NX S
        generalize hok : s.nOk mm = ok at *
        cases ok with
        | false =>
          obtain ⟨e1, e2⟩ := I.out.done FW.out hm1 hok
          have E1 := Lib.hid e1
          have E2 := Lib.hid e2
          have E3 := Lib.hid I.out.len
          clear e1 e2 hok
          obtain ⟨F, hF⟩ := S4.out.read
          have HF := Lib.hid hF
          have HB4 := Lib.hid S4.out.bel
          clear hF
          go_wp2_with fail
          generalize (w4.alloc (.cells #[.int .u64 (s.nOff mm), .slice A4 (s.nBody mm).length c4] 43)) = w5 at *
          have C1 := Lib.hid (que_base w5 F _ s HF.out)
          rw [E1.out] at C1
          refine C1.out.mono ?_
          rintro e w6 ⟨rfl, rfl⟩
          clear C1
          go_wp2_with fail
          have C1 := Lib.hid (que_end w5 F _ s HF.out)
          rw [E3.out] at C1
          refine C1.out.mono ?_
          rintro e w6 ⟨rfl, n6, rfl⟩
          clear C1
          go_wp2_with fail
          have C1 := Lib.hid (que_end _ F _ s (HF.out.dn (k := n6)))
          rw [E3.out] at C1
          refine C1.out.mono ?_
          rintro e w6 ⟨rfl, n7, rfl⟩
          clear C1
          go_wp2_with fail
          have C1 := Lib.hid (que_owed _ F _ s ((HF.out.dn (k := n6 + n7))))
          rw [E2.out] at C1
          refine C1.out.mono ?_
          rintro e w7 ⟨A7, c7, rfl, -, hb⟩
          have B7 := Lib.hid ((below_drewN HB4.out _).trans (hb.mono (below_drewN HB4.out _).size))
          clear hb C1
          go_wp2
          go_ret
          exact ⟨rfl, B7.out⟩
        | true =>
          have n1 := I.out.good
          obtain ⟨v1, v2, v3, v4, v5⟩ := I.out.step hok true
          obtain ⟨sn1, sn2, sn3, -⟩ := QS.next_sent GD.out hok
          have hln := I.out.len
          have hof : ((s.nOff mm : Nat) : Int) < 18446744073709551616 := by omega
          have hnb : (((s.nBody mm).length : Nat) : Int) < 18446744073709551616 := by omega
          have V1 := Lib.hid v1
          have V2 := Lib.hid v2
          have V3 := Lib.hid v3
          have V4 := Lib.hid v4
          have V5 := Lib.hid v5
          clear v1 v2 v3 v4 v5 sn1 sn2 sn3 n1 hok hln
          generalize s.nOff mm = off at *
          generalize (s.nBody mm).length = n at *
          have wn : IntKind.u64.wrap (n : Int) = (n : Int) := IntWalk.u64_in _ (by omega)
          go_upto_region 12 with fail
          generalize hW : (w4.alloc (.cells #[.int .u64 off, .slice A4 n c4] 43)) = w5 at *
          clear hW
          generalize w4.heap.size = g at *
          have t0 := cell_of_row w5 g 0 _ _ _ X4.out
          have t1 := cell_of_row w5 g 1 _ _ _ X4.out
          have C1 := Lib.hid (S4.out.call (s' := (s.sent off n).1) (fun F hF => que_sent w5 F _ s off n hF ⟨by omega, hof⟩ ⟨by omega, hnb⟩))
          rw [V1.out] at C1
          go_wp2_with fail
          refine C1.out.mono ?_
          rintro e w6 ⟨rfl, hS, hK⟩
          have S6 := Lib.hid hS
          have X6 := Lib.hid (hK g _ (by simp) X4.out)
          clear hS hK C1 X4 S4 t0 t1 V1
          generalize s.sent off n = ss at *
          have t0 := cell_of_row w6 g 0 _ _ _ X6.out
          have t1 := cell_of_row w6 g 1 _ _ _ X6.out
          have CL := Lib.hid (S6.out.call (s' := (ss.1.lost off n).1) (fun F hF => que_lost w6 F _ ss.1 off n hF ⟨by omega, hof⟩ ⟨by omega, hnb⟩))
          have CA := Lib.hid (S6.out.call (s' := (ss.1.acked off n).1) (fun F hF => que_acked w6 F _ ss.1 off n hF ⟨by omega, hof⟩ ⟨by omega, hnb⟩))
          rw [V2.out] at CL
          rw [V3.out] at CA
          clear V2 V3
          by_cases hkl : k < ll.length
          · obtain ⟨bb, o2, rfl, d0⟩ := (R2.out.below S6.out.bel).bool hkl
            have hkl1 : (0 : Int) ≤ k := by omega
            have hkl2 : (k : Int) < ll.length := by omega
            generalize ll.getD k false = lk at *
            cases lk with
            | true =>
              go_wp2_with fail
              refine CL.out.mono ?_
              rintro e w7 ⟨rfl, hS, -⟩
              have S7 := Lib.hid (⟨⟨hS.av.ex.imp fun F h => ⟨h.1, fun k hk hf => ⟨(h.2 k hk hf).1, by simp⟩⟩, (fun k hk => by simp at hk), hS.av.ge⟩, hS.bel⟩ : AQ w [] _ w7)
              have I7 := Lib.hid (V4.out hkl)
              clear hS CL CA
              go_wp2
              go_roundw
              case rel => exact ⟨k + 1, _, by go_num, S7, I7⟩
              case measure => simp [intOf]; omega
            | false =>
              go_wp2_with fail
              refine CA.out.mono ?_
              rintro e w7 ⟨rfl, hS, -⟩
              have S7 := Lib.hid (⟨⟨hS.av.ex.imp fun F h => ⟨h.1, fun k hk hf => ⟨(h.2 k hk hf).1, by simp⟩⟩, (fun k hk => by simp at hk), hS.av.ge⟩, hS.bel⟩ : AQ w [] _ w7)
              clear hS CL CA
              go_wp2
              go_roundw
              case rel => exact ⟨k + 1, _, by go_num, S7, V5⟩
              case measure => simp [intOf]; omega
          · go_wp2_with fail
            refine CA.out.mono ?_
            rintro e w7 ⟨rfl, hS, -⟩
            have S7 := Lib.hid (⟨⟨hS.av.ex.imp fun F h => ⟨h.1, fun k hk hf => ⟨(h.2 k hk hf).1, by simp⟩⟩, (fun k hk => by simp at hk), hS.av.ge⟩, hS.bel⟩ : AQ w [] _ w7)
            clear hS CL CA
            go_wp2
            go_roundw
            case rel => exact ⟨k + 1, _, by go_num, S7, V5⟩
            case measure => simp [intOf]; omega

end Go.Proofs.Ytilgekmpkoohaaa
