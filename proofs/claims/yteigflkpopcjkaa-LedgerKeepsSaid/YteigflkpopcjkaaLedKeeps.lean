/-
  The walk of LedgerKeeps.
-/
import Derived.Test.YteigflkpopcjkaaLossA
import Derived.Test.YteigflkpopcjkaaKeepP
namespace Go.Proofs.Yteigflkpopcjkaa
set_option linter.unusedSimpArgs false
set_option linter.unusedVariables false
set_option linter.unnecessarySimpa false
open Go.RowKit

structure KeepRel (w : World) (p r g : Nat) (s : LS) (A : Option Addr) (c k : Nat) (f N : Int) (W : World) : Prop where
  pg : PG w p r g s W
  all : Rd W 8 A s.kept.length c (Sns s.kept)
  fl : 0 < f ↔ LS.ahead s.kept < k
  n : N = LS.fly (s.kept.take k)
theorem KeepRel.fly_ {w W : World} {p r g : Nat} {s : LS} {A : Option Addr} {c k : Nat} {f N : Int} (H : KeepRel w p r g s A c k f N W) (hk : k < s.kept.length) (hs : s.kept[k].state = 1) (hf : 0 ≤ f) :
    ∀ W', Below W.heap.size W W' → KeepRel w p r g s A c (k + 1) (f + 1) (N + s.kept[k].len) W' := fun W' b => by
  refine ⟨H.pg.below b, H.all.below b, ⟨fun _ => ?_, fun _ => by omega⟩, by rw [fly_take _ _ hk, if_pos hs, H.n]⟩
  apply Nat.lt_of_not_le
  intro h
  exact LS.ahead_lt (by omega) hk hs
theorem KeepRel.not_ {w W : World} {p r g : Nat} {s : LS} {A : Option Addr} {c k : Nat} {f N : Int} (H : KeepRel w p r g s A c k f N W) (hk : k < s.kept.length) (hs : s.kept[k].state ≠ 1) :
    ∀ W', Below W.heap.size W W' → KeepRel w p r g s A c (k + 1) f N W' := fun W' b => by
  refine ⟨H.pg.below b, H.all.below b, H.fl.trans ⟨fun h => by omega, fun h => ?_⟩, by rw [fly_take _ _ hk, if_neg hs, H.n]; omega⟩
  rcases Nat.lt_or_ge (LS.ahead s.kept) k with h1 | h1
  · exact h1
  · have e : LS.ahead s.kept = k := by omega
    have := LS.ahead_at (l := s.kept) (by omega)
    simp only [e] at this
    exact absurd this hs
/-- Behind j sends. -/
structure SentRel (w : World) (p r g : Nat) (s0 s : LS) (j : Nat) (W : World) : Prop where
  pg : PG w p r g s W
  lim : s.limit = 4611686018427387903
  len : s.all.length = s0.all.length + j
  fly : s.least < s.all.length
  room : s.room = s0.room - j
  flight : s.flight = s0.flight + j
theorem SentRel.send {w W : World} {p r g : Nat} {s0 s : LS} {j : Nat} (H : SentRel w p r g s0 s j W) (h0 : s0.all.length ≤ 80) (hj : j ≤ 256) (hr : 1 ≤ s.room) :
    (s.send ⟨0, 0, 1, 0, 0, false, false, 0⟩).2.2 = 0 ∧ ∀ W', LedP W' (Grow (But w g) W) p (s.send ⟨0, 0, 1, 0, 0, false, false, 0⟩).1 → Chg (But w g) W W' → SentRel w p r g s0 (s.send ⟨0, 0, 1, 0, 0, false, false, 0⟩).1 (j + 1) W' := by
  obtain ⟨h1, h2, h3, h4, h5, h6⟩ := LS.send_room H.pg.led.good (by rw [H.lim, H.len]; omega) H.fly hr ⟨0, 0, 1, 0, 0, false, false, 0⟩ rfl (by simp)
  refine ⟨h1, fun W' hL hC => ⟨H.pg.step hL hC, h6.trans H.lim, by rw [h5, H.len]; omega, by rw [h2, h5]; have := H.fly; omega, by rw [h3, H.room]; omega, by rw [h4, H.flight]; omega⟩⟩

set_option maxHeartbeats 8000000 in
set_option maxRecDepth 100000 in
theorem ledgerKeeps_any (ring : Int) (A : Option Addr) (n c : Nat) (l : List Dd) (w : World) (hr : Rd w 3 A n c (Ds l)) (hok : ∀ d ∈ l, d.ok) (hring : 0 ≤ ring ∧ ring ≤ 255) :
    Calls Try.prog 5 #[.int .u8 ring, .slice A n c] w fun e w' => e = .returned (.bool true) ∧ Below w.heap.size w w' := by
  obtain ⟨r0, r1⟩ := hring
  have HR := Lib.hid hr
  have OK := Lib.hid hok
  clear hr hok
  go_enter Try.func5, Try.ntmps5
  go_wp2_with fail
  refine (make_any (ring % 40) 4611686018427387903 A n c l w HR.out OK.out ⟨by omega, by omega⟩).mono ?_
  rintro e w1 ⟨p, r, s, rfl, hT, hb1, hg1, hg2, hg3, hg4, hg5⟩
  have P2 := Lib.hid (PG.of hT hb1)
  have HRG : Hid ((s.ring : Int) = max 4 (ring % 40)) := by
    show _ = _
    rw [hg1]
    simp [LS.new]
    omega
  have HLM : Hid (s.limit = 4611686018427387903) := by
    show _ = _
    rw [hg2]
    simp [LS.new]
  clear hT hb1 hg1 hg2 hg4 hg5
  go_wp2_with fail
  generalize hW : (w1.alloc (.cells #[.pointer (some ⟨p, 0, none⟩), .pointer (some ⟨r, 0, none⟩)] 41)) = w2 at *
  clear hW
  generalize w1.heap.size = g at *
  refine (ledAlive w2).mono ?_
  rintro e w3 ⟨rfl, b⟩
  have P3 := Lib.hid (P2.out.below b)
  clear b P2
  have t0 := cell_of_row w3 g 0 _ _ _ P3.out.t
  have t1 := cell_of_row w3 g 1 _ _ _ P3.out.t
  go_wp2_with fail
  refine (led_all w3 _ p s P3.out.led).mono ?_
  rintro e w4 ⟨A4, c4, rfl, ho, b⟩
  have k1 := s.kept_le
  have k2 : s.ring ≤ 39 := by have := HRG.out; omega
  have K4 : Hid (KeepRel w p r g s A4 c4 0 0 0 w4) := ⟨P3.out.below b, Rd.of_own ho, ⟨fun h => absurd h (by omega), fun h => absurd h (by omega)⟩, by simp [LS.fly]⟩
  have GK := Lib.hid P3.out.led.good
  clear ho b P3 t0 t1
  go_wp2_with fail
  go_loopw [7, 8, 35] (fun n7 f8 i wr => ∃ (k : Nat) (f N : Int), k ≤ s.kept.length ∧ i = .int .i64 k ∧ n7 = .int .u64 N ∧ f8 = .int .i64 f ∧ 0 ≤ f ∧ f ≤ k ∧ 0 ≤ N ∧ N ≤ 1500 * k ∧ Hid (KeepRel w p r g s A4 c4 k f N wr)) (fun _ _ i _ => s.kept.length - (intOf i).toNat)
  case atStart => exact ⟨0, 0, 0, Nat.zero_le _, rfl, rfl, rfl, by omega, by omega, by omega, by omega, K4⟩
  case round =>
    obtain ⟨k, f, N, hk, rfl, rfl, rfl, f0, f1, N0, N1, KR⟩ := hrel
    by_cases hlt : k < s.kept.length
    · obtain ⟨bb, off, rfl, d0, d1, d2, d3, d4, d5, d6, d7⟩ := KR.out.all.snt hlt
      have Hfly := Lib.hid (fun h => KR.out.fly_ hlt h f0)
      have Hnot := Lib.hid (fun h => KR.out.not_ hlt h)
      have Hlen := GK.out.keptFly s.kept[k] (List.getElem_mem _)
      generalize s.kept[k] = y at *
      obtain ⟨pn, of, len, nonce, at_, coin, used, state⟩ := y
      simp only at d0 d1 d2 d3 d4 d5 d6 d7 Hlen Hfly Hnot
      by_cases e1 : state = 1
      · obtain ⟨l1, l2⟩ := Hlen e1
        subst e1
        go_wp2
        go_roundw
        case rel => exact ⟨k + 1, f + 1, N + len, by omega, by go_num, rfl, rfl, by omega, by omega, by omega, by omega, Hfly.out rfl _ (box_below _ _)⟩
        case measure => simp [intOf]; omega
      · clear Hlen
        go_wp2
        go_roundw
        case rel => exact ⟨k + 1, f, N, by omega, by go_num, rfl, rfl, by omega, by omega, by omega, by omega, Hnot.out e1 _ (box_below _ _)⟩
        case measure => simp [intOf]; omega
    · obtain rfl : k = s.kept.length := by omega
      have hN : N = s.flight := by rw [KR.out.n]; simp [LS.flight]
      have P5 := Lib.hid KR.out.pg
      have FL := Lib.hid KR.out.fl
      clear KR
      have t0 := cell_of_row wr g 0 _ _ _ P5.out.t
      have t1 := cell_of_row wr g 1 _ _ _ P5.out.t
      have q1 := s.room_ge
      have q2 := s.room_le
      have q3 := s.least_le
      have q4 := s.low_least
      have q5 : s.all.length ≤ 80 := hg3
      by_cases hf : 0 < f
      · subst hN
        have hlf := LS.some_flies (FL.out.1 hf)
        go_wp2_with fail
        refine (led_room wr _ p s P5.out.led).mono ?_
        rintro e w6 ⟨rfl, b⟩
        have P6 := Lib.hid (P5.out.below b)
        clear b P5 t0 t1
        have t0 := cell_of_row w6 g 0 _ _ _ P6.out.t
        have t1 := cell_of_row w6 g 1 _ _ _ P6.out.t
        have m0 := mixc t0
        have m1 := mixc t1
        have HM : Hid (∀ u, LedP (Go.Proofs.Yteigflkpopcjkaa.mix w6 u) (But w g) p s) := fun u => P6.out.led.mix u
        have E0 : Hid (SentRel w p r g s s 0 w6) := ⟨P6.out, HLM.out, rfl, hlf, by simp, by simp⟩
        have z1 : (s.flight != s.flight) = false := by simp
        have z2 : decide ((s.least : Int) < (s.low : Int)) = false := by simp; omega
        have z3 : decide (s.room < 0) = false := by simp; omega
        have z4 : decide (0 < f) = true := by simpa using hf
        have z5 : decide ((s.all.length : Int) ≤ (s.least : Int)) = false := by simp; omega
        go_upto_region 13 with fail
        go_cut [82] (fun s82 wx => s82 = .bool false ∧ Hid (SentRel w p r g s s 0 wx))
        case first =>
          refine wp_region_below (by kernel_rfl) (by kernel_rfl) ?_
          repeat (first | go_big_quiet_step ((first | (go_at_call 35; exact Calls.mix_of (led_flight _ _ p s (HM.out _))) | (go_at_call 36; exact Calls.mix_of (led_least _ _ p s (HM.out _))) | (go_at_call 28; exact Calls.mix_qt (led_low _ _ p s (HM.out _))) | (go_at_call 26; exact Calls.mix_qt (led_next _ _ p s (HM.out _))))) | quiet_step ((first | (go_at_call 35; exact Calls.mix_of (led_flight _ _ p s (HM.out _))) | (go_at_call 36; exact Calls.mix_of (led_least _ _ p s (HM.out _))) | (go_at_call 28; exact Calls.mix_qt (led_low _ _ p s (HM.out _))) | (go_at_call 26; exact Calls.mix_qt (led_next _ _ p s (HM.out _))))))
          refine wpQuiet_nil ?_
          intro w7 b7
          have E7 : Hid (SentRel w p r g s s 0 w7) := ⟨E0.out.pg.below b7, E0.out.lim, E0.out.len, E0.out.fly, E0.out.room, E0.out.flight⟩
          clear b7
          go_wp2_with fail
          go_meet
          exact ⟨by first | rfl | (simp; omega), E7⟩
        case rest =>
        obtain ⟨rfl, E7⟩ := hcut
        clear E0 HM m0 m1 t0 t1 P6 z1 z2 z3 z5
        go_wp2_with fail
        go_loopw [12] (fun i wr => ∃ (j : Nat) (s' : LS), (j : Int) ≤ s.room ∧ i = .int .i64 j ∧ Hid (SentRel w p r g s s' j wr)) (fun i _ => (s.room - intOf i).toNat)
        case atStart => exact ⟨0, s, by omega, rfl, E7⟩
        case round =>
          obtain ⟨j, s', hj, rfl, SR⟩ := hrel
          have t0 := cell_of_row wr g 0 _ _ _ SR.out.pg.t
          have t1 := cell_of_row wr g 1 _ _ _ SR.out.pg.t
          by_cases hlt : (j : Int) < s.room
          · obtain ⟨v1, v2⟩ := SR.out.send q5 (by omega) (by have := SR.out.room; omega)
            have C := Lib.hid (led_send wr _ p s' ⟨0, 0, 1, 0, 0, false, false, 0⟩ SR.out.pg.led (ok0 _ _ ⟨by omega, by omega⟩ ⟨by omega, by omega⟩))
            rw [v1] at C
            have V := Lib.hid v2
            clear v1 v2
            generalize (s'.send ⟨0, 0, 1, 0, 0, false, false, 0⟩).2.1 = pn at *
            generalize (s'.send ⟨0, 0, 1, 0, 0, false, false, 0⟩).1 = s2 at *
            go_wp2_with fail
            refine C.out.mono ?_
            rintro e w8 ⟨rfl, hL, hC⟩
            have S8 := Lib.hid (V.out w8 hL hC)
            clear hL hC t0 t1
            go_wp2
            go_roundw
            case rel => exact ⟨j + 1, s2, by omega, by go_num, S8⟩
            case measure => simp [intOf]; omega
          · have ej : (j : Int) = s.room := by omega
            have hfull := LS.send_full (s := s') (by rw [SR.out.lim, SR.out.len]; omega) (by rw [SR.out.room]; omega) ⟨0, 0, 1, 0, 0, false, false, 0⟩ rfl (by simp)
            have C := Lib.hid (led_send wr _ p s' ⟨0, 0, 1, 0, 0, false, false, 0⟩ SR.out.pg.led (ok0 _ _ ⟨by omega, by omega⟩ ⟨by omega, by omega⟩))
            rw [hfull] at C
            have EF := Lib.hid (show s'.flight = s.flight + s.room by rw [SR.out.flight, ej])
            clear hfull ej
            go_wp2_with fail
            refine C.out.mono ?_
            rintro e w8 ⟨rfl, hL, hC⟩
            have P8 := Lib.hid (SR.out.pg.step hL hC)
            clear hL hC t0 t1
            have t0 := cell_of_row w8 g 0 _ _ _ P8.out.t
            have t1 := cell_of_row w8 g 1 _ _ _ P8.out.t
            go_wp2_with fail
            refine (led_flight w8 _ p s' P8.out.led).mono ?_
            rw [EF.out]
            rintro e w9 ⟨rfl, b⟩
            have hb := P8.out.bel.trans (b.mono P8.out.bel.size)
            clear b
            go_wp2
            go_ret
            exact ⟨rfl, hb⟩
      · have f00 : f = 0 := by omega
        subst f00
        obtain ⟨w1', w2', w3'⟩ := LS.none_flies (s := s) (by have := FL.out; omega)
        have hN0 : N = 0 := by rw [hN, w3']
        subst hN0
        have HRM := Lib.hid (w2'.trans HRG.out)
        have HFL := Lib.hid w3'
        clear hN w1' w2' w3'
        go_wp2_with fail
        refine (led_room wr _ p s P5.out.led).mono ?_
        rw [HRM.out]
        rintro e w6 ⟨rfl, b⟩
        have P6 := Lib.hid (P5.out.below b)
        clear b P5 t0 t1
        have t0 := cell_of_row w6 g 0 _ _ _ P6.out.t
        have t1 := cell_of_row w6 g 1 _ _ _ P6.out.t
        have m0 := mixc t0
        have m1 := mixc t1
        have HM : Hid (∀ u, LedP (Go.Proofs.Yteigflkpopcjkaa.mix w6 u) (But w g) p s) := fun u => P6.out.led.mix u
        have HMF : Hid (∀ u, Calls Try.prog 35 #[.pointer (some ⟨p, 0, none⟩)] (Go.Proofs.Yteigflkpopcjkaa.mix w6 u) fun e w' => e = .returned (.int .u64 0) ∧ Below (Go.Proofs.Yteigflkpopcjkaa.mix w6 u).heap.size (Go.Proofs.Yteigflkpopcjkaa.mix w6 u) w') := fun u => by
          have := led_flight _ _ p s (HM.out u)
          rw [HFL.out] at this
          exact this
        have z2 : decide ((s.least : Int) < (s.low : Int)) = false := by simp; omega
        have z3 : decide (max (4 : Int) (ring % 40) < 0) = false := by simp; omega
        go_wp2_with fail
        refine wp_region_below (by kernel_rfl) (by kernel_rfl) ?_
        repeat (first | go_big_quiet_step ((first | (go_at_call 35; exact Calls.mix_of (HMF.out _)) | (go_at_call 36; exact Calls.mix_of (led_least _ _ p s (HM.out _))) | (go_at_call 28; exact Calls.mix_qt (led_low _ _ p s (HM.out _))) | (go_at_call 26; exact Calls.mix_qt (led_next _ _ p s (HM.out _))))) | quiet_step ((first | (go_at_call 35; exact Calls.mix_of (HMF.out _)) | (go_at_call 36; exact Calls.mix_of (led_least _ _ p s (HM.out _))) | (go_at_call 28; exact Calls.mix_qt (led_low _ _ p s (HM.out _))) | (go_at_call 26; exact Calls.mix_qt (led_next _ _ p s (HM.out _))))))
        refine wpQuiet_nil ?_
        intro w7 b7
        have hb := P6.out.bel.trans (b7.mono P6.out.bel.size)
        clear b7 HM HMF m0 m1 t0 t1 P6
        go_wp2
        all_goals
          go_ret
          exact ⟨rfl, hb⟩

end Go.Proofs.Yteigflkpopcjkaa
