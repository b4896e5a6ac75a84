/-
  The examples of the ledger's chapter; what a ledger's own blocks are.
-/
import Derived.Test.YteigflkpopcjkaaMake
namespace Go.Proofs.Yteigflkpopcjkaa
set_option linter.unusedSimpArgs false
set_option linter.unusedVariables false
set_option linter.unnecessarySimpa false
open Go.RowKit

/-- The blocks behind w's. -/
def Beh (w : World) : Nat → Prop := fun j => w.heap.size ≤ j
theorem beh_step {w v v' : World} (hb : Below w.heap.size w v) (hc : Chg (Beh w) v v') : Below w.heap.size w v' := hb.trans (hc.below hb.size (fun k hk h => by unfold Beh at h; omega))
theorem beh_grow {w v : World} (hb : Below w.heap.size w v) {k : Nat} (h : Grow (Beh w) v k) : Beh w k := by
  rcases h with h | h
  · exact h
  · exact Nat.le_trans hb.size h

def aSt : Nat → LS
  | 0 => LS.new 4 9
  | k + 1 => ((aSt k).send ⟨0, k, 5, 0, 0, false, false, 0⟩).1
theorem aSt_ok : ∀ k, k < 4 → ((aSt k).send ⟨0, k, 5, 0, 0, false, false, 0⟩).2.1 = (k : Int) ∧ ((aSt k).send ⟨0, k, 5, 0, 0, false, false, 0⟩).2.2 = 0 := by decide +kernel
def a5 : LS := ((aSt 4).send ⟨0, 0, 5, 0, 0, false, false, 0⟩).1
def a6 : LS := (a5.settle 0 2).1
def a7 : LS := a6.skip.1
def a8 : LS := (a7.use 1).1
def a9 : LS := (a8.use 1).1
def a10 : LS := (a9.use 4).1
theorem aVals : (aSt 0).room = 4 ∧ ((aSt 4).send ⟨0, 0, 5, 0, 0, false, false, 0⟩).2.1 = 0 ∧ ((aSt 4).send ⟨0, 0, 5, 0, 0, false, false, 0⟩).2.2 = 7 ∧ (a5.settle 0 2).2 = true ∧ a6.skip.2.1 = 4 ∧ a6.skip.2.2 = 0 ∧ a7.low = 1 ∧ a7.all.length = 5 ∧ a7.least = 1 ∧ a7.flight = 15 ∧ (a7.use 1).2 = true ∧ (a8.use 1).2 = false ∧ (a9.use 4).2 = false ∧ a10.kept.length = 4 := by decide +kernel

theorem ok0 (off len : Int) (h1 : isU64 off) (h2 : isU64 len) : Snt.ok ⟨0, off, len, 0, 0, false, false, 0⟩ :=
  ⟨⟨by simp, by simp⟩, h1, h2, ⟨by simp, by simp⟩, ⟨by simp, by simp⟩, ⟨by simp, by simp⟩⟩

set_option maxHeartbeats 4000000 in
set_option maxRecDepth 100000 in
theorem ledAlive (w : World) : Calls Try.prog 22 #[] w fun e w' => e = .returned (.bool true) ∧ Below w.heap.size w w' := by
  obtain ⟨V1, V2, V3, V4, V5, V6, V7, V8, V9, V10, V11, V12, V13, V14⟩ := aVals
  have HV1 := Lib.hid V1
  have HV2 := Lib.hid V2
  have HV3 := Lib.hid V3
  have HV4 := Lib.hid V4
  have HV5 := Lib.hid V5
  have HV6 := Lib.hid V6
  have HV7 := Lib.hid V7
  have HV8 := Lib.hid V8
  have HV9 := Lib.hid V9
  have HV10 := Lib.hid V10
  have HV11 := Lib.hid V11
  have HV12 := Lib.hid V12
  have HV13 := Lib.hid V13
  have HV14 := Lib.hid V14
  clear V1 V2 V3 V4 V5 V6 V7 V8 V9 V10 V11 V12 V13 V14
  go_enter Try.func22, Try.ntmps22
  go_wp2_with fail
  refine (led_new 4 9 _ ⟨by omega, by omega⟩).mono ?_
  rintro e w1 ⟨rfl, hL, b1⟩
  have HL1 := Lib.hid (hL.sub (G := Beh w) (fun k _ h => by unfold Beh; omega))
  have HB1 := Lib.hid b1
  clear b1 hL
  go_wp2_with fail
  refine (led_room w1 _ _ _ HL1.out).mono ?_
  rw [show (LS.new 4 9).room = 4 from HV1.out]
  rintro e w2 ⟨rfl, b2⟩
  have HL2 : Hid (LedP w2 (Beh w) w.heap.size (aSt 0)) := HL1.out.below b2
  have HB2 := Lib.hid (HB1.out.trans (b2.mono HB1.out.size))
  clear b2 HL1 HB1
  go_wp2
  go_loopw [3] (fun i wr => ∃ k : Nat, k ≤ 4 ∧ i = .int .u64 k ∧ Hid (LedP wr (Beh w) w.heap.size (aSt k)) ∧ Hid (Below w.heap.size w wr)) (fun i _ => 4 - (intOf i).toNat)
  case atStart => exact ⟨0, by omega, rfl, HL2, HB2⟩
  case round =>
    obtain ⟨k, hk, rfl, HL, HB⟩ := hrel
    by_cases hlt : k < 4
    · obtain ⟨v1, v2⟩ := aSt_ok k hlt
      have c := led_send wr (Beh w) w.heap.size (aSt k) ⟨0, k, 5, 0, 0, false, false, 0⟩ HL.out (ok0 _ _ ⟨by omega, by omega⟩ ⟨by omega, by omega⟩)
      rw [v1, v2] at c
      clear v1 v2
      have C := Lib.hid c
      clear c
      have t1 : (((k : Nat) : Int) != (k : Int)) = false := by simp
      go_wp2_with fail
      refine C.out.mono ?_
      rintro e w3 ⟨rfl, hL, hC⟩
      have HL3 : Hid (LedP w3 (Beh w) w.heap.size (aSt (k + 1))) := hL.sub (fun j _ h => beh_grow HB.out h)
      have HB3 := Lib.hid (beh_step HB.out hC)
      clear hL hC
      go_wp2
      go_roundw
      case rel => exact ⟨k + 1, by omega, by go_num, HL3, HB3⟩
      case measure => simp [intOf]; omega
    · obtain rfl : k = 4 := by omega
      have c := led_send wr (Beh w) w.heap.size (aSt 4) ⟨0, 0, 5, 0, 0, false, false, 0⟩ HL.out (ok0 _ _ ⟨by omega, by omega⟩ ⟨by omega, by omega⟩)
      rw [HV2.out, HV3.out] at c
      have C := Lib.hid c
      clear c
      go_wp2_with fail
      refine C.out.mono ?_
      rintro e w3 ⟨rfl, hL, hC⟩
      have HL3 : Hid (LedP w3 (Beh w) w.heap.size a5) := hL.sub (fun j _ h => beh_grow HB.out h)
      have HB3 := Lib.hid (beh_step HB.out hC)
      clear hL hC C HL HB
      go_wp2_with fail
      refine (led_settle w3 (Beh w) w.heap.size a5 0 2 HL3.out ⟨by omega, by omega⟩).mono ?_
      rw [HV4.out]
      rintro e w4 ⟨rfl, hL, hC⟩
      have HL4 : Hid (LedP w4 (Beh w) w.heap.size a6) := hL
      have HB4 := Lib.hid (beh_step HB3.out hC)
      clear hL hC HL3 HB3
      go_wp2_with fail
      refine (led_skip w4 (Beh w) w.heap.size a6 HL4.out).mono ?_
      rw [HV5.out, HV6.out]
      rintro e w5 ⟨rfl, hL, hC⟩
      have HL5 : Hid (LedP w5 (Beh w) w.heap.size a7) := hL.sub (fun j _ h => beh_grow HB4.out h)
      have HB5 := Lib.hid (beh_step HB4.out hC)
      clear hL hC HL4 HB4
      go_wp2_with fail
      refine (led_low w5 (Beh w) w.heap.size a7 HL5.out).mono ?_
      rw [HV7.out]
      rintro e w6 ⟨rfl, n6, rfl⟩
      go_wp2_with fail
      refine (led_next _ (Beh w) w.heap.size a7 HL5.out.dn).mono ?_
      rw [HV8.out]
      rintro e w6 ⟨rfl, n7, rfl⟩
      go_wp2_with fail
      refine (led_least _ (Beh w) w.heap.size a7 HL5.out.dn).mono ?_
      rw [HV9.out]
      rintro e w6 ⟨rfl, b⟩
      have HL6 := Lib.hid (HL5.out.dn.below b)
      have HB6 := Lib.hid ((below_drewN HB5.out _).trans (b.mono (below_drewN HB5.out _).size))
      clear b HL5 HB5
      go_wp2_with fail
      refine (led_flight _ (Beh w) w.heap.size a7 HL6.out).mono ?_
      rw [HV10.out]
      rintro e w7 ⟨rfl, b⟩
      have HL7 := Lib.hid (HL6.out.below b)
      have HB7 := Lib.hid (HB6.out.trans (b.mono HB6.out.size))
      clear b HL6 HB6
      go_wp2_with fail
      refine (led_use _ (Beh w) w.heap.size a7 1 HL7.out ⟨by omega, by omega⟩).mono ?_
      rw [HV11.out]
      rintro e w8 ⟨rfl, hL, hC⟩
      have HL8 : Hid (LedP w8 (Beh w) w.heap.size a8) := hL
      have HB8 := Lib.hid (beh_step HB7.out hC)
      clear hL hC HL7 HB7
      go_wp2_with fail
      refine (led_use _ (Beh w) w.heap.size a8 1 HL8.out ⟨by omega, by omega⟩).mono ?_
      rw [HV12.out]
      rintro e w9 ⟨rfl, hL, hC⟩
      have HL9 : Hid (LedP w9 (Beh w) w.heap.size a9) := hL
      have HB9 := Lib.hid (beh_step HB8.out hC)
      clear hL hC HL8 HB8
      go_wp2_with fail
      refine (led_use _ (Beh w) w.heap.size a9 4 HL9.out ⟨by omega, by omega⟩).mono ?_
      rw [HV13.out]
      rintro e w10 ⟨rfl, hL, hC⟩
      have HL10 : Hid (LedP w10 (Beh w) w.heap.size a10) := hL
      have HB10 := Lib.hid (beh_step HB9.out hC)
      clear hL hC HL9 HB9
      go_wp2_with fail
      refine (led_all _ (Beh w) w.heap.size a10 HL10.out).mono ?_
      rw [HV14.out]
      rintro e w11 ⟨A, c, rfl, ho, b⟩
      have HB11 := Lib.hid (HB10.out.trans (b.mono HB10.out.size))
      clear ho b HL10 HB10
      go_wp2
      go_ret
      exact ⟨rfl, HB11.out⟩

end Go.Proofs.Yteigflkpopcjkaa
