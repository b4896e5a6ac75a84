/-
  The walk of LedgerEnds.
-/
import Derived.Test.YteigflkpopcjkaaLedA
import Derived.Test.YteigflkpopcjkaaLedEndsP
namespace Go.Proofs.Yteigflkpopcjkaa
set_option linter.unusedSimpArgs false
set_option linter.unusedVariables false
set_option linter.unnecessarySimpa false
open Go.RowKit

theorem refSub_any (a b d : Int) (w : World) (ha : isU64 a) (hb : isU64 b) (hd : d = if a < b then 0 else a - b) :
    Calls Try.prog 27 #[.int .u64 a, .int .u64 b] w fun e w' => e = .returned (.int .u64 d) ∧ Qt w w' := by
  subst hd
  obtain ⟨a0, a1⟩ := ha
  obtain ⟨b0, b1⟩ := hb
  by_cases h : a < b
  · rw [if_pos h]
    go_enter Try.func27, Try.ntmps27
    go_wp2
    go_ret
    exact ⟨rfl, Qt.refl _⟩
  · rw [if_neg h]
    go_enter Try.func27, Try.ntmps27
    go_wp2
    go_ret
    exact ⟨ret_int (by first | rfl | (simp; omega)), Qt.refl _⟩

structure EndRel (w : World) (lim : Int) (k : Nat) (s : LS) (wr : World) : Prop where
  led : LedP wr (Beh w) w.heap.size s
  nf : s.NoFly
  len : s.all.length = k
  lm : s.limit = lim
  rg : s.ring = 8
  bel : Below w.heap.size w wr

set_option maxHeartbeats 4000000 in
set_option maxRecDepth 100000 in
theorem ledgerEnds_any (limit : Int) (A : Option Addr) (n c : Nat) (l : List Bool) (w : World) (hr : Rd w 1 A n c (Bs l)) (hl0 : 0 ≤ limit ∧ limit ≤ 255) :
    Calls Try.prog 3 #[.int .u8 limit, .slice A n c] w fun e w' => e = .returned (.bool true) ∧ Below w.heap.size w w' := by
  obtain ⟨l0, l1⟩ := hl0
  have hcap := hr.cap
  have hmax := hr.max
  unfold maxLen at hmax
  have hln : l.length = n := by have := hr.len; simpa using this
  subst hln
  have HR := Lib.hid hr
  clear hr
  have hm0 : 0 ≤ limit % 40 := by omega
  have hm1 : limit % 40 < 40 := by omega
  go_enter Try.func3, Try.ntmps3
  go_wp2_with fail
  generalize hlim : limit % 40 = lim at *
  refine (led_new 8 lim _ ⟨by omega, by omega⟩).mono ?_
  rintro e w1 ⟨rfl, hL, b1⟩
  have E1 : Hid (EndRel w lim 0 (LS.new 8 lim) w1) := ⟨hL.sub (fun k _ h => by unfold Beh; omega), LS.NoFly.new _ _, by simp [LS.new], by simp only [LS.new]; omega, by simp only [LS.new]; omega, b1⟩
  clear hL b1
  go_wp2_with fail
  refine (ledAlive w1).mono ?_
  rintro e w2 ⟨rfl, b2⟩
  have E2 : Hid (EndRel w lim 0 (LS.new 8 lim) w2) := ⟨E1.out.led.below b2, E1.out.nf, E1.out.len, E1.out.lm, E1.out.rg, E1.out.bel.trans (b2.mono E1.out.bel.size)⟩
  clear b2 E1
  go_wp2
  go_loopw [6] (fun i wr => ∃ (k : Nat) (s : LS), (k : Int) ≤ lim + 1 ∧ i = .int .u64 k ∧ Hid (EndRel w lim k s wr)) (fun i _ => 41 - (intOf i).toNat)
  case atStart => exact ⟨0, _, by omega, rfl, E2⟩
  case round =>
    obtain ⟨k, s, hk, rfl, HE⟩ := hrel
    have g := HE.out.led.good
    by_cases hlt : (k : Int) ≤ lim
    · by_cases hskip : ∃ h : k < l.length, l[k] = true
      · obtain ⟨h1, h2⟩ := hskip
        obtain ⟨v1, v2, v3, v4, v5, v6⟩ := LS.ends_skip g HE.out.nf (by rw [HE.out.len, HE.out.lm]; exact hlt)
        have c := led_skip wr (Beh w) w.heap.size s HE.out.led
        rw [v1, v2] at c
        have C := Lib.hid c
        have V := Lib.hid (And.intro v3 (And.intro v4 (And.intro v5 v6)))
        obtain ⟨bb, off, rfl, d0⟩ := (HR.out.below HE.out.bel).bool h1
        have hget : l.getD k false = true := by simp [h1, h2]
        rw [hget] at d0
        clear c v1 v2 v3 v4 v5 v6 g hget h2
        go_wp2_with fail
        refine C.out.mono ?_
        rintro e w3 ⟨rfl, hL, hC⟩
        have HE3 : Hid (EndRel w lim (k + 1) s.skip.1 w3) := ⟨hL.sub (fun j _ h => beh_grow HE.out.bel h), V.out.1, by rw [V.out.2.1, HE.out.len], V.out.2.2.1.trans HE.out.lm, V.out.2.2.2.trans HE.out.rg, beh_step HE.out.bel hC⟩
        clear hL hC d0
        go_wp2
        go_roundw
        case rel => exact ⟨k + 1, _, by omega, by go_num, HE3⟩
        case measure => simp [intOf]; omega
      · obtain ⟨v1, v2, v3, v4, v5, v6⟩ := LS.ends_send g HE.out.nf (by rw [HE.out.len, HE.out.lm]; exact hlt) ⟨0, 0, 1, 0, 0, false, false, 0⟩ (by simp) (by simp) (by simp)
        have c := led_send wr (Beh w) w.heap.size s ⟨0, 0, 1, 0, 0, false, false, 0⟩ HE.out.led (ok0 _ _ ⟨by omega, by omega⟩ ⟨by omega, by omega⟩)
        rw [v1, v2] at c
        have C := Lib.hid c
        rw [HE.out.len] at v3 v4 v5 v6
        have V := Lib.hid (And.intro v3 (And.intro v4 (And.intro v5 v6)))
        clear c v1 v2 v3 v4 v5 v6 g
        have hrest : ∀ w3, Calls Try.prog 25 #[.pointer (some ⟨w.heap.size, 0, none⟩), .int .u64 k, .int .i64 2] w3 (fun e w' => ∃ b, e = .returned (.bool b) ∧ LedP w' (Beh w) w.heap.size ((s.send ⟨0, 0, 1, 0, 0, false, false, 0⟩).1.settle k 2).1 ∧ Chg (Beh w) w3 w') ∨ ¬ LedP w3 (Beh w) w.heap.size (s.send ⟨0, 0, 1, 0, 0, false, false, 0⟩).1 := by
          intro w3
          by_cases hL : LedP w3 (Beh w) w.heap.size (s.send ⟨0, 0, 1, 0, 0, false, false, 0⟩).1
          · exact .inl ((led_settle w3 (Beh w) w.heap.size _ k 2 hL ⟨by omega, by omega⟩).mono fun e w' ⟨h1, h2, h3⟩ => ⟨_, h1, h2, h3⟩)
          · exact .inr hL
        have HR3 := Lib.hid hrest
        clear hrest
        by_cases h1 : k < l.length
        all_goals
          first
            | (have hf : l.getD k false = false := by
                 simp [h1]
                 cases hv : l[k] with
                 | false => rfl
                 | true => exact absurd ⟨h1, hv⟩ hskip
               obtain ⟨bb, off, rfl, d0⟩ := (HR.out.below HE.out.bel).bool h1
               rw [hf] at d0)
            | have h1' : l.length ≤ k := by omega
          clear hskip
          go_wp2_with fail
          refine C.out.mono ?_
          rintro e w3 ⟨rfl, hL, hC⟩
          have HL3 := Lib.hid (hL.sub (G := Beh w) (fun j _ h => beh_grow HE.out.bel h))
          have HB3 := Lib.hid (beh_step HE.out.bel hC)
          clear hL hC
          go_wp2_with fail
          refine ((HR3.out w3).resolve_right (fun h => h HL3.out)).mono ?_
          rintro e w4 ⟨b, rfl, hL, hC⟩
          have HE4 : Hid (EndRel w lim (k + 1) _ w4) := ⟨hL, V.out.1, V.out.2.1, V.out.2.2.1.trans HE.out.lm, V.out.2.2.2.trans HE.out.rg, beh_step HB3.out hC⟩
          clear hL hC
          go_wp2
          go_roundw
          case rel => exact ⟨k + 1, _, by omega, by go_num, HE4⟩
          case measure => simp [intOf]; omega
    · have ek : (k : Int) = lim + 1 := by omega
      have hov : s.limit < (s.all.length : Int) := by rw [HE.out.len, HE.out.lm]; omega
      obtain ⟨o1, o2⟩ := LS.ends_over hov ⟨0, 0, 1, 0, 0, false, false, 0⟩ (by simp) (by simp) (by simp)
      have o3 := LS.ends_bad s ⟨0, 0, 0, 0, 0, false, false, 0⟩ (by simp)
      have K1 : Hid (∀ v, LedP v (Beh w) w.heap.size s → Calls Try.prog 24 #[.pointer (some ⟨w.heap.size, 0, none⟩), .agg #[.int .u64 0, .int .u64 0, .int .u64 1, .int .u64 0, .int .u64 0, .bool false, .bool false, .int .i64 0]] v fun e w' => e = .returned (.tuple #[.int .u64 0, .int .i64 8]) ∧ LedP w' (Grow (Beh w) v) w.heap.size s ∧ Chg (Beh w) v w') := fun v hv => by
        have c := led_send v (Beh w) w.heap.size s ⟨0, 0, 1, 0, 0, false, false, 0⟩ hv (ok0 _ _ ⟨by omega, by omega⟩ ⟨by omega, by omega⟩)
        rw [o1] at c
        exact c
      have K2 : Hid (∀ v, LedP v (Beh w) w.heap.size s → Calls Try.prog 23 #[.pointer (some ⟨w.heap.size, 0, none⟩)] v fun e w' => e = .returned (.tuple #[.int .u64 0, .int .i64 8]) ∧ LedP w' (Grow (Beh w) v) w.heap.size s ∧ Chg (Beh w) v w') := fun v hv => by
        have c := led_skip v (Beh w) w.heap.size s hv
        rw [o2] at c
        exact c
      have K3 : Hid (∀ v, LedP v (Beh w) w.heap.size s → Calls Try.prog 24 #[.pointer (some ⟨w.heap.size, 0, none⟩), .agg #[.int .u64 0, .int .u64 0, .int .u64 0, .int .u64 0, .int .u64 0, .bool false, .bool false, .int .i64 0]] v fun e w' => e = .returned (.tuple #[.int .u64 0, .int .i64 1]) ∧ LedP w' (Grow (Beh w) v) w.heap.size s ∧ Chg (Beh w) v w') := fun v hv => by
        have c := led_send v (Beh w) w.heap.size s ⟨0, 0, 0, 0, 0, false, false, 0⟩ hv (ok0 _ _ ⟨by omega, by omega⟩ ⟨by omega, by omega⟩)
        rw [o3] at c
        exact c
      have HK := Lib.hid HE.out.len
      have HW : Hid ((s.low : Int) = if (k : Int) < 8 then 0 else (k : Int) - 8) := by
        show _ = _
        have := HE.out.len
        have := HE.out.rg
        unfold LS.low
        split <;> omega
      have EK := Lib.hid ek
      clear o1 o2 o3 hov g ek
      have hk2 : (k : Int) = lim + 1 := EK.out
      go_wp2_with fail
      refine (K1.out wr HE.out.led).mono ?_
      rintro e w3 ⟨rfl, hL, hC⟩
      have L3 := Lib.hid (hL.sub (G := Beh w) (fun j _ h => beh_grow HE.out.bel h))
      have B3 := Lib.hid (beh_step HE.out.bel hC)
      clear hL hC
      go_wp2_with fail
      refine (K2.out w3 L3.out).mono ?_
      rintro e w4 ⟨rfl, hL, hC⟩
      have L4 := Lib.hid (hL.sub (G := Beh w) (fun j _ h => beh_grow B3.out h))
      have B4 := Lib.hid (beh_step B3.out hC)
      clear hL hC
      go_wp2_with fail
      refine (K3.out w4 L4.out).mono ?_
      rintro e w5 ⟨rfl, hL, hC⟩
      have L5 := Lib.hid (hL.sub (G := Beh w) (fun j _ h => beh_grow B4.out h))
      have B5 := Lib.hid (beh_step B4.out hC)
      clear hL hC
      go_wp2_with fail
      refine (led_next w5 (Beh w) w.heap.size s L5.out).mono ?_
      rw [HK.out, EK.out]
      rintro e w6 ⟨rfl, n6, rfl⟩
      go_wp2_with fail
      refine (led_next _ (Beh w) w.heap.size s L5.out.dn).mono ?_
      rw [HK.out, EK.out]
      rintro e w6 ⟨rfl, n7, rfl⟩
      go_wp2_with fail
      refine (refSub_any (lim + 1) 8 s.low _ ⟨by omega, by omega⟩ ⟨by omega, by omega⟩ (by rw [HW.out, EK.out])).mono ?_
      rintro e w6 ⟨rfl, n8, rfl⟩
      go_wp2_with fail
      refine (led_low _ (Beh w) w.heap.size s L5.out.dn).mono ?_
      rintro e w6 ⟨rfl, n9, rfl⟩
      go_wp2
      go_ret
      exact ⟨rfl, below_drewN B5.out _⟩

end Go.Proofs.Yteigflkpopcjkaa
