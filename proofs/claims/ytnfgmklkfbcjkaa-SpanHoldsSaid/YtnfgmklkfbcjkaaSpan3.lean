/-
  Walks: counting and asking.
-/
import Derived.Test.YtnfgmklkfbcjkaaSpan2
import Derived.Test.YtnfgmklkfbcjkaaSpanQ
namespace Go.Proofs.Ytnfgmklkfbcjkaa
set_option linter.unusedSimpArgs false
set_option linter.unusedVariables false
set_option linter.unnecessarySimpa false
open Go.RowKit

theorem U2s.lo {l : List Sp} (h : U2s l) : ∀ s ∈ l, 0 ≤ s.1 := fun s hs => (h s hs).1.1

set_option maxHeartbeats 800000 in
theorem count_yes (A : Option Addr) (n c : Nat) (l : List Sp) (w : World) (h : Rd w 2 A n c (Ss l)) (hu : U2s l) (hg : Good l) :
    Calls Try.prog 32 #[.slice A n c] w fun e w' => e = .returned (.int .u64 (sumTo l l.length)) ∧ Below w.heap.size w w' := by
  have hl := h.len
  rw [Ss_length] at hl
  obtain rfl : l.length = n := by omega
  clear hl
  have hmax := h.cap
  have hmax' := h.max
  unfold maxLen at hmax'
  have Hg := Lib.hid hg
  have Hgb := Lib.hid (goodB_true hg)
  clear hg
  go_enter Try.func32, Try.ntmps32
  go_wp2_with fail
  refine (good_any A l.length c l _ h hu).mono ?_
  rw [Hgb.out]
  rintro e w1 ⟨rfl, hb1⟩
  go_wp2
  go_loopw [3, 11] (fun x i wr => ∃ k : Nat, k ≤ l.length ∧ i = .int .i64 k ∧ x = .int .u64 (sumTo l k) ∧ Below w.heap.size w wr) (fun _ i _ => l.length - (intOf i).toNat)
  case atStart => exact ⟨0, Nat.zero_le _, rfl, by rw [sumTo_zero], hb1⟩
  case round =>
    obtain ⟨k, hk, rfl, rfl, hb⟩ := hrel
    by_cases hlt : k < l.length
    · obtain ⟨b, off, x, y, rfl, He, hc1, hc2, u1, u2, u3, u4⟩ := (h.below hb).sp hu hlt
      obtain ⟨g1, g2⟩ := sumTo_le l Hg.out hu.lo k hk
      obtain ⟨g3, g4⟩ := sumTo_le l Hg.out hu.lo (k + 1) hlt
      have hs := sumTo_succ l k hlt
      rw [He.out] at hs
      have Hs : Hid (sumTo l (k + 1) = sumTo l k + (y - x + 1)) := hs
      have hxy : x ≤ y := by have := (Hg.out k hlt).1.1; rw [He.out] at this; exact this
      rw [hs] at g3 g4
      clear hs
      generalize sumTo l k = S at *
      go_wp2_with fail
      refine (satAdd_any _ _ _ ⟨g1, by omega⟩ ⟨by omega, by omega⟩).mono ?_
      rintro e w2 ⟨rfl, rfl⟩
      rw [show min (S + (y - x + 1)) 18446744073709551615 = S + (y - x + 1) by omega]
      go_wp2
      go_roundw
      case rel => exact ⟨k + 1, by omega, by go_num, by rw [Hs.out], hb.alloc hb.size _⟩
      case measure => simp [intOf]; omega
    · obtain rfl : k = l.length := by omega
      go_wp2
      go_ret
      exact ⟨rfl, hb⟩

theorem count_no (A : Option Addr) (n c : Nat) (l : List Sp) (w : World) (h : Rd w 2 A n c (Ss l)) (hu : U2s l) (hg : ¬ Good l) :
    Calls Try.prog 32 #[.slice A n c] w fun e w' => e = .returned (.int .u64 0) ∧ Below w.heap.size w w' := by
  have Hgb := Lib.hid (show goodB l = false from decide_eq_false hg)
  clear hg
  go_enter Try.func32, Try.ntmps32
  go_wp2_with fail
  refine (good_any A n c l _ h hu).mono ?_
  rw [Hgb.out]
  rintro e w1 ⟨rfl, hb1⟩
  go_wp2
  go_ret
  exact ⟨rfl, hb1⟩

set_option maxHeartbeats 800000 in
theorem countNums_any (A : Option Addr) (n c : Nat) (l : List Sp) (w : World) (h : Rd w 2 A n c (Ss l)) (hu : U2s l) (hg : Good l) :
    Calls Try.prog 36 #[.slice A n c] w fun e w' => e = .returned (.int .u64 (sumTo l l.length)) ∧ Qt w w' := by
  have hl := h.len
  rw [Ss_length] at hl
  obtain rfl : l.length = n := by omega
  clear hl
  have hmax := h.cap
  have hmax' := h.max
  unfold maxLen at hmax'
  have Hg := Lib.hid hg
  clear hg
  go_enter Try.func36, Try.ntmps36
  go_wp2
  go_loopw [3, 4] (fun x i wr => ∃ k : Nat, k ≤ l.length ∧ i = .int .i64 k ∧ x = .int .u64 (sumTo l k) ∧ Qt w wr) (fun _ i _ => l.length - (intOf i).toNat)
  case atStart => exact ⟨0, Nat.zero_le _, rfl, by rw [sumTo_zero], Qt.refl w⟩
  case round =>
    obtain ⟨k, hk, rfl, rfl, hq⟩ := hrel
    by_cases hlt : k < l.length
    · obtain ⟨b, off, x, y, rfl, He, hc1, hc2, u1, u2, u3, u4⟩ := (h.qt hq).sp hu hlt
      obtain ⟨g1, g2⟩ := sumTo_le l Hg.out hu.lo k hk
      obtain ⟨g3, g4⟩ := sumTo_le l Hg.out hu.lo (k + 1) hlt
      have hs := sumTo_succ l k hlt
      rw [He.out] at hs
      have Hs : Hid (sumTo l (k + 1) = sumTo l k + (y - x + 1)) := hs
      have hxy : x ≤ y := by have := (Hg.out k hlt).1.1; rw [He.out] at this; exact this
      rw [hs] at g3 g4
      clear hs
      generalize sumTo l k = S at *
      go_wp2
      refine wp_region_qt (by kernel_rfl) (by kernel_rfl) ?_
      repeat (go_big_quiet_step (fail))
      refine wpQuiet_nil ?_
      intro wd qd
      go_wp2
      go_roundw
      case rel => exact ⟨k + 1, by omega, by go_num, by rw [Hs.out]; congr 1; omega, hq.trans qd⟩
      case measure => simp [intOf]; omega
    · obtain rfl : k = l.length := by omega
      go_wp2
      go_ret
      exact ⟨rfl, hq⟩
end Go.Proofs.Ytnfgmklkfbcjkaa
