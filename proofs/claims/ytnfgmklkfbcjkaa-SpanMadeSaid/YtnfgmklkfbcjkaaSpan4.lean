/-
  Walks: the references' Good and IsSpan.
-/
import Derived.Test.YtnfgmklkfbcjkaaSpanCut
namespace Go.Proofs.Ytnfgmklkfbcjkaa
set_option linter.unusedSimpArgs false
set_option linter.unusedVariables false
set_option linter.unnecessarySimpa false
open Go.RowKit

set_option maxHeartbeats 800000 in
theorem isSpan_any (lo hi : Int) (w : World) (h1 : 0 ≤ lo) (h2 : lo < 18446744073709551616) (h3 : 0 ≤ hi) (h4 : hi < 18446744073709551616) :
    Calls Try.prog 26 #[.agg #[.int .u64 lo, .int .u64 hi]] w fun e w' => e = .returned (.bool (isSpanB (lo, hi))) ∧ Below w.heap.size w w' := by
  by_cases hle : lo ≤ hi
  · by_cases hm : hi ≤ 4611686018427387903
    · have HB := Lib.hid (show isSpanB (lo, hi) = true from decide_eq_true ⟨hle, hm⟩)
      go_enter Try.func26, Try.ntmps26
      go_wp2
      go_ret
      exact ⟨ret_bool (by rw [HB.out]), (Below.refl _ _).alloc (Nat.le_refl _) _⟩
    · have HB := Lib.hid (show isSpanB (lo, hi) = false from decide_eq_false (fun h => hm h.2))
      go_enter Try.func26, Try.ntmps26
      go_wp2
      go_ret
      exact ⟨ret_bool (by rw [HB.out]), (Below.refl _ _).alloc (Nat.le_refl _) _⟩
  · have HB := Lib.hid (show isSpanB (lo, hi) = false from decide_eq_false (fun h => hle h.1))
    go_enter Try.func26, Try.ntmps26
    go_wp2
    go_ret
    exact ⟨ret_bool (by rw [HB.out]), (Below.refl _ _).alloc (Nat.le_refl _) _⟩

set_option maxHeartbeats 1600000 in
theorem refGood_any (A : Option Addr) (n c : Nat) (l : List Sp) (w : World) (h : Rd w 2 A n c (Ss l)) (hu : U2s l) :
    Calls Try.prog 25 #[.slice A n c] w fun e w' => e = .returned (.bool (goodB l)) ∧ Qt w w' := by
  have hl := h.len
  rw [Ss_length] at hl
  obtain rfl : l.length = n := by omega
  clear hl
  have hmax := h.cap
  have hmax' := h.max
  unfold maxLen at hmax'
  go_enter Try.func25, Try.ntmps25
  go_wp2
  go_loopw [3] (fun i wr => ∃ k : Nat, k ≤ l.length ∧ i = .int .i64 k ∧ Hid (GoodTo l k) ∧ Qt w wr) (fun i _ => l.length - (intOf i).toNat)
  case atStart => exact ⟨0, Nat.zero_le _, rfl, GoodTo.zero l, Qt.refl w⟩
  case round =>
    obtain ⟨k, hk, rfl, Hg, hq⟩ := hrel
    by_cases hlt : k < l.length
    · obtain ⟨b, off, x, y, rfl, He, hc1, hc2, u1, u2, u3, u4⟩ := (h.qt hq).sp hu hlt
      by_cases hs : IsSpan (x, y)
      · obtain ⟨hs1, hs2⟩ := hs
        have Hs : Hid (IsSpan (x, y)) := ⟨hs1, hs2⟩
        simp only [maxPn_eq] at hs1 hs2
        have t1 : decide (y < x) = false := by simp; omega
        have t2 : decide (4611686018427387903 < y) = false := by simp; omega
        by_cases h0 : 0 < k
        · have hk1 : k - 1 < l.length := by omega
          obtain ⟨z, p, Hp, _, hp, _, _, p1, p2⟩ := (h.qt hq).spat hu hk1
          have hpm : p ≤ 4611686018427387903 := by
            have := ((Hg.out (k - 1) hk1 (by omega)).1).2
            rw [Hp.out] at this
            exact this
          have Hy : Hid (p + 1 < x → GoodTo l (k + 1)) := fun hgap => Hg.out.step hlt (by rw [He.out]; exact Hs.out) (fun _ => by rw [He.out, Hp.out]; exact hgap)
          have Hn : Hid (¬ p + 1 < x → goodB l = false) := fun hgap => goodB_false hlt (fun h => hgap (by have := h.2 h0; rw [He.out, Hp.out] at this; exact this))
          go_wp2
          refine wp_region_qt (by kernel_rfl) (by kernel_rfl) ?_
          repeat (go_big_quiet_step (fail))
          refine wpQuiet_nil ?_
          intro wd qd
          go_wp2
          · have hx : x ≤ p + 1 := by assumption
            go_ret
            exact ⟨ret_bool (Hn.out (by omega)).symm, hq.trans qd⟩
          · have hx : p + 1 < x := by assumption
            go_roundw
            case rel => exact ⟨k + 1, by omega, by go_num, Hy.out hx, hq.trans qd⟩
            case measure => simp [intOf]; omega
        · have Hn : Hid (GoodTo l (k + 1)) := Hg.out.step hlt (by rw [He.out]; exact Hs.out) (fun h => absurd h h0)
          go_wp2
          refine wp_region_qt (by kernel_rfl) (by kernel_rfl) ?_
          repeat (go_big_quiet_step (fail))
          refine wpQuiet_nil ?_
          intro wd qd
          go_wp2
          go_roundw
          case rel => exact ⟨k + 1, by omega, by go_num, Hn.out, hq.trans qd⟩
          case measure => simp [intOf]; omega
      · have Hn : Hid (goodB l = false) := goodB_false hlt (fun h => hs (by have := h.1; rw [He.out] at this; exact this))
        by_cases hc : y < x
        · have t1 : decide (y < x) = true := by simp; omega
          clear hs
          go_wp2
          refine wp_region_qt (by kernel_rfl) (by kernel_rfl) ?_
          repeat (go_big_quiet_step (fail))
          refine wpQuiet_nil ?_
          intro wd qd
          go_wp2
          go_ret
          exact ⟨ret_bool Hn.out.symm, hq.trans qd⟩
        · have hm : 4611686018427387903 < y := by
            rcases Int.lt_or_le 4611686018427387903 y with h | h
            · exact h
            · exact absurd ⟨by omega, h⟩ hs
          have t1 : decide (y < x) = false := by simp; omega
          have t2 : decide (4611686018427387903 < y) = true := by simp; omega
          clear hs
          go_wp2
          refine wp_region_qt (by kernel_rfl) (by kernel_rfl) ?_
          repeat (go_big_quiet_step (fail))
          refine wpQuiet_nil ?_
          intro wd qd
          go_wp2
          go_ret
          exact ⟨ret_bool Hn.out.symm, hq.trans qd⟩
    · obtain rfl : k = l.length := by omega
      have Hn : Hid (goodB l = true) := goodB_true Hg.out.all
      go_wp2
      go_ret
      exact ⟨ret_bool Hn.out.symm, hq⟩
end Go.Proofs.Ytnfgmklkfbcjkaa
