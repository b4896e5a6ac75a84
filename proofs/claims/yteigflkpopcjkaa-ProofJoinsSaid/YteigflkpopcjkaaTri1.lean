/-
  Walks of spans that the trigger and the proof reach: Good, Has, HasNum (picked out of the texts of rows 5-9).
-/
import Derived.Test.YteigflkpopcjkaaSpan
import Derived.Test.YteigflkpopcjkaaSpanL
import Derived.StillTailTactics
namespace Go.Proofs.Yteigflkpopcjkaa
set_option linter.unusedSimpArgs false
set_option linter.unusedVariables false
set_option linter.unnecessarySimpa false
open Go.RowKit
attribute [local go_sem ↓] run_min_int run_max_int

theorem U2s.lo {l : List Sp} (h : U2s l) : ∀ s ∈ l, 0 ≤ s.1 := fun s hs => (h s hs).1.1

theorem U2s_of {l : List Sp} (h : (l.all fun s => decide (0 ≤ s.1) && decide (s.1 < 18446744073709551616) && decide (0 ≤ s.2) && decide (s.2 < 18446744073709551616)) = true) : U2s l := by
  intro s hs
  have := List.all_eq_true.1 h s hs
  simp only [Bool.and_eq_true, decide_eq_true_eq] at this
  exact ⟨⟨this.1.1.1, this.1.1.2⟩, ⟨this.1.2, this.2⟩⟩

set_option maxHeartbeats 1600000 in
theorem refGood_any (A : Option Addr) (n c : Nat) (l : List Sp) (w : World) (h : Rd w 2 A n c (Ss l)) (hu : U2s l) :
    Calls Try.prog 87 #[.slice A n c] w fun e w' => e = .returned (.bool (goodB l)) ∧ Qt w w' := by
  have hl := h.len
  rw [Ss_length] at hl
  obtain rfl : l.length = n := by omega
  clear hl
  have hmax := h.cap
  have hmax' := h.max
  unfold maxLen at hmax'
  go_enter Try.func87, Try.ntmps87
  go_wp2
  go_loopw [3] (fun i wr => ∃ k : Nat, k ≤ l.length ∧ i = .int .i64 k ∧ Hid (GoodTo l k) ∧ Qt w wr) (fun i _ => l.length - (intOf i).toNat)
  case atStart => exact ⟨0, Nat.zero_le _, rfl, GoodTo.zero l, Qt.refl w⟩
  case round =>
    obtain ⟨k, hk, rfl, Hg, hq⟩ := hrel
    by_cases hlt : k < l.length
    · obtain ⟨b, off, x, y, rfl, He, hc1, hc2, u1, u2, u3, u4⟩ := (h.qt hq).sp hu hlt
      by_cases hs : IsSpan (x, y)
      · obtain ⟨hs1, hs2⟩ := hs
        have Hs : Hid (IsSpan (x, y)) := ⟨hs1, hs2⟩
        simp only [maxPn_eq] at hs1 hs2
        have t1 : decide (y < x) = false := by simp; omega
        have t2 : decide (4611686018427387903 < y) = false := by simp; omega
        by_cases h0 : 0 < k
        · have hk1 : k - 1 < l.length := by omega
          obtain ⟨z, p, Hp, _, hp, _, _, p1, p2⟩ := (h.qt hq).spat hu hk1
          have hpm : p ≤ 4611686018427387903 := by
            have := ((Hg.out (k - 1) hk1 (by omega)).1).2
            rw [Hp.out] at this
            exact this
          have Hy : Hid (p + 1 < x → GoodTo l (k + 1)) := fun hgap => Hg.out.step hlt (by rw [He.out]; exact Hs.out) (fun _ => by rw [He.out, Hp.out]; exact hgap)
          have Hn : Hid (¬ p + 1 < x → goodB l = false) := fun hgap => goodB_false hlt (fun h => hgap (by have := h.2 h0; rw [He.out, Hp.out] at this; exact this))
          go_wp2
          refine wp_region_qt (by kernel_rfl) (by kernel_rfl) ?_
          repeat (go_big_quiet_step (fail))
          refine wpQuiet_nil ?_
          intro wd qd
          go_wp2
          · have hx : x ≤ p + 1 := by assumption
            go_ret
            exact ⟨ret_bool (Hn.out (by omega)).symm, hq.trans qd⟩
          · have hx : p + 1 < x := by assumption
            go_roundw
            case rel => exact ⟨k + 1, by omega, by go_num, Hy.out hx, hq.trans qd⟩
            case measure => simp [intOf]; omega
        · have Hn : Hid (GoodTo l (k + 1)) := Hg.out.step hlt (by rw [He.out]; exact Hs.out) (fun h => absurd h h0)
          go_wp2
          refine wp_region_qt (by kernel_rfl) (by kernel_rfl) ?_
          repeat (go_big_quiet_step (fail))
          refine wpQuiet_nil ?_
          intro wd qd
          go_wp2
          go_roundw
          case rel => exact ⟨k + 1, by omega, by go_num, Hn.out, hq.trans qd⟩
          case measure => simp [intOf]; omega
      · have Hn : Hid (goodB l = false) := goodB_false hlt (fun h => hs (by have := h.1; rw [He.out] at this; exact this))
        by_cases hc : y < x
        · have t1 : decide (y < x) = true := by simp; omega
          clear hs
          go_wp2
          refine wp_region_qt (by kernel_rfl) (by kernel_rfl) ?_
          repeat (go_big_quiet_step (fail))
          refine wpQuiet_nil ?_
          intro wd qd
          go_wp2
          go_ret
          exact ⟨ret_bool Hn.out.symm, hq.trans qd⟩
        · have hm : 4611686018427387903 < y := by
            rcases Int.lt_or_le 4611686018427387903 y with h | h
            · exact h
            · exact absurd ⟨by omega, h⟩ hs
          have t1 : decide (y < x) = false := by simp; omega
          have t2 : decide (4611686018427387903 < y) = true := by simp; omega
          clear hs
          go_wp2
          refine wp_region_qt (by kernel_rfl) (by kernel_rfl) ?_
          repeat (go_big_quiet_step (fail))
          refine wpQuiet_nil ?_
          intro wd qd
          go_wp2
          go_ret
          exact ⟨ret_bool Hn.out.symm, hq.trans qd⟩
    · obtain rfl : k = l.length := by omega
      have Hn : Hid (goodB l = true) := goodB_true Hg.out.all
      go_wp2
      go_ret
      exact ⟨ret_bool Hn.out.symm, hq⟩

set_option maxHeartbeats 800000 in
theorem has_yes (A : Option Addr) (n c : Nat) (l : List Sp) (q : Int) (w : World) (h : Rd w 2 A n c (Ss l)) (hu : U2s l) (hg : Good l) (hq0 : 0 ≤ q) (hq1 : q < 18446744073709551616) :
    Calls Try.prog 79 #[.slice A n c, .int .u64 q] w fun e w' => e = .returned (.bool (hasP l q)) ∧ Below w.heap.size w w' := by
  have hl := h.len
  rw [Ss_length] at hl
  obtain rfl : l.length = n := by omega
  clear hl
  have hmax := h.cap
  have hmax' := h.max
  unfold maxLen at hmax'
  have Hgb := Lib.hid (goodB_true hg)
  clear hg
  go_enter Try.func79, Try.ntmps79
  go_wp2_with fail
  refine (good_any A l.length c l _ h hu).mono ?_
  rw [Hgb.out]
  rintro e w1 ⟨rfl, hb1⟩
  go_wp2
  go_loopw [12] (fun i wr => ∃ k : Nat, k ≤ l.length ∧ i = .int .i64 k ∧ Hid (NoneTo l q k) ∧ Below w.heap.size w wr) (fun i _ => l.length - (intOf i).toNat)
  case atStart => exact ⟨0, Nat.zero_le _, rfl, NoneTo.zero _ _, hb1⟩
  case round =>
    obtain ⟨k, hk, rfl, Hno, hb⟩ := hrel
    by_cases hlt : k < l.length
    · obtain ⟨b, off, x, y, rfl, He, hc1, hc2, u1, u2, u3, u4⟩ := (h.below hb).sp hu hlt
      by_cases k1 : x ≤ q
      · by_cases k2 : q ≤ y
        · have Hn : Hid (hasP l q = true) := hasP_yes hlt (by rw [He.out]; exact ⟨k1, k2⟩)
          have t1 : decide (x ≤ q) = true := by simpa using k1
          have t2 : decide (q ≤ y) = true := by simpa using k2
          go_wp2
          go_ret
          exact ⟨ret_bool Hn.out.symm, hb.alloc hb.size _⟩
        · have Hn : Hid (NoneTo l q (k + 1)) := Hno.out.step hlt (by rw [He.out]; simp only; omega)
          have t1 : decide (x ≤ q) = true := by simpa using k1
          have t2 : decide (q ≤ y) = false := by simpa using k2
          go_wp2
          go_roundw
          case rel => exact ⟨k + 1, by omega, by go_num, Hn, hb.alloc hb.size _⟩
          case measure => simp [intOf]; omega
      · have Hn : Hid (NoneTo l q (k + 1)) := Hno.out.step hlt (by rw [He.out]; simp only; omega)
        have t1 : decide (x ≤ q) = false := by simpa using k1
        go_wp2
        go_roundw
        case rel => exact ⟨k + 1, by omega, by go_num, Hn, hb.alloc hb.size _⟩
        case measure => simp [intOf]; omega
    · obtain rfl : k = l.length := by omega
      have Hn : Hid (hasP l q = false) := hasP_no Hno.out
      go_wp2
      go_ret
      exact ⟨ret_bool Hn.out.symm, hb⟩
theorem has_no (A : Option Addr) (n c : Nat) (l : List Sp) (q : Int) (w : World) (h : Rd w 2 A n c (Ss l)) (hu : U2s l) (hg : ¬ Good l) :
    Calls Try.prog 79 #[.slice A n c, .int .u64 q] w fun e w' => e = .returned (.bool false) ∧ Below w.heap.size w w' := by
  have Hgb := Lib.hid (show goodB l = false from decide_eq_false hg)
  clear hg
  go_enter Try.func79, Try.ntmps79
  go_wp2_with fail
  refine (good_any A n c l _ h hu).mono ?_
  rw [Hgb.out]
  rintro e w1 ⟨rfl, hb1⟩
  go_wp2
  go_ret
  exact ⟨rfl, hb1⟩
set_option maxHeartbeats 800000 in
theorem hasNum_any (A : Option Addr) (n c : Nat) (l : List Sp) (q : Int) (w : World) (h : Rd w 2 A n c (Ss l)) (hu : U2s l) (hq0 : 0 ≤ q) (hq1 : q < 18446744073709551616) :
    Calls Try.prog 51 #[.slice A n c, .int .u64 q] w fun e w' => e = .returned (.bool (hasP l q)) ∧ Qt w w' := by
  have hl := h.len
  rw [Ss_length] at hl
  obtain rfl : l.length = n := by omega
  clear hl
  have hmax := h.cap
  have hmax' := h.max
  unfold maxLen at hmax'
  go_enter Try.func51, Try.ntmps51
  go_wp2
  go_loopw [5] (fun i wr => ∃ k : Nat, k ≤ l.length ∧ i = .int .i64 k ∧ Hid (NoneTo l q k) ∧ Qt w wr) (fun i _ => l.length - (intOf i).toNat)
  case atStart => exact ⟨0, Nat.zero_le _, rfl, NoneTo.zero _ _, Qt.refl w⟩
  case round =>
    obtain ⟨k, hk, rfl, Hno, hb⟩ := hrel
    by_cases hlt : k < l.length
    · obtain ⟨b, off, x, y, rfl, He, hc1, hc2, u1, u2, u3, u4⟩ := (h.qt hb).sp hu hlt
      by_cases k1 : x ≤ q
      · by_cases k2 : q ≤ y
        · have Hn : Hid (hasP l q = true) := hasP_yes hlt (by rw [He.out]; exact ⟨k1, k2⟩)
          have t1 : decide (x ≤ q) = true := by simpa using k1
          have t2 : decide (q ≤ y) = true := by simpa using k2
          go_wp2
          go_ret
          exact ⟨ret_bool Hn.out.symm, hb⟩
        · have Hn : Hid (NoneTo l q (k + 1)) := Hno.out.step hlt (by rw [He.out]; simp only; omega)
          have t1 : decide (x ≤ q) = true := by simpa using k1
          have t2 : decide (q ≤ y) = false := by simpa using k2
          go_wp2
          go_roundw
          case rel => exact ⟨k + 1, by omega, by go_num, Hn, hb⟩
          case measure => simp [intOf]; omega
      · have Hn : Hid (NoneTo l q (k + 1)) := Hno.out.step hlt (by rw [He.out]; simp only; omega)
        have t1 : decide (x ≤ q) = false := by simpa using k1
        go_wp2
        go_roundw
        case rel => exact ⟨k + 1, by omega, by go_num, Hn, hb⟩
        case measure => simp [intOf]; omega
    · obtain rfl : k = l.length := by omega
      have Hn : Hid (hasP l q = false) := hasP_no Hno.out
      go_wp2
      go_ret
      exact ⟨ret_bool Hn.out.symm, hb⟩
end Go.Proofs.Yteigflkpopcjkaa
