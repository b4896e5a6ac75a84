/-
  Walks: Has, HasNum, From, FromNum, Last, LastSpans.
-/
import Derived.Test.YtnfgmklkfbcjkaaSpanCut
import Derived.StillTailTactics
namespace Go.Proofs.Ytnfgmklkfbcjkaa
set_option linter.unusedSimpArgs false
set_option linter.unusedVariables false
set_option linter.unnecessarySimpa false
open Go.RowKit
attribute [local go_sem ↓] run_min_int run_max_int

set_option maxHeartbeats 800000 in
theorem has_yes (A : Option Addr) (n c : Nat) (l : List Sp) (q : Int) (w : World) (h : Rd w 2 A n c (Ss l)) (hu : U2s l) (hg : Good l) (hq0 : 0 ≤ q) (hq1 : q < 18446744073709551616) :
    Calls Try.prog 31 #[.slice A n c, .int .u64 q] w fun e w' => e = .returned (.bool (hasP l q)) ∧ Below w.heap.size w w' := by
  have hl := h.len
  rw [Ss_length] at hl
  obtain rfl : l.length = n := by omega
  clear hl
  have hmax := h.cap
  have hmax' := h.max
  unfold maxLen at hmax'
  have Hgb := Lib.hid (goodB_true hg)
  clear hg
  go_enter Try.func31, Try.ntmps31
  go_wp2_with fail
  refine (good_any A l.length c l _ h hu).mono ?_
  rw [Hgb.out]
  rintro e w1 ⟨rfl, hb1⟩
  go_wp2
  go_loopw [12] (fun i wr => ∃ k : Nat, k ≤ l.length ∧ i = .int .i64 k ∧ Hid (NoneTo l q k) ∧ Below w.heap.size w wr) (fun i _ => l.length - (intOf i).toNat)
  case atStart => exact ⟨0, Nat.zero_le _, rfl, NoneTo.zero _ _, hb1⟩
  case round =>
    obtain ⟨k, hk, rfl, Hno, hb⟩ := hrel
    by_cases hlt : k < l.length
    · obtain ⟨b, off, x, y, rfl, He, hc1, hc2, u1, u2, u3, u4⟩ := (h.below hb).sp hu hlt
      by_cases k1 : x ≤ q
      · by_cases k2 : q ≤ y
        · have Hn : Hid (hasP l q = true) := hasP_yes hlt (by rw [He.out]; exact ⟨k1, k2⟩)
          have t1 : decide (x ≤ q) = true := by simpa using k1
          have t2 : decide (q ≤ y) = true := by simpa using k2
          go_wp2
          go_ret
          exact ⟨ret_bool Hn.out.symm, hb.alloc hb.size _⟩
        · have Hn : Hid (NoneTo l q (k + 1)) := Hno.out.step hlt (by rw [He.out]; simp only; omega)
          have t1 : decide (x ≤ q) = true := by simpa using k1
          have t2 : decide (q ≤ y) = false := by simpa using k2
          go_wp2
          go_roundw
          case rel => exact ⟨k + 1, by omega, by go_num, Hn, hb.alloc hb.size _⟩
          case measure => simp [intOf]; omega
      · have Hn : Hid (NoneTo l q (k + 1)) := Hno.out.step hlt (by rw [He.out]; simp only; omega)
        have t1 : decide (x ≤ q) = false := by simpa using k1
        go_wp2
        go_roundw
        case rel => exact ⟨k + 1, by omega, by go_num, Hn, hb.alloc hb.size _⟩
        case measure => simp [intOf]; omega
    · obtain rfl : k = l.length := by omega
      have Hn : Hid (hasP l q = false) := hasP_no Hno.out
      go_wp2
      go_ret
      exact ⟨ret_bool Hn.out.symm, hb⟩

theorem has_no (A : Option Addr) (n c : Nat) (l : List Sp) (q : Int) (w : World) (h : Rd w 2 A n c (Ss l)) (hu : U2s l) (hg : ¬ Good l) :
    Calls Try.prog 31 #[.slice A n c, .int .u64 q] w fun e w' => e = .returned (.bool false) ∧ Below w.heap.size w w' := by
  have Hgb := Lib.hid (show goodB l = false from decide_eq_false hg)
  clear hg
  go_enter Try.func31, Try.ntmps31
  go_wp2_with fail
  refine (good_any A n c l _ h hu).mono ?_
  rw [Hgb.out]
  rintro e w1 ⟨rfl, hb1⟩
  go_wp2
  go_ret
  exact ⟨rfl, hb1⟩

set_option maxHeartbeats 800000 in
theorem hasNum_any (A : Option Addr) (n c : Nat) (l : List Sp) (q : Int) (w : World) (h : Rd w 2 A n c (Ss l)) (hu : U2s l) (hq0 : 0 ≤ q) (hq1 : q < 18446744073709551616) :
    Calls Try.prog 35 #[.slice A n c, .int .u64 q] w fun e w' => e = .returned (.bool (hasP l q)) ∧ Qt w w' := by
  have hl := h.len
  rw [Ss_length] at hl
  obtain rfl : l.length = n := by omega
  clear hl
  have hmax := h.cap
  have hmax' := h.max
  unfold maxLen at hmax'
  go_enter Try.func35, Try.ntmps35
  go_wp2
  go_loopw [5] (fun i wr => ∃ k : Nat, k ≤ l.length ∧ i = .int .i64 k ∧ Hid (NoneTo l q k) ∧ Qt w wr) (fun i _ => l.length - (intOf i).toNat)
  case atStart => exact ⟨0, Nat.zero_le _, rfl, NoneTo.zero _ _, Qt.refl w⟩
  case round =>
    obtain ⟨k, hk, rfl, Hno, hb⟩ := hrel
    by_cases hlt : k < l.length
    · obtain ⟨b, off, x, y, rfl, He, hc1, hc2, u1, u2, u3, u4⟩ := (h.qt hb).sp hu hlt
      by_cases k1 : x ≤ q
      · by_cases k2 : q ≤ y
        · have Hn : Hid (hasP l q = true) := hasP_yes hlt (by rw [He.out]; exact ⟨k1, k2⟩)
          have t1 : decide (x ≤ q) = true := by simpa using k1
          have t2 : decide (q ≤ y) = true := by simpa using k2
          go_wp2
          go_ret
          exact ⟨ret_bool Hn.out.symm, hb⟩
        · have Hn : Hid (NoneTo l q (k + 1)) := Hno.out.step hlt (by rw [He.out]; simp only; omega)
          have t1 : decide (x ≤ q) = true := by simpa using k1
          have t2 : decide (q ≤ y) = false := by simpa using k2
          go_wp2
          go_roundw
          case rel => exact ⟨k + 1, by omega, by go_num, Hn, hb⟩
          case measure => simp [intOf]; omega
      · have Hn : Hid (NoneTo l q (k + 1)) := Hno.out.step hlt (by rw [He.out]; simp only; omega)
        have t1 : decide (x ≤ q) = false := by simpa using k1
        go_wp2
        go_roundw
        case rel => exact ⟨k + 1, by omega, by go_num, Hn, hb⟩
        case measure => simp [intOf]; omega
    · obtain rfl : k = l.length := by omega
      have Hn : Hid (hasP l q = false) := hasP_no Hno.out
      go_wp2
      go_ret
      exact ⟨ret_bool Hn.out.symm, hb⟩

set_option maxHeartbeats 1600000 in
theorem from_yes (A : Option Addr) (n c : Nat) (l : List Sp) (q : Int) (w : World) (h : Rd w 2 A n c (Ss l)) (hu : U2s l) (hg : Good l) (hq0 : 0 ≤ q) (hq1 : q < 18446744073709551616) (hn : n ≤ 8796093021952) :
    Calls Try.prog 34 #[.slice A n c, .int .u64 q] w fun e w' => ∃ A' c', e = .returned (.slice A' (fromP l q).length c') ∧ Rd w' 2 A' (fromP l q).length c' (Ss (fromP l q)) ∧ Below w.heap.size w w' := by
  obtain ⟨i0, hi0, hz0, hz1, hz2⟩ := info_parts infoSpan
  have hl := h.len
  rw [Ss_length] at hl
  obtain rfl : l.length = n := by omega
  clear hl
  have hmax := h.cap
  have hmax' := h.max
  unfold maxLen at hmax'
  have Hgb := Lib.hid (goodB_true hg)
  clear hg
  go_enter Try.func34, Try.ntmps34
  go_wp2_with fail
  refine (good_any A l.length c l _ h hu).mono ?_
  rw [Hgb.out]
  rintro e w1 ⟨rfl, hb1⟩
  go_wp2
  go_loopw [5, 13] (fun out i wr => ∃ k m : Nat, k ≤ l.length ∧ i = .int .i64 k ∧ wr.ownsRow w.heap.size 43 2 out m (Ss (fromP (l.take k) q)) ∧ Below w.heap.size w wr) (fun _ i _ => l.length - (intOf i).toNat)
  case atStart => exact ⟨0, 0, Nat.zero_le _, rfl, World.ownsRow_nil _ _ _ _, hb1⟩
  case round =>
    obtain ⟨k, m, hk, rfl, hown, hb⟩ := hrel
    have hmk : m ≤ k := by
      have e1 := hown.1
      rw [Ss_length] at e1
      have e2 := fromP_len (l.take k) q
      simp only [List.length_take] at e2
      omega
    by_cases hlt : k < l.length
    · obtain ⟨b, off, x, y, rfl, He, hc1, hc2, u1, u2, u3, u4⟩ := (h.below hb).sp hu hlt
      have Hsp : Hid (fromP (l.take (k + 1)) q = fromP (l.take k) q ++ from1 q (x, y)) := by show _ = _; unfold fromP; rw [flatMap_take_succ _ _ _ hlt, He.out]
      have hgs := hb.size
      by_cases k1 : q ≤ y
      · have Hn : Hid (Ss (fromP (l.take (k + 1)) q) = Ss (fromP (l.take k) q) ++ [.int .u64 (max x q), .int .u64 y]) := by
          show _ = _
          rw [Hsp.out, Ss_append, from1_yes k1]
          rfl
        clear Hsp
        have t1 : decide (q ≤ y) = true := by simpa using k1
        have hown0 := hown.alloc (.cells #[.int .u64 x, .int .u64 y] 43)
        have hb0 := hb.alloc hb.size (.cells #[.int .u64 x, .int .u64 y] 43)
        go_wp2_with (
          at_builtin
          refine wpList_app1 _ rfl (.tmp 21) (.tmp 29) 39 rfl (w.heap.size) 43 i0 (.agg #[.int .u64 0, .int .u64 0]) 2 16 Try.underlying39 hi0 hz0 hz1 hz2 rfl (by decide) u5 (m) (Ss (fromP (l.take k) q)) rfl hown0 #[.int .u64 (max x q), .int .u64 y] _ rfl (by simp) rfl (by simp [Value.oneCell']) (by unfold maxLen; omega) (by omega) (by have := hgs; simp; omega) ?_
          intro v1 w1 ho1 hg1 hk1
          have hb1 : Below w.heap.size w w1 := hb0.grown hg1 (by have := hb0.size; simp at this ⊢; omega) (fun g hg => (hown0.lt g hg).1))
        go_roundw
        case rel => exact ⟨k + 1, m + 1, by omega, by go_num, by rw [Hn.out]; exact ho1, hb1⟩
        case measure => simp [intOf]; omega
      · have Hn : Hid (fromP (l.take (k + 1)) q = fromP (l.take k) q) := by
          show _ = _
          rw [Hsp.out, from1_no k1, List.append_nil]
        clear Hsp
        have t1 : decide (q ≤ y) = false := by simpa using k1
        go_wp2
        go_roundw
        case rel => exact ⟨k + 1, m, by omega, by go_num, by rw [Hn.out]; exact hown.alloc _, hb.alloc hb.size _⟩
        case measure => simp [intOf]; omega
    · obtain rfl : k = l.length := by omega
      rw [List.take_length] at hown
      go_wp2
      go_ret
      have hm : m = (fromP l q).length := by have e1 := hown.1; rw [Ss_length] at e1; omega
      subst hm
      obtain ⟨A5, c5, e5, _⟩ := own_slice hown
      subst e5
      exact ⟨A5, c5, rfl, Rd.of_own hown, hb⟩

theorem from_no (A : Option Addr) (n c : Nat) (l : List Sp) (q : Int) (w : World) (h : Rd w 2 A n c (Ss l)) (hu : U2s l) (hg : ¬ Good l) :
    Calls Try.prog 34 #[.slice A n c, .int .u64 q] w fun e w' => e = .returned (.slice none 0 0) ∧ Below w.heap.size w w' := by
  have Hgb := Lib.hid (show goodB l = false from decide_eq_false hg)
  clear hg
  go_enter Try.func34, Try.ntmps34
  go_wp2_with fail
  refine (good_any A n c l _ h hu).mono ?_
  rw [Hgb.out]
  rintro e w1 ⟨rfl, hb1⟩
  go_wp2
  go_ret
  exact ⟨rfl, hb1⟩

set_option maxHeartbeats 1600000 in
theorem fromNum_any (A : Option Addr) (n c : Nat) (l : List Sp) (q : Int) (w : World) (h : Rd w 2 A n c (Ss l)) (hu : U2s l) (hq0 : 0 ≤ q) (hq1 : q < 18446744073709551616) (hn : n ≤ 8796093021952) :
    Calls Try.prog 38 #[.slice A n c, .int .u64 q] w fun e w' => ∃ A' c', e = .returned (.slice A' (fromP l q).length c') ∧ Rd w' 2 A' (fromP l q).length c' (Ss (fromP l q)) ∧ Below w.heap.size w w' := by
  obtain ⟨i0, hi0, hz0, hz1, hz2⟩ := info_parts infoSpan
  have hl := h.len
  rw [Ss_length] at hl
  obtain rfl : l.length = n := by omega
  clear hl
  have hmax := h.cap
  have hmax' := h.max
  unfold maxLen at hmax'
  go_enter Try.func38, Try.ntmps38
  go_wp2
  go_loopw [5, 6] (fun out i wr => ∃ k m : Nat, k ≤ l.length ∧ i = .int .i64 k ∧ wr.ownsRow w.heap.size 43 2 out m (Ss (fromP (l.take k) q)) ∧ Below w.heap.size w wr) (fun _ i _ => l.length - (intOf i).toNat)
  case atStart => exact ⟨0, 0, Nat.zero_le _, rfl, World.ownsRow_nil _ _ _ _, Below.refl _ _⟩
  case round =>
    obtain ⟨k, m, hk, rfl, hown, hb⟩ := hrel
    have hmk : m ≤ k := by
      have e1 := hown.1
      rw [Ss_length] at e1
      have e2 := fromP_len (l.take k) q
      simp only [List.length_take] at e2
      omega
    by_cases hlt : k < l.length
    · obtain ⟨b, off, x, y, rfl, He, hc1, hc2, u1, u2, u3, u4⟩ := (h.below hb).sp hu hlt
      have Hsp : Hid (fromP (l.take (k + 1)) q = fromP (l.take k) q ++ from1 q (x, y)) := by show _ = _; unfold fromP; rw [flatMap_take_succ _ _ _ hlt, He.out]
      by_cases k1 : q ≤ y
      · have Hn : Hid (Ss (fromP (l.take (k + 1)) q) = Ss (fromP (l.take k) q) ++ [.int .u64 (max x q), .int .u64 y]) := by
          show _ = _
          rw [Hsp.out, Ss_append, from1_yes k1]
          rfl
        clear Hsp
        have t1 : decide (q ≤ y) = true := by simpa using k1
        go_wp2
        have i5 : (0 : Int) ≤ (k : Int) := by omega
        have i6 : (k : Int) < (l.length : Int) := by omega
        have hbs := hb.size
        have hblt : b < w.heap.size := h.lt (by omega) (by omega) b off rfl
        go_region_held3 (fun W => W.cell? ⟨b, off + k * 2, none⟩ = some (.int .u64 x) ∧ W.cell? ⟨b, off + k * 2 + 1, none⟩ = some (.int .u64 y))
          (first
            | go_keep
            | (go_split_ands
               refine ⟨?_, ?_⟩ <;> (refine (hg1.cell (by assumption) ?_) <;> (intro e; have := (hown.lt _ e.symm).1; exact absurd this (by simp; omega)))))
          ((refine step_append_rd _ (by rfl) (.tmp 20) (.tmp 34) 39 (by rfl) w.heap.size 43 i0 _ 2 16 Try.underlying39 hi0 hz0 hz1 hz2 rfl (by omega) u5 m (Ss (fromP (l.take k) q)) (by rfl) ((hown.alloc _).drew)
              _ 1 1 [.int .u64 (max x q), .int .u64 y] (by rfl) ((Rd.lit wr 2 #[.int .u64 (max x q), .int .u64 y] 43 1 _ rfl (by simp) (by unfold maxLen; omega)).drew) (by simp [Value.oneCell'])
              (by unfold maxLen; omega) (by omega) (by simp; omega) ?_; intro v1 w1 ho1 hg1 _))
        have hb1 : Below w.heap.size w w1 := ((hb.alloc hb.size _).drew).grown hg1 (by simp; omega) (fun g hg => (hown.lt g hg).1)
        clear i5 i6
        go_wp2
        go_roundw
        case rel => exact ⟨k + 1, m + 1, by omega, by go_num, by rw [Hn.out]; exact ho1, hb1⟩
        case measure => simp [intOf]; omega
      · have Hn : Hid (fromP (l.take (k + 1)) q = fromP (l.take k) q) := by
          show _ = _
          rw [Hsp.out, from1_no k1, List.append_nil]
        clear Hsp
        have t1 : decide (q ≤ y) = false := by simpa using k1
        go_wp2
        go_roundw
        case rel => exact ⟨k + 1, m, by omega, by go_num, by rw [Hn.out]; exact hown, hb⟩
        case measure => simp [intOf]; omega
    · obtain rfl : k = l.length := by omega
      rw [List.take_length] at hown
      go_wp2
      go_ret
      have hm : m = (fromP l q).length := by have e1 := hown.1; rw [Ss_length] at e1; omega
      subst hm
      obtain ⟨A5, c5, e5, _⟩ := own_slice hown
      subst e5
      exact ⟨A5, c5, rfl, Rd.of_own hown, hb⟩
end Go.Proofs.Ytnfgmklkfbcjkaa
