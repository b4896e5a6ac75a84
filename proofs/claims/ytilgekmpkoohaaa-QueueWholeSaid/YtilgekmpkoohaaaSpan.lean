/-
  Walks of package span.
-/
import Derived.Test.YtilgekmpkoohaaaSpanP
import Derived.Deep.QuietTactic
import Derived.BigQuiet
import Derived.Deep.RegionHeld3
import Derived.Deep.RegionWith
namespace Go.Proofs.Ytilgekmpkoohaaa
set_option linter.unusedSimpArgs false
set_option linter.unusedVariables false
set_option linter.unnecessarySimpa false
open Go.RowKit

set_option maxHeartbeats 800000 in
theorem right_any (s : Sp) (w : World) (hs : U2 s) :
    Calls Try.prog 39 #[sv s] w fun e w' => e = .returned (.bool (isSpanB s)) ∧ Below w.heap.size w w' := by
  obtain ⟨lo, hi⟩ := s
  obtain ⟨⟨h1, h2⟩, ⟨h3, h4⟩⟩ := hs
  unfold sv
  simp only at h1 h2 h3 h4 ⊢
  by_cases hle : lo ≤ hi
  · by_cases hm : hi ≤ 4611686018427387903
    · have HB := Lib.hid (show isSpanB (lo, hi) = true from decide_eq_true ⟨hle, hm⟩)
      go_enter Try.func39, Try.ntmps39
      go_wp2
      go_ret
      exact ⟨ret_bool (by rw [HB.out]), (Below.refl _ _).alloc (Nat.le_refl _) _⟩
    · have HB := Lib.hid (show isSpanB (lo, hi) = false from decide_eq_false (fun h => hm h.2))
      go_enter Try.func39, Try.ntmps39
      go_wp2
      go_ret
      exact ⟨ret_bool (by rw [HB.out]), (Below.refl _ _).alloc (Nat.le_refl _) _⟩
  · have HB := Lib.hid (show isSpanB (lo, hi) = false from decide_eq_false (fun h => hle h.1))
    go_enter Try.func39, Try.ntmps39
    go_wp2
    go_ret
    exact ⟨ret_bool (by rw [HB.out]), (Below.refl _ _).alloc (Nat.le_refl _) _⟩

/-- 'right', both answers. -/
theorem right_yes (x y : Int) (w : World) (h1 : 0 ≤ x) (h2 : x < 18446744073709551616) (h3 : 0 ≤ y) (h4 : y < 18446744073709551616) (h : IsSpan (x, y)) :
    Calls Try.prog 39 #[.agg #[.int .u64 x, .int .u64 y]] w fun e w' => e = .returned (.bool true) ∧ Below w.heap.size w w' := by
  have := right_any (x, y) w ⟨⟨h1, h2⟩, ⟨h3, h4⟩⟩
  rwa [show isSpanB (x, y) = true from decide_eq_true h] at this
theorem right_no (x y : Int) (w : World) (h1 : 0 ≤ x) (h2 : x < 18446744073709551616) (h3 : 0 ≤ y) (h4 : y < 18446744073709551616) (h : ¬ IsSpan (x, y)) :
    Calls Try.prog 39 #[.agg #[.int .u64 x, .int .u64 y]] w fun e w' => e = .returned (.bool false) ∧ Below w.heap.size w w' := by
  have := right_any (x, y) w ⟨⟨h1, h2⟩, ⟨h3, h4⟩⟩
  rwa [show isSpanB (x, y) = false from decide_eq_false h] at this

set_option maxHeartbeats 1600000 in
theorem good_any (A : Option Addr) (n c : Nat) (l : List Sp) (w : World) (h : Rd w 2 A n c (Ss l)) (hu : U2s l) :
    Calls Try.prog 38 #[.slice A n c] w fun e w' => e = .returned (.bool (goodB l)) ∧ Below w.heap.size w w' := by
  have hl := h.len
  rw [Ss_length] at hl
  obtain rfl : l.length = n := by omega
  clear hl
  have hmax := h.cap
  have hmax' := h.max
  unfold maxLen at hmax'
  go_enter Try.func38, Try.ntmps38
  go_wp2
  go_loopw [7] (fun i wr => ∃ k : Nat, k ≤ l.length ∧ i = .int .i64 k ∧ GoodTo l k ∧ Below w.heap.size w wr) (fun i _ => l.length - (intOf i).toNat)
  case atStart => exact ⟨0, Nat.zero_le _, rfl, GoodTo.zero l, Below.refl _ _⟩
  case round =>
    obtain ⟨k, hk, rfl, hg, hb⟩ := hrel
    have Hg := Lib.hid hg
    clear hg
    by_cases hlt : k < l.length
    · obtain ⟨b, off, x, y, rfl, He, hc1, hc2, u1, u2, u3, u4⟩ := (h.below hb).sp hu hlt
      by_cases hs : IsSpan (x, y)
      · obtain ⟨hs1, hs2⟩ := hs
        have Hs : Hid (IsSpan (x, y)) := ⟨hs1, hs2⟩
        simp only [maxPn_eq] at hs1 hs2
        by_cases h0 : 0 < k
        · have hk1 : k - 1 < l.length := by omega
          obtain ⟨z, p, Hp, _, hp, _, _, p1, p2⟩ := (h.below hb).spat hu hk1
          have hpm : p ≤ 4611686018427387903 := by
            have := ((Hg.out (k - 1) hk1 (by omega)).1).2
            rw [Hp.out] at this
            exact this
          have Hy : Hid (p + 1 < x → GoodTo l (k + 1)) := fun hgap => Hg.out.step hlt (by rw [He.out]; exact Hs.out) (fun _ => by rw [He.out, Hp.out]; exact hgap)
          have Hn : Hid (¬ p + 1 < x → goodB l = false) := fun hgap => goodB_false hlt (fun h => hgap (by have := h.2 h0; rw [He.out, Hp.out] at this; exact this))
          go_wp2
          have hb1 : Below w.heap.size w (wr.alloc (.cells #[.int .u64 x, .int .u64 y] 36)) := hb.alloc hb.size _
          have c1 := mixc (cell_of_row _ wr.heap.size 0 _ _ _ (heap_alloc_new wr (.cells #[.int .u64 x, .int .u64 y] 36)))
          have c2 := mixc (cell_of_row _ wr.heap.size 1 _ _ _ (heap_alloc_new wr (.cells #[.int .u64 x, .int .u64 y] 36)))
          have c3 := mixc ((World.cell?_alloc_lt wr (.cells #[.int .u64 x, .int .u64 y] 36) _ (block_lt_of_cell hp)).trans hp)
          generalize wr.alloc (.cells #[.int .u64 x, .int .u64 y] 36) = w1 at *
          refine wp_region_below (by kernel_rfl) (by kernel_rfl) ?_
          repeat (first | go_big_quiet_step ((go_at_call 39; exact Calls.mix_of (right_yes x y _ u1 u2 u3 u4 Hs.out))) | quiet_step ((go_at_call 39; exact Calls.mix_of (right_yes x y _ u1 u2 u3 u4 Hs.out))))
          refine wpQuiet_nil ?_
          intro w2 hb2
          have hb3 : Below w.heap.size w w2 := hb1.trans (hb2.mono hb1.size)
          clear hb2 c1 c2 c3
          go_wp2
          · have hx : x ≤ p + 1 := by assumption
            go_ret
            exact ⟨ret_bool (Hn.out (by omega)).symm, hb3⟩
          · have hx : p + 1 < x := by assumption
            go_roundw
            case rel => exact ⟨k + 1, by omega, by go_num, Hy.out hx, hb3⟩
            case measure => simp [intOf]; omega
        · have Hn : Hid (GoodTo l (k + 1)) := Hg.out.step hlt (by rw [He.out]; exact Hs.out) (fun h => absurd h h0)
          go_wp2
          have hb1 : Below w.heap.size w (wr.alloc (.cells #[.int .u64 x, .int .u64 y] 36)) := hb.alloc hb.size _
          have c1 := mixc (cell_of_row _ wr.heap.size 0 _ _ _ (heap_alloc_new wr (.cells #[.int .u64 x, .int .u64 y] 36)))
          have c2 := mixc (cell_of_row _ wr.heap.size 1 _ _ _ (heap_alloc_new wr (.cells #[.int .u64 x, .int .u64 y] 36)))
          generalize wr.alloc (.cells #[.int .u64 x, .int .u64 y] 36) = w1 at *
          refine wp_region_below (by kernel_rfl) (by kernel_rfl) ?_
          repeat (first | go_big_quiet_step ((go_at_call 39; exact Calls.mix_of (right_yes x y _ u1 u2 u3 u4 Hs.out))) | quiet_step ((go_at_call 39; exact Calls.mix_of (right_yes x y _ u1 u2 u3 u4 Hs.out))))
          refine wpQuiet_nil ?_
          intro w2 hb2
          have hb3 : Below w.heap.size w w2 := hb1.trans (hb2.mono hb1.size)
          clear hb2 c1 c2
          go_wp2
          go_roundw
          case rel => exact ⟨k + 1, by omega, by go_num, Hn.out, hb3⟩
          case measure => simp [intOf]; omega
      · have Hn : Hid (goodB l = false) := goodB_false hlt (fun h => hs (by have := h.1; rw [He.out] at this; exact this))
        have Hs := Lib.hid hs
        clear hs
        go_wp2
        have hb1 : Below w.heap.size w (wr.alloc (.cells #[.int .u64 x, .int .u64 y] 36)) := hb.alloc hb.size _
        have c1 := mixc (cell_of_row _ wr.heap.size 0 _ _ _ (heap_alloc_new wr (.cells #[.int .u64 x, .int .u64 y] 36)))
        have c2 := mixc (cell_of_row _ wr.heap.size 1 _ _ _ (heap_alloc_new wr (.cells #[.int .u64 x, .int .u64 y] 36)))
        generalize wr.alloc (.cells #[.int .u64 x, .int .u64 y] 36) = w1 at *
        refine wp_region_below (by kernel_rfl) (by kernel_rfl) ?_
        repeat (first | go_big_quiet_step ((go_at_call 39; exact Calls.mix_of (right_no x y _ u1 u2 u3 u4 Hs.out))) | quiet_step ((go_at_call 39; exact Calls.mix_of (right_no x y _ u1 u2 u3 u4 Hs.out))))
        refine wpQuiet_nil ?_
        intro w2 hb2
        have hb3 : Below w.heap.size w w2 := hb1.trans (hb2.mono hb1.size)
        clear hb2 c1 c2
        go_wp2
        go_ret
        exact ⟨ret_bool Hn.out.symm, hb3⟩
    · obtain rfl : k = l.length := by omega
      have Hn : Hid (goodB l = true) := goodB_true Hg.out.all
      go_wp2
      go_ret
      exact ⟨ret_bool Hn.out.symm, hb⟩
end Go.Proofs.Ytilgekmpkoohaaa
