/-
  Walks of span.Cut and of the reference's CutSpan.
-/
import Derived.Test.YtnfgmklkfbcjkaaSpanA
import Derived.Test.YtnfgmklkfbcjkaaSpanL
namespace Go.Proofs.Ytnfgmklkfbcjkaa
set_option linter.unusedSimpArgs false
set_option linter.unusedVariables false
set_option linter.unnecessarySimpa false
open Go.RowKit

set_option maxHeartbeats 3200000 in
theorem cutSpan_any (A : Option Addr) (n c : Nat) (l : List Sp) (lo hi : Int) (w : World) (h : Rd w 2 A n c (Ss l)) (hg : Good l) (hs : IsSpan (lo, hi)) (h0 : 0 ≤ lo) (hu : U2s l) (hn : n ≤ 8796093021952) :
    Calls Try.prog 28 #[.slice A n c, .agg #[.int .u64 lo, .int .u64 hi]] w fun e w' => ∃ A' c', e = .returned (.slice A' (cutP l (lo, hi)).length c') ∧ Rd w' 2 A' (cutP l (lo, hi)).length c' (Ss (cutP l (lo, hi))) ∧ Below w.heap.size w w' := by
  obtain ⟨i0, hi0, hz0, hz1, hz2⟩ := info_parts infoSpan
  have hl := h.len
  rw [Ss_length] at hl
  obtain rfl : l.length = n := by omega
  clear hl
  have hmax := h.cap
  have hmax' := h.max
  unfold maxLen at hmax'
  obtain ⟨s1, s2⟩ := hs
  simp only [maxPn_eq] at s1 s2
  have Hg := Lib.hid hg
  have Hpw := Lib.hid hg.gd.2
  clear hg
  go_enter Try.func28, Try.ntmps28
  go_wp2
  go_loopw [5, 6] (fun out i wr => ∃ k : Nat, k ≤ l.length ∧ i = .int .i64 k ∧ ∃ m : Nat, wr.ownsRow (w.heap.size + 1) 43 2 out m (Ss ((l.take k).flatMap (cut1 (lo, hi)))) ∧
      Hid (wr.heap[w.heap.size]? = some (.cells #[.int .u64 lo, .int .u64 hi] 43 (0, 0))) ∧ Below w.heap.size w wr) (fun _ i _ => l.length - (intOf i).toNat)
  case atStart => exact ⟨0, Nat.zero_le _, rfl, 0, World.ownsRow_nil _ _ _ _, heap_alloc_new w _, (Below.refl _ _).alloc (Nat.le_refl _) _⟩
  case round =>
    obtain ⟨k, hk, rfl, m, hown, HB, hb⟩ := hrel
    by_cases hlt : k < l.length
    · obtain ⟨b, off, x, y, rfl, He, hc1, hc2, u1, u2, u3, u4⟩ := (h.below hb).sp hu hlt
      have hym : y ≤ 4611686018427387903 := by have := (Hg.out k hlt).1.2; rw [He.out] at this; exact this
      have hxy : x ≤ y := by have := (Hg.out k hlt).1.1; rw [He.out] at this; exact this
      have hb0 := hb.alloc hb.size (.cells #[.int .u64 x, .int .u64 y] 43)
      have HS0 := Lib.hid ((Below.heap_alloc wr (.cells #[.int .u64 x, .int .u64 y] 43) _ (lt_of_block HB.out)).trans HB.out)
      have HX0 := Lib.hid (heap_alloc_new wr (.cells #[.int .u64 x, .int .u64 y] 43))
      have hown0 := hown.alloc (.cells #[.int .u64 x, .int .u64 y] 43)
      have hne0 : u5.ownBlock ≠ some wr.heap.size := fun e => by have := (hown.lt _ e).2; omega
      have hgs := lt_of_block HB.out
      have hmk : m ≤ k + 1 := by
        have e1 := hown.1
        rw [Ss_length] at e1
        have e2 := cut_len (l.take k) (lo, hi) s1 (fun z hz => (Hg.out.span z (List.mem_of_mem_take hz)).1) (Hpw.out.sublist (List.take_sublist _ _))
        simp only [cutP, List.length_take] at e2
        omega
      have xs0 := cell_of_row wr w.heap.size 0 _ _ _ HB.out
      have ys0 := cell_of_row wr w.heap.size 1 _ _ _ HB.out
      have Hsp : Hid ((l.take (k + 1)).flatMap (cut1 (lo, hi)) = ((l.take k).flatMap (cut1 (lo, hi))) ++ cut1 (lo, hi) (x, y)) := by show _ = _; rw [flatMap_take_succ _ _ _ hlt, He.out]
      by_cases k1 : y < lo
      · have t1 : decide (y < lo) = true := by simpa using k1
        have Hn : Hid (Ss ((l.take (k + 1)).flatMap (cut1 (lo, hi))) = Ss ((l.take k).flatMap (cut1 (lo, hi))) ++ [.int .u64 x, .int .u64 y]) := by
          show _ = _
          rw [Hsp.out, Ss_append, show cut1 (lo, hi) (x, y) = [(x, y)] from by unfold cut1; rw [if_pos (by simp only; omega)]]
          rfl
        clear Hsp
        go_wp2_with (
          at_builtin
          refine wpList_app1 _ rfl (.tmp 30) (.tmp 32) 39 rfl (w.heap.size + 1) 43 i0 (.agg #[.int .u64 0, .int .u64 0]) 2 16 Try.underlying39 hi0 hz0 hz1 hz2 rfl (by decide) u5 (m) (Ss ((l.take k).flatMap (cut1 (lo, hi)))) rfl hown0 #[.int .u64 x, .int .u64 y] _ rfl (by simp) rfl (by simp [Value.oneCell']) (by unfold maxLen; omega) (by omega) (by have := hgs; simp; omega) ?_
          intro v1 w1 ho1 hg1 hk1
          have hne := hne0
          have hb1 : Below w.heap.size w w1 := hb0.grown hg1 (by have := hb0.size; simp at this ⊢; omega) (fun g hg => by have := (hown0.lt g hg).1; omega)
          have HS1 := Lib.hid ((hg1.block w.heap.size (lt_of_block HS0.out) (fun e => by have := (hown0.lt _ e.symm).1; omega)).trans HS0.out)
          have HX1 := Lib.hid ((hg1.block wr.heap.size (lt_of_block HX0.out) (fun e => hne e.symm)).trans HX0.out)
          have xs1 := cell_of_row w1 w.heap.size 0 _ _ _ HS1.out
          have ys1 := cell_of_row w1 w.heap.size 1 _ _ _ HS1.out
          have xx1 := cell_of_row w1 wr.heap.size 0 _ _ _ HX1.out
          have yx1 := cell_of_row w1 wr.heap.size 1 _ _ _ HX1.out
          have hgs := lt_of_block HS1.out
          )
        go_roundw
        case rel => exact ⟨k + 1, by omega, by go_num, m + 1, by rw [Hn.out]; exact ho1, HS1, hb1⟩
        case measure => simp [intOf]; omega
      · by_cases k2 : hi < x
        · have t1 : decide (y < lo) = false := by simpa using k1
          have t2 : decide (hi < x) = true := by simpa using k2
          have Hn : Hid (Ss ((l.take (k + 1)).flatMap (cut1 (lo, hi))) = Ss ((l.take k).flatMap (cut1 (lo, hi))) ++ [.int .u64 x, .int .u64 y]) := by
            show _ = _
            rw [Hsp.out, Ss_append, show cut1 (lo, hi) (x, y) = [(x, y)] from by unfold cut1; rw [if_pos (by simp only; omega)]]
            rfl
          clear Hsp
          go_wp2_with (
            at_builtin
            refine wpList_app1 _ rfl (.tmp 30) (.tmp 32) 39 rfl (w.heap.size + 1) 43 i0 (.agg #[.int .u64 0, .int .u64 0]) 2 16 Try.underlying39 hi0 hz0 hz1 hz2 rfl (by decide) u5 (m) (Ss ((l.take k).flatMap (cut1 (lo, hi)))) rfl hown0 #[.int .u64 x, .int .u64 y] _ rfl (by simp) rfl (by simp [Value.oneCell']) (by unfold maxLen; omega) (by omega) (by have := hgs; simp; omega) ?_
            intro v1 w1 ho1 hg1 hk1
            have hne := hne0
            have hb1 : Below w.heap.size w w1 := hb0.grown hg1 (by have := hb0.size; simp at this ⊢; omega) (fun g hg => by have := (hown0.lt g hg).1; omega)
            have HS1 := Lib.hid ((hg1.block w.heap.size (lt_of_block HS0.out) (fun e => by have := (hown0.lt _ e.symm).1; omega)).trans HS0.out)
            have HX1 := Lib.hid ((hg1.block wr.heap.size (lt_of_block HX0.out) (fun e => hne e.symm)).trans HX0.out)
            have xs1 := cell_of_row w1 w.heap.size 0 _ _ _ HS1.out
            have ys1 := cell_of_row w1 w.heap.size 1 _ _ _ HS1.out
            have xx1 := cell_of_row w1 wr.heap.size 0 _ _ _ HX1.out
            have yx1 := cell_of_row w1 wr.heap.size 1 _ _ _ HX1.out
            have hgs := lt_of_block HS1.out
            )
          go_roundw
          case rel => exact ⟨k + 1, by omega, by go_num, m + 1, by rw [Hn.out]; exact ho1, HS1, hb1⟩
          case measure => simp [intOf]; omega
        · by_cases k3 : x < lo
          · by_cases k4 : hi < y
            · have Hn : Hid (Ss ((l.take (k + 1)).flatMap (cut1 (lo, hi))) = Ss ((l.take k).flatMap (cut1 (lo, hi))) ++ [.int .u64 x, .int .u64 (lo - 1)] ++ [.int .u64 (hi + 1), .int .u64 y]) := by
                show _ = _
                rw [Hsp.out, Ss_append, show cut1 (lo, hi) (x, y) = [(x, lo - 1), (hi + 1, y)] from by unfold cut1; rw [if_neg (by simp only; omega), if_pos (by simp only; omega), if_pos (by simp only; omega)]; rfl]
                simp [Ss]
              clear Hsp
              go_wp2_with (first
                | (at_builtin
                   refine wpList_app1 _ rfl (.tmp 39) (.tmp 46) 39 rfl (w.heap.size + 1) 43 i0 (.agg #[.int .u64 0, .int .u64 0]) 2 16 Try.underlying39 hi0 hz0 hz1 hz2 rfl (by decide) u5 (m) (Ss ((l.take k).flatMap (cut1 (lo, hi)))) rfl hown0 #[.int .u64 x, .int .u64 (lo - 1)] _ rfl (by simp) rfl (by simp [Value.oneCell']) (by unfold maxLen; omega) (by omega) (by have := hgs; simp; omega) ?_
                   intro v1 w1 ho1 hg1 hk1
                   have hne := hne0
                   have hb1 : Below w.heap.size w w1 := hb0.grown hg1 (by have := hb0.size; simp at this ⊢; omega) (fun g hg => by have := (hown0.lt g hg).1; omega)
                   have HS1 := Lib.hid ((hg1.block w.heap.size (lt_of_block HS0.out) (fun e => by have := (hown0.lt _ e.symm).1; omega)).trans HS0.out)
                   have HX1 := Lib.hid ((hg1.block wr.heap.size (lt_of_block HX0.out) (fun e => hne e.symm)).trans HX0.out)
                   have xs1 := cell_of_row w1 w.heap.size 0 _ _ _ HS1.out
                   have ys1 := cell_of_row w1 w.heap.size 1 _ _ _ HS1.out
                   have xx1 := cell_of_row w1 wr.heap.size 0 _ _ _ HX1.out
                   have yx1 := cell_of_row w1 wr.heap.size 1 _ _ _ HX1.out
                   have hgs := lt_of_block HS1.out
                   have hne1 := hk1 wr.heap.size (lt_of_block HX0.out) hne0)
                | (at_builtin
                   refine wpList_app1 _ rfl (.tmp 53) (.tmp 60) 39 rfl (w.heap.size + 1) 43 i0 (.agg #[.int .u64 0, .int .u64 0]) 2 16 Try.underlying39 hi0 hz0 hz1 hz2 rfl (by decide) v1 (m + 1) (Ss ((l.take k).flatMap (cut1 (lo, hi))) ++ [.int .u64 x, .int .u64 (lo - 1)]) rfl ho1 #[.int .u64 (hi + 1), .int .u64 y] _ rfl (by simp) rfl (by simp [Value.oneCell']) (by unfold maxLen; omega) (by omega) (by have := hgs; simp; omega) ?_
                   intro v2 w2 ho2 hg2 hk2
                   have hne := hne1
                   have hb2 : Below w.heap.size w w2 := hb1.grown hg2 (by have := hb1.size; simp at this ⊢; omega) (fun g hg => by have := (ho1.lt g hg).1; omega)
                   have HS2 := Lib.hid ((hg2.block w.heap.size (lt_of_block HS1.out) (fun e => by have := (ho1.lt _ e.symm).1; omega)).trans HS1.out)
                   have HX2 := Lib.hid ((hg2.block wr.heap.size (lt_of_block HX1.out) (fun e => hne e.symm)).trans HX1.out)
                   have xs2 := cell_of_row w2 w.heap.size 0 _ _ _ HS2.out
                   have ys2 := cell_of_row w2 w.heap.size 1 _ _ _ HS2.out
                   have xx2 := cell_of_row w2 wr.heap.size 0 _ _ _ HX2.out
                   have yx2 := cell_of_row w2 wr.heap.size 1 _ _ _ HX2.out
                   have hgs := lt_of_block HS2.out
                   ))
              go_roundw
              case rel => exact ⟨k + 1, by omega, by go_num, m + 1 + 1, by rw [Hn.out]; exact ho2, HS2, hb2⟩
              case measure => simp [intOf]; omega
            · have t4 : decide (hi < y) = false := by simpa using k4
              have Hn : Hid (Ss ((l.take (k + 1)).flatMap (cut1 (lo, hi))) = Ss ((l.take k).flatMap (cut1 (lo, hi))) ++ [.int .u64 x, .int .u64 (lo - 1)]) := by
                show _ = _
                rw [Hsp.out, Ss_append, show cut1 (lo, hi) (x, y) = [(x, lo - 1)] from by unfold cut1; rw [if_neg (by simp only; omega), if_pos (by simp only; omega), if_neg (by simp only; omega)]; rfl]
                rfl
              clear Hsp
              go_wp2_with (
                at_builtin
                refine wpList_app1 _ rfl (.tmp 39) (.tmp 46) 39 rfl (w.heap.size + 1) 43 i0 (.agg #[.int .u64 0, .int .u64 0]) 2 16 Try.underlying39 hi0 hz0 hz1 hz2 rfl (by decide) u5 (m) (Ss ((l.take k).flatMap (cut1 (lo, hi)))) rfl hown0 #[.int .u64 x, .int .u64 (lo - 1)] _ rfl (by simp) rfl (by simp [Value.oneCell']) (by unfold maxLen; omega) (by omega) (by have := hgs; simp; omega) ?_
                intro v1 w1 ho1 hg1 hk1
                have hne := hne0
                have hb1 : Below w.heap.size w w1 := hb0.grown hg1 (by have := hb0.size; simp at this ⊢; omega) (fun g hg => by have := (hown0.lt g hg).1; omega)
                have HS1 := Lib.hid ((hg1.block w.heap.size (lt_of_block HS0.out) (fun e => by have := (hown0.lt _ e.symm).1; omega)).trans HS0.out)
                have HX1 := Lib.hid ((hg1.block wr.heap.size (lt_of_block HX0.out) (fun e => hne e.symm)).trans HX0.out)
                have xs1 := cell_of_row w1 w.heap.size 0 _ _ _ HS1.out
                have ys1 := cell_of_row w1 w.heap.size 1 _ _ _ HS1.out
                have xx1 := cell_of_row w1 wr.heap.size 0 _ _ _ HX1.out
                have yx1 := cell_of_row w1 wr.heap.size 1 _ _ _ HX1.out
                have hgs := lt_of_block HS1.out
                )
              go_roundw
              case rel => exact ⟨k + 1, by omega, by go_num, m + 1, by rw [Hn.out]; exact ho1, HS1, hb1⟩
              case measure => simp [intOf]; omega
          · by_cases k4 : hi < y
            · have t4 : decide (hi < y) = true := by simpa using k4
              have Hn : Hid (Ss ((l.take (k + 1)).flatMap (cut1 (lo, hi))) = Ss ((l.take k).flatMap (cut1 (lo, hi))) ++ [.int .u64 (hi + 1), .int .u64 y]) := by
                show _ = _
                rw [Hsp.out, Ss_append, show cut1 (lo, hi) (x, y) = [(hi + 1, y)] from by unfold cut1; rw [if_neg (by simp only; omega), if_neg (by simp only; omega), if_pos (by simp only; omega)]; rfl]
                rfl
              clear Hsp
              go_wp2_with (
                at_builtin
                refine wpList_app1 _ rfl (.tmp 53) (.tmp 60) 39 rfl (w.heap.size + 1) 43 i0 (.agg #[.int .u64 0, .int .u64 0]) 2 16 Try.underlying39 hi0 hz0 hz1 hz2 rfl (by decide) u5 (m) (Ss ((l.take k).flatMap (cut1 (lo, hi)))) rfl hown0 #[.int .u64 (hi + 1), .int .u64 y] _ rfl (by simp) rfl (by simp [Value.oneCell']) (by unfold maxLen; omega) (by omega) (by have := hgs; simp; omega) ?_
                intro v1 w1 ho1 hg1 hk1
                have hne := hne0
                have hb1 : Below w.heap.size w w1 := hb0.grown hg1 (by have := hb0.size; simp at this ⊢; omega) (fun g hg => by have := (hown0.lt g hg).1; omega)
                have HS1 := Lib.hid ((hg1.block w.heap.size (lt_of_block HS0.out) (fun e => by have := (hown0.lt _ e.symm).1; omega)).trans HS0.out)
                have HX1 := Lib.hid ((hg1.block wr.heap.size (lt_of_block HX0.out) (fun e => hne e.symm)).trans HX0.out)
                have xs1 := cell_of_row w1 w.heap.size 0 _ _ _ HS1.out
                have ys1 := cell_of_row w1 w.heap.size 1 _ _ _ HS1.out
                have xx1 := cell_of_row w1 wr.heap.size 0 _ _ _ HX1.out
                have yx1 := cell_of_row w1 wr.heap.size 1 _ _ _ HX1.out
                have hgs := lt_of_block HS1.out
                )
              go_roundw
              case rel => exact ⟨k + 1, by omega, by go_num, m + 1, by rw [Hn.out]; exact ho1, HS1, hb1⟩
              case measure => simp [intOf]; omega
            · have Hn : Hid (Ss ((l.take (k + 1)).flatMap (cut1 (lo, hi))) = Ss ((l.take k).flatMap (cut1 (lo, hi)))) := by
                show _ = _
                rw [Hsp.out, Ss_append, show cut1 (lo, hi) (x, y) = [] from by unfold cut1; rw [if_neg (by simp only; omega), if_neg (by simp only; omega), if_neg (by simp only; omega)]; rfl]
                simp [Ss]
              clear Hsp
              go_wp2
              go_roundw
              case rel => exact ⟨k + 1, by omega, by go_num, m, by rw [Hn.out]; exact hown0, HS0, hb0⟩
              case measure => simp [intOf]; omega
    · obtain rfl : k = l.length := by omega
      rw [List.take_length] at hown
      go_wp2
      go_ret
      have hm : m = (cutP l (lo, hi)).length := by have e1 := hown.1; rw [Ss_length] at e1; unfold cutP; omega
      subst hm
      obtain ⟨A5, c5, e5, _⟩ := own_slice hown
      subst e5
      exact ⟨A5, c5, rfl, Rd.of_own hown, hb⟩

set_option maxHeartbeats 3200000 in
theorem cut_yes (A : Option Addr) (n c : Nat) (l : List Sp) (lo hi : Int) (w : World) (h : Rd w 2 A n c (Ss l)) (hg : Good l) (hs : IsSpan (lo, hi)) (h0 : 0 ≤ lo) (hu : U2s l) (hn : n ≤ 8796093021952) :
    Calls Try.prog 24 #[.slice A n c, .agg #[.int .u64 lo, .int .u64 hi]] w fun e w' => ∃ A' c', e = .returned (.tuple #[.slice A' (cutP l (lo, hi)).length c', .bool true]) ∧ Rd w' 2 A' (cutP l (lo, hi)).length c' (Ss (cutP l (lo, hi))) ∧ Below w.heap.size w w' := by
  obtain ⟨i0, hi0, hz0, hz1, hz2⟩ := info_parts infoSpan
  have hl := h.len
  rw [Ss_length] at hl
  obtain rfl : l.length = n := by omega
  clear hl
  have hmax := h.cap
  have hmax' := h.max
  unfold maxLen at hmax'
  obtain ⟨s1, s2⟩ := hs
  simp only [maxPn_eq] at s1 s2
  have Hg := Lib.hid hg
  have Hpw := Lib.hid hg.gd.2
  clear hg
  have Hgb := Lib.hid (goodB_true Hg.out)
  have Hsp := Lib.hid (show IsSpan (lo, hi) from ⟨s1, s2⟩)
  go_enter Try.func24, Try.ntmps24
  go_wp2_with fail
  have hw0 := (Below.refl w.heap.size w).alloc (Nat.le_refl _) (.cells #[.int .u64 lo, .int .u64 hi] 43)
  have hw1 := heap_alloc_new w (.cells #[.int .u64 lo, .int .u64 hi] 43)
  refine (good_any A l.length c l _ (h.below hw0) hu).mono ?_
  rw [Hgb.out]
  rintro e wa ⟨rfl, ba⟩
  have hwa := hw0.trans (ba.mono (by simp))
  have HBa := Lib.hid ((ba.block w.heap.size (by simp)).trans hw1)
  have a1 := cell_of_row wa w.heap.size 0 _ _ _ HBa.out
  have a2 := cell_of_row wa w.heap.size 1 _ _ _ HBa.out
  clear hw0 hw1
  go_wp2_with fail
  refine (right_yes lo hi wa (by omega) (by omega) (by omega) (by omega) Hsp.out).mono ?_
  rintro e wb ⟨rfl, bb⟩
  have hwb := hwa.trans (bb.mono hwa.size)
  have HBb := Lib.hid ((bb.block w.heap.size (lt_of_block HBa.out)).trans HBa.out)
  clear a1 a2 ba bb HBa hwa
  go_wp2
  go_loopw [6, 19] (fun out i wr => ∃ k : Nat, k ≤ l.length ∧ i = .int .i64 k ∧ ∃ m : Nat, wr.ownsRow (w.heap.size + 1) 43 2 out m (Ss ((l.take k).flatMap (cut1 (lo, hi)))) ∧
      Hid (wr.heap[w.heap.size]? = some (.cells #[.int .u64 lo, .int .u64 hi] 43 (0, 0))) ∧ Below w.heap.size w wr) (fun _ i _ => l.length - (intOf i).toNat)
  case atStart => exact ⟨0, Nat.zero_le _, rfl, 0, World.ownsRow_nil _ _ _ _, HBb, hwb⟩
  case round =>
    obtain ⟨k, hk, rfl, m, hown, HB, hb⟩ := hrel
    by_cases hlt : k < l.length
    · obtain ⟨b, off, x, y, rfl, He, hc1, hc2, u1, u2, u3, u4⟩ := (h.below hb).sp hu hlt
      have hym : y ≤ 4611686018427387903 := by have := (Hg.out k hlt).1.2; rw [He.out] at this; exact this
      have hxy : x ≤ y := by have := (Hg.out k hlt).1.1; rw [He.out] at this; exact this
      have hb0 := hb.alloc hb.size (.cells #[.int .u64 x, .int .u64 y] 43)
      have HS0 := Lib.hid ((Below.heap_alloc wr (.cells #[.int .u64 x, .int .u64 y] 43) _ (lt_of_block HB.out)).trans HB.out)
      have HX0 := Lib.hid (heap_alloc_new wr (.cells #[.int .u64 x, .int .u64 y] 43))
      have hown0 := hown.alloc (.cells #[.int .u64 x, .int .u64 y] 43)
      have hne0 : u6.ownBlock ≠ some wr.heap.size := fun e => by have := (hown.lt _ e).2; omega
      have hgs := lt_of_block HB.out
      have hmk : m ≤ k + 1 := by
        have e1 := hown.1
        rw [Ss_length] at e1
        have e2 := cut_len (l.take k) (lo, hi) s1 (fun z hz => (Hg.out.span z (List.mem_of_mem_take hz)).1) (Hpw.out.sublist (List.take_sublist _ _))
        simp only [cutP, List.length_take] at e2
        omega
      have xs0 := cell_of_row wr w.heap.size 0 _ _ _ HB.out
      have ys0 := cell_of_row wr w.heap.size 1 _ _ _ HB.out
      have Hsp : Hid ((l.take (k + 1)).flatMap (cut1 (lo, hi)) = ((l.take k).flatMap (cut1 (lo, hi))) ++ cut1 (lo, hi) (x, y)) := by show _ = _; rw [flatMap_take_succ _ _ _ hlt, He.out]
      by_cases k1 : y < lo
      · have t1 : decide (y < lo) = true := by simpa using k1
        have Hn : Hid (Ss ((l.take (k + 1)).flatMap (cut1 (lo, hi))) = Ss ((l.take k).flatMap (cut1 (lo, hi))) ++ [.int .u64 x, .int .u64 y]) := by
          show _ = _
          rw [Hsp.out, Ss_append, show cut1 (lo, hi) (x, y) = [(x, y)] from by unfold cut1; rw [if_pos (by simp only; omega)]]
          rfl
        clear Hsp
        go_wp2_with (
          at_builtin
          refine wpList_app1 _ rfl (.tmp 35) (.tmp 37) 39 rfl (w.heap.size + 1) 43 i0 (.agg #[.int .u64 0, .int .u64 0]) 2 16 Try.underlying39 hi0 hz0 hz1 hz2 rfl (by decide) u6 (m) (Ss ((l.take k).flatMap (cut1 (lo, hi)))) rfl hown0 #[.int .u64 x, .int .u64 y] _ rfl (by simp) rfl (by simp [Value.oneCell']) (by unfold maxLen; omega) (by omega) (by have := hgs; simp; omega) ?_
          intro v1 w1 ho1 hg1 hk1
          have hne := hne0
          have hb1 : Below w.heap.size w w1 := hb0.grown hg1 (by have := hb0.size; simp at this ⊢; omega) (fun g hg => by have := (hown0.lt g hg).1; omega)
          have HS1 := Lib.hid ((hg1.block w.heap.size (lt_of_block HS0.out) (fun e => by have := (hown0.lt _ e.symm).1; omega)).trans HS0.out)
          have HX1 := Lib.hid ((hg1.block wr.heap.size (lt_of_block HX0.out) (fun e => hne e.symm)).trans HX0.out)
          have xs1 := cell_of_row w1 w.heap.size 0 _ _ _ HS1.out
          have ys1 := cell_of_row w1 w.heap.size 1 _ _ _ HS1.out
          have xx1 := cell_of_row w1 wr.heap.size 0 _ _ _ HX1.out
          have yx1 := cell_of_row w1 wr.heap.size 1 _ _ _ HX1.out
          have hgs := lt_of_block HS1.out
          )
        go_roundw
        case rel => exact ⟨k + 1, by omega, by go_num, m + 1, by rw [Hn.out]; exact ho1, HS1, hb1⟩
        case measure => simp [intOf]; omega
      · by_cases k2 : hi < x
        · have t1 : decide (y < lo) = false := by simpa using k1
          have t2 : decide (hi < x) = true := by simpa using k2
          have Hn : Hid (Ss ((l.take (k + 1)).flatMap (cut1 (lo, hi))) = Ss ((l.take k).flatMap (cut1 (lo, hi))) ++ [.int .u64 x, .int .u64 y]) := by
            show _ = _
            rw [Hsp.out, Ss_append, show cut1 (lo, hi) (x, y) = [(x, y)] from by unfold cut1; rw [if_pos (by simp only; omega)]]
            rfl
          clear Hsp
          go_wp2_with (
            at_builtin
            refine wpList_app1 _ rfl (.tmp 35) (.tmp 37) 39 rfl (w.heap.size + 1) 43 i0 (.agg #[.int .u64 0, .int .u64 0]) 2 16 Try.underlying39 hi0 hz0 hz1 hz2 rfl (by decide) u6 (m) (Ss ((l.take k).flatMap (cut1 (lo, hi)))) rfl hown0 #[.int .u64 x, .int .u64 y] _ rfl (by simp) rfl (by simp [Value.oneCell']) (by unfold maxLen; omega) (by omega) (by have := hgs; simp; omega) ?_
            intro v1 w1 ho1 hg1 hk1
            have hne := hne0
            have hb1 : Below w.heap.size w w1 := hb0.grown hg1 (by have := hb0.size; simp at this ⊢; omega) (fun g hg => by have := (hown0.lt g hg).1; omega)
            have HS1 := Lib.hid ((hg1.block w.heap.size (lt_of_block HS0.out) (fun e => by have := (hown0.lt _ e.symm).1; omega)).trans HS0.out)
            have HX1 := Lib.hid ((hg1.block wr.heap.size (lt_of_block HX0.out) (fun e => hne e.symm)).trans HX0.out)
            have xs1 := cell_of_row w1 w.heap.size 0 _ _ _ HS1.out
            have ys1 := cell_of_row w1 w.heap.size 1 _ _ _ HS1.out
            have xx1 := cell_of_row w1 wr.heap.size 0 _ _ _ HX1.out
            have yx1 := cell_of_row w1 wr.heap.size 1 _ _ _ HX1.out
            have hgs := lt_of_block HS1.out
            )
          go_roundw
          case rel => exact ⟨k + 1, by omega, by go_num, m + 1, by rw [Hn.out]; exact ho1, HS1, hb1⟩
          case measure => simp [intOf]; omega
        · by_cases k3 : x < lo
          · by_cases k4 : hi < y
            · have Hn : Hid (Ss ((l.take (k + 1)).flatMap (cut1 (lo, hi))) = Ss ((l.take k).flatMap (cut1 (lo, hi))) ++ [.int .u64 x, .int .u64 (lo - 1)] ++ [.int .u64 (hi + 1), .int .u64 y]) := by
                show _ = _
                rw [Hsp.out, Ss_append, show cut1 (lo, hi) (x, y) = [(x, lo - 1), (hi + 1, y)] from by unfold cut1; rw [if_neg (by simp only; omega), if_pos (by simp only; omega), if_pos (by simp only; omega)]; rfl]
                simp [Ss]
              clear Hsp
              go_wp2_with (first
                | (at_builtin
                   refine wpList_app1 _ rfl (.tmp 44) (.tmp 51) 39 rfl (w.heap.size + 1) 43 i0 (.agg #[.int .u64 0, .int .u64 0]) 2 16 Try.underlying39 hi0 hz0 hz1 hz2 rfl (by decide) u6 (m) (Ss ((l.take k).flatMap (cut1 (lo, hi)))) rfl hown0 #[.int .u64 x, .int .u64 (lo - 1)] _ rfl (by simp) rfl (by simp [Value.oneCell']) (by unfold maxLen; omega) (by omega) (by have := hgs; simp; omega) ?_
                   intro v1 w1 ho1 hg1 hk1
                   have hne := hne0
                   have hb1 : Below w.heap.size w w1 := hb0.grown hg1 (by have := hb0.size; simp at this ⊢; omega) (fun g hg => by have := (hown0.lt g hg).1; omega)
                   have HS1 := Lib.hid ((hg1.block w.heap.size (lt_of_block HS0.out) (fun e => by have := (hown0.lt _ e.symm).1; omega)).trans HS0.out)
                   have HX1 := Lib.hid ((hg1.block wr.heap.size (lt_of_block HX0.out) (fun e => hne e.symm)).trans HX0.out)
                   have xs1 := cell_of_row w1 w.heap.size 0 _ _ _ HS1.out
                   have ys1 := cell_of_row w1 w.heap.size 1 _ _ _ HS1.out
                   have xx1 := cell_of_row w1 wr.heap.size 0 _ _ _ HX1.out
                   have yx1 := cell_of_row w1 wr.heap.size 1 _ _ _ HX1.out
                   have hgs := lt_of_block HS1.out
                   have hne1 := hk1 wr.heap.size (lt_of_block HX0.out) hne0)
                | (at_builtin
                   refine wpList_app1 _ rfl (.tmp 58) (.tmp 65) 39 rfl (w.heap.size + 1) 43 i0 (.agg #[.int .u64 0, .int .u64 0]) 2 16 Try.underlying39 hi0 hz0 hz1 hz2 rfl (by decide) v1 (m + 1) (Ss ((l.take k).flatMap (cut1 (lo, hi))) ++ [.int .u64 x, .int .u64 (lo - 1)]) rfl ho1 #[.int .u64 (hi + 1), .int .u64 y] _ rfl (by simp) rfl (by simp [Value.oneCell']) (by unfold maxLen; omega) (by omega) (by have := hgs; simp; omega) ?_
                   intro v2 w2 ho2 hg2 hk2
                   have hne := hne1
                   have hb2 : Below w.heap.size w w2 := hb1.grown hg2 (by have := hb1.size; simp at this ⊢; omega) (fun g hg => by have := (ho1.lt g hg).1; omega)
                   have HS2 := Lib.hid ((hg2.block w.heap.size (lt_of_block HS1.out) (fun e => by have := (ho1.lt _ e.symm).1; omega)).trans HS1.out)
                   have HX2 := Lib.hid ((hg2.block wr.heap.size (lt_of_block HX1.out) (fun e => hne e.symm)).trans HX1.out)
                   have xs2 := cell_of_row w2 w.heap.size 0 _ _ _ HS2.out
                   have ys2 := cell_of_row w2 w.heap.size 1 _ _ _ HS2.out
                   have xx2 := cell_of_row w2 wr.heap.size 0 _ _ _ HX2.out
                   have yx2 := cell_of_row w2 wr.heap.size 1 _ _ _ HX2.out
                   have hgs := lt_of_block HS2.out
                   ))
              go_roundw
              case rel => exact ⟨k + 1, by omega, by go_num, m + 1 + 1, by rw [Hn.out]; exact ho2, HS2, hb2⟩
              case measure => simp [intOf]; omega
            · have t4 : decide (hi < y) = false := by simpa using k4
              have Hn : Hid (Ss ((l.take (k + 1)).flatMap (cut1 (lo, hi))) = Ss ((l.take k).flatMap (cut1 (lo, hi))) ++ [.int .u64 x, .int .u64 (lo - 1)]) := by
                show _ = _
                rw [Hsp.out, Ss_append, show cut1 (lo, hi) (x, y) = [(x, lo - 1)] from by unfold cut1; rw [if_neg (by simp only; omega), if_pos (by simp only; omega), if_neg (by simp only; omega)]; rfl]
                rfl
              clear Hsp
              go_wp2_with (
                at_builtin
                refine wpList_app1 _ rfl (.tmp 44) (.tmp 51) 39 rfl (w.heap.size + 1) 43 i0 (.agg #[.int .u64 0, .int .u64 0]) 2 16 Try.underlying39 hi0 hz0 hz1 hz2 rfl (by decide) u6 (m) (Ss ((l.take k).flatMap (cut1 (lo, hi)))) rfl hown0 #[.int .u64 x, .int .u64 (lo - 1)] _ rfl (by simp) rfl (by simp [Value.oneCell']) (by unfold maxLen; omega) (by omega) (by have := hgs; simp; omega) ?_
                intro v1 w1 ho1 hg1 hk1
                have hne := hne0
                have hb1 : Below w.heap.size w w1 := hb0.grown hg1 (by have := hb0.size; simp at this ⊢; omega) (fun g hg => by have := (hown0.lt g hg).1; omega)
                have HS1 := Lib.hid ((hg1.block w.heap.size (lt_of_block HS0.out) (fun e => by have := (hown0.lt _ e.symm).1; omega)).trans HS0.out)
                have HX1 := Lib.hid ((hg1.block wr.heap.size (lt_of_block HX0.out) (fun e => hne e.symm)).trans HX0.out)
                have xs1 := cell_of_row w1 w.heap.size 0 _ _ _ HS1.out
                have ys1 := cell_of_row w1 w.heap.size 1 _ _ _ HS1.out
                have xx1 := cell_of_row w1 wr.heap.size 0 _ _ _ HX1.out
                have yx1 := cell_of_row w1 wr.heap.size 1 _ _ _ HX1.out
                have hgs := lt_of_block HS1.out
                )
              go_roundw
              case rel => exact ⟨k + 1, by omega, by go_num, m + 1, by rw [Hn.out]; exact ho1, HS1, hb1⟩
              case measure => simp [intOf]; omega
          · by_cases k4 : hi < y
            · have t4 : decide (hi < y) = true := by simpa using k4
              have Hn : Hid (Ss ((l.take (k + 1)).flatMap (cut1 (lo, hi))) = Ss ((l.take k).flatMap (cut1 (lo, hi))) ++ [.int .u64 (hi + 1), .int .u64 y]) := by
                show _ = _
                rw [Hsp.out, Ss_append, show cut1 (lo, hi) (x, y) = [(hi + 1, y)] from by unfold cut1; rw [if_neg (by simp only; omega), if_neg (by simp only; omega), if_pos (by simp only; omega)]; rfl]
                rfl
              clear Hsp
              go_wp2_with (
                at_builtin
                refine wpList_app1 _ rfl (.tmp 58) (.tmp 65) 39 rfl (w.heap.size + 1) 43 i0 (.agg #[.int .u64 0, .int .u64 0]) 2 16 Try.underlying39 hi0 hz0 hz1 hz2 rfl (by decide) u6 (m) (Ss ((l.take k).flatMap (cut1 (lo, hi)))) rfl hown0 #[.int .u64 (hi + 1), .int .u64 y] _ rfl (by simp) rfl (by simp [Value.oneCell']) (by unfold maxLen; omega) (by omega) (by have := hgs; simp; omega) ?_
                intro v1 w1 ho1 hg1 hk1
                have hne := hne0
                have hb1 : Below w.heap.size w w1 := hb0.grown hg1 (by have := hb0.size; simp at this ⊢; omega) (fun g hg => by have := (hown0.lt g hg).1; omega)
                have HS1 := Lib.hid ((hg1.block w.heap.size (lt_of_block HS0.out) (fun e => by have := (hown0.lt _ e.symm).1; omega)).trans HS0.out)
                have HX1 := Lib.hid ((hg1.block wr.heap.size (lt_of_block HX0.out) (fun e => hne e.symm)).trans HX0.out)
                have xs1 := cell_of_row w1 w.heap.size 0 _ _ _ HS1.out
                have ys1 := cell_of_row w1 w.heap.size 1 _ _ _ HS1.out
                have xx1 := cell_of_row w1 wr.heap.size 0 _ _ _ HX1.out
                have yx1 := cell_of_row w1 wr.heap.size 1 _ _ _ HX1.out
                have hgs := lt_of_block HS1.out
                )
              go_roundw
              case rel => exact ⟨k + 1, by omega, by go_num, m + 1, by rw [Hn.out]; exact ho1, HS1, hb1⟩
              case measure => simp [intOf]; omega
            · have Hn : Hid (Ss ((l.take (k + 1)).flatMap (cut1 (lo, hi))) = Ss ((l.take k).flatMap (cut1 (lo, hi)))) := by
                show _ = _
                rw [Hsp.out, Ss_append, show cut1 (lo, hi) (x, y) = [] from by unfold cut1; rw [if_neg (by simp only; omega), if_neg (by simp only; omega), if_neg (by simp only; omega)]; rfl]
                simp [Ss]
              clear Hsp
              go_wp2
              go_roundw
              case rel => exact ⟨k + 1, by omega, by go_num, m, by rw [Hn.out]; exact hown0, HS0, hb0⟩
              case measure => simp [intOf]; omega
    · obtain rfl : k = l.length := by omega
      rw [List.take_length] at hown
      go_wp2
      go_ret2
      have hm : m = (cutP l (lo, hi)).length := by have e1 := hown.1; rw [Ss_length] at e1; unfold cutP; omega
      subst hm
      obtain ⟨A5, c5, e5, _⟩ := own_slice hown
      subst e5
      exact ⟨A5, c5, rfl, Rd.of_own hown, hb⟩

theorem cut_no (A : Option Addr) (n c : Nat) (l : List Sp) (lo hi : Int) (w : World) (h : Rd w 2 A n c (Ss l)) (hu : U2s l) (h1 : 0 ≤ lo) (h2 : lo < 18446744073709551616) (h3 : 0 ≤ hi) (h4 : hi < 18446744073709551616) (hno : ¬ (Good l ∧ IsSpan (lo, hi))) :
    Calls Try.prog 24 #[.slice A n c, .agg #[.int .u64 lo, .int .u64 hi]] w fun e w' => e = .returned (.tuple #[.slice none 0 0, .bool false]) ∧ Below w.heap.size w w' := by
  have hw0 := (Below.refl w.heap.size w).alloc (Nat.le_refl _) (.cells #[.int .u64 lo, .int .u64 hi] 43)
  have hw1 := heap_alloc_new w (.cells #[.int .u64 lo, .int .u64 hi] 43)
  by_cases hg : Good l
  · have Hno : Hid (¬ IsSpan (lo, hi)) := fun h => hno ⟨hg, h⟩
    have Hgb := Lib.hid (goodB_true hg)
    clear hno hg
    go_enter Try.func24, Try.ntmps24
    go_wp2_with fail
    refine (good_any A n c l _ (h.below hw0) hu).mono ?_
    rw [Hgb.out]
    rintro e wa ⟨rfl, ba⟩
    have hwa := hw0.trans (ba.mono (by simp))
    have HBa := Lib.hid ((ba.block w.heap.size (by simp)).trans hw1)
    have a1 := cell_of_row wa w.heap.size 0 _ _ _ HBa.out
    have a2 := cell_of_row wa w.heap.size 1 _ _ _ HBa.out
    clear hw0 hw1
    go_wp2_with fail
    refine (right_no lo hi wa h1 h2 h3 h4 Hno.out).mono ?_
    rintro e wb ⟨rfl, bb⟩
    have hwb := hwa.trans (bb.mono hwa.size)
    go_wp2
    go_ret2
    exact ⟨rfl, hwb⟩
  · have Hgb := Lib.hid (show goodB l = false from decide_eq_false hg)
    clear hno hg
    go_enter Try.func24, Try.ntmps24
    go_wp2_with fail
    refine (good_any A n c l _ (h.below hw0) hu).mono ?_
    rw [Hgb.out]
    rintro e wa ⟨rfl, ba⟩
    have hwa := hw0.trans (ba.mono (by simp))
    clear hw0 hw1
    go_wp2
    go_ret2
    exact ⟨rfl, hwa⟩
end Go.Proofs.Ytnfgmklkfbcjkaa
