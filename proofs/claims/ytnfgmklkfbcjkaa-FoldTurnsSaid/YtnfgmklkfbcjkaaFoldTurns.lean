/-
  The walk of FoldTurns.
-/
import Derived.Test.YtnfgmklkfbcjkaaFoldParts
namespace Go.Proofs.Ytnfgmklkfbcjkaa
set_option linter.unusedSimpArgs false
set_option linter.unusedVariables false
set_option linter.unnecessarySimpa false
open Go.RowKit

/-- Odd, of places that are there. -/
theorem odd_at (A : Option Addr) (n c : Nat) (l : List Bool) (i j : Int) (w : World) (h : Rd w 1 A (n + 1) c (Bs (scan (· != ·) false l))) (hn : l.length = n) (h1 : 0 ≤ i) (h2 : i ≤ j) (h3 : j ≤ n) :
    Calls Try.prog 19 #[.slice A (n + 1) c, .int .i64 i, .int .i64 j] w fun e w' =>
      ∃ X, X = (scanAt (· != ·) false l j.toNat != scanAt (· != ·) false l i.toNat) ∧ e = .returned (.tuple #[.bool X, .bool true]) ∧ Qt w w' := by
  subst hn
  refine (odd_any A _ c _ i j w h).mono fun e w' ⟨he, hq⟩ => ⟨_, rfl, ?_, hq⟩
  obtain ⟨i, rfl⟩ := Int.eq_ofNat_of_zero_le h1
  obtain ⟨j, rfl⟩ := Int.eq_ofNat_of_zero_le (by omega : 0 ≤ j)
  rw [he, oddV_yes (by omega) (by simp; omega), scan_get _ _ _ _ _ (by omega), scan_get _ _ _ _ _ (by omega)]
  rfl

theorem mod_nat' (i : Int) (n : Nat) (h : 0 < n) : ∃ a : Nat, i % (n : Int) = a ∧ a < n := by
  have h1 := Int.emod_nonneg i (show (n : Int) ≠ 0 by omega)
  have h2 := Int.emod_lt_of_pos i (show 0 < (n : Int) by omega)
  exact ⟨(i % (n : Int)).toNat, by omega, by omega⟩

theorem turned (l : List Bool) (k a b : Nat) (hk : k < l.length) (hab : a ≤ b) (hb : b ≤ l.length) :
    (scanAt (· != ·) false (l.set k (!l[k])) b != scanAt (· != ·) false (l.set k (!l[k])) a) =
      ((scanAt (· != ·) false l b != scanAt (· != ·) false l a) != (decide (a ≤ k ∧ k < b))) := by
  rw [scanAt_flip l k hk b hb, scanAt_flip l k hk a (by omega)]
  by_cases h1 : k < a
  · rw [if_pos (by omega), if_pos h1, decide_eq_false (by omega)]; simp
  · by_cases h2 : k < b
    · rw [if_pos h2, if_neg h1, decide_eq_true (by omega)]
      cases scanAt (· != ·) false l b <;> cases scanAt (· != ·) false l a <;> rfl
    · rw [if_neg h2, if_neg h1, decide_eq_false (by omega)]; simp

set_option maxHeartbeats 8000000 in
theorem foldTurns_any (A : Option Addr) (n c : Nat) (l : List Bool) (at_ i j : Int) (w : World) (ha : Rd w 1 A n c (Bs l))
    (hat : 0 ≤ at_ ∧ at_ ≤ 65535) (hi : 0 ≤ i ∧ i ≤ 65535) (hj : 0 ≤ j ∧ j ≤ 65535) :
    Calls Try.prog 6 #[.slice A n c, .int .u16 at_, .int .u16 i, .int .u16 j] w fun e w' => e = .returned (.bool true) ∧ Below w.heap.size w w' := by
  obtain ⟨i0, hi0, hz0, hz1, hz2⟩ := info_parts infoBool
  have hl := ha.len
  simp only [Bs_length, Nat.mul_one] at hl
  have Hl := Lib.hid hl
  clear hl
  have hmax := ha.cap
  have hmax' := ha.max
  unfold maxLen at hmax'
  obtain ⟨ht1, ht2⟩ := hat
  obtain ⟨hi1, hi2⟩ := hi
  obtain ⟨hj1, hj2⟩ := hj
  by_cases h5 : n = 0 ∨ 500 < n
  · have h0 : ((n : Int) == 0) = decide (n = 0) := by
      by_cases h : n = 0 <;> simp [h]
    rcases h5 with h5 | h5
    · subst h5
      go_enter Try.func6, Try.ntmps6
      go_wp2_with fail
      refine (foldAlive _).mono ?_
      rintro e w1 ⟨rfl, hb1⟩
      go_wp2_with fail
      refine (foldAlive _).mono ?_
      rintro e w2 ⟨rfl, hb2⟩
      go_wp2
      go_ret
      exact ⟨rfl, hb1.trans (hb2.mono hb1.size)⟩
    · have h0' : ((n : Int) == 0) = false := by simp; omega
      clear h0
      go_enter Try.func6, Try.ntmps6
      go_wp2_with fail
      refine (foldAlive _).mono ?_
      rintro e w1 ⟨rfl, hb1⟩
      go_wp2_with fail
      refine (foldAlive _).mono ?_
      rintro e w2 ⟨rfl, hb2⟩
      go_wp2
      go_ret
      exact ⟨rfl, hb1.trans (hb2.mono hb1.size)⟩
  · have h5' : n ≤ 500 := by omega
    have h6 : 0 < n := by omega
    have h0' : ((n : Int) == 0) = false := by simp; omega
    clear h5
    obtain ⟨k, ek, lk⟩ := mod_nat' at_ n h6
    obtain ⟨a, ea, la⟩ := mod_nat i n
    obtain ⟨b, eb, lb⟩ := mod_nat j n
    rcases Nat.lt_trichotomy a b with o | rfl | o
    · go_enter Try.func6, Try.ntmps6
      go_wp2_with fail
      refine (foldAlive _).mono ?_
      rintro e w1 ⟨rfl, hb1⟩
      go_wp2
      go_quiet (fail)
      have R1 := (ha.below hb1).drewN nq
      have hb1' := below_drewN hb1 nq
      go_wp2_with (
        at_builtin
        refine wpList_append_rd _ rfl (.const (.slice none 0 0)) (.tmp 53) 23 rfl w.heap.size 4 i0 (.bool false) 1 1 Try.underlying23 hi0 hz0 hz1 hz2 rfl (by decide) (.slice none 0 0) 0 [] rfl (World.ownsRow_nil _ _ _ _) A n c (Bs l) rfl R1 (Bs_one l) (by unfold maxLen; omega) (by omega) hb1'.size ?_
        intro v2 w2 hown2 hg2 _
        have hb2 : Below w.heap.size w w2 := hb1'.grown hg2 hb1'.size (fun g hg => by simp [Value.ownBlock] at hg)
        clear hg2
        rw [Nat.zero_add, List.nil_append] at hown2
        obtain ⟨A2, c2, hv, hA2⟩ := own_slice hown2
        subst hv
        obtain ⟨g, hg, hbg⟩ := hA2 h6
        subst hg
        have R2 := Rd.of_own hown2
        have hd := R2.boolat rfl (show k < n by omega)
        rw [Nat.zero_add] at hd
        have hfz := hown2.frozenAt k
        have H2 := Lib.hid (hown2.stored k (.bool (!(l.getD k false)))).1
        have hcp := R2.cap
        have hcm := R2.max
        unfold maxLen at hcm
        clear hown2 R2
        have hkl : k < l.length := by rw [Hl.out]; exact lk)
      have R3 := Rd.of_own H2.out
      have eset : (Bs l).set k (.bool (!(l.getD k false))) = Bs (l.set k (!l[k])) := by simp [Bs, List.map_set, hkl]
      rw [eset] at R3
      have hb3 := hb2.setCell (p := ⟨g, k, none⟩) hbg (.bool (!(l.getD k false)))
      clear H2 eset
      have e9 : l.getD k false = l[k] := by simp [hkl]
      rw [e9] at R3 hb3
      clear e9
      generalize (w2.setCell ⟨g, k, none⟩ (.bool (!l[k]))) = w3 at *
      refine (odds_rd A n c l _ (ha.below hb3) (by omega)).mono ?_
      rintro e w4 ⟨A4, c4, rfl, R4, b4⟩
      have hb4 : Below w.heap.size w w4 := hb3.trans (b4.mono hb3.size)
      have R34 := R3.below b4
      clear b4
      go_wp2_with fail
      refine (odd_at A4 n c4 l _ _ _ R4 Hl.out (by omega) (by omega) (by omega)).mono ?_
      rintro e w5 ⟨X, hX, rfl, q5⟩
      have HX := Lib.hid hX
      clear hX
      have R35 := R34.qt q5
      have hb5 : Below w.heap.size w w5 := hb4.trans q5.below
      go_wp2_with fail
      refine (odds_rd _ n c2 _ _ R35 (by omega)).mono ?_
      rintro e w6 ⟨A6, c6, rfl, R6, b6⟩
      have hb6 : Below w.heap.size w w6 := hb5.trans (b6.mono hb5.size)
      clear b6
      go_wp2_with fail
      refine (odd_at A6 n c6 _ _ _ _ R6 (by simp [Hl.out]) (by omega) (by omega) (by omega)).mono ?_
      rintro e w7 ⟨Y, hY, rfl, q7⟩
      have hb7 : Below w.heap.size w w7 := hb6.trans q7.below
      have HXY : Hid (Y = (X != decide (a ≤ k ∧ k < b))) := by
        show Y = _
        rw [hY, HX.out]
        exact turned l k a b hkl (by omega) (by rw [Hl.out]; omega)
      clear hY
      by_cases h7 : a ≤ k
      · by_cases h8 : k < b
        · obtain rfl : Y = !X := by rw [HXY.out, decide_eq_true ⟨h7, h8⟩]; simp
          cases X
          all_goals
            go_wp2
            go_ret
            exact ⟨rfl, hb7⟩
        · obtain rfl : Y = X := by rw [HXY.out, decide_eq_false (by omega)]; simp
          cases Y
          all_goals
            go_wp2
            go_ret
            exact ⟨rfl, hb7⟩
      · obtain rfl : Y = X := by rw [HXY.out, decide_eq_false (by omega)]; simp
        cases Y
        all_goals
          go_wp2
          go_ret
          exact ⟨rfl, hb7⟩
    · go_enter Try.func6, Try.ntmps6
      go_wp2_with fail
      refine (foldAlive _).mono ?_
      rintro e w1 ⟨rfl, hb1⟩
      go_wp2
      go_quiet (fail)
      have R1 := (ha.below hb1).drewN nq
      have hb1' := below_drewN hb1 nq
      go_wp2_with (
        at_builtin
        refine wpList_append_rd _ rfl (.const (.slice none 0 0)) (.tmp 53) 23 rfl w.heap.size 4 i0 (.bool false) 1 1 Try.underlying23 hi0 hz0 hz1 hz2 rfl (by decide) (.slice none 0 0) 0 [] rfl (World.ownsRow_nil _ _ _ _) A n c (Bs l) rfl R1 (Bs_one l) (by unfold maxLen; omega) (by omega) hb1'.size ?_
        intro v2 w2 hown2 hg2 _
        have hb2 : Below w.heap.size w w2 := hb1'.grown hg2 hb1'.size (fun g hg => by simp [Value.ownBlock] at hg)
        clear hg2
        rw [Nat.zero_add, List.nil_append] at hown2
        obtain ⟨A2, c2, hv, hA2⟩ := own_slice hown2
        subst hv
        obtain ⟨g, hg, hbg⟩ := hA2 h6
        subst hg
        have R2 := Rd.of_own hown2
        have hd := R2.boolat rfl (show k < n by omega)
        rw [Nat.zero_add] at hd
        have hfz := hown2.frozenAt k
        have H2 := Lib.hid (hown2.stored k (.bool (!(l.getD k false)))).1
        have hcp := R2.cap
        have hcm := R2.max
        unfold maxLen at hcm
        clear hown2 R2
        have hkl : k < l.length := by rw [Hl.out]; exact lk)
      have R3 := Rd.of_own H2.out
      have eset : (Bs l).set k (.bool (!(l.getD k false))) = Bs (l.set k (!l[k])) := by simp [Bs, List.map_set, hkl]
      rw [eset] at R3
      have hb3 := hb2.setCell (p := ⟨g, k, none⟩) hbg (.bool (!(l.getD k false)))
      clear H2 eset
      have e9 : l.getD k false = l[k] := by simp [hkl]
      rw [e9] at R3 hb3
      clear e9
      generalize (w2.setCell ⟨g, k, none⟩ (.bool (!l[k]))) = w3 at *
      refine (odds_rd A n c l _ (ha.below hb3) (by omega)).mono ?_
      rintro e w4 ⟨A4, c4, rfl, R4, b4⟩
      have hb4 : Below w.heap.size w w4 := hb3.trans (b4.mono hb3.size)
      have R34 := R3.below b4
      clear b4
      go_wp2_with fail
      refine (odd_at A4 n c4 l _ _ _ R4 Hl.out (by omega) (by omega) (by omega)).mono ?_
      rintro e w5 ⟨X, hX, rfl, q5⟩
      have HX := Lib.hid hX
      clear hX
      have R35 := R34.qt q5
      have hb5 : Below w.heap.size w w5 := hb4.trans q5.below
      go_wp2_with fail
      refine (odds_rd _ n c2 _ _ R35 (by omega)).mono ?_
      rintro e w6 ⟨A6, c6, rfl, R6, b6⟩
      have hb6 : Below w.heap.size w w6 := hb5.trans (b6.mono hb5.size)
      clear b6
      go_wp2_with fail
      refine (odd_at A6 n c6 _ _ _ _ R6 (by simp [Hl.out]) (by omega) (by omega) (by omega)).mono ?_
      rintro e w7 ⟨Y, hY, rfl, q7⟩
      have hb7 : Below w.heap.size w w7 := hb6.trans q7.below
      have HXY : Hid (Y = (X != decide (a ≤ k ∧ k < a))) := by
        show Y = _
        rw [hY, HX.out]
        exact turned l k a a hkl (by omega) (by rw [Hl.out]; omega)
      clear hY
      by_cases h7 : a ≤ k
      · by_cases h8 : k < a
        · obtain rfl : Y = !X := by rw [HXY.out, decide_eq_true ⟨h7, h8⟩]; simp
          cases X
          all_goals
            go_wp2
            go_ret
            exact ⟨rfl, hb7⟩
        · obtain rfl : Y = X := by rw [HXY.out, decide_eq_false (by omega)]; simp
          cases Y
          all_goals
            go_wp2
            go_ret
            exact ⟨rfl, hb7⟩
      · obtain rfl : Y = X := by rw [HXY.out, decide_eq_false (by omega)]; simp
        cases Y
        all_goals
          go_wp2
          go_ret
          exact ⟨rfl, hb7⟩
    · go_enter Try.func6, Try.ntmps6
      go_wp2_with fail
      refine (foldAlive _).mono ?_
      rintro e w1 ⟨rfl, hb1⟩
      go_wp2
      go_quiet (fail)
      have R1 := (ha.below hb1).drewN nq
      have hb1' := below_drewN hb1 nq
      go_wp2_with (
        at_builtin
        refine wpList_append_rd _ rfl (.const (.slice none 0 0)) (.tmp 53) 23 rfl w.heap.size 4 i0 (.bool false) 1 1 Try.underlying23 hi0 hz0 hz1 hz2 rfl (by decide) (.slice none 0 0) 0 [] rfl (World.ownsRow_nil _ _ _ _) A n c (Bs l) rfl R1 (Bs_one l) (by unfold maxLen; omega) (by omega) hb1'.size ?_
        intro v2 w2 hown2 hg2 _
        have hb2 : Below w.heap.size w w2 := hb1'.grown hg2 hb1'.size (fun g hg => by simp [Value.ownBlock] at hg)
        clear hg2
        rw [Nat.zero_add, List.nil_append] at hown2
        obtain ⟨A2, c2, hv, hA2⟩ := own_slice hown2
        subst hv
        obtain ⟨g, hg, hbg⟩ := hA2 h6
        subst hg
        have R2 := Rd.of_own hown2
        have hd := R2.boolat rfl (show k < n by omega)
        rw [Nat.zero_add] at hd
        have hfz := hown2.frozenAt k
        have H2 := Lib.hid (hown2.stored k (.bool (!(l.getD k false)))).1
        have hcp := R2.cap
        have hcm := R2.max
        unfold maxLen at hcm
        clear hown2 R2
        have hkl : k < l.length := by rw [Hl.out]; exact lk)
      have R3 := Rd.of_own H2.out
      have eset : (Bs l).set k (.bool (!(l.getD k false))) = Bs (l.set k (!l[k])) := by simp [Bs, List.map_set, hkl]
      rw [eset] at R3
      have hb3 := hb2.setCell (p := ⟨g, k, none⟩) hbg (.bool (!(l.getD k false)))
      clear H2 eset
      have e9 : l.getD k false = l[k] := by simp [hkl]
      rw [e9] at R3 hb3
      clear e9
      generalize (w2.setCell ⟨g, k, none⟩ (.bool (!l[k]))) = w3 at *
      refine (odds_rd A n c l _ (ha.below hb3) (by omega)).mono ?_
      rintro e w4 ⟨A4, c4, rfl, R4, b4⟩
      have hb4 : Below w.heap.size w w4 := hb3.trans (b4.mono hb3.size)
      have R34 := R3.below b4
      clear b4
      go_wp2_with fail
      refine (odd_at A4 n c4 l _ _ _ R4 Hl.out (by omega) (by omega) (by omega)).mono ?_
      rintro e w5 ⟨X, hX, rfl, q5⟩
      have HX := Lib.hid hX
      clear hX
      have R35 := R34.qt q5
      have hb5 : Below w.heap.size w w5 := hb4.trans q5.below
      go_wp2_with fail
      refine (odds_rd _ n c2 _ _ R35 (by omega)).mono ?_
      rintro e w6 ⟨A6, c6, rfl, R6, b6⟩
      have hb6 : Below w.heap.size w w6 := hb5.trans (b6.mono hb5.size)
      clear b6
      go_wp2_with fail
      refine (odd_at A6 n c6 _ _ _ _ R6 (by simp [Hl.out]) (by omega) (by omega) (by omega)).mono ?_
      rintro e w7 ⟨Y, hY, rfl, q7⟩
      have hb7 : Below w.heap.size w w7 := hb6.trans q7.below
      have HXY : Hid (Y = (X != decide (b ≤ k ∧ k < a))) := by
        show Y = _
        rw [hY, HX.out]
        exact turned l k b a hkl (by omega) (by rw [Hl.out]; omega)
      clear hY
      by_cases h7 : b ≤ k
      · by_cases h8 : k < a
        · obtain rfl : Y = !X := by rw [HXY.out, decide_eq_true ⟨h7, h8⟩]; simp
          cases X
          all_goals
            go_wp2
            go_ret
            exact ⟨rfl, hb7⟩
        · obtain rfl : Y = X := by rw [HXY.out, decide_eq_false (by omega)]; simp
          cases Y
          all_goals
            go_wp2
            go_ret
            exact ⟨rfl, hb7⟩
      · obtain rfl : Y = X := by rw [HXY.out, decide_eq_false (by omega)]; simp
        cases Y
        all_goals
          go_wp2
          go_ret
          exact ⟨rfl, hb7⟩
end Go.Proofs.Ytnfgmklkfbcjkaa
