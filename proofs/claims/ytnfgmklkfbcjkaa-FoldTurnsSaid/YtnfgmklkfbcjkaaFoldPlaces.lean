/-
  The walk of FoldPlaces.
-/
import Derived.Test.YtnfgmklkfbcjkaaFoldA
import Derived.Laws.BitsAllLaws
namespace Go.Proofs.Ytnfgmklkfbcjkaa
set_option linter.unusedSimpArgs false
set_option linter.unusedVariables false
set_option linter.unnecessarySimpa false
open Go.RowKit

theorem xor64_comm (a b : Int) : bits .xor .u64 a b = bits .xor .u64 b a := by
  show IntKind.u64.wrap ((BitVec.ofInt 64 a ^^^ BitVec.ofInt 64 b).toNat : Int) = IntKind.u64.wrap ((BitVec.ofInt 64 b ^^^ BitVec.ofInt 64 a).toNat : Int)
  rw [BitVec.xor_comm]

/-- What a place of a list of numbers holds. -/
theorem Rd.u64at {w : World} {A : Option Addr} {n c : Nat} {l : List Int} (h : Rd w 1 A n c (Us l)) {b off : Nat} (hA : A = some ⟨b, off, none⟩) {k : Nat} (hk : k < n) : w.cell? ⟨b, off + k, none⟩ = some (.int .u64 (l.getD k 0)) := by
  obtain ⟨b', off', e, hc⟩ := h.u64 hk
  rw [hA] at e
  injection e with e
  injection e with e1 e2
  subst e1
  subst e2
  exact hc
theorem Rd.boolat {w : World} {A : Option Addr} {n c : Nat} {l : List Bool} (h : Rd w 1 A n c (Bs l)) {b off : Nat} (hA : A = some ⟨b, off, none⟩) {k : Nat} (hk : k < n) : w.cell? ⟨b, off + k, none⟩ = some (.bool (l.getD k false)) := by
  obtain ⟨b', off', e, hc⟩ := h.bool hk
  rw [hA] at e
  injection e with e
  injection e with e1 e2
  subst e1
  subst e2
  exact hc

set_option maxHeartbeats 1600000 in
theorem foldPlaces_any (A B : Option Addr) (n m c d : Nat) (l : List Int) (k : List Bool) (i j : Int) (w : World) (ha : Rd w 1 A n c (Us l)) (hb : Rd w 1 B m d (Bs k)) :
    Calls Try.prog 4 #[.slice A n c, .slice B m d, .int .i64 i, .int .i64 j] w fun e w' => e = .returned (.bool true) ∧ Below w.heap.size w w' := by
  have hl := ha.len
  have hk := hb.len
  simp only [Us_length, Bs_length, Nat.mul_one] at hl hk
  have Hl := Lib.hid hl
  have Hk := Lib.hid hk
  clear hl hk
  have hmax := ha.cap
  have hmax' := ha.max
  have hmaxb := hb.cap
  have hmaxb' := hb.max
  unfold maxLen at hmax' hmaxb'
  by_cases h1 : 0 ≤ i ∧ i ≤ j
  · obtain ⟨h1, h2⟩ := h1
    obtain ⟨i, rfl⟩ := Int.eq_ofNat_of_zero_le h1
    obtain ⟨j, rfl⟩ := Int.eq_ofNat_of_zero_le (by omega : 0 ≤ j)
    have hij : i ≤ j := by omega
    by_cases h3 : j < n <;> by_cases h4 : j < m
    · obtain ⟨b1, o1, rfl, hc1⟩ := ha.u64 h3
      have hc2 := ha.u64at rfl (show i < n by omega)
      have HO := Lib.hid (overV_yes (l := l) hij (by rw [Hl.out]; exact h3))
      generalize l.getD j 0 = xj at *
      generalize l.getD i 0 = xi at *
      have hx : (xor64 xj xi == bits .xor .u64 xi xj) = true := by rw [xor64_comm xi xj]; simp [xor64]
      obtain ⟨b2, o2, rfl, hc3⟩ := hb.bool h4
      have hc4 := hb.boolat rfl (show i < m by omega)
      have HP := Lib.hid (oddV_yes (l := k) hij (by rw [Hk.out]; exact h4))
      generalize k.getD j false = yj at *
      generalize k.getD i false = yi at *
      have hy : ((yj != yi) == !(yi == yj)) = true := by cases yi <;> cases yj <;> rfl
      go_enter Try.func4, Try.ntmps4
      go_wp2_with fail
      refine (foldAlive _).mono ?_
      rintro e w1 ⟨rfl, hb1⟩
      go_wp2_with fail
      refine (over_any _ n c l i j _ (ha.below hb1)).mono ?_
      rw [HO.out]
      rintro e w2 ⟨rfl, hq⟩
      have hb2 : Below w.heap.size w w2 := hb1.trans hq.below
      clear hq
      go_wp2_with fail
      refine (odd_any _ m d k i j _ (hb.below hb2)).mono ?_
      rw [HP.out]
      rintro e w3 ⟨rfl, hq⟩
      have hb3 : Below w.heap.size w w3 := hb2.trans hq.below
      clear hq
      have hd1 := hb3.cell (p := ⟨b1, o1 + j, none⟩) (block_lt_of_cell hc1)
      have hd2 := hb3.cell (p := ⟨b1, o1 + i, none⟩) (block_lt_of_cell hc2)
      rw [hc1] at hd1
      rw [hc2] at hd2
      have hd3 := hb3.cell (p := ⟨b2, o2 + j, none⟩) (block_lt_of_cell hc3)
      have hd4 := hb3.cell (p := ⟨b2, o2 + i, none⟩) (block_lt_of_cell hc4)
      rw [hc3] at hd3
      rw [hc4] at hd4
      go_wp2
      go_quiet (fail)
      go_wp2
      go_ret
      exact ⟨rfl, hb3.trans ((Qt.refl _).drewN _).below⟩
    · obtain ⟨b1, o1, rfl, hc1⟩ := ha.u64 h3
      have hc2 := ha.u64at rfl (show i < n by omega)
      have HO := Lib.hid (overV_yes (l := l) hij (by rw [Hl.out]; exact h3))
      generalize l.getD j 0 = xj at *
      generalize l.getD i 0 = xi at *
      have hx : (xor64 xj xi == bits .xor .u64 xi xj) = true := by rw [xor64_comm xi xj]; simp [xor64]
      have HP := Lib.hid (oddV_no (l := k) (i := i) (j := j) (by rw [Hk.out]; omega))
      go_enter Try.func4, Try.ntmps4
      go_wp2_with fail
      refine (foldAlive _).mono ?_
      rintro e w1 ⟨rfl, hb1⟩
      go_wp2_with fail
      refine (over_any _ n c l i j _ (ha.below hb1)).mono ?_
      rw [HO.out]
      rintro e w2 ⟨rfl, hq⟩
      have hb2 : Below w.heap.size w w2 := hb1.trans hq.below
      clear hq
      go_wp2_with fail
      refine (odd_any _ m d k i j _ (hb.below hb2)).mono ?_
      rw [HP.out]
      rintro e w3 ⟨rfl, hq⟩
      have hb3 : Below w.heap.size w w3 := hb2.trans hq.below
      clear hq
      have hd1 := hb3.cell (p := ⟨b1, o1 + j, none⟩) (block_lt_of_cell hc1)
      have hd2 := hb3.cell (p := ⟨b1, o1 + i, none⟩) (block_lt_of_cell hc2)
      rw [hc1] at hd1
      rw [hc2] at hd2
      go_wp2
      go_quiet (fail)
      go_wp2
      go_ret
      exact ⟨rfl, hb3.trans ((Qt.refl _).drewN _).below⟩
    · have HO := Lib.hid (overV_no (l := l) (i := i) (j := j) (by rw [Hl.out]; omega))
      obtain ⟨b2, o2, rfl, hc3⟩ := hb.bool h4
      have hc4 := hb.boolat rfl (show i < m by omega)
      have HP := Lib.hid (oddV_yes (l := k) hij (by rw [Hk.out]; exact h4))
      generalize k.getD j false = yj at *
      generalize k.getD i false = yi at *
      have hy : ((yj != yi) == !(yi == yj)) = true := by cases yi <;> cases yj <;> rfl
      go_enter Try.func4, Try.ntmps4
      go_wp2_with fail
      refine (foldAlive _).mono ?_
      rintro e w1 ⟨rfl, hb1⟩
      go_wp2_with fail
      refine (over_any _ n c l i j _ (ha.below hb1)).mono ?_
      rw [HO.out]
      rintro e w2 ⟨rfl, hq⟩
      have hb2 : Below w.heap.size w w2 := hb1.trans hq.below
      clear hq
      go_wp2_with fail
      refine (odd_any _ m d k i j _ (hb.below hb2)).mono ?_
      rw [HP.out]
      rintro e w3 ⟨rfl, hq⟩
      have hb3 : Below w.heap.size w w3 := hb2.trans hq.below
      clear hq
      have hd3 := hb3.cell (p := ⟨b2, o2 + j, none⟩) (block_lt_of_cell hc3)
      have hd4 := hb3.cell (p := ⟨b2, o2 + i, none⟩) (block_lt_of_cell hc4)
      rw [hc3] at hd3
      rw [hc4] at hd4
      go_wp2
      go_quiet (fail)
      go_wp2
      go_ret
      exact ⟨rfl, hb3.trans ((Qt.refl _).drewN _).below⟩
    · have HO := Lib.hid (overV_no (l := l) (i := i) (j := j) (by rw [Hl.out]; omega))
      have HP := Lib.hid (oddV_no (l := k) (i := i) (j := j) (by rw [Hk.out]; omega))
      go_enter Try.func4, Try.ntmps4
      go_wp2_with fail
      refine (foldAlive _).mono ?_
      rintro e w1 ⟨rfl, hb1⟩
      go_wp2_with fail
      refine (over_any _ n c l i j _ (ha.below hb1)).mono ?_
      rw [HO.out]
      rintro e w2 ⟨rfl, hq⟩
      have hb2 : Below w.heap.size w w2 := hb1.trans hq.below
      clear hq
      go_wp2_with fail
      refine (odd_any _ m d k i j _ (hb.below hb2)).mono ?_
      rw [HP.out]
      rintro e w3 ⟨rfl, hq⟩
      have hb3 : Below w.heap.size w w3 := hb2.trans hq.below
      clear hq
      go_wp2
      go_quiet (fail)
      go_wp2
      go_ret
      exact ⟨rfl, hb3.trans ((Qt.refl _).drewN _).below⟩
  · have HO := Lib.hid (overV_no (l := l) (i := i) (j := j) (by omega))
    have HP := Lib.hid (oddV_no (l := k) (i := i) (j := j) (by omega))
    by_cases h0 : 0 ≤ i
    all_goals
      go_enter Try.func4, Try.ntmps4
      go_wp2_with fail
      refine (foldAlive _).mono ?_
      rintro e w1 ⟨rfl, hb1⟩
      go_wp2_with fail
      refine (over_any _ n c l i j _ (ha.below hb1)).mono ?_
      rw [HO.out]
      rintro e w2 ⟨rfl, hq⟩
      have hb2 : Below w.heap.size w w2 := hb1.trans hq.below
      clear hq
      go_wp2_with fail
      refine (odd_any _ m d k i j _ (hb.below hb2)).mono ?_
      rw [HP.out]
      rintro e w3 ⟨rfl, hq⟩
      have hb3 : Below w.heap.size w w3 := hb2.trans hq.below
      clear hq
      go_wp2
      go_quiet (fail)
      go_wp2
      go_ret
      exact ⟨rfl, hb3.trans ((Qt.refl _).drewN _).below⟩
end Go.Proofs.Ytnfgmklkfbcjkaa
