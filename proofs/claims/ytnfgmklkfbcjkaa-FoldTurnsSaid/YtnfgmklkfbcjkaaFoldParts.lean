/-
  The walk of FoldParts.
-/
import Derived.Test.YtnfgmklkfbcjkaaFoldPlaces
namespace Go.Proofs.Ytnfgmklkfbcjkaa
set_option linter.unusedSimpArgs false
set_option linter.unusedVariables false
set_option linter.unnecessarySimpa false
open Go.RowKit

theorem isU64_bits (x : BitVec 64) : isU64 (IntKind.u64.wrap (x.toNat : Int)) := by
  have := x.isLt
  rw [IntKind.wrap_u64]
  unfold isU64
  omega
theorem isU64_xor (a b : Int) : isU64 (xor64 a b) := isU64_bits _
theorem xor64_nat {a b : Int} (ha : isU64 a) (hb : isU64 b) : xor64 a b = ((a.toNat ^^^ b.toNat : Nat) : Int) := u64_xor a b ha.1 ha.2 hb.1 hb.2
theorem isU64_nat {a : Int} (h : isU64 a) : ∃ n : Nat, a = n ∧ n < 18446744073709551616 := ⟨a.toNat, by have := h.1; omega, by have := h.1; have := h.2; omega⟩
theorem xor64_mk {a b : Nat} (ha : a < 18446744073709551616) (hb : b < 18446744073709551616) : xor64 a b = ((a ^^^ b : Nat) : Int) := u64_xor_nat a b ha hb
theorem xor_lt {a b : Nat} (ha : a < 18446744073709551616) (hb : b < 18446744073709551616) : a ^^^ b < 18446744073709551616 := Nat.xor_lt_two_pow (n := 64) ha hb
theorem xor64_self {a : Int} (ha : isU64 a) : xor64 a a = 0 := by
  rw [xor64_nat ha ha]; simp
/-- (t ^ lo) ^ x = (t ^ x) ^ lo -/
theorem xor64_swap {t lo x : Int} (ht : isU64 t) (hlo : isU64 lo) (hx : isU64 x) : xor64 (xor64 t lo) x = xor64 (xor64 t x) lo := by
  obtain ⟨t, rfl, h1⟩ := isU64_nat ht
  obtain ⟨lo, rfl, h2⟩ := isU64_nat hlo
  obtain ⟨x, rfl, h3⟩ := isU64_nat hx
  rw [xor64_mk h1 h2, xor64_mk h1 h3, xor64_mk (xor_lt h1 h2) h3, xor64_mk (xor_lt h1 h3) h2, Nat.xor_assoc, Nat.xor_assoc, Nat.xor_comm lo x]
/-- hi ^ lo = (mid ^ lo) ^ (hi ^ mid) -/
theorem xor64_mid {hi lo mid : Int} (h1 : isU64 hi) (h2 : isU64 lo) (h3 : isU64 mid) : xor64 hi lo = xor64 (xor64 mid lo) (xor64 hi mid) := by
  obtain ⟨hi, rfl, k1⟩ := isU64_nat h1
  obtain ⟨lo, rfl, k2⟩ := isU64_nat h2
  obtain ⟨mid, rfl, k3⟩ := isU64_nat h3
  rw [xor64_mk k1 k2, xor64_mk k3 k2, xor64_mk k1 k3, xor64_mk (xor_lt k3 k2) (xor_lt k1 k3)]
  congr 1
  rw [Nat.xor_comm hi mid, ← Nat.xor_assoc, Nat.xor_comm mid lo, Nat.xor_assoc lo mid mid, Nat.xor_self, Nat.xor_zero, Nat.xor_comm]
theorem isU64_scanAt {l : List Int} (k : Nat) : isU64 (scanAt xor64 0 l k) := by
  unfold scanAt
  generalize l.take k = m
  rcases List.eq_nil_or_concat m with rfl | ⟨r, x, rfl⟩
  · exact ⟨by simp, by simp⟩
  · simp only [List.concat_eq_append, List.foldl_append, List.foldl_cons, List.foldl_nil]
    exact isU64_xor _ _
theorem getD_isU64 {l : List Int} (h : ∀ x ∈ l, isU64 x) {k : Nat} (hk : k < l.length) : isU64 l[k] := h _ (List.getElem_mem hk)

theorem mod_nat (i : Int) (n : Nat) : ∃ a : Nat, i % ((n : Int) + 1) = a ∧ a ≤ n := by
  have h1 := Int.emod_nonneg i (show ((n : Int) + 1) ≠ 0 by omega)
  have h2 := Int.emod_lt_of_pos i (show 0 < ((n : Int) + 1) by omega)
  exact ⟨(i % ((n : Int) + 1)).toNat, by omega, by omega⟩

/-- Over, of places that are there. -/
theorem over_at (A : Option Addr) (n c : Nat) (l : List Int) (i j : Int) (w : World) (h : Rd w 1 A (n + 1) c (Us (scan xor64 0 l))) (hn : l.length = n) (h1 : 0 ≤ i) (h2 : i ≤ j) (h3 : j ≤ n) :
    Calls Try.prog 18 #[.slice A (n + 1) c, .int .i64 i, .int .i64 j] w fun e w' =>
      ∃ X, X = xor64 (scanAt xor64 0 l j.toNat) (scanAt xor64 0 l i.toNat) ∧ e = .returned (.tuple #[.int .u64 X, .bool true]) ∧ Qt w w' := by
  subst hn
  refine (over_any A _ c _ i j w h).mono fun e w' ⟨he, hq⟩ => ⟨_, rfl, ?_, hq⟩
  obtain ⟨i, rfl⟩ := Int.eq_ofNat_of_zero_le h1
  obtain ⟨j, rfl⟩ := Int.eq_ofNat_of_zero_le (by omega : 0 ≤ j)
  rw [he, overV_yes (by omega) (by simp; omega), scan_get _ _ _ _ _ (by omega), scan_get _ _ _ _ _ (by omega)]
  rfl

set_option maxHeartbeats 8000000 in
theorem foldParts_any (A : Option Addr) (n c : Nat) (l : List Int) (i j k : Int) (w : World) (ha : Rd w 1 A n c (Us l)) (hu : ∀ x ∈ l, isU64 x)
    (hi : 0 ≤ i ∧ i ≤ 65535) (hj : 0 ≤ j ∧ j ≤ 65535) (hk : 0 ≤ k ∧ k ≤ 65535) :
    Calls Try.prog 5 #[.slice A n c, .int .u16 i, .int .u16 j, .int .u16 k] w fun e w' => e = .returned (.bool true) ∧ Below w.heap.size w w' := by
  have hl := ha.len
  simp only [Us_length, Nat.mul_one] at hl
  have Hl := Lib.hid hl
  clear hl
  have hmax := ha.cap
  have hmax' := ha.max
  unfold maxLen at hmax'
  obtain ⟨hi1, hi2⟩ := hi
  obtain ⟨hj1, hj2⟩ := hj
  obtain ⟨hk1, hk2⟩ := hk
  by_cases h5 : (500 : Int) < n
  · go_enter Try.func5, Try.ntmps5
    go_wp2_with fail
    refine (foldAlive _).mono ?_
    rintro e w1 ⟨rfl, hb1⟩
    go_wp2_with fail
    refine (foldAlive _).mono ?_
    rintro e w2 ⟨rfl, hb2⟩
    go_wp2
    go_ret
    exact ⟨rfl, hb1.trans (hb2.mono hb1.size)⟩
  · have h5' : n ≤ 500 := by omega
    obtain ⟨a, ea, la⟩ : ∃ a : Nat, i % ((n : Int) + 1) = a ∧ a ≤ n := mod_nat i n
    obtain ⟨b, eb, lb⟩ : ∃ a : Nat, j % ((n : Int) + 1) = a ∧ a ≤ n := mod_nat j n
    obtain ⟨d, ed, ld⟩ : ∃ a : Nat, k % ((n : Int) + 1) = a ∧ a ≤ n := mod_nat k n
    rcases Nat.lt_trichotomy a b with o | rfl | o
    · rcases Nat.lt_trichotomy b d with o | rfl | o
      · go_enter Try.func5, Try.ntmps5
        go_wp2_with fail
        refine (foldAlive _).mono ?_
        rintro e w1 ⟨rfl, hb1⟩
        go_wp2
        go_quiet (fail)
        go_wp2_with fail
        refine (xors_rd A n c l _ (ha.below (hb1.trans (Qt.below ⟨_, rfl⟩))) (by omega)).mono ?_
        rintro e w2 ⟨A2, c2, rfl, R2, b2⟩
        have hb2 : Below w.heap.size w w2 := (hb1.trans (Qt.below ⟨_, rfl⟩)).trans (b2.mono (hb1.trans (Qt.below ⟨_, rfl⟩)).size)
        clear b2
        go_wp2_with fail
        refine (over_at A2 n c2 l _ _ _ R2 Hl.out (by omega) (by omega) (by omega)).mono ?_
        rintro e w3 ⟨X, hX, rfl, q3⟩
        have HX := Lib.hid hX
        clear hX
        have R3 := R2.qt q3
        have hb3 : Below w.heap.size w w3 := hb2.trans q3.below
        go_wp2_with fail
        refine (over_at A2 n c2 l _ _ _ R3 Hl.out (by omega) (by omega) (by omega)).mono ?_
        rintro e w4 ⟨Y, hY, rfl, q4⟩
        have HY := Lib.hid hY
        clear hY
        have R4 := R3.qt q4
        have hb4 : Below w.heap.size w w4 := hb3.trans q4.below
        go_wp2_with fail
        refine (over_at A2 n c2 l _ _ _ R4 Hl.out (by omega) (by omega) (by omega)).mono ?_
        rintro e w5 ⟨Z, hZ, rfl, q5⟩
        have HZ := Lib.hid hZ
        clear hZ
        have hb5 : Below w.heap.size w w5 := hb4.trans q5.below
        go_wp2
        have UL := isU64_scanAt (l := l) a
        go_loopw [23, 24] (fun x u wr => ∃ t : Nat, a ≤ t ∧ t ≤ d ∧ u = .int .i64 t ∧ x = .int .u64 (xor64 (scanAt xor64 0 l t) (scanAt xor64 0 l a)) ∧ Qt w5 wr) (fun _ u _ => d - (intOf u).toNat)
        case atStart => exact ⟨a, by omega, by omega, rfl, by rw [xor64_self UL], Qt.refl _⟩
        case round =>
          obtain ⟨t, t1, t2, rfl, rfl, q6⟩ := hrel
          have hb6 : Below w.heap.size w wr := hb5.trans q6.below
          by_cases hlt : t < d
          · have htl : t < l.length := by rw [Hl.out]; omega
            obtain ⟨b1, f1, rfl, hc1⟩ := (ha.below hb6).u64 (show t < n by omega)
            have H5 := Lib.hid (scanAt_succ xor64 0 l t htl)
            go_wp2
            go_roundw
            case rel => exact ⟨t + 1, by omega, by omega, by go_num, by rw [H5.out, ← xor64_swap (isU64_scanAt t) UL (getD_isU64 hu htl)]; rfl, q6⟩
            case measure => simp [intOf]; omega
          · have et : t = d := by omega
            have hXV : (X == xor64 (scanAt xor64 0 l d) (scanAt xor64 0 l a)) = true := by
              rw [beq_iff_eq, HX.out]
              congr 2 <;> omega
            have hYZ : (X == bits .xor .u64 Y Z) = true := by
              rw [beq_iff_eq, HX.out]
              show _ = xor64 Y Z
              rw [HY.out, HZ.out]
              exact xor64_mid (isU64_scanAt _) (isU64_scanAt _) (isU64_scanAt _)
            subst et
            go_wp2
            go_ret
            exact ⟨rfl, hb6⟩
      · go_enter Try.func5, Try.ntmps5
        go_wp2_with fail
        refine (foldAlive _).mono ?_
        rintro e w1 ⟨rfl, hb1⟩
        go_wp2
        go_quiet (fail)
        go_wp2_with fail
        refine (xors_rd A n c l _ (ha.below (hb1.trans (Qt.below ⟨_, rfl⟩))) (by omega)).mono ?_
        rintro e w2 ⟨A2, c2, rfl, R2, b2⟩
        have hb2 : Below w.heap.size w w2 := (hb1.trans (Qt.below ⟨_, rfl⟩)).trans (b2.mono (hb1.trans (Qt.below ⟨_, rfl⟩)).size)
        clear b2
        go_wp2_with fail
        refine (over_at A2 n c2 l _ _ _ R2 Hl.out (by omega) (by omega) (by omega)).mono ?_
        rintro e w3 ⟨X, hX, rfl, q3⟩
        have HX := Lib.hid hX
        clear hX
        have R3 := R2.qt q3
        have hb3 : Below w.heap.size w w3 := hb2.trans q3.below
        go_wp2_with fail
        refine (over_at A2 n c2 l _ _ _ R3 Hl.out (by omega) (by omega) (by omega)).mono ?_
        rintro e w4 ⟨Y, hY, rfl, q4⟩
        have HY := Lib.hid hY
        clear hY
        have R4 := R3.qt q4
        have hb4 : Below w.heap.size w w4 := hb3.trans q4.below
        go_wp2_with fail
        refine (over_at A2 n c2 l _ _ _ R4 Hl.out (by omega) (by omega) (by omega)).mono ?_
        rintro e w5 ⟨Z, hZ, rfl, q5⟩
        have HZ := Lib.hid hZ
        clear hZ
        have hb5 : Below w.heap.size w w5 := hb4.trans q5.below
        go_wp2
        have UL := isU64_scanAt (l := l) a
        go_loopw [23, 24] (fun x u wr => ∃ t : Nat, a ≤ t ∧ t ≤ b ∧ u = .int .i64 t ∧ x = .int .u64 (xor64 (scanAt xor64 0 l t) (scanAt xor64 0 l a)) ∧ Qt w5 wr) (fun _ u _ => b - (intOf u).toNat)
        case atStart => exact ⟨a, by omega, by omega, rfl, by rw [xor64_self UL], Qt.refl _⟩
        case round =>
          obtain ⟨t, t1, t2, rfl, rfl, q6⟩ := hrel
          have hb6 : Below w.heap.size w wr := hb5.trans q6.below
          by_cases hlt : t < b
          · have htl : t < l.length := by rw [Hl.out]; omega
            obtain ⟨b1, f1, rfl, hc1⟩ := (ha.below hb6).u64 (show t < n by omega)
            have H5 := Lib.hid (scanAt_succ xor64 0 l t htl)
            go_wp2
            go_roundw
            case rel => exact ⟨t + 1, by omega, by omega, by go_num, by rw [H5.out, ← xor64_swap (isU64_scanAt t) UL (getD_isU64 hu htl)]; rfl, q6⟩
            case measure => simp [intOf]; omega
          · have et : t = b := by omega
            have hXV : (X == xor64 (scanAt xor64 0 l b) (scanAt xor64 0 l a)) = true := by
              rw [beq_iff_eq, HX.out]
              congr 2 <;> omega
            have hYZ : (X == bits .xor .u64 Y Z) = true := by
              rw [beq_iff_eq, HX.out]
              show _ = xor64 Y Z
              rw [HY.out, HZ.out]
              exact xor64_mid (isU64_scanAt _) (isU64_scanAt _) (isU64_scanAt _)
            subst et
            go_wp2
            go_ret
            exact ⟨rfl, hb6⟩
      · rcases Nat.lt_trichotomy a d with o | rfl | o
        · go_enter Try.func5, Try.ntmps5
          go_wp2_with fail
          refine (foldAlive _).mono ?_
          rintro e w1 ⟨rfl, hb1⟩
          go_wp2
          go_quiet (fail)
          go_wp2_with fail
          refine (xors_rd A n c l _ (ha.below (hb1.trans (Qt.below ⟨_, rfl⟩))) (by omega)).mono ?_
          rintro e w2 ⟨A2, c2, rfl, R2, b2⟩
          have hb2 : Below w.heap.size w w2 := (hb1.trans (Qt.below ⟨_, rfl⟩)).trans (b2.mono (hb1.trans (Qt.below ⟨_, rfl⟩)).size)
          clear b2
          go_wp2_with fail
          refine (over_at A2 n c2 l _ _ _ R2 Hl.out (by omega) (by omega) (by omega)).mono ?_
          rintro e w3 ⟨X, hX, rfl, q3⟩
          have HX := Lib.hid hX
          clear hX
          have R3 := R2.qt q3
          have hb3 : Below w.heap.size w w3 := hb2.trans q3.below
          go_wp2_with fail
          refine (over_at A2 n c2 l _ _ _ R3 Hl.out (by omega) (by omega) (by omega)).mono ?_
          rintro e w4 ⟨Y, hY, rfl, q4⟩
          have HY := Lib.hid hY
          clear hY
          have R4 := R3.qt q4
          have hb4 : Below w.heap.size w w4 := hb3.trans q4.below
          go_wp2_with fail
          refine (over_at A2 n c2 l _ _ _ R4 Hl.out (by omega) (by omega) (by omega)).mono ?_
          rintro e w5 ⟨Z, hZ, rfl, q5⟩
          have HZ := Lib.hid hZ
          clear hZ
          have hb5 : Below w.heap.size w w5 := hb4.trans q5.below
          go_wp2
          have UL := isU64_scanAt (l := l) a
          go_loopw [23, 24] (fun x u wr => ∃ t : Nat, a ≤ t ∧ t ≤ b ∧ u = .int .i64 t ∧ x = .int .u64 (xor64 (scanAt xor64 0 l t) (scanAt xor64 0 l a)) ∧ Qt w5 wr) (fun _ u _ => b - (intOf u).toNat)
          case atStart => exact ⟨a, by omega, by omega, rfl, by rw [xor64_self UL], Qt.refl _⟩
          case round =>
            obtain ⟨t, t1, t2, rfl, rfl, q6⟩ := hrel
            have hb6 : Below w.heap.size w wr := hb5.trans q6.below
            by_cases hlt : t < b
            · have htl : t < l.length := by rw [Hl.out]; omega
              obtain ⟨b1, f1, rfl, hc1⟩ := (ha.below hb6).u64 (show t < n by omega)
              have H5 := Lib.hid (scanAt_succ xor64 0 l t htl)
              go_wp2
              go_roundw
              case rel => exact ⟨t + 1, by omega, by omega, by go_num, by rw [H5.out, ← xor64_swap (isU64_scanAt t) UL (getD_isU64 hu htl)]; rfl, q6⟩
              case measure => simp [intOf]; omega
            · have et : t = b := by omega
              have hXV : (X == xor64 (scanAt xor64 0 l b) (scanAt xor64 0 l a)) = true := by
                rw [beq_iff_eq, HX.out]
                congr 2 <;> omega
              have hYZ : (X == bits .xor .u64 Y Z) = true := by
                rw [beq_iff_eq, HX.out]
                show _ = xor64 Y Z
                rw [HY.out, HZ.out]
                exact xor64_mid (isU64_scanAt _) (isU64_scanAt _) (isU64_scanAt _)
              subst et
              go_wp2
              go_ret
              exact ⟨rfl, hb6⟩
        · go_enter Try.func5, Try.ntmps5
          go_wp2_with fail
          refine (foldAlive _).mono ?_
          rintro e w1 ⟨rfl, hb1⟩
          go_wp2
          go_quiet (fail)
          go_wp2_with fail
          refine (xors_rd A n c l _ (ha.below (hb1.trans (Qt.below ⟨_, rfl⟩))) (by omega)).mono ?_
          rintro e w2 ⟨A2, c2, rfl, R2, b2⟩
          have hb2 : Below w.heap.size w w2 := (hb1.trans (Qt.below ⟨_, rfl⟩)).trans (b2.mono (hb1.trans (Qt.below ⟨_, rfl⟩)).size)
          clear b2
          go_wp2_with fail
          refine (over_at A2 n c2 l _ _ _ R2 Hl.out (by omega) (by omega) (by omega)).mono ?_
          rintro e w3 ⟨X, hX, rfl, q3⟩
          have HX := Lib.hid hX
          clear hX
          have R3 := R2.qt q3
          have hb3 : Below w.heap.size w w3 := hb2.trans q3.below
          go_wp2_with fail
          refine (over_at A2 n c2 l _ _ _ R3 Hl.out (by omega) (by omega) (by omega)).mono ?_
          rintro e w4 ⟨Y, hY, rfl, q4⟩
          have HY := Lib.hid hY
          clear hY
          have R4 := R3.qt q4
          have hb4 : Below w.heap.size w w4 := hb3.trans q4.below
          go_wp2_with fail
          refine (over_at A2 n c2 l _ _ _ R4 Hl.out (by omega) (by omega) (by omega)).mono ?_
          rintro e w5 ⟨Z, hZ, rfl, q5⟩
          have HZ := Lib.hid hZ
          clear hZ
          have hb5 : Below w.heap.size w w5 := hb4.trans q5.below
          go_wp2
          have UL := isU64_scanAt (l := l) a
          go_loopw [23, 24] (fun x u wr => ∃ t : Nat, a ≤ t ∧ t ≤ b ∧ u = .int .i64 t ∧ x = .int .u64 (xor64 (scanAt xor64 0 l t) (scanAt xor64 0 l a)) ∧ Qt w5 wr) (fun _ u _ => b - (intOf u).toNat)
          case atStart => exact ⟨a, by omega, by omega, rfl, by rw [xor64_self UL], Qt.refl _⟩
          case round =>
            obtain ⟨t, t1, t2, rfl, rfl, q6⟩ := hrel
            have hb6 : Below w.heap.size w wr := hb5.trans q6.below
            by_cases hlt : t < b
            · have htl : t < l.length := by rw [Hl.out]; omega
              obtain ⟨b1, f1, rfl, hc1⟩ := (ha.below hb6).u64 (show t < n by omega)
              have H5 := Lib.hid (scanAt_succ xor64 0 l t htl)
              go_wp2
              go_roundw
              case rel => exact ⟨t + 1, by omega, by omega, by go_num, by rw [H5.out, ← xor64_swap (isU64_scanAt t) UL (getD_isU64 hu htl)]; rfl, q6⟩
              case measure => simp [intOf]; omega
            · have et : t = b := by omega
              have hXV : (X == xor64 (scanAt xor64 0 l b) (scanAt xor64 0 l a)) = true := by
                rw [beq_iff_eq, HX.out]
                congr 2 <;> omega
              have hYZ : (X == bits .xor .u64 Y Z) = true := by
                rw [beq_iff_eq, HX.out]
                show _ = xor64 Y Z
                rw [HY.out, HZ.out]
                exact xor64_mid (isU64_scanAt _) (isU64_scanAt _) (isU64_scanAt _)
              subst et
              go_wp2
              go_ret
              exact ⟨rfl, hb6⟩
        · go_enter Try.func5, Try.ntmps5
          go_wp2_with fail
          refine (foldAlive _).mono ?_
          rintro e w1 ⟨rfl, hb1⟩
          go_wp2
          go_quiet (fail)
          go_wp2_with fail
          refine (xors_rd A n c l _ (ha.below (hb1.trans (Qt.below ⟨_, rfl⟩))) (by omega)).mono ?_
          rintro e w2 ⟨A2, c2, rfl, R2, b2⟩
          have hb2 : Below w.heap.size w w2 := (hb1.trans (Qt.below ⟨_, rfl⟩)).trans (b2.mono (hb1.trans (Qt.below ⟨_, rfl⟩)).size)
          clear b2
          go_wp2_with fail
          refine (over_at A2 n c2 l _ _ _ R2 Hl.out (by omega) (by omega) (by omega)).mono ?_
          rintro e w3 ⟨X, hX, rfl, q3⟩
          have HX := Lib.hid hX
          clear hX
          have R3 := R2.qt q3
          have hb3 : Below w.heap.size w w3 := hb2.trans q3.below
          go_wp2_with fail
          refine (over_at A2 n c2 l _ _ _ R3 Hl.out (by omega) (by omega) (by omega)).mono ?_
          rintro e w4 ⟨Y, hY, rfl, q4⟩
          have HY := Lib.hid hY
          clear hY
          have R4 := R3.qt q4
          have hb4 : Below w.heap.size w w4 := hb3.trans q4.below
          go_wp2_with fail
          refine (over_at A2 n c2 l _ _ _ R4 Hl.out (by omega) (by omega) (by omega)).mono ?_
          rintro e w5 ⟨Z, hZ, rfl, q5⟩
          have HZ := Lib.hid hZ
          clear hZ
          have hb5 : Below w.heap.size w w5 := hb4.trans q5.below
          go_wp2
          have UL := isU64_scanAt (l := l) d
          go_loopw [23, 24] (fun x u wr => ∃ t : Nat, d ≤ t ∧ t ≤ b ∧ u = .int .i64 t ∧ x = .int .u64 (xor64 (scanAt xor64 0 l t) (scanAt xor64 0 l d)) ∧ Qt w5 wr) (fun _ u _ => b - (intOf u).toNat)
          case atStart => exact ⟨d, by omega, by omega, rfl, by rw [xor64_self UL], Qt.refl _⟩
          case round =>
            obtain ⟨t, t1, t2, rfl, rfl, q6⟩ := hrel
            have hb6 : Below w.heap.size w wr := hb5.trans q6.below
            by_cases hlt : t < b
            · have htl : t < l.length := by rw [Hl.out]; omega
              obtain ⟨b1, f1, rfl, hc1⟩ := (ha.below hb6).u64 (show t < n by omega)
              have H5 := Lib.hid (scanAt_succ xor64 0 l t htl)
              go_wp2
              go_roundw
              case rel => exact ⟨t + 1, by omega, by omega, by go_num, by rw [H5.out, ← xor64_swap (isU64_scanAt t) UL (getD_isU64 hu htl)]; rfl, q6⟩
              case measure => simp [intOf]; omega
            · have et : t = b := by omega
              have hXV : (X == xor64 (scanAt xor64 0 l b) (scanAt xor64 0 l d)) = true := by
                rw [beq_iff_eq, HX.out]
                congr 2 <;> omega
              have hYZ : (X == bits .xor .u64 Y Z) = true := by
                rw [beq_iff_eq, HX.out]
                show _ = xor64 Y Z
                rw [HY.out, HZ.out]
                exact xor64_mid (isU64_scanAt _) (isU64_scanAt _) (isU64_scanAt _)
              subst et
              go_wp2
              go_ret
              exact ⟨rfl, hb6⟩
    · rcases Nat.lt_trichotomy a d with o | rfl | o
      · go_enter Try.func5, Try.ntmps5
        go_wp2_with fail
        refine (foldAlive _).mono ?_
        rintro e w1 ⟨rfl, hb1⟩
        go_wp2
        go_quiet (fail)
        go_wp2_with fail
        refine (xors_rd A n c l _ (ha.below (hb1.trans (Qt.below ⟨_, rfl⟩))) (by omega)).mono ?_
        rintro e w2 ⟨A2, c2, rfl, R2, b2⟩
        have hb2 : Below w.heap.size w w2 := (hb1.trans (Qt.below ⟨_, rfl⟩)).trans (b2.mono (hb1.trans (Qt.below ⟨_, rfl⟩)).size)
        clear b2
        go_wp2_with fail
        refine (over_at A2 n c2 l _ _ _ R2 Hl.out (by omega) (by omega) (by omega)).mono ?_
        rintro e w3 ⟨X, hX, rfl, q3⟩
        have HX := Lib.hid hX
        clear hX
        have R3 := R2.qt q3
        have hb3 : Below w.heap.size w w3 := hb2.trans q3.below
        go_wp2_with fail
        refine (over_at A2 n c2 l _ _ _ R3 Hl.out (by omega) (by omega) (by omega)).mono ?_
        rintro e w4 ⟨Y, hY, rfl, q4⟩
        have HY := Lib.hid hY
        clear hY
        have R4 := R3.qt q4
        have hb4 : Below w.heap.size w w4 := hb3.trans q4.below
        go_wp2_with fail
        refine (over_at A2 n c2 l _ _ _ R4 Hl.out (by omega) (by omega) (by omega)).mono ?_
        rintro e w5 ⟨Z, hZ, rfl, q5⟩
        have HZ := Lib.hid hZ
        clear hZ
        have hb5 : Below w.heap.size w w5 := hb4.trans q5.below
        go_wp2
        have UL := isU64_scanAt (l := l) a
        go_loopw [23, 24] (fun x u wr => ∃ t : Nat, a ≤ t ∧ t ≤ d ∧ u = .int .i64 t ∧ x = .int .u64 (xor64 (scanAt xor64 0 l t) (scanAt xor64 0 l a)) ∧ Qt w5 wr) (fun _ u _ => d - (intOf u).toNat)
        case atStart => exact ⟨a, by omega, by omega, rfl, by rw [xor64_self UL], Qt.refl _⟩
        case round =>
          obtain ⟨t, t1, t2, rfl, rfl, q6⟩ := hrel
          have hb6 : Below w.heap.size w wr := hb5.trans q6.below
          by_cases hlt : t < d
          · have htl : t < l.length := by rw [Hl.out]; omega
            obtain ⟨b1, f1, rfl, hc1⟩ := (ha.below hb6).u64 (show t < n by omega)
            have H5 := Lib.hid (scanAt_succ xor64 0 l t htl)
            go_wp2
            go_roundw
            case rel => exact ⟨t + 1, by omega, by omega, by go_num, by rw [H5.out, ← xor64_swap (isU64_scanAt t) UL (getD_isU64 hu htl)]; rfl, q6⟩
            case measure => simp [intOf]; omega
          · have et : t = d := by omega
            have hXV : (X == xor64 (scanAt xor64 0 l d) (scanAt xor64 0 l a)) = true := by
              rw [beq_iff_eq, HX.out]
              congr 2 <;> omega
            have hYZ : (X == bits .xor .u64 Y Z) = true := by
              rw [beq_iff_eq, HX.out]
              show _ = xor64 Y Z
              rw [HY.out, HZ.out]
              exact xor64_mid (isU64_scanAt _) (isU64_scanAt _) (isU64_scanAt _)
            subst et
            go_wp2
            go_ret
            exact ⟨rfl, hb6⟩
      · go_enter Try.func5, Try.ntmps5
        go_wp2_with fail
        refine (foldAlive _).mono ?_
        rintro e w1 ⟨rfl, hb1⟩
        go_wp2
        go_quiet (fail)
        go_wp2_with fail
        refine (xors_rd A n c l _ (ha.below (hb1.trans (Qt.below ⟨_, rfl⟩))) (by omega)).mono ?_
        rintro e w2 ⟨A2, c2, rfl, R2, b2⟩
        have hb2 : Below w.heap.size w w2 := (hb1.trans (Qt.below ⟨_, rfl⟩)).trans (b2.mono (hb1.trans (Qt.below ⟨_, rfl⟩)).size)
        clear b2
        go_wp2_with fail
        refine (over_at A2 n c2 l _ _ _ R2 Hl.out (by omega) (by omega) (by omega)).mono ?_
        rintro e w3 ⟨X, hX, rfl, q3⟩
        have HX := Lib.hid hX
        clear hX
        have R3 := R2.qt q3
        have hb3 : Below w.heap.size w w3 := hb2.trans q3.below
        go_wp2_with fail
        refine (over_at A2 n c2 l _ _ _ R3 Hl.out (by omega) (by omega) (by omega)).mono ?_
        rintro e w4 ⟨Y, hY, rfl, q4⟩
        have HY := Lib.hid hY
        clear hY
        have R4 := R3.qt q4
        have hb4 : Below w.heap.size w w4 := hb3.trans q4.below
        go_wp2_with fail
        refine (over_at A2 n c2 l _ _ _ R4 Hl.out (by omega) (by omega) (by omega)).mono ?_
        rintro e w5 ⟨Z, hZ, rfl, q5⟩
        have HZ := Lib.hid hZ
        clear hZ
        have hb5 : Below w.heap.size w w5 := hb4.trans q5.below
        go_wp2
        have UL := isU64_scanAt (l := l) a
        go_loopw [23, 24] (fun x u wr => ∃ t : Nat, a ≤ t ∧ t ≤ a ∧ u = .int .i64 t ∧ x = .int .u64 (xor64 (scanAt xor64 0 l t) (scanAt xor64 0 l a)) ∧ Qt w5 wr) (fun _ u _ => a - (intOf u).toNat)
        case atStart => exact ⟨a, by omega, by omega, rfl, by rw [xor64_self UL], Qt.refl _⟩
        case round =>
          obtain ⟨t, t1, t2, rfl, rfl, q6⟩ := hrel
          have hb6 : Below w.heap.size w wr := hb5.trans q6.below
          by_cases hlt : t < a
          · have htl : t < l.length := by rw [Hl.out]; omega
            obtain ⟨b1, f1, rfl, hc1⟩ := (ha.below hb6).u64 (show t < n by omega)
            have H5 := Lib.hid (scanAt_succ xor64 0 l t htl)
            go_wp2
            go_roundw
            case rel => exact ⟨t + 1, by omega, by omega, by go_num, by rw [H5.out, ← xor64_swap (isU64_scanAt t) UL (getD_isU64 hu htl)]; rfl, q6⟩
            case measure => simp [intOf]; omega
          · have et : t = a := by omega
            have hXV : (X == xor64 (scanAt xor64 0 l a) (scanAt xor64 0 l a)) = true := by
              rw [beq_iff_eq, HX.out]
              congr 2 <;> omega
            have hYZ : (X == bits .xor .u64 Y Z) = true := by
              rw [beq_iff_eq, HX.out]
              show _ = xor64 Y Z
              rw [HY.out, HZ.out]
              exact xor64_mid (isU64_scanAt _) (isU64_scanAt _) (isU64_scanAt _)
            subst et
            go_wp2
            go_ret
            exact ⟨rfl, hb6⟩
      · go_enter Try.func5, Try.ntmps5
        go_wp2_with fail
        refine (foldAlive _).mono ?_
        rintro e w1 ⟨rfl, hb1⟩
        go_wp2
        go_quiet (fail)
        go_wp2_with fail
        refine (xors_rd A n c l _ (ha.below (hb1.trans (Qt.below ⟨_, rfl⟩))) (by omega)).mono ?_
        rintro e w2 ⟨A2, c2, rfl, R2, b2⟩
        have hb2 : Below w.heap.size w w2 := (hb1.trans (Qt.below ⟨_, rfl⟩)).trans (b2.mono (hb1.trans (Qt.below ⟨_, rfl⟩)).size)
        clear b2
        go_wp2_with fail
        refine (over_at A2 n c2 l _ _ _ R2 Hl.out (by omega) (by omega) (by omega)).mono ?_
        rintro e w3 ⟨X, hX, rfl, q3⟩
        have HX := Lib.hid hX
        clear hX
        have R3 := R2.qt q3
        have hb3 : Below w.heap.size w w3 := hb2.trans q3.below
        go_wp2_with fail
        refine (over_at A2 n c2 l _ _ _ R3 Hl.out (by omega) (by omega) (by omega)).mono ?_
        rintro e w4 ⟨Y, hY, rfl, q4⟩
        have HY := Lib.hid hY
        clear hY
        have R4 := R3.qt q4
        have hb4 : Below w.heap.size w w4 := hb3.trans q4.below
        go_wp2_with fail
        refine (over_at A2 n c2 l _ _ _ R4 Hl.out (by omega) (by omega) (by omega)).mono ?_
        rintro e w5 ⟨Z, hZ, rfl, q5⟩
        have HZ := Lib.hid hZ
        clear hZ
        have hb5 : Below w.heap.size w w5 := hb4.trans q5.below
        go_wp2
        have UL := isU64_scanAt (l := l) d
        go_loopw [23, 24] (fun x u wr => ∃ t : Nat, d ≤ t ∧ t ≤ a ∧ u = .int .i64 t ∧ x = .int .u64 (xor64 (scanAt xor64 0 l t) (scanAt xor64 0 l d)) ∧ Qt w5 wr) (fun _ u _ => a - (intOf u).toNat)
        case atStart => exact ⟨d, by omega, by omega, rfl, by rw [xor64_self UL], Qt.refl _⟩
        case round =>
          obtain ⟨t, t1, t2, rfl, rfl, q6⟩ := hrel
          have hb6 : Below w.heap.size w wr := hb5.trans q6.below
          by_cases hlt : t < a
          · have htl : t < l.length := by rw [Hl.out]; omega
            obtain ⟨b1, f1, rfl, hc1⟩ := (ha.below hb6).u64 (show t < n by omega)
            have H5 := Lib.hid (scanAt_succ xor64 0 l t htl)
            go_wp2
            go_roundw
            case rel => exact ⟨t + 1, by omega, by omega, by go_num, by rw [H5.out, ← xor64_swap (isU64_scanAt t) UL (getD_isU64 hu htl)]; rfl, q6⟩
            case measure => simp [intOf]; omega
          · have et : t = a := by omega
            have hXV : (X == xor64 (scanAt xor64 0 l a) (scanAt xor64 0 l d)) = true := by
              rw [beq_iff_eq, HX.out]
              congr 2 <;> omega
            have hYZ : (X == bits .xor .u64 Y Z) = true := by
              rw [beq_iff_eq, HX.out]
              show _ = xor64 Y Z
              rw [HY.out, HZ.out]
              exact xor64_mid (isU64_scanAt _) (isU64_scanAt _) (isU64_scanAt _)
            subst et
            go_wp2
            go_ret
            exact ⟨rfl, hb6⟩
    · rcases Nat.lt_trichotomy a d with o | rfl | o
      · go_enter Try.func5, Try.ntmps5
        go_wp2_with fail
        refine (foldAlive _).mono ?_
        rintro e w1 ⟨rfl, hb1⟩
        go_wp2
        go_quiet (fail)
        go_wp2_with fail
        refine (xors_rd A n c l _ (ha.below (hb1.trans (Qt.below ⟨_, rfl⟩))) (by omega)).mono ?_
        rintro e w2 ⟨A2, c2, rfl, R2, b2⟩
        have hb2 : Below w.heap.size w w2 := (hb1.trans (Qt.below ⟨_, rfl⟩)).trans (b2.mono (hb1.trans (Qt.below ⟨_, rfl⟩)).size)
        clear b2
        go_wp2_with fail
        refine (over_at A2 n c2 l _ _ _ R2 Hl.out (by omega) (by omega) (by omega)).mono ?_
        rintro e w3 ⟨X, hX, rfl, q3⟩
        have HX := Lib.hid hX
        clear hX
        have R3 := R2.qt q3
        have hb3 : Below w.heap.size w w3 := hb2.trans q3.below
        go_wp2_with fail
        refine (over_at A2 n c2 l _ _ _ R3 Hl.out (by omega) (by omega) (by omega)).mono ?_
        rintro e w4 ⟨Y, hY, rfl, q4⟩
        have HY := Lib.hid hY
        clear hY
        have R4 := R3.qt q4
        have hb4 : Below w.heap.size w w4 := hb3.trans q4.below
        go_wp2_with fail
        refine (over_at A2 n c2 l _ _ _ R4 Hl.out (by omega) (by omega) (by omega)).mono ?_
        rintro e w5 ⟨Z, hZ, rfl, q5⟩
        have HZ := Lib.hid hZ
        clear hZ
        have hb5 : Below w.heap.size w w5 := hb4.trans q5.below
        go_wp2
        have UL := isU64_scanAt (l := l) b
        go_loopw [23, 24] (fun x u wr => ∃ t : Nat, b ≤ t ∧ t ≤ d ∧ u = .int .i64 t ∧ x = .int .u64 (xor64 (scanAt xor64 0 l t) (scanAt xor64 0 l b)) ∧ Qt w5 wr) (fun _ u _ => d - (intOf u).toNat)
        case atStart => exact ⟨b, by omega, by omega, rfl, by rw [xor64_self UL], Qt.refl _⟩
        case round =>
          obtain ⟨t, t1, t2, rfl, rfl, q6⟩ := hrel
          have hb6 : Below w.heap.size w wr := hb5.trans q6.below
          by_cases hlt : t < d
          · have htl : t < l.length := by rw [Hl.out]; omega
            obtain ⟨b1, f1, rfl, hc1⟩ := (ha.below hb6).u64 (show t < n by omega)
            have H5 := Lib.hid (scanAt_succ xor64 0 l t htl)
            go_wp2
            go_roundw
            case rel => exact ⟨t + 1, by omega, by omega, by go_num, by rw [H5.out, ← xor64_swap (isU64_scanAt t) UL (getD_isU64 hu htl)]; rfl, q6⟩
            case measure => simp [intOf]; omega
          · have et : t = d := by omega
            have hXV : (X == xor64 (scanAt xor64 0 l d) (scanAt xor64 0 l b)) = true := by
              rw [beq_iff_eq, HX.out]
              congr 2 <;> omega
            have hYZ : (X == bits .xor .u64 Y Z) = true := by
              rw [beq_iff_eq, HX.out]
              show _ = xor64 Y Z
              rw [HY.out, HZ.out]
              exact xor64_mid (isU64_scanAt _) (isU64_scanAt _) (isU64_scanAt _)
            subst et
            go_wp2
            go_ret
            exact ⟨rfl, hb6⟩
      · go_enter Try.func5, Try.ntmps5
        go_wp2_with fail
        refine (foldAlive _).mono ?_
        rintro e w1 ⟨rfl, hb1⟩
        go_wp2
        go_quiet (fail)
        go_wp2_with fail
        refine (xors_rd A n c l _ (ha.below (hb1.trans (Qt.below ⟨_, rfl⟩))) (by omega)).mono ?_
        rintro e w2 ⟨A2, c2, rfl, R2, b2⟩
        have hb2 : Below w.heap.size w w2 := (hb1.trans (Qt.below ⟨_, rfl⟩)).trans (b2.mono (hb1.trans (Qt.below ⟨_, rfl⟩)).size)
        clear b2
        go_wp2_with fail
        refine (over_at A2 n c2 l _ _ _ R2 Hl.out (by omega) (by omega) (by omega)).mono ?_
        rintro e w3 ⟨X, hX, rfl, q3⟩
        have HX := Lib.hid hX
        clear hX
        have R3 := R2.qt q3
        have hb3 : Below w.heap.size w w3 := hb2.trans q3.below
        go_wp2_with fail
        refine (over_at A2 n c2 l _ _ _ R3 Hl.out (by omega) (by omega) (by omega)).mono ?_
        rintro e w4 ⟨Y, hY, rfl, q4⟩
        have HY := Lib.hid hY
        clear hY
        have R4 := R3.qt q4
        have hb4 : Below w.heap.size w w4 := hb3.trans q4.below
        go_wp2_with fail
        refine (over_at A2 n c2 l _ _ _ R4 Hl.out (by omega) (by omega) (by omega)).mono ?_
        rintro e w5 ⟨Z, hZ, rfl, q5⟩
        have HZ := Lib.hid hZ
        clear hZ
        have hb5 : Below w.heap.size w w5 := hb4.trans q5.below
        go_wp2
        have UL := isU64_scanAt (l := l) b
        go_loopw [23, 24] (fun x u wr => ∃ t : Nat, b ≤ t ∧ t ≤ a ∧ u = .int .i64 t ∧ x = .int .u64 (xor64 (scanAt xor64 0 l t) (scanAt xor64 0 l b)) ∧ Qt w5 wr) (fun _ u _ => a - (intOf u).toNat)
        case atStart => exact ⟨b, by omega, by omega, rfl, by rw [xor64_self UL], Qt.refl _⟩
        case round =>
          obtain ⟨t, t1, t2, rfl, rfl, q6⟩ := hrel
          have hb6 : Below w.heap.size w wr := hb5.trans q6.below
          by_cases hlt : t < a
          · have htl : t < l.length := by rw [Hl.out]; omega
            obtain ⟨b1, f1, rfl, hc1⟩ := (ha.below hb6).u64 (show t < n by omega)
            have H5 := Lib.hid (scanAt_succ xor64 0 l t htl)
            go_wp2
            go_roundw
            case rel => exact ⟨t + 1, by omega, by omega, by go_num, by rw [H5.out, ← xor64_swap (isU64_scanAt t) UL (getD_isU64 hu htl)]; rfl, q6⟩
            case measure => simp [intOf]; omega
          · have et : t = a := by omega
            have hXV : (X == xor64 (scanAt xor64 0 l a) (scanAt xor64 0 l b)) = true := by
              rw [beq_iff_eq, HX.out]
              congr 2 <;> omega
            have hYZ : (X == bits .xor .u64 Y Z) = true := by
              rw [beq_iff_eq, HX.out]
              show _ = xor64 Y Z
              rw [HY.out, HZ.out]
              exact xor64_mid (isU64_scanAt _) (isU64_scanAt _) (isU64_scanAt _)
            subst et
            go_wp2
            go_ret
            exact ⟨rfl, hb6⟩
      · rcases Nat.lt_trichotomy b d with o | rfl | o
        · go_enter Try.func5, Try.ntmps5
          go_wp2_with fail
          refine (foldAlive _).mono ?_
          rintro e w1 ⟨rfl, hb1⟩
          go_wp2
          go_quiet (fail)
          go_wp2_with fail
          refine (xors_rd A n c l _ (ha.below (hb1.trans (Qt.below ⟨_, rfl⟩))) (by omega)).mono ?_
          rintro e w2 ⟨A2, c2, rfl, R2, b2⟩
          have hb2 : Below w.heap.size w w2 := (hb1.trans (Qt.below ⟨_, rfl⟩)).trans (b2.mono (hb1.trans (Qt.below ⟨_, rfl⟩)).size)
          clear b2
          go_wp2_with fail
          refine (over_at A2 n c2 l _ _ _ R2 Hl.out (by omega) (by omega) (by omega)).mono ?_
          rintro e w3 ⟨X, hX, rfl, q3⟩
          have HX := Lib.hid hX
          clear hX
          have R3 := R2.qt q3
          have hb3 : Below w.heap.size w w3 := hb2.trans q3.below
          go_wp2_with fail
          refine (over_at A2 n c2 l _ _ _ R3 Hl.out (by omega) (by omega) (by omega)).mono ?_
          rintro e w4 ⟨Y, hY, rfl, q4⟩
          have HY := Lib.hid hY
          clear hY
          have R4 := R3.qt q4
          have hb4 : Below w.heap.size w w4 := hb3.trans q4.below
          go_wp2_with fail
          refine (over_at A2 n c2 l _ _ _ R4 Hl.out (by omega) (by omega) (by omega)).mono ?_
          rintro e w5 ⟨Z, hZ, rfl, q5⟩
          have HZ := Lib.hid hZ
          clear hZ
          have hb5 : Below w.heap.size w w5 := hb4.trans q5.below
          go_wp2
          have UL := isU64_scanAt (l := l) b
          go_loopw [23, 24] (fun x u wr => ∃ t : Nat, b ≤ t ∧ t ≤ a ∧ u = .int .i64 t ∧ x = .int .u64 (xor64 (scanAt xor64 0 l t) (scanAt xor64 0 l b)) ∧ Qt w5 wr) (fun _ u _ => a - (intOf u).toNat)
          case atStart => exact ⟨b, by omega, by omega, rfl, by rw [xor64_self UL], Qt.refl _⟩
          case round =>
            obtain ⟨t, t1, t2, rfl, rfl, q6⟩ := hrel
            have hb6 : Below w.heap.size w wr := hb5.trans q6.below
            by_cases hlt : t < a
            · have htl : t < l.length := by rw [Hl.out]; omega
              obtain ⟨b1, f1, rfl, hc1⟩ := (ha.below hb6).u64 (show t < n by omega)
              have H5 := Lib.hid (scanAt_succ xor64 0 l t htl)
              go_wp2
              go_roundw
              case rel => exact ⟨t + 1, by omega, by omega, by go_num, by rw [H5.out, ← xor64_swap (isU64_scanAt t) UL (getD_isU64 hu htl)]; rfl, q6⟩
              case measure => simp [intOf]; omega
            · have et : t = a := by omega
              have hXV : (X == xor64 (scanAt xor64 0 l a) (scanAt xor64 0 l b)) = true := by
                rw [beq_iff_eq, HX.out]
                congr 2 <;> omega
              have hYZ : (X == bits .xor .u64 Y Z) = true := by
                rw [beq_iff_eq, HX.out]
                show _ = xor64 Y Z
                rw [HY.out, HZ.out]
                exact xor64_mid (isU64_scanAt _) (isU64_scanAt _) (isU64_scanAt _)
              subst et
              go_wp2
              go_ret
              exact ⟨rfl, hb6⟩
        · go_enter Try.func5, Try.ntmps5
          go_wp2_with fail
          refine (foldAlive _).mono ?_
          rintro e w1 ⟨rfl, hb1⟩
          go_wp2
          go_quiet (fail)
          go_wp2_with fail
          refine (xors_rd A n c l _ (ha.below (hb1.trans (Qt.below ⟨_, rfl⟩))) (by omega)).mono ?_
          rintro e w2 ⟨A2, c2, rfl, R2, b2⟩
          have hb2 : Below w.heap.size w w2 := (hb1.trans (Qt.below ⟨_, rfl⟩)).trans (b2.mono (hb1.trans (Qt.below ⟨_, rfl⟩)).size)
          clear b2
          go_wp2_with fail
          refine (over_at A2 n c2 l _ _ _ R2 Hl.out (by omega) (by omega) (by omega)).mono ?_
          rintro e w3 ⟨X, hX, rfl, q3⟩
          have HX := Lib.hid hX
          clear hX
          have R3 := R2.qt q3
          have hb3 : Below w.heap.size w w3 := hb2.trans q3.below
          go_wp2_with fail
          refine (over_at A2 n c2 l _ _ _ R3 Hl.out (by omega) (by omega) (by omega)).mono ?_
          rintro e w4 ⟨Y, hY, rfl, q4⟩
          have HY := Lib.hid hY
          clear hY
          have R4 := R3.qt q4
          have hb4 : Below w.heap.size w w4 := hb3.trans q4.below
          go_wp2_with fail
          refine (over_at A2 n c2 l _ _ _ R4 Hl.out (by omega) (by omega) (by omega)).mono ?_
          rintro e w5 ⟨Z, hZ, rfl, q5⟩
          have HZ := Lib.hid hZ
          clear hZ
          have hb5 : Below w.heap.size w w5 := hb4.trans q5.below
          go_wp2
          have UL := isU64_scanAt (l := l) b
          go_loopw [23, 24] (fun x u wr => ∃ t : Nat, b ≤ t ∧ t ≤ a ∧ u = .int .i64 t ∧ x = .int .u64 (xor64 (scanAt xor64 0 l t) (scanAt xor64 0 l b)) ∧ Qt w5 wr) (fun _ u _ => a - (intOf u).toNat)
          case atStart => exact ⟨b, by omega, by omega, rfl, by rw [xor64_self UL], Qt.refl _⟩
          case round =>
            obtain ⟨t, t1, t2, rfl, rfl, q6⟩ := hrel
            have hb6 : Below w.heap.size w wr := hb5.trans q6.below
            by_cases hlt : t < a
            · have htl : t < l.length := by rw [Hl.out]; omega
              obtain ⟨b1, f1, rfl, hc1⟩ := (ha.below hb6).u64 (show t < n by omega)
              have H5 := Lib.hid (scanAt_succ xor64 0 l t htl)
              go_wp2
              go_roundw
              case rel => exact ⟨t + 1, by omega, by omega, by go_num, by rw [H5.out, ← xor64_swap (isU64_scanAt t) UL (getD_isU64 hu htl)]; rfl, q6⟩
              case measure => simp [intOf]; omega
            · have et : t = a := by omega
              have hXV : (X == xor64 (scanAt xor64 0 l a) (scanAt xor64 0 l b)) = true := by
                rw [beq_iff_eq, HX.out]
                congr 2 <;> omega
              have hYZ : (X == bits .xor .u64 Y Z) = true := by
                rw [beq_iff_eq, HX.out]
                show _ = xor64 Y Z
                rw [HY.out, HZ.out]
                exact xor64_mid (isU64_scanAt _) (isU64_scanAt _) (isU64_scanAt _)
              subst et
              go_wp2
              go_ret
              exact ⟨rfl, hb6⟩
        · go_enter Try.func5, Try.ntmps5
          go_wp2_with fail
          refine (foldAlive _).mono ?_
          rintro e w1 ⟨rfl, hb1⟩
          go_wp2
          go_quiet (fail)
          go_wp2_with fail
          refine (xors_rd A n c l _ (ha.below (hb1.trans (Qt.below ⟨_, rfl⟩))) (by omega)).mono ?_
          rintro e w2 ⟨A2, c2, rfl, R2, b2⟩
          have hb2 : Below w.heap.size w w2 := (hb1.trans (Qt.below ⟨_, rfl⟩)).trans (b2.mono (hb1.trans (Qt.below ⟨_, rfl⟩)).size)
          clear b2
          go_wp2_with fail
          refine (over_at A2 n c2 l _ _ _ R2 Hl.out (by omega) (by omega) (by omega)).mono ?_
          rintro e w3 ⟨X, hX, rfl, q3⟩
          have HX := Lib.hid hX
          clear hX
          have R3 := R2.qt q3
          have hb3 : Below w.heap.size w w3 := hb2.trans q3.below
          go_wp2_with fail
          refine (over_at A2 n c2 l _ _ _ R3 Hl.out (by omega) (by omega) (by omega)).mono ?_
          rintro e w4 ⟨Y, hY, rfl, q4⟩
          have HY := Lib.hid hY
          clear hY
          have R4 := R3.qt q4
          have hb4 : Below w.heap.size w w4 := hb3.trans q4.below
          go_wp2_with fail
          refine (over_at A2 n c2 l _ _ _ R4 Hl.out (by omega) (by omega) (by omega)).mono ?_
          rintro e w5 ⟨Z, hZ, rfl, q5⟩
          have HZ := Lib.hid hZ
          clear hZ
          have hb5 : Below w.heap.size w w5 := hb4.trans q5.below
          go_wp2
          have UL := isU64_scanAt (l := l) d
          go_loopw [23, 24] (fun x u wr => ∃ t : Nat, d ≤ t ∧ t ≤ a ∧ u = .int .i64 t ∧ x = .int .u64 (xor64 (scanAt xor64 0 l t) (scanAt xor64 0 l d)) ∧ Qt w5 wr) (fun _ u _ => a - (intOf u).toNat)
          case atStart => exact ⟨d, by omega, by omega, rfl, by rw [xor64_self UL], Qt.refl _⟩
          case round =>
            obtain ⟨t, t1, t2, rfl, rfl, q6⟩ := hrel
            have hb6 : Below w.heap.size w wr := hb5.trans q6.below
            by_cases hlt : t < a
            · have htl : t < l.length := by rw [Hl.out]; omega
              obtain ⟨b1, f1, rfl, hc1⟩ := (ha.below hb6).u64 (show t < n by omega)
              have H5 := Lib.hid (scanAt_succ xor64 0 l t htl)
              go_wp2
              go_roundw
              case rel => exact ⟨t + 1, by omega, by omega, by go_num, by rw [H5.out, ← xor64_swap (isU64_scanAt t) UL (getD_isU64 hu htl)]; rfl, q6⟩
              case measure => simp [intOf]; omega
            · have et : t = a := by omega
              have hXV : (X == xor64 (scanAt xor64 0 l a) (scanAt xor64 0 l d)) = true := by
                rw [beq_iff_eq, HX.out]
                congr 2 <;> omega
              have hYZ : (X == bits .xor .u64 Y Z) = true := by
                rw [beq_iff_eq, HX.out]
                show _ = xor64 Y Z
                rw [HY.out, HZ.out]
                exact xor64_mid (isU64_scanAt _) (isU64_scanAt _) (isU64_scanAt _)
              subst et
              go_wp2
              go_ret
              exact ⟨rfl, hb6⟩
end Go.Proofs.Ytnfgmklkfbcjkaa
