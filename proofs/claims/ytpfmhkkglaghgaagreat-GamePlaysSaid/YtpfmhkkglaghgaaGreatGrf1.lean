/-
  Walks of the game's references: words, sets, rows, which numbers are a game.
-/
import Derived.Test.YtpfmhkkglaghgaaGreatGamK
import Derived.Test.YtpfmhkkglaghgaaGreatSpanG
import Derived.Test.YtpfmhkkglaghgaaGreatGuB
namespace Go.Proofs.YtpfmhkkglaghgaaGreat
set_option linter.unusedSimpArgs false
set_option linter.unusedVariables false
set_option linter.unnecessarySimpa false
open Go.RowKit

theorem grf_bit (s i : Nat) (w : World) (hs : s < 16) (hi : i < 4) :
    Calls Tryz.prog 33 #[.int .i64 s, .int .i64 i] w fun e w' => e = .returned (.bool (s.testBit i)) ∧ w = w' := by
  have hb := bit_i64 s hs i hi
  have wi : IntKind.u64.wrap (i : Int) = (i : Int) := IntWalk.u64_in _ (by omega)
  have hn : ((i : Int)).toNat = i := by omega
  go_enter Tryz.func33, Tryz.ntmps33
  go_wp2
  go_ret
  exact ⟨ret_bool (by simpa using hb), rfl⟩


theorem grf_mix (k : Int) (w : World) (hk : isU64 k) :
    Calls Tryz.prog 37 #[.int .u64 k] w fun e w' => e = .returned (.int .u64 (mixZ k)) ∧ w = w' := by
  have HK := Lib.hid hk
  clear hk
  have e : mixZ k = mixZ k := rfl
  go_enter Tryz.func37, Tryz.ntmps37
  go_wp2
  go_ret
  exact ⟨by unfold mixZ; rfl, rfl⟩


theorem grf_low (x : Int) (b : Nat) (w : World) (hx : isU64 x) (h1 : 1 ≤ b) (h6 : b ≤ 6) :
    Calls Tryz.prog 31 #[.int .u64 x, .int .i64 b] w fun e w' => e = .returned (.int .u64 ((x.toNat % 2 ^ b : Nat) : Int)) ∧ w = w' := by
  have hb := low_bits b h1 h6 x hx
  have wi : IntKind.u64.wrap (b : Int) = (b : Int) := IntWalk.u64_in _ (by omega)
  have hn : ((b : Int)).toNat = b := by omega
  have hp : (2 : Int) ^ b ≤ 64 := by
    have : (2 : Nat) ^ b ≤ 2 ^ 6 := Nat.pow_le_pow_right (by decide) h6
    have e : ((2 : Int) ^ b) = ((2 ^ b : Nat) : Int) := by simp
    omega
  have hp1 : (1 : Int) ≤ 2 ^ b := by
    have : 1 ≤ (2 : Nat) ^ b := Nat.one_le_two_pow
    have e : ((2 : Int) ^ b) = ((2 ^ b : Nat) : Int) := by simp
    omega
  have w1 : Hid (IntKind.u64.wrap (IntKind.u64.wrap ((2 : Int) ^ b) - 1) = 2 ^ b - 1) := Lib.hid (by rw [IntWalk.u64_in ((2 : Int) ^ b) (by omega)]; exact IntWalk.u64_in _ (by omega))
  have HB := Lib.hid hb
  have HX := Lib.hid hx
  have b1 : (1 : Int) ≤ b := by omega
  have b2 : (b : Int) < 64 := by omega
  clear hx hb hp hp1 hn
  go_enter Tryz.func31, Tryz.ntmps31
  go_wp2
  go_ret
  exact ⟨ret_int (by rw [w1.out]; exact HB.out), rfl⟩


theorem grf_fold (v x : Int) (w : World) :
    Calls Tryz.prog 34 #[.int .u64 v, .int .u64 x] w fun e w' => e = .returned (.int .u64 (foldV v x)) ∧ w = w' := by
  have K := Lib.hid (grf_mix (xor64 v x) w (isU64_wrap _))
  have E : Hid (foldV v x = mixZ (xor64 v x)) := Lib.hid rfl
  unfold xor64 at K E
  go_enter Tryz.func34, Tryz.ntmps34
  go_wp2_with fail
  refine K.out.mono ?_
  rintro e w' ⟨rfl, rfl⟩
  go_wp2
  go_ret
  exact ⟨ret_int E.out.symm, rfl⟩
set_option maxHeartbeats 4000000 in
set_option maxRecDepth 100000 in
theorem grf_row (s : Nat) (w : World) (hs : s < 16) :
    Calls Tryz.prog 36 #[.int .i64 s] w fun e w' => ∃ A c, e = .returned (.slice A (rowS s 4).length c) ∧ RdN w' w.heap.size A (rowS s 4).length c (Ss (rowS s 4)) ∧ Below w.heap.size w w' := by
  have K : Hid (∀ k, k ≤ 4 → Good (rowS s k) ∧ (∀ x ∈ rowS s k, 0 ≤ x.1 ∧ x.2 < 4) ∧ (rowS s k).length ≤ k ∧ U2s (rowS s k)) := Lib.hid (fun k hk => rowS_ok hs hk)
  go_enter Tryz.func36, Tryz.ntmps36
  go_wp2
  go_loopw [3, 4] (fun a iv wr => ∃ (j : Nat) (A : Option Addr) (c : Nat), j ≤ 4 ∧ iv = .int .i64 j ∧ a = .slice A (rowS s j).length c ∧ Hid (RdN wr w.heap.size A (rowS s j).length c (Ss (rowS s j))) ∧ Hid (Below w.heap.size w wr)) (fun _ i _ => 4 - (intOf i).toNat)
  case atStart => exact ⟨0, none, 0, Nat.zero_le _, rfl, rfl, Lib.hid ⟨Rd.nil_ _ _, fun b off e => by cases e⟩, Lib.hid (Below.refl _ _)⟩
  case round =>
    obtain ⟨j, A, c, hj, rfl, rfl, R, B⟩ := hrel
    by_cases hlt : j < 4
    · have H := Lib.hid (grf_bit s j wr hs (by omega))
      have wj : IntKind.u64.wrap (j : Int) = (j : Int) := IntWalk.u64_in _ (by omega)
      have hl := (K.out j (by omega)).2.2.1
      cases hb : s.testBit j with
      | false =>
        rw [hb] at H
        have e : Hid (rowS s (j + 1) = rowS s j) := Lib.hid (by show (if s.testBit j then _ else _) = _; rw [hb]; rfl)
        clear hb
        go_wp2_with fail
        refine H.out.mono ?_
        rintro e w1 ⟨rfl, rfl⟩
        go_wp2
        go_roundw
        case rel => exact ⟨j + 1, A, c, by omega, by go_num, by rw [e.out], by rw [e.out]; exact R, B⟩
        case measure => simp [intOf]; omega
      | true =>
        rw [hb] at H
        have e : Hid (rowS s (j + 1) = addP (rowS s j) ((j : Int), (j : Int))) := Lib.hid (by show (if s.testBit j then _ else _) = _; rw [hb]; rfl)
        clear hb
        have C1 := Lib.hid (addSpan_new A (rowS s j).length c (rowS s j) (j : Int) (j : Int) wr R.out.rd (K.out j (by omega)).1 ⟨Int.le_refl _, by unfold maxPn; omega⟩ (by omega) (K.out j (by omega)).2.2.2 (by omega))
        rw [← e.out] at C1
        go_wp2_with fail
        refine H.out.mono ?_
        rintro e w1 ⟨rfl, rfl⟩
        go_wp2_with fail
        refine C1.out.mono ?_
        rintro e w1 ⟨A', c', rfl, r1, b1⟩
        have R1 : Hid (RdN w1 w.heap.size A' (rowS s (j + 1)).length c' (Ss (rowS s (j + 1)))) := Lib.hid ⟨r1.rd, fun b off e hn => Nat.le_trans B.out.size (r1.nw b off e hn)⟩
        have B1 := Lib.hid (B.out.trans (b1.mono B.out.size))
        clear C1 r1 b1
        go_wp2
        go_roundw
        case rel => exact ⟨j + 1, A', c', by omega, by go_num, rfl, R1, B1⟩
        case measure => simp [intOf]; omega
    · obtain rfl : j = 4 := by omega
      go_wp2
      go_ret
      exact ⟨A, c, rfl, R.out, B.out⟩


set_option maxHeartbeats 4000000 in
set_option maxRecDepth 100000 in
theorem grf_may (b n came marked : Int) (l : List MvR) (A : Option Addr) (c : Nat) (w : World) (hb : isI64 b) (hn : isI64 n) (hr : Rd w 6 A l.length c (MvsR l)) :
    Calls Tryz.prog 11 #[rawVal b n came marked A l.length c] w fun e w' => e = .returned (.bool (rawB b n came marked l)) ∧ Below w.heap.size w w' := by
  have b0 := box_below w (.cells #[.int .i64 b, .int .i64 n, .int .i64 came, .int .i64 marked, .slice A l.length c] 24)
  have n0 := heap_alloc_new w (.cells #[.int .i64 b, .int .i64 n, .int .i64 came, .int .i64 marked, .slice A l.length c] 24)
  have B0 := Lib.hid b0
  have N0 := Lib.hid n0
  have HR := Lib.hid hr
  have hl63 := hr.cap
  have hl64 := hr.max
  unfold maxLen at hl64
  have s0 : (w.alloc (.cells #[.int .i64 b, .int .i64 n, .int .i64 came, .int .i64 marked, .slice A l.length c] 24)).heap.size = w.heap.size + 1 := by simp
  obtain ⟨hb1, hb2⟩ := hb
  obtain ⟨hn1, hn2⟩ := hn
  clear hr b0 n0
  unfold rawVal
  go_enter Tryz.func11, Tryz.ntmps11
  go_upto_region 1 with fail
  generalize (w.alloc (.cells #[.int .i64 b, .int .i64 n, .int .i64 came, .int .i64 marked, .slice A l.length c] 24)) = w1 at *
  have y0 := cell_of_row w1 w.heap.size 0 _ _ _ N0.out
  have y1 := cell_of_row w1 w.heap.size 1 _ _ _ N0.out
  have y2 := cell_of_row w1 w.heap.size 2 _ _ _ N0.out
  have y3 := cell_of_row w1 w.heap.size 3 _ _ _ N0.out
  have y4 := cell_of_row w1 w.heap.size 4 _ _ _ N0.out
  have F : Hid (¬ (1 ≤ b ∧ b ≤ 6 ∧ 1 ≤ n ∧ n ≤ 4 ∧ b * n ≤ 12 ∧ l.length ≤ 8) → false = rawB b n came marked l) := Lib.hid (fun h => (decide_eq_false (fun e => h e.1)).symm)
  by_cases c1 : b < 1
  · go_wp2
    go_ret
    exact ⟨ret_bool (F.out (by omega)), B0.out⟩
  by_cases c2 : b > 6
  · go_wp2
    go_ret
    exact ⟨ret_bool (F.out (by omega)), B0.out⟩
  by_cases c3 : n < 1
  · go_wp2
    go_ret
    exact ⟨ret_bool (F.out (by omega)), B0.out⟩
  by_cases c4 : n > 4
  · go_wp2
    go_ret
    exact ⟨ret_bool (F.out (by omega)), B0.out⟩
  obtain ⟨bn, rfl⟩ : ∃ x : Nat, b = x := ⟨b.toNat, by omega⟩
  obtain ⟨nn, rfl⟩ : ∃ x : Nat, n = x := ⟨n.toNat, by omega⟩
  have hp : (bn : Int) * nn ≤ 24 := by
    have h1 : bn * nn ≤ 6 * 4 := Nat.mul_le_mul (by omega) (by omega)
    have : ((bn * nn : Nat) : Int) = (bn : Int) * nn := by simp
    omega
  have hp0 : 0 ≤ (bn : Int) * nn := by
    have : ((bn * nn : Nat) : Int) = (bn : Int) * nn := by simp
    omega
  have wp : IntKind.i64.wrap ((bn : Int) * nn) = (bn : Int) * nn := IntWalk.i64_in _ (by omega)
  by_cases c5 : (bn : Int) * nn > 12
  · go_wp2
    go_ret
    exact ⟨ret_bool (F.out (by omega)), B0.out⟩
  by_cases c6 : (l.length : Int) > 8
  · go_wp2
    go_ret
    exact ⟨ret_bool (F.out (by omega)), B0.out⟩
  clear F
  have hnn : 1 ≤ nn ∧ nn ≤ 4 := by omega
  have hnt : (nn : Int).toNat = nn := by omega
  have wn : IntKind.u64.wrap (nn : Int) = nn := IntWalk.u64_in _ (by omega)
  have p16 : 2 ^ nn ≤ 16 := Nat.pow_le_pow_right (n := 2) (by decide) (j := 4) hnn.2
  have q1 := Nat.one_le_two_pow (n := nn)
  have ep : ((2 : Int) ^ nn) = ((2 ^ nn : Nat) : Int) := by simp
  have w2 : IntKind.i64.wrap ((2 : Int) ^ nn) = 2 ^ nn := IntWalk.i64_in _ (by omega)
  have w3 : IntKind.i64.wrap ((2 : Int) ^ nn - 1) = 2 ^ nn - 1 := IntWalk.i64_in _ (by omega)
  have RG : Hid (rawB bn nn came marked l = (decide (bits .andNot .i64 came (2 ^ nn - 1) = 0) && decide (bits .andNot .i64 marked came = 0) && decide (∀ m ∈ l, m.good nn))) := Lib.hid (by
    unfold rawB RawMay
    rw [Bool.eq_iff_iff]
    simp only [Bool.and_eq_true, decide_eq_true_eq, hnt]
    constructor
    · rintro ⟨-, h1, h2, h3⟩; exact ⟨⟨h1, h2⟩, h3⟩
    · rintro ⟨⟨h1, h2⟩, h3⟩; exact ⟨⟨by omega, by omega, by omega, by omega, by omega, by omega⟩, h1, h2, h3⟩)
  have n1' : (1 : Int) ≤ nn := by omega
  have n2' : (nn : Int) < 64 := by omega
  have w4 := Lib.hid w2
  have w5 := Lib.hid w3
  have ep2 : (1 : Int) ≤ 2 ^ nn ∧ (2 : Int) ^ nn ≤ 16 := by omega
  have E2 := Lib.hid ep2
  clear w2 w3 ep q1 p16 hp hp0 ep2
  go_upto_region 4 with fail
  have w6 : wrap64 (wrap64 ((2 : Int) ^ nn) - 1) = 2 ^ nn - 1 := by
    have := E2.out
    rw [wrap64_in (x := (2 : Int) ^ nn) (by omega), wrap64_in (by omega)]
  rw [w6]
  clear w4 w5 w6
  have GD : Hid (∀ m : MvR, m.good nn ↔ bits .andNot .i64 m.claim (2 ^ nn - 1) = 0 ∧ bits .andNot .i64 m.mark m.claim = 0 ∧ 0 ≤ m.fr ∧ m.fr < nn) := Lib.hid (fun m => by unfold MvR.good; rw [hnt])
  generalize (2 : Int) ^ nn - 1 = all at *
  by_cases d1 : bits .andNot .i64 came all = 0
  · by_cases d2 : bits .andNot .i64 marked came = 0
    · have RH : Hid (rawB bn nn came marked l = decide (∀ m ∈ l, m.good nn)) := Lib.hid (by rw [RG.out]; simp [d1, d2])
      clear RG
      go_wp2
      go_loopw [4] (fun iv wr => ∃ j : Nat, j ≤ l.length ∧ iv = .int .i64 j ∧ Hid (∀ m ∈ l.take j, m.good nn) ∧ Hid (Below w1.heap.size w1 wr)) (fun iv _ => l.length - (intOf iv).toNat)
      case atStart => exact ⟨0, Nat.zero_le _, rfl, Lib.hid (by simp), Lib.hid (Below.refl _ _)⟩
      case round =>
        obtain ⟨j, hj, rfl, HG, B1⟩ := hrel
        clear d1 d2 y0 y2 y3
        have sr := B1.out.size
        have y4 := (B1.out.cell (p := ⟨w.heap.size, 4, none⟩) (by show w.heap.size < w1.heap.size; omega)).trans y4
        have BF := Lib.hid (B0.out.trans (B1.out.mono (by omega)))
        by_cases hlt : j < l.length
        · obtain ⟨bb, off, eA, c0, c1', c2', c3', c4', c5'⟩ := MvsR.mv (HR.out.below BF.out) hlt
          have y1 := (B1.out.cell (p := ⟨w.heap.size, 1, none⟩) (by show w.heap.size < w1.heap.size; omega)).trans y1
          subst eA
          have HM : Hid (l[j] ∈ l) := Lib.hid (List.getElem_mem hlt)
          have HT : Hid (l.take (j + 1) = l.take j ++ [l[j]]) := Lib.hid (by rw [List.take_succ_eq_append_getElem hlt])
          generalize l[j] = m at *
          have F : Hid (¬ m.good nn → false = rawB bn nn came marked l) := Lib.hid (fun h => by rw [RH.out]; exact (decide_eq_false (fun e => h (e m HM.out))).symm)
          have hl : (j : Int) < l.length := by omega
          have BX := Lib.hid (box_below wr (.cells #[.int .i64 m.claim, .int .i64 m.mark, .int .i64 m.fr, .bool m.guess, .bool m.flip, .int .u64 m.salt] 41))
          have NX := Lib.hid (heap_alloc_new wr (.cells #[.int .i64 m.claim, .int .i64 m.mark, .int .i64 m.fr, .bool m.guess, .bool m.flip, .int .u64 m.salt] 41))
          go_upto_region 10 with fail
          have y1 := (BX.out.cell (p := ⟨w.heap.size, 1, none⟩) (by show w.heap.size < wr.heap.size; omega)).trans y1
          have BG := Lib.hid (B1.out.trans (BX.out.mono sr))
          have BH := Lib.hid (BF.out.trans (BX.out.mono (by omega)))
          clear BX c0 c1' c2' c3' c4' c5'
          generalize (wr.alloc (.cells #[.int .i64 m.claim, .int .i64 m.mark, .int .i64 m.fr, .bool m.guess, .bool m.flip, .int .u64 m.salt] 41)) = wx at *
          have z0 := cell_of_row wx wr.heap.size 0 _ _ _ NX.out
          have z1 := cell_of_row wx wr.heap.size 1 _ _ _ NX.out
          have z2 := cell_of_row wx wr.heap.size 2 _ _ _ NX.out
          have z3 := cell_of_row wx wr.heap.size 3 _ _ _ NX.out
          have z4 := cell_of_row wx wr.heap.size 4 _ _ _ NX.out
          have z5 := cell_of_row wx wr.heap.size 5 _ _ _ NX.out
          by_cases k1 : bits .andNot .i64 m.claim all = 0
          · by_cases k2 : bits .andNot .i64 m.mark m.claim = 0
            · by_cases k3 : m.fr < 0
              · go_wp2
                go_ret
                exact ⟨ret_bool (F.out (fun h => by have := ((GD.out m).1 h).2.2.1; omega)), BH.out⟩
              · by_cases k4 : m.fr ≥ nn
                · go_wp2
                  go_ret
                  exact ⟨ret_bool (F.out (fun h => by have := ((GD.out m).1 h).2.2.2; omega)), BH.out⟩
                · go_wp2
                  go_roundw
                  case rel => exact ⟨j + 1, by omega, by go_num, Lib.hid (by rw [HT.out]; intro x hx; rw [List.mem_append, List.mem_singleton] at hx; rcases hx with hx | rfl; exact HG.out x hx; exact (GD.out x).2 ⟨k1, k2, by omega, by omega⟩), BG⟩
                  case measure => simp [intOf]; omega
            · go_wp2
              go_ret
              exact ⟨ret_bool (F.out (fun h => k2 ((GD.out m).1 h).2.1)), BH.out⟩
          · go_wp2
            go_ret
            exact ⟨ret_bool (F.out (fun h => k1 ((GD.out m).1 h).1)), BH.out⟩
        · obtain rfl : j = l.length := by omega
          go_wp2
          go_ret
          exact ⟨ret_bool (by rw [RH.out]; refine (decide_eq_true ?_).symm; have h := HG.out; rw [List.take_length] at h; exact h), BF.out⟩
    · have F2 : Hid (false = rawB bn nn came marked l) := Lib.hid (by rw [RG.out]; simp [d2])
      have d3 : (bits .andNot .i64 marked came != 0) = true := by simpa using d2
      clear RG d2 wp
      go_wp2
      go_ret
      exact ⟨ret_bool F2.out, B0.out⟩
  · go_wp2
    go_ret
    exact ⟨ret_bool (by rw [RG.out]; simp [d1]), B0.out⟩


set_option maxHeartbeats 4000000 in
set_option maxRecDepth 100000 in
theorem grf_draws (b n came marked : Int) (l : List MvR) (A : Option Addr) (c : Nat) (w : World) (hb : isI64 b) (hn : isI64 n) (hr : Rd w 6 A l.length c (MvsR l)) :
    Calls Tryz.prog 7 #[rawVal b n came marked A l.length c] w fun e w' => e = .returned (.int .u64 (rawDraws b n came marked l)) ∧ Below w.heap.size w w' := by
  have b0 := box_below w (.cells #[.int .i64 b, .int .i64 n, .int .i64 came, .int .i64 marked, .slice A l.length c] 24)
  have n0 := heap_alloc_new w (.cells #[.int .i64 b, .int .i64 n, .int .i64 came, .int .i64 marked, .slice A l.length c] 24)
  have B0 := Lib.hid b0
  have N0 := Lib.hid n0
  have HR := Lib.hid (hr.below b0)
  have s0 : (w.alloc (.cells #[.int .i64 b, .int .i64 n, .int .i64 came, .int .i64 marked, .slice A l.length c] 24)).heap.size = w.heap.size + 1 := by simp
  clear hr b0 n0
  unfold rawVal
  go_enter Tryz.func7, Tryz.ntmps7
  go_upto_region 1 with fail
  generalize (w.alloc (.cells #[.int .i64 b, .int .i64 n, .int .i64 came, .int .i64 marked, .slice A l.length c] 24)) = w1 at *
  have y0 := cell_of_row w1 w.heap.size 0 _ _ _ N0.out
  have y1 := cell_of_row w1 w.heap.size 1 _ _ _ N0.out
  have y2 := cell_of_row w1 w.heap.size 2 _ _ _ N0.out
  have y3 := cell_of_row w1 w.heap.size 3 _ _ _ N0.out
  have y4 := cell_of_row w1 w.heap.size 4 _ _ _ N0.out
  have K := Lib.hid (grf_may b n came marked l A c w1 hb hn HR.out)
  unfold rawVal at K
  go_wp2_with fail
  (with_reducible refine K.out.mono ?_)
  rintro e w2 ⟨rfl, b2⟩
  have B2 := Lib.hid (B0.out.trans (b2.mono (by omega)))
  have N2 := Lib.hid ((b2.block _ (lt_of_block N0.out)).trans N0.out)
  clear K b2 N0 y0 y1 y2 y3 y4
  have y0 := cell_of_row w2 w.heap.size 0 _ _ _ N2.out
  have y1 := cell_of_row w2 w.heap.size 1 _ _ _ N2.out
  have y2 := cell_of_row w2 w.heap.size 2 _ _ _ N2.out
  have y3 := cell_of_row w2 w.heap.size 3 _ _ _ N2.out
  have y4 := cell_of_row w2 w.heap.size 4 _ _ _ N2.out
  cases hB : rawB b n came marked l with
  | false =>
    go_wp2
    go_ret
    exact ⟨ret_int (by unfold rawDraws; rw [hB]; rfl), B2.out⟩
  | true =>
    have hm : RawMay b n came marked l := of_decide_eq_true hB
    obtain ⟨⟨b1, b6, n1, n4, bn, -⟩, -⟩ := hm
    have hp : (b + 1) * n = b * n + n := by rw [Int.add_mul, Int.one_mul]
    have hp0 : 0 ≤ b * n := Int.mul_nonneg (by omega) (by omega)
    have w1 : IntKind.i64.wrap (b + 1) = b + 1 := IntWalk.i64_in _ (by omega)
    have w2 : IntKind.i64.wrap ((b + 1) * n) = (b + 1) * n := IntWalk.i64_in _ (by omega)
    have w3 : IntKind.u64.wrap ((b + 1) * n) = (b + 1) * n := IntWalk.u64_in _ (by omega)
    have RD : Hid (rawDraws b n came marked l = ((2 ^ ((b + 1) * n).toNat : Nat) : Int)) := Lib.hid (by unfold rawDraws; rw [hB, if_pos rfl])
    have p0 : 0 ≤ (b + 1) * n := by omega
    have p1 : (b + 1) * n < 64 := by omega
    clear hp hp0 bn
    go_wp2
    go_ret
    exact ⟨ret_int (by rw [RD.out]; exact wrap_pow (by omega)), B2.out⟩


/-- Of a game that may be. -/
theorem grf_drawsG (g : Gm) (A : Option Addr) (c : Nat) (w : World) (hg : g.ok) (hr : Rd w 6 A g.moves.length c (Mvs g.moves)) :
    Calls Tryz.prog 7 #[gmVal g A c] w fun e w' => e = .returned (.int .u64 g.draws) ∧ Below w.heap.size w w' := by
  have b6 := hg.b6
  have n4 := hg.n4
  have h := grf_draws g.b g.n g.came g.marked (g.moves.map Mv.raw) A c w ⟨by omega, by omega⟩ ⟨by omega, by omega⟩ (by rw [List.length_map, ← Mvs_raw]; exact hr)
  rw [gm_draws hg] at h
  unfold rawVal at h
  rw [List.length_map] at h
  exact h


/-- The reference's ledger and guard, clear of N. -/
structure AlR (N : Nat → Prop) (p b : Nat) (s : LS) (g : GS) (W : World) : Prop where
  ex : ∃ T F E, LedR W T p s ∧ GuRP W F E b g ∧ (∀ k, T k → ¬ F k ∧ ¬ E k) ∧ ∀ k, T k ∨ F k ∨ E k → k < W.heap.size ∧ ¬ N k
section
variable {N N' Z : Nat → Prop} {p b : Nat} {s : LS} {g : GS} {W W' : World}
theorem AlR.turn (h : AlR N p b s g W) (hc : Chg Z W W') (hZ : ∀ k, k < W.heap.size → Z k → N k) (hN : ∀ k, N' k → N k ∨ W.heap.size ≤ k) : AlR N' p b s g W' := by
  obtain ⟨T, F, E, hL, hG, hd, hs⟩ := h.ex
  have hsz := hc.size
  exact ⟨T, F, E, hL.chg hc (fun k hk ht hz => (hs k (.inl ht)).2 (hZ k hk hz)) (fun _ _ h => h), hG.chg hc (fun k hk hf hz => (hs k (.inr hf)).2 (hZ k hk hz)) (fun _ _ h => h) (fun _ _ h => h) hG.dj, hd, fun k hk => ⟨Nat.lt_of_lt_of_le (hs k hk).1 hsz, fun hn => (hN k hn).elim (hs k hk).2 (fun e => by have := (hs k hk).1; omega)⟩⟩
theorem AlR.sub (h : AlR N p b s g W) (hN : ∀ k, k < W.heap.size → N' k → N k) : AlR N' p b s g W := by
  obtain ⟨T, F, E, hL, hG, hd, hs⟩ := h.ex
  exact ⟨T, F, E, hL, hG, hd, fun k hk => ⟨(hs k hk).1, fun hn => (hs k hk).2 (hN k (hs k hk).1 hn)⟩⟩
theorem AlR.below (h : AlR N p b s g W) (q : Below W.heap.size W W') : AlR N p b s g W' := h.turn (chg_below q (F := fun _ => False)) (fun _ _ h => h.elim) (fun _ h => .inl h)
theorem alr_take (N : Nat → Prop) (p b : Nat) (s : LS) (g : GS) (W : World) (A : Option Addr) (c : Nat) (l : List Int) (now : Int) (h : AlR N p b s g W) (hN : ∀ k, N k → k < W.heap.size) (hr : Rd W 1 A l.length c (U8 l)) (hb : ∀ x ∈ l, 0 ≤ x ∧ x ≤ 255) (hl : l.length ≤ 70368744177664) (hnow : isU64 now) (hga : g.b.all.length ≤ 1000000) :
    Calls Tryz.prog 38 #[.pointer (some ⟨b, 0, none⟩), .pointer (some ⟨p, 0, none⟩), .slice A l.length c, .int .u64 now] W fun e W' => ∃ a : Ak, e = .returned (.tuple #[(g.take s l now).v.val, a.val]) ∧ a.is (g.take s l now).a ∧ AkE W' (fun k => W.heap.size ≤ k) a ∧ AlR N p b (g.take s l now).s (g.take s l now).g W' ∧ Chg (fun k => ¬ N k) W W' := by
  obtain ⟨T, F, E, hL, hG, hd, hs⟩ := h.ex
  refine (gur_take W T F E p b s g A c l now hL hG (fun k hk => (hs k hk).1) hd hr hb hl hnow hga).mono ?_
  rintro e W' ⟨a, rfl, ia, hA, lp, ⟨F', E', gp, hF', hE'⟩, hc⟩
  have hsz := hc.size
  refine ⟨a, rfl, ia, hA, ⟨T, fun k => F' k ∧ k < W'.heap.size, fun k => E' k ∧ k < W'.heap.size, lp, gp.sub (fun k hk h => ⟨h, hk⟩) (fun k hk h => ⟨h, hk⟩) (fun k hk hf => gp.dj k hk.1 hf.1), fun k ht => ?_, fun k hk => ?_⟩, hc.mono fun k _ hk hn => hk.elim (fun ht => (hs k (.inl ht)).2 hn) (fun hf => (hs k (.inr (.inl hf))).2 hn)⟩
  · have h1 := (hs k (.inl ht)).1
    exact ⟨fun hf => (hF' k hf.1).elim (hd k ht).1 (fun e => by omega), fun he => (hE' k he.1).elim (hd k ht).2 (fun e => by omega)⟩
  · rcases hk with hk | hk | hk
    · exact ⟨by have := (hs k (.inl hk)).1; omega, (hs k (.inl hk)).2⟩
    · exact ⟨hk.2, fun hn => (hF' k hk.1).elim (fun e => (hs k (.inr (.inl e))).2 hn) (fun e => by have := hN k hn; omega)⟩
    · exact ⟨hk.2, fun hn => (hE' k hk.1).elim (fun e => (hs k (.inr (.inr e))).2 hn) (fun e => by have := hN k hn; omega)⟩
end

end Go.Proofs.YtpfmhkkglaghgaaGreat
