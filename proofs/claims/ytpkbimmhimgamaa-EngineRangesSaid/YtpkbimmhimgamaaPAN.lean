/-
  Part of the proof of EngineRanges.
-/
import Derived.Test.YtpkbimmhimgamaaPAI
import Derived.Test.YtpkbimmhimgamaaPAJ
import Derived.Test.YtpkbimmhimgamaaPAE
import Derived.Test.YtpkbimmhimgamaaPAD
import Derived.Test.YtpkbimmhimgamaaPAC
import Derived.Test.YtpkbimmhimgamaaPAA
import Derived.StillTailTactics
import Derived.Laws.MakeOwn
import Derived.Deep.RegionHeld3
import Derived.Deep.DeepCutAuto
namespace Go.Proofs.Ytpkbimmhimgamaa
set_option linter.unusedSimpArgs false
set_option linter.unusedVariables false
set_option linter.unnecessarySimpa false
open Go.RowKit
theorem pow256 (k : Nat) : (2 : Int) ^ (8 * k) = 256 ^ k := by
  rw [Int.pow_mul]; rfl
theorem mod_mul (n P : Int) (hp : 0 < P) : n % (P * 256) = n % P + P * (n / P % 256) := by
  have h1 := Int.mul_ediv_add_emod n P
  have h2 := Int.mul_ediv_add_emod (n / P) 256
  have h3 := Int.emod_nonneg n (show P ≠ 0 by omega)
  have h4 := Int.emod_lt_of_pos n hp
  have h5 := Int.emod_nonneg (n / P) (show (256 : Int) ≠ 0 by decide)
  have h6 := Int.emod_lt_of_pos (n / P) (show (0 : Int) < 256 by decide)
  generalize hq : n / P = q at *
  have e : n = (n % P + P * (q % 256)) + (P * 256) * (q / 256) := by
    have : P * q = P * (256 * (q / 256)) + P * (q % 256) := by rw [← Int.mul_add, h2]
    rw [Int.mul_assoc]
    omega
  have h7 : P * (q % 256) ≤ P * 255 := Int.mul_le_mul_of_nonneg_left (by omega) (by omega)
  have h8 : 0 ≤ P * (q % 256) := Int.mul_nonneg (by omega) h5
  have h9 : (n % P + P * (q % 256)) % (P * 256) = n % P + P * (q % 256) := Int.emod_eq_of_lt (by omega) (by omega)
  rw [← h9]
  conv => lhs; rw [e]
  rw [Int.add_mul_emod_self_left]
theorem bytesN_succ (k : Nat) (n : Int) : bytesN (k + 1) n = byteN n k :: bytesN k n := by
  unfold bytesN
  rw [List.range_succ_eq_map, List.map_cons, List.map_map]
  simp only [Nat.add_sub_cancel, Nat.sub_zero]
  congr 1
  apply List.map_congr_left
  intro j hj
  have := List.mem_range.1 hj
  simp only [Function.comp]
  congr 1
  omega
theorem accN_bytes (k : Nat) (n : Int) : ∀ a, accN a (bytesN k n) = a * 256 ^ k + n % 256 ^ k := by
  induction k with
  | zero => intro a; simp [bytesN]
  | succ k ih =>
    intro a
    rw [bytesN_succ, accN_cons, ih]
    unfold byteN
    rw [pow256]
    have e : (256 : Int) ^ (k + 1) = 256 ^ k * 256 := Int.pow_succ ..
    rw [e]
    have hp : (0 : Int) < 256 ^ k := Int.pow_pos (by decide)
    generalize (256 : Int) ^ k = P at *
    have h1 : n % (P * 256) = n % P + P * (n / P % 256) := mod_mul n P hp
    rw [h1]
    have h2 : (a * 256 + n / P % 256) * P = a * (P * 256) + P * (n / P % 256) := by
      rw [Int.add_mul, Int.mul_assoc, Int.mul_comm 256 P, Int.mul_comm (n / P % 256) P]
    rw [h2]
    omega
theorem bytesN_u8 (k : Nat) (n : Int) : ∀ x ∈ bytesN k n, 0 ≤ x ∧ x ≤ 255 := by
  intro x hx
  obtain ⟨j, -, rfl⟩ := List.mem_map.1 hx
  exact byteN_rng n _
theorem size_pow (n : Int) (h0 : 0 ≤ n) (h1 : n ≤ 4611686018427387903) : n < 256 ^ sizeN n ∧ 1 ≤ sizeN n := by
  rcases sizeN_cases n with ⟨e, h⟩ | ⟨e, h, h'⟩ | ⟨e, h, h'⟩ | ⟨e, h, h'⟩ | ⟨e, h⟩ <;> rw [e]
  · exact ⟨by show n < 256; omega, by omega⟩
  · exact ⟨by show n < 65536; omega, by omega⟩
  · exact ⟨by show n < 4294967296; omega, by omega⟩
  · exact ⟨by show n < 18446744073709551616; omega, by omega⟩
  · omega
theorem putN_len (n : Int) (h0 : 0 ≤ n) (h1 : n ≤ 4611686018427387903) : (putN n).length = sizeN n := by
  have h := size_pow n h0 h1
  unfold putN
  obtain ⟨k, hk⟩ : ∃ k, sizeN n = k + 1 := ⟨sizeN n - 1, by omega⟩
  rw [hk, bytesN_succ]
  simp
theorem putN_u8 (n : Int) (h0 : 0 ≤ n) (h1 : n ≤ 4611686018427387903) : ∀ x ∈ putN n, 0 ≤ x ∧ x ≤ 255 := by
  have h := size_pow n h0 h1
  have ht := top_lt n h0 (sizeN n) rfl h.2
  intro x hx
  unfold putN at hx
  obtain ⟨k, hk⟩ : ∃ k, sizeN n = k + 1 := ⟨sizeN n - 1, by omega⟩
  rw [hk] at hx ht
  rw [bytesN_succ] at hx
  simp only [List.mem_cons, Nat.add_sub_cancel] at hx ht
  rcases hx with rfl | hx
  · unfold codeN
    split
    · omega
    · split
      · omega
      · split <;> omega
  · exact bytesN_u8 k n x hx
theorem numP_putN (n : Int) (r : List Int) (h0 : 0 ≤ n) (h1 : n ≤ 4611686018427387903) : numP (putN n ++ r) = .ok (n, sizeN n) := by
  have h := size_pow n h0 h1
  have ht := top_lt n h0 (sizeN n) rfl h.2
  have hc := sizeN_cases n
  unfold putN
  obtain ⟨k, hk⟩ : ∃ k, sizeN n = k + 1 := ⟨sizeN n - 1, by omega⟩
  have ha := accN_bytes (k + 1) n 0
  rw [bytesN_succ, accN_cons] at ha
  rw [hk] at h ht
  simp only [Nat.add_sub_cancel] at ht
  rw [hk, bytesN_succ]
  simp only [List.cons_append]
  have hkn : kN (byteN n k + codeN (k + 1)) = k + 1 := by
    rw [hk] at hc
    unfold kN codeN
    rcases hc with ⟨e, -⟩ | ⟨e, -⟩ | ⟨e, -⟩ | ⟨e, -⟩ | ⟨e, -⟩
    · obtain rfl : k = 0 := by omega
      simp only [Nat.zero_add, if_pos (show byteN n 0 + 0 < 64 by omega), show ¬ (1 = 2) by omega, show ¬ (1 = 4) by omega, show ¬ (1 = 8) by omega, if_false]
    · obtain rfl : k = 1 := by omega
      rw [if_neg (by simp; omega), if_pos (by simp; omega)]
    · obtain rfl : k = 3 := by omega
      rw [if_neg (by simp; omega), if_neg (by simp; omega), if_pos (by simp; omega)]
    · obtain rfl : k = 7 := by omega
      rw [if_neg (by simp; omega), if_neg (by simp; omega), if_neg (by simp; omega)]
    · omega
  have hm : (byteN n k + codeN (k + 1)) % 64 = byteN n k := by
    have : codeN (k + 1) % 64 = 0 := by
      unfold codeN
      split
      · rfl
      · split
        · rfl
        · split <;> rfl
    omega
  unfold numP
  simp only
  rw [hkn, if_neg (by simp), hm]
  have ht2 : ((bytesN k n ++ r).take (k + 1 - 1)) = bytesN k n := by
    rw [Nat.add_sub_cancel, List.take_append_of_le_length (by simp), List.take_of_length_le (by simp)]
  rw [ht2]
  have hv : accN (byteN n k) (bytesN k n) = n := by
    have e2 : (0 : Int) * 256 + byteN n k = byteN n k := by omega
    rw [e2] at ha
    rw [ha, Int.emod_eq_of_lt h0 h.1]
    omega
  rw [hv, hk]
  simp
theorem wordP_eight (w : Int) (r : List Int) (h : isU64 w) : wordP (eightN w ++ r) = .ok w := by
  unfold wordP eightN
  rw [if_neg (by simp), List.take_append_of_le_length (by simp), List.take_of_length_le (by simp), accN_bytes]
  have e : (256 : Int) ^ 8 = 18446744073709551616 := rfl
  rw [e, Int.emod_eq_of_lt h.1 h.2]
  simp

end Go.Proofs.Ytpkbimmhimgamaa
namespace Go.Proofs.Ytpkbimmhimgamaa
set_option linter.unusedSimpArgs false
set_option linter.unusedVariables false
set_option linter.unnecessarySimpa false
open Go.RowKit
theorem eightN_get (x : Int) {j : Nat} (h : j < 8) : (eightN x)[j]? = some (byteN x (7 - j)) := by
  unfold eightN bytesN
  rw [List.getElem?_map, List.getElem?_range h]
  rfl
theorem take_snoc8 {α : Type} {l : List α} {j : Nat} {x : α} (h : l[j]? = some x) : l.take (j + 1) = l.take j ++ [x] := by
  rw [List.take_add_one, h]; rfl
end Go.Proofs.Ytpkbimmhimgamaa
namespace Go.Proofs.Ytpkbimmhimgamaa
set_option linter.unusedSimpArgs false
set_option linter.unusedVariables false
set_option linter.unnecessarySimpa false
open Go.RowKit
theorem putN_le (n : Int) (h0 : 0 ≤ n) (h1 : n ≤ 4611686018427387903) : (putN n).length ≤ 8 := by
  rw [putN_len n h0 h1]
  have := sizeN_cases n
  omega
end Go.Proofs.Ytpkbimmhimgamaa
namespace Go.Proofs.Ytpkbimmhimgamaa
set_option linter.unusedSimpArgs false
set_option linter.unusedVariables false
set_option linter.unnecessarySimpa false
open Go.RowKit
attribute [local go_sem ↓] run_min_int run_max_int
/-- A row of spans in a block from B on. -/
structure RdN (w : World) (B : Nat) (A : Option Addr) (n c : Nat) (xs : List Value) : Prop where
  rd : Rd w 2 A n c xs
  nw : ∀ b off, A = some ⟨b, off, none⟩ → 0 < n → B ≤ b
theorem RdN.of_own {w : World} {base B' : Nat} {e : TypeId} {n c : Nat} {A : Option Addr} {xs : List Value} (h : w.ownsRow base e 2 (.slice A n c) n xs) (hB : B' ≤ base) : RdN w B' A n c xs := by
  refine ⟨Rd.of_own h, fun b off e hn => ?_⟩
  obtain ⟨A', c', e', h'⟩ := own_slice h
  injection e' with e1 e2 e3
  obtain ⟨g, eg, hg⟩ := h' hn
  rw [e1, eg] at e
  injection e with e
  injection e with e
  omega

set_option maxHeartbeats 3200000 in
set_option maxRecDepth 100000 in
theorem cut_yes (A : Option Addr) (n c : Nat) (l : List Sp) (lo hi : Int) (w : World) (h : Rd w 2 A n c (Ss l)) (hg : Good l) (hs : IsSpan (lo, hi)) (h0 : 0 ≤ lo) (hu : U2s l) (hn : n ≤ 8796093021952) :
    Calls Try.prog 84 #[.slice A n c, .agg #[.int .u64 lo, .int .u64 hi]] w fun e w' => ∃ A' c', e = .returned (.tuple #[.slice A' (cutP l (lo, hi)).length c', .bool true]) ∧ RdN w' w.heap.size A' (cutP l (lo, hi)).length c' (Ss (cutP l (lo, hi))) ∧ Below w.heap.size w w' := by
  obtain ⟨i0, hi0, hz0, hz1, hz2⟩ := info_parts infoSpan
  have hl := h.len
  rw [Ss_length] at hl
  obtain rfl : l.length = n := by omega
  clear hl
  have hmax := h.cap
  have hmax' := h.max
  unfold maxLen at hmax'
  obtain ⟨s1, s2⟩ := hs
  simp only [maxPn_eq] at s1 s2
  have Hg := Lib.hid hg
  have Hpw := Lib.hid hg.gd.2
  clear hg
  have Hgb := Lib.hid (goodB_true Hg.out)
  have Hsp := Lib.hid (show IsSpan (lo, hi) from ⟨s1, s2⟩)
  go_enter Try.func84, Try.ntmps84
  go_wp2_with fail
  have hw0 := (Below.refl w.heap.size w).alloc (Nat.le_refl _) (.cells #[.int .u64 lo, .int .u64 hi] 142)
  have hw1 := heap_alloc_new w (.cells #[.int .u64 lo, .int .u64 hi] 142)
  refine (good_any A l.length c l _ (h.below hw0) hu).mono ?_
  rw [Hgb.out]
  rintro e wa ⟨rfl, ba⟩
  have hwa := hw0.trans (ba.mono (by simp))
  have HBa := Lib.hid ((ba.block w.heap.size (by simp)).trans hw1)
  have a1 := cell_of_row wa w.heap.size 0 _ _ _ HBa.out
  have a2 := cell_of_row wa w.heap.size 1 _ _ _ HBa.out
  clear hw0 hw1
  go_wp2_with fail
  refine (right_yes lo hi wa (by omega) (by omega) (by omega) (by omega) Hsp.out).mono ?_
  rintro e wb ⟨rfl, bb⟩
  have hwb := hwa.trans (bb.mono hwa.size)
  have HBb := Lib.hid ((bb.block w.heap.size (lt_of_block HBa.out)).trans HBa.out)
  clear a1 a2 ba bb HBa hwa
  go_wp2
  go_loopw [6, 19] (fun out i wr => ∃ k : Nat, k ≤ l.length ∧ i = .int .i64 k ∧ ∃ m : Nat, wr.ownsRow (w.heap.size + 1) 142 2 out m (Ss ((l.take k).flatMap (cut1 (lo, hi)))) ∧
      Hid (wr.heap[w.heap.size]? = some (.cells #[.int .u64 lo, .int .u64 hi] 142 (0, 0))) ∧ Below w.heap.size w wr) (fun _ i _ => l.length - (intOf i).toNat)
  case atStart => exact ⟨0, Nat.zero_le _, rfl, 0, World.ownsRow_nil _ _ _ _, HBb, hwb⟩
  case round =>
    obtain ⟨k, hk, rfl, m, hown, HB, hb⟩ := hrel
    by_cases hlt : k < l.length
    · obtain ⟨b, off, x, y, rfl, He, hc1, hc2, u1, u2, u3, u4⟩ := (h.below hb).sp hu hlt
      have hym : y ≤ 4611686018427387903 := by have := (Hg.out k hlt).1.2; rw [He.out] at this; exact this
      have hxy : x ≤ y := by have := (Hg.out k hlt).1.1; rw [He.out] at this; exact this
      have hb0 := hb.alloc hb.size (.cells #[.int .u64 x, .int .u64 y] 142)
      have HS0 := Lib.hid ((Below.heap_alloc wr (.cells #[.int .u64 x, .int .u64 y] 142) _ (lt_of_block HB.out)).trans HB.out)
      have HX0 := Lib.hid (heap_alloc_new wr (.cells #[.int .u64 x, .int .u64 y] 142))
      have hown0 := hown.alloc (.cells #[.int .u64 x, .int .u64 y] 142)
      have hne0 : u6.ownBlock ≠ some wr.heap.size := fun e => by have := (hown.lt _ e).2; omega
      have hgs := lt_of_block HB.out
      have hmk : m ≤ k + 1 := by
        have e1 := hown.1
        rw [Ss_length] at e1
        have e2 := cut_len (l.take k) (lo, hi) s1 (fun z hz => (Hg.out.span z (List.mem_of_mem_take hz)).1) (Hpw.out.sublist (List.take_sublist _ _))
        simp only [cutP, List.length_take] at e2
        omega
      have xs0 := cell_of_row wr w.heap.size 0 _ _ _ HB.out
      have ys0 := cell_of_row wr w.heap.size 1 _ _ _ HB.out
      have Hsp : Hid ((l.take (k + 1)).flatMap (cut1 (lo, hi)) = ((l.take k).flatMap (cut1 (lo, hi))) ++ cut1 (lo, hi) (x, y)) := by show _ = _; rw [flatMap_take_succ _ _ _ hlt, He.out]
      by_cases k1 : y < lo
      · have t1 : decide (y < lo) = true := by simpa using k1
        have Hn : Hid (Ss ((l.take (k + 1)).flatMap (cut1 (lo, hi))) = Ss ((l.take k).flatMap (cut1 (lo, hi))) ++ [.int .u64 x, .int .u64 y]) := by
          show _ = _
          rw [Hsp.out, Ss_append, show cut1 (lo, hi) (x, y) = [(x, y)] from by unfold cut1; rw [if_pos (by simp only; omega)]]
          rfl
        clear Hsp
        go_wp2_with (
          at_builtin
          refine wpList_app1 _ rfl (.tmp 35) (.tmp 37) 83 rfl (w.heap.size + 1) 142 i0 (.agg #[.int .u64 0, .int .u64 0]) 2 16 Try.underlying83 hi0 hz0 hz1 hz2 rfl (by decide) u6 (m) (Ss ((l.take k).flatMap (cut1 (lo, hi)))) rfl hown0 #[.int .u64 x, .int .u64 y] _ rfl (by simp) rfl (by simp [Value.oneCell']) (by unfold maxLen; omega) (by omega) (by have := hgs; simp; omega) ?_
          intro v1 w1 ho1 hg1 hk1
          have hne := hne0
          have hb1 : Below w.heap.size w w1 := hb0.grown hg1 (by have := hb0.size; simp at this ⊢; omega) (fun g hg => by have := (hown0.lt g hg).1; omega)
          have HS1 := Lib.hid ((hg1.block w.heap.size (lt_of_block HS0.out) (fun e => by have := (hown0.lt _ e.symm).1; omega)).trans HS0.out)
          have HX1 := Lib.hid ((hg1.block wr.heap.size (lt_of_block HX0.out) (fun e => hne e.symm)).trans HX0.out)
          have xs1 := cell_of_row w1 w.heap.size 0 _ _ _ HS1.out
          have ys1 := cell_of_row w1 w.heap.size 1 _ _ _ HS1.out
          have xx1 := cell_of_row w1 wr.heap.size 0 _ _ _ HX1.out
          have yx1 := cell_of_row w1 wr.heap.size 1 _ _ _ HX1.out
          have hgs := lt_of_block HS1.out
          )
        go_roundw
        case rel => exact ⟨k + 1, by omega, by go_num, m + 1, by rw [Hn.out]; exact ho1, HS1, hb1⟩
        case measure => simp [intOf]; omega
      · by_cases k2 : hi < x
        · have t1 : decide (y < lo) = false := by simpa using k1
          have t2 : decide (hi < x) = true := by simpa using k2
          have Hn : Hid (Ss ((l.take (k + 1)).flatMap (cut1 (lo, hi))) = Ss ((l.take k).flatMap (cut1 (lo, hi))) ++ [.int .u64 x, .int .u64 y]) := by
            show _ = _
            rw [Hsp.out, Ss_append, show cut1 (lo, hi) (x, y) = [(x, y)] from by unfold cut1; rw [if_pos (by simp only; omega)]]
            rfl
          clear Hsp
          go_wp2_with (
            at_builtin
            refine wpList_app1 _ rfl (.tmp 35) (.tmp 37) 83 rfl (w.heap.size + 1) 142 i0 (.agg #[.int .u64 0, .int .u64 0]) 2 16 Try.underlying83 hi0 hz0 hz1 hz2 rfl (by decide) u6 (m) (Ss ((l.take k).flatMap (cut1 (lo, hi)))) rfl hown0 #[.int .u64 x, .int .u64 y] _ rfl (by simp) rfl (by simp [Value.oneCell']) (by unfold maxLen; omega) (by omega) (by have := hgs; simp; omega) ?_
            intro v1 w1 ho1 hg1 hk1
            have hne := hne0
            have hb1 : Below w.heap.size w w1 := hb0.grown hg1 (by have := hb0.size; simp at this ⊢; omega) (fun g hg => by have := (hown0.lt g hg).1; omega)
            have HS1 := Lib.hid ((hg1.block w.heap.size (lt_of_block HS0.out) (fun e => by have := (hown0.lt _ e.symm).1; omega)).trans HS0.out)
            have HX1 := Lib.hid ((hg1.block wr.heap.size (lt_of_block HX0.out) (fun e => hne e.symm)).trans HX0.out)
            have xs1 := cell_of_row w1 w.heap.size 0 _ _ _ HS1.out
            have ys1 := cell_of_row w1 w.heap.size 1 _ _ _ HS1.out
            have xx1 := cell_of_row w1 wr.heap.size 0 _ _ _ HX1.out
            have yx1 := cell_of_row w1 wr.heap.size 1 _ _ _ HX1.out
            have hgs := lt_of_block HS1.out
            )
          go_roundw
          case rel => exact ⟨k + 1, by omega, by go_num, m + 1, by rw [Hn.out]; exact ho1, HS1, hb1⟩
          case measure => simp [intOf]; omega
        · by_cases k3 : x < lo
          · by_cases k4 : hi < y
            · have Hn : Hid (Ss ((l.take (k + 1)).flatMap (cut1 (lo, hi))) = Ss ((l.take k).flatMap (cut1 (lo, hi))) ++ [.int .u64 x, .int .u64 (lo - 1)] ++ [.int .u64 (hi + 1), .int .u64 y]) := by
                show _ = _
                rw [Hsp.out, Ss_append, show cut1 (lo, hi) (x, y) = [(x, lo - 1), (hi + 1, y)] from by unfold cut1; rw [if_neg (by simp only; omega), if_pos (by simp only; omega), if_pos (by simp only; omega)]; rfl]
                simp [Ss]
              clear Hsp
              go_wp2_with (first
                | (at_builtin
                   refine wpList_app1 _ rfl (.tmp 44) (.tmp 51) 83 rfl (w.heap.size + 1) 142 i0 (.agg #[.int .u64 0, .int .u64 0]) 2 16 Try.underlying83 hi0 hz0 hz1 hz2 rfl (by decide) u6 (m) (Ss ((l.take k).flatMap (cut1 (lo, hi)))) rfl hown0 #[.int .u64 x, .int .u64 (lo - 1)] _ rfl (by simp) rfl (by simp [Value.oneCell']) (by unfold maxLen; omega) (by omega) (by have := hgs; simp; omega) ?_
                   intro v1 w1 ho1 hg1 hk1
                   have hne := hne0
                   have hb1 : Below w.heap.size w w1 := hb0.grown hg1 (by have := hb0.size; simp at this ⊢; omega) (fun g hg => by have := (hown0.lt g hg).1; omega)
                   have HS1 := Lib.hid ((hg1.block w.heap.size (lt_of_block HS0.out) (fun e => by have := (hown0.lt _ e.symm).1; omega)).trans HS0.out)
                   have HX1 := Lib.hid ((hg1.block wr.heap.size (lt_of_block HX0.out) (fun e => hne e.symm)).trans HX0.out)
                   have xs1 := cell_of_row w1 w.heap.size 0 _ _ _ HS1.out
                   have ys1 := cell_of_row w1 w.heap.size 1 _ _ _ HS1.out
                   have xx1 := cell_of_row w1 wr.heap.size 0 _ _ _ HX1.out
                   have yx1 := cell_of_row w1 wr.heap.size 1 _ _ _ HX1.out
                   have hgs := lt_of_block HS1.out
                   have hne1 := hk1 wr.heap.size (lt_of_block HX0.out) hne0)
                | (at_builtin
                   refine wpList_app1 _ rfl (.tmp 58) (.tmp 65) 83 rfl (w.heap.size + 1) 142 i0 (.agg #[.int .u64 0, .int .u64 0]) 2 16 Try.underlying83 hi0 hz0 hz1 hz2 rfl (by decide) v1 (m + 1) (Ss ((l.take k).flatMap (cut1 (lo, hi))) ++ [.int .u64 x, .int .u64 (lo - 1)]) rfl ho1 #[.int .u64 (hi + 1), .int .u64 y] _ rfl (by simp) rfl (by simp [Value.oneCell']) (by unfold maxLen; omega) (by omega) (by have := hgs; simp; omega) ?_
                   intro v2 w2 ho2 hg2 hk2
                   have hne := hne1
                   have hb2 : Below w.heap.size w w2 := hb1.grown hg2 (by have := hb1.size; simp at this ⊢; omega) (fun g hg => by have := (ho1.lt g hg).1; omega)
                   have HS2 := Lib.hid ((hg2.block w.heap.size (lt_of_block HS1.out) (fun e => by have := (ho1.lt _ e.symm).1; omega)).trans HS1.out)
                   have HX2 := Lib.hid ((hg2.block wr.heap.size (lt_of_block HX1.out) (fun e => hne e.symm)).trans HX1.out)
                   have xs2 := cell_of_row w2 w.heap.size 0 _ _ _ HS2.out
                   have ys2 := cell_of_row w2 w.heap.size 1 _ _ _ HS2.out
                   have xx2 := cell_of_row w2 wr.heap.size 0 _ _ _ HX2.out
                   have yx2 := cell_of_row w2 wr.heap.size 1 _ _ _ HX2.out
                   have hgs := lt_of_block HS2.out
                   ))
              go_roundw
              case rel => exact ⟨k + 1, by omega, by go_num, m + 1 + 1, by rw [Hn.out]; exact ho2, HS2, hb2⟩
              case measure => simp [intOf]; omega
            · have t4 : decide (hi < y) = false := by simpa using k4
              have Hn : Hid (Ss ((l.take (k + 1)).flatMap (cut1 (lo, hi))) = Ss ((l.take k).flatMap (cut1 (lo, hi))) ++ [.int .u64 x, .int .u64 (lo - 1)]) := by
                show _ = _
                rw [Hsp.out, Ss_append, show cut1 (lo, hi) (x, y) = [(x, lo - 1)] from by unfold cut1; rw [if_neg (by simp only; omega), if_pos (by simp only; omega), if_neg (by simp only; omega)]; rfl]
                rfl
              clear Hsp
              go_wp2_with (
                at_builtin
                refine wpList_app1 _ rfl (.tmp 44) (.tmp 51) 83 rfl (w.heap.size + 1) 142 i0 (.agg #[.int .u64 0, .int .u64 0]) 2 16 Try.underlying83 hi0 hz0 hz1 hz2 rfl (by decide) u6 (m) (Ss ((l.take k).flatMap (cut1 (lo, hi)))) rfl hown0 #[.int .u64 x, .int .u64 (lo - 1)] _ rfl (by simp) rfl (by simp [Value.oneCell']) (by unfold maxLen; omega) (by omega) (by have := hgs; simp; omega) ?_
                intro v1 w1 ho1 hg1 hk1
                have hne := hne0
                have hb1 : Below w.heap.size w w1 := hb0.grown hg1 (by have := hb0.size; simp at this ⊢; omega) (fun g hg => by have := (hown0.lt g hg).1; omega)
                have HS1 := Lib.hid ((hg1.block w.heap.size (lt_of_block HS0.out) (fun e => by have := (hown0.lt _ e.symm).1; omega)).trans HS0.out)
                have HX1 := Lib.hid ((hg1.block wr.heap.size (lt_of_block HX0.out) (fun e => hne e.symm)).trans HX0.out)
                have xs1 := cell_of_row w1 w.heap.size 0 _ _ _ HS1.out
                have ys1 := cell_of_row w1 w.heap.size 1 _ _ _ HS1.out
                have xx1 := cell_of_row w1 wr.heap.size 0 _ _ _ HX1.out
                have yx1 := cell_of_row w1 wr.heap.size 1 _ _ _ HX1.out
                have hgs := lt_of_block HS1.out
                )
              go_roundw
              case rel => exact ⟨k + 1, by omega, by go_num, m + 1, by rw [Hn.out]; exact ho1, HS1, hb1⟩
              case measure => simp [intOf]; omega
          · by_cases k4 : hi < y
            · have t4 : decide (hi < y) = true := by simpa using k4
              have Hn : Hid (Ss ((l.take (k + 1)).flatMap (cut1 (lo, hi))) = Ss ((l.take k).flatMap (cut1 (lo, hi))) ++ [.int .u64 (hi + 1), .int .u64 y]) := by
                show _ = _
                rw [Hsp.out, Ss_append, show cut1 (lo, hi) (x, y) = [(hi + 1, y)] from by unfold cut1; rw [if_neg (by simp only; omega), if_neg (by simp only; omega), if_pos (by simp only; omega)]; rfl]
                rfl
              clear Hsp
              go_wp2_with (
                at_builtin
                refine wpList_app1 _ rfl (.tmp 58) (.tmp 65) 83 rfl (w.heap.size + 1) 142 i0 (.agg #[.int .u64 0, .int .u64 0]) 2 16 Try.underlying83 hi0 hz0 hz1 hz2 rfl (by decide) u6 (m) (Ss ((l.take k).flatMap (cut1 (lo, hi)))) rfl hown0 #[.int .u64 (hi + 1), .int .u64 y] _ rfl (by simp) rfl (by simp [Value.oneCell']) (by unfold maxLen; omega) (by omega) (by have := hgs; simp; omega) ?_
                intro v1 w1 ho1 hg1 hk1
                have hne := hne0
                have hb1 : Below w.heap.size w w1 := hb0.grown hg1 (by have := hb0.size; simp at this ⊢; omega) (fun g hg => by have := (hown0.lt g hg).1; omega)
                have HS1 := Lib.hid ((hg1.block w.heap.size (lt_of_block HS0.out) (fun e => by have := (hown0.lt _ e.symm).1; omega)).trans HS0.out)
                have HX1 := Lib.hid ((hg1.block wr.heap.size (lt_of_block HX0.out) (fun e => hne e.symm)).trans HX0.out)
                have xs1 := cell_of_row w1 w.heap.size 0 _ _ _ HS1.out
                have ys1 := cell_of_row w1 w.heap.size 1 _ _ _ HS1.out
                have xx1 := cell_of_row w1 wr.heap.size 0 _ _ _ HX1.out
                have yx1 := cell_of_row w1 wr.heap.size 1 _ _ _ HX1.out
                have hgs := lt_of_block HS1.out
                )
              go_roundw
              case rel => exact ⟨k + 1, by omega, by go_num, m + 1, by rw [Hn.out]; exact ho1, HS1, hb1⟩
              case measure => simp [intOf]; omega
            · have Hn : Hid (Ss ((l.take (k + 1)).flatMap (cut1 (lo, hi))) = Ss ((l.take k).flatMap (cut1 (lo, hi)))) := by
                show _ = _
                rw [Hsp.out, Ss_append, show cut1 (lo, hi) (x, y) = [] from by unfold cut1; rw [if_neg (by simp only; omega), if_neg (by simp only; omega), if_neg (by simp only; omega)]; rfl]
                simp [Ss]
              clear Hsp
              go_wp2
              go_roundw
              case rel => exact ⟨k + 1, by omega, by go_num, m, by rw [Hn.out]; exact hown0, HS0, hb0⟩
              case measure => simp [intOf]; omega
    · obtain rfl : k = l.length := by omega
      rw [List.take_length] at hown
      go_wp2
      go_ret2
      have hm : m = (cutP l (lo, hi)).length := by have e1 := hown.1; rw [Ss_length] at e1; unfold cutP; omega
      subst hm
      obtain ⟨A5, c5, e5, _⟩ := own_slice hown
      subst e5
      exact ⟨A5, c5, rfl, RdN.of_own hown (by omega), hb⟩
end Go.Proofs.Ytpkbimmhimgamaa
namespace Go.Proofs.Ytpkbimmhimgamaa
set_option linter.unusedSimpArgs false
set_option linter.unusedVariables false
set_option linter.unnecessarySimpa false
open Go.RowKit
/-- A block of bytes of the call's own. -/
structure ByB (w : World) (g : Nat) (l : List Int) (W : World) : Prop where
  t : W.heap[g]? = some (.cells (U8 l).toArray 5 (0, 0))
  bel : Below w.heap.size w W
  ge : w.heap.size ≤ g
theorem ByB.made (w : World) (m : Nat) : ByB w w.heap.size (List.replicate m 0) (w.alloc (.cells (madeCells #[.int .u8 0] m) 5)) := by
  have e : madeCells #[.int .u8 0] m = (U8 (List.replicate m 0)).toArray := by
    apply Array.toList_inj.1
    rw [toList_madeCells_one]
    simp [U8]
  refine ⟨?_, box_below w _, Nat.le_refl _⟩
  rw [e]
  exact heap_alloc_new w _
theorem ByB.put {w W : World} {g : Nat} {l : List Int} (h : ByB w g l W) (k : Nat) (x : Int) : ByB w g (l.set k x) (W.setCell ⟨g, k, none⟩ (.int .u8 x)) := by
  refine ⟨?_, h.bel.setCell h.ge _, h.ge⟩
  have := heap_setCell_same W g k _ _ (.int .u8 x) h.t
  simpa [U8, List.map_set] using this
theorem ByB.cell {w W : World} {g : Nat} {l : List Int} (h : ByB w g l W) {k : Nat} {x : Int} (hk : l[k]? = some x) : W.cell? ⟨g, k, none⟩ = some (.int .u8 x) ∧ W.frozen? ⟨g, k, none⟩ = false := by
  refine ⟨(cell_of_row W g k _ _ _ h.t).trans ?_, frozen_of_row W g k _ _ h.t⟩
  simp [U8, hk]
theorem ByB.own {w W : World} {g : Nat} {l : List Int} (h : ByB w g l W) (hl : l.length ≤ maxLen) : W.ownsRow w.heap.size 5 1 (.slice (some ⟨g, 0, none⟩) l.length l.length) l.length (U8 l) :=
  ⟨by simp [U8], .inr ⟨g, l.length, (U8 l).toArray, rfl, h.ge, h.t, Nat.le_refl _, hl, by simp [U8], by rw [List.take_of_length_le (by simp [U8])]⟩⟩
/-- Bytes in blocks from B on. -/
structure Rd8 (w : World) (B : Nat) (A : Option Addr) (n c : Nat) (l : List Int) : Prop where
  rd : Rd w 1 A n c (U8 l)
  nw : ∀ b off, A = some ⟨b, off, none⟩ → 0 < n → B ≤ b
theorem Rd8.below {w w' : World} {B n c : Nat} {A : Option Addr} {l : List Int} (h : Rd8 w B A n c l) (q : Below w.heap.size w w') : Rd8 w' B A n c l := ⟨h.rd.below q, h.nw⟩
theorem Rd8.of_own {w : World} {base B : Nat} {e : TypeId} {n c : Nat} {A : Option Addr} {l : List Int} (h : w.ownsRow base e 1 (.slice A n c) n (U8 l)) (hB : B ≤ base) : Rd8 w B A n c l := by
  refine ⟨Rd.of_own h, fun b off e hn => ?_⟩
  obtain ⟨A', c', e', h'⟩ := own_slice h
  injection e' with e1 e2 e3
  obtain ⟨g, eg, hg⟩ := h' hn
  rw [e1, eg] at e
  injection e with e
  injection e with e
  omega
theorem ByB.rdn {w W : World} {g : Nat} {l : List Int} (h : ByB w g l W) (hl : l.length ≤ maxLen) : Rd8 W w.heap.size (some ⟨g, 0, none⟩) l.length l.length l :=
  ⟨Rd.of_own (h.own hl), fun b off e _ => by injection e with e; injection e with e; have := h.ge; omega⟩

theorem fill_back (n : Int) (k j : Nat) (h : j < k) : (List.replicate (k - j) (0 : Int) ++ bytesN j n).set (k - 1 - j) (byteN n j) = List.replicate (k - (j + 1)) 0 ++ bytesN (j + 1) n := by
  obtain ⟨m, rfl⟩ : ∃ m, k = m + 1 + j := ⟨k - 1 - j, by omega⟩
  have e1 : m + 1 + j - j = m + 1 := by omega
  have e2 : m + 1 + j - 1 - j = m := by omega
  have e3 : m + 1 + j - (j + 1) = m := by omega
  rw [e1, e2, e3, bytesN_succ, List.replicate_succ', List.append_assoc]
  rw [List.set_append_right _ _ (by simp)]
  simp

set_option maxHeartbeats 2000000 in
set_option maxRecDepth 100000 in
theorem oct_put (n : Int) (w : World) (h0 : 0 ≤ n) (h1 : n ≤ 4611686018427387903) :
    Calls Try.prog 60 #[.int .u64 n] w fun e w' => ∃ A c, e = .returned (.tuple #[.slice A (putN n).length c, .bool true]) ∧ Rd8 w' w.heap.size A (putN n).length c (putN n) ∧ Below w.heap.size w w' := by
  obtain ⟨iB, hiB, bz0, bz1, bz2⟩ := info_parts infoByte
  have hn : isU64 n := ⟨h0, by omega⟩
  have C0 := Lib.hid (octSize_any n w hn)
  have hlen := putN_len n h0 h1
  have htop := top_lt n h0 (sizeN n) rfl (size_pow n h0 h1).2
  obtain ⟨k, hk⟩ : ∃ k, k = sizeN n := ⟨_, rfl⟩
  have hk' : k = 1 ∨ k = 2 ∨ k = 4 ∨ k = 8 := by have := sizeN_cases n; omega
  have hP : putN n = (bytesN k n).set 0 (byteN n (k - 1) + codeN k) := by
    unfold putN
    rw [← hk]
    obtain ⟨k', rfl⟩ : ∃ k', k = k' + 1 := ⟨k - 1, by omega⟩
    rw [bytesN_succ]
    simp
  rw [← hk] at hlen htop C0
  have HL := Lib.hid hlen
  have HP := Lib.hid htop
  have HQ := Lib.hid hP
  have hkne : ((k : Int) == 0) = false := by simp; omega
  have hk8 : k ≤ 8 ∧ 1 ≤ k := by omega
  have MK := run_make (P := Try.prog) w 70 5 iB _ Try.underlying70 hiB bz0 .i64 .i64 k k (by omega) (Int.le_refl _) (by rw [bz2]; omega) (by omega)
  simp only [Int.toNat_natCast, bz1, Nat.mul_one] at MK
  have F0 : Hid (ByB w w.heap.size (List.replicate (k - 0) 0 ++ bytesN 0 n) (w.alloc (.cells (madeCells #[.int .u8 0] k) 5))) := Lib.hid (by simpa [bytesN] using ByB.made w k)
  clear hk hlen htop hP
  go_enter Try.func60, Try.ntmps60
  go_wp2_with fail
  refine C0.out.mono ?_
  rintro e w1 ⟨rfl, rfl⟩
  clear C0
  go_wp2_with fail
  go_loopw [15] (fun i wr => ∃ j : Nat, j ≤ k ∧ i = .int .i64 j ∧ Hid (ByB w w.heap.size (List.replicate (k - j) 0 ++ bytesN j n) wr)) (fun i _ => k - (intOf i).toNat)
  case atStart => exact ⟨0, Nat.zero_le _, rfl, F0⟩
  case round =>
    obtain ⟨j, hj, rfl, FL⟩ := hrel
    by_cases hlt : j < k
    · obtain ⟨m, hm⟩ : ∃ m : Nat, m = k - 1 - j := ⟨_, rfl⟩
      have hmi : (k : Int) - 1 - (j : Int) = m := by omega
      have hmk : (m : Int) < k := by omega
      have hm0 : (0 : Int) ≤ m := by omega
      have FN : Hid (ByB w w.heap.size (List.replicate (k - (j + 1)) 0 ++ bytesN (j + 1) n) (wr.setCell ⟨w.heap.size, m, none⟩ (.int .u8 (byteN n j)))) := Lib.hid (by
        have := FL.out.put m (byteN n j)
        rw [hm, fill_back n k j hlt] at this
        rw [hm]
        exact this)
      obtain ⟨y, hy⟩ : ∃ y, (List.replicate (k - j) (0 : Int) ++ bytesN j n)[m]? = some y := ⟨_, List.getElem?_eq_getElem (by simp [bytesN]; omega)⟩
      obtain ⟨q1, q2⟩ := FL.out.cell hy
      have hb := byteN_u8 n j
      have hr := byteN_rng n j
      have ht8 : (8 * (j : Int)).toNat = 8 * j := by omega
      have w8 : IntKind.u64.wrap (8 * (j : Int)) = 8 * (j : Int) := IntWalk.u64_in _ (by omega)
      have j8 : j ≤ 7 := by omega
      have hgl := lt_of_block FL.out.t
      generalize byteN n j = z at *
      clear hm hy
      go_wp2
      go_roundw
      case rel => exact ⟨j + 1, by omega, by go_num, FN⟩
      case measure => simp [intOf]; omega
    · obtain rfl : j = k := by omega
      have FE : Hid (ByB w w.heap.size (bytesN j n) wr) := Lib.hid (by simpa using FL.out)
      have hb0 : (bytesN j n)[0]? = some (byteN n (j - 1)) := by
        obtain ⟨k', rfl⟩ : ∃ k', j = k' + 1 := ⟨j - 1, by omega⟩
        rw [bytesN_succ]; simp
      obtain ⟨q1, q2⟩ := FE.out.cell hb0
      have hgl := lt_of_block FE.out.t
      obtain ⟨t0, t1⟩ := HP.out
      have FF : Hid (ByB w w.heap.size (putN n) (wr.setCell ⟨w.heap.size, 0, none⟩ (.int .u8 (byteN n (j - 1) + codeN j)))) := Lib.hid (by rw [HQ.out]; exact FE.out.put 0 _)
      have hF1 : j = 1 → Hid (ByB w w.heap.size (putN n) wr) := fun e => Lib.hid (by
        subst e
        have : putN n = bytesN 1 n := by rw [HQ.out]; simp [codeN, bytesN]
        rw [this]
        exact FE.out)
      have o64 := or64 (byteN n (j - 1)) t0 t1
      have o128 := or128 (byteN n (j - 1)) t0 t1
      have o192 := or192 (byteN n (j - 1)) t0 t1
      generalize byteN n (j - 1) = z at *
      clear FL FE hb0 F0 MK
      have HF1 := Lib.hid hF1
      clear hF1
      have hm8 : (putN n).length ≤ maxLen := by have := HL.out; unfold maxLen; omega
      rcases hk' with rfl | rfl | rfl | rfl
      · have FF := HF1.out rfl
        go_wp2
        go_ret2
        exact ⟨_, _, by rw [HL.out]; rfl, FF.out.rdn hm8, FF.out.bel⟩
      all_goals
        go_wp2
        go_ret2
        exact ⟨_, _, by rw [HL.out]; rfl, FF.out.rdn hm8, FF.out.bel⟩

theorem fill_front (x : Int) (j : Nat) (h : j < 8) : ((eightN x).take j ++ List.replicate (8 - j) (0 : Int)).set j (byteN x (7 - j)) = (eightN x).take (j + 1) ++ List.replicate (8 - (j + 1)) 0 := by
  have hl : ((eightN x).take j).length = j := by simp [eightN, bytesN]; omega
  obtain ⟨m, hm⟩ : ∃ m, 8 - j = m + 1 := ⟨7 - j, by omega⟩
  have e : 8 - (j + 1) = m := by omega
  rw [take_snoc8 (eightN_get x h), hm, e, List.replicate_succ, List.set_append_right _ _ (by omega), hl, Nat.sub_self]
  simp

set_option maxHeartbeats 1000000 in
set_option maxRecDepth 100000 in
theorem oct_eight (x : Int) (w : World) (hx : isU64 x) :
    Calls Try.prog 86 #[.int .u64 x] w fun e w' => ∃ A c, e = .returned (.slice A (eightN x).length c) ∧ Rd8 w' w.heap.size A (eightN x).length c (eightN x) ∧ Below w.heap.size w w' := by
  obtain ⟨iB, hiB, bz0, bz1, bz2⟩ := info_parts infoByte
  have F0 : Hid (ByB w w.heap.size ((eightN x).take 0 ++ List.replicate (8 - 0) 0) (w.alloc (.cells (madeCells #[.int .u8 0] 8) 5))) := Lib.hid (by simpa using ByB.made w 8)
  have MK0 := run_make (P := Try.prog) w 70 5 iB _ Try.underlying70 hiB bz0 .i64 .i64 (8 : Nat) (8 : Nat) (by omega) (Int.le_refl _) (by rw [bz2]; omega) (by omega)
  simp only [bz1, Nat.mul_one] at MK0
  have MK : Sem.run Try.prog (Instr.makeSlice 70 (.int .i64 8) (.int .i64 8)) w = .ok (.slice (some ⟨w.heap.size, 0, none⟩) 8 8) (w.alloc (.cells (madeCells #[.int .u8 0] 8) 5)) := MK0
  clear MK0
  obtain ⟨x0, x1⟩ := hx
  have hl8 : Hid ((eightN x).length = 8) := Lib.hid (by simp [eightN, bytesN])
  go_enter Try.func86, Try.ntmps86
  go_wp2_with fail
  go_loopw [8] (fun i wr => ∃ j : Nat, j ≤ 8 ∧ i = .int .i64 j ∧ Hid (ByB w w.heap.size ((eightN x).take j ++ List.replicate (8 - j) 0) wr)) (fun i _ => 8 - (intOf i).toNat)
  case atStart => exact ⟨0, Nat.zero_le _, rfl, F0⟩
  case round =>
    obtain ⟨j, hj, rfl, FL⟩ := hrel
    by_cases hlt : j < 8
    · obtain ⟨m, hm⟩ : ∃ m : Nat, m = 7 - j := ⟨_, rfl⟩
      have hmi : (56 : Int) - 8 * (j : Int) = 8 * (m : Int) := by omega
      have FN : Hid (ByB w w.heap.size ((eightN x).take (j + 1) ++ List.replicate (8 - (j + 1)) 0) (wr.setCell ⟨w.heap.size, j, none⟩ (.int .u8 (byteN x m)))) := Lib.hid (by
        have := FL.out.put j (byteN x m)
        rw [hm, fill_front x j hlt] at this
        rw [hm]
        exact this)
      obtain ⟨y, hy⟩ : ∃ y, ((eightN x).take j ++ List.replicate (8 - j) (0 : Int))[j]? = some y := ⟨_, List.getElem?_eq_getElem (by simp [eightN, bytesN]; omega)⟩
      obtain ⟨q1, q2⟩ := FL.out.cell hy
      have hb := byteN_u8 x m
      have hr := byteN_rng x m
      have ht8 : (8 * (m : Int)).toNat = 8 * m := by omega
      have w8 : IntKind.u64.wrap (8 * (m : Int)) = 8 * (m : Int) := IntWalk.u64_in _ (by omega)
      have m8 : m ≤ 7 := by omega
      have i1 : (0 : Int) ≤ j := by omega
      have i2 : (j : Int) < 8 := by omega
      have hgl := lt_of_block FL.out.t
      generalize byteN x m = z at *
      clear hm hy
      go_wp2
      go_roundw
      case rel => exact ⟨j + 1, by omega, by go_num, FN⟩
      case measure => simp [intOf]; omega
    · obtain rfl : j = 8 := by omega
      have FE : Hid (ByB w w.heap.size (eightN x) wr) := Lib.hid (by
        have := FL.out
        rw [List.take_of_length_le (by simp [eightN, bytesN])] at this
        simpa using this)
      clear FL F0 MK
      go_wp2
      go_ret
      exact ⟨_, _, by rw [hl8.out]; rfl, FE.out.rdn (by rw [hl8.out]; unfold maxLen; omega), FE.out.bel⟩

theorem own_bel {w w' : World} {base : Nat} {e : TypeId} {size n : Nat} {v : Value} {xs : List Value} (h : w.ownsRow base e size v n xs) (b : Below w.heap.size w w') : w'.ownsRow base e size v n xs := own_chg h (chg_below b (F := fun _ => False)) (fun _ _ h => h)
theorem Rd8.grown {w w' : World} {B n c : Nat} {A : Option Addr} {l : List Int} (h : Rd8 w B A n c l) {row : Option Nat} (hg : w.grownBy w' row) (hr : ∀ k, row = some k → k < B) : Rd8 w' B A n c l :=
  ⟨h.rd.grown hg (fun b off e hn e' => by have := h.nw b off e hn; have := hr b e'; omega), h.nw⟩
/-- Where Encode stands: its row, what the calls gave, its argument's box. -/
structure EnSt (w : World) (hx : Nat) (bx : Obj) (W0 W : World) (v : Value) (D : List Int) (rs : List (Option Addr × Nat × List Int)) : Prop where
  own : W.ownsRow w.heap.size 5 1 v D.length (U8 D)
  bel : Below w.heap.size w W
  box : W.heap[hx]? = some bx
  chg : Chg (fun k => w.heap.size ≤ k ∧ k ≠ hx) W0 W
  nbx : v.ownBlock ≠ some hx
  rs : ∀ r ∈ rs, Rd W 1 r.1 r.2.2.length r.2.1 (U8 r.2.2) ∧ ∀ b off, r.1 = some ⟨b, off, none⟩ → 0 < r.2.2.length → v.ownBlock ≠ some b
theorem EnSt.drew {w W0 W : World} {hx : Nat} {bx : Obj} {v : Value} {D : List Int} {rs : List (Option Addr × Nat × List Int)} (h : EnSt w hx bx W0 W v D rs) : EnSt w hx bx W0 W.drew v D rs :=
  ⟨h.own, h.bel.drew, h.box, h.chg.drew, h.nbx, fun r hr => ⟨(h.rs r hr).1.drew, (h.rs r hr).2⟩⟩
theorem EnSt.call {w W0 W W' : World} {hx : Nat} {bx : Obj} {v : Value} {D : List Int} {rs : List (Option Addr × Nat × List Int)} (h : EnSt w hx bx W0 W v D rs) (b : Below W.heap.size W W') {A : Option Addr} {c : Nat} {l : List Int} (r : Rd8 W' W.heap.size A l.length c l) : EnSt w hx bx W0 W' v D (rs ++ [(A, c, l)]) := by
  refine ⟨own_bel h.own b, h.bel.trans (b.mono h.bel.size), (b.block _ (lt_of_block h.box)).trans h.box, h.chg.thenBelow b h.chg.size, h.nbx, fun q hq => ?_⟩
  rcases List.mem_append.1 hq with hq | hq
  · exact ⟨(h.rs q hq).1.below b, (h.rs q hq).2⟩
  · obtain rfl := List.mem_singleton.1 hq
    exact ⟨r.rd, fun k off e hn e' => by have := (h.own.lt k e').2; have := r.nw k off e hn; omega⟩
theorem EnSt.app {w W0 W W' : World} {hx : Nat} {bx : Obj} {v v' : Value} {D l : List Int} {rs : List (Option Addr × Nat × List Int)} (h : EnSt w hx bx W0 W v D rs) (o : W'.ownsRow w.heap.size 5 1 v' (D.length + l.length) (U8 D ++ U8 l)) (g : W.grownBy W' v.ownBlock) (k : v'.ownBlock = v.ownBlock ∨ v'.ownBlock = some W.heap.size) : EnSt w hx bx W0 W' v' (D ++ l) rs := by
  have hb := lt_of_block h.box
  refine ⟨by rw [U8_append, List.length_append]; exact o, h.bel.grown g h.bel.size (fun j e => (h.own.lt j e).1), (g.block _ hb (fun e => h.nbx e.symm)).trans h.box, h.chg.grown g (fun j e => .inl ⟨(h.own.lt j e).1, fun e' => h.nbx (by rw [e, e'])⟩), ?_, fun q hq => ⟨(h.rs q hq).1.grown g (fun b off e hn e' => (h.rs q hq).2 b off e hn e'), fun b off e hn => ?_⟩⟩
  · rcases k with k | k
    · rw [k]; exact h.nbx
    · rw [k]; intro e; injection e with e; omega
  · rcases k with k | k
    · rw [k]; exact (h.rs q hq).2 b off e hn
    · rw [k]
      intro e'
      injection e' with e'
      have := (h.rs q hq).1.lt (by omega) hn b off e
      omega

theorem EnSt.base {w W0 W : World} {hx : Nat} {bx : Obj} {v : Value} {D : List Int} {rs : List (Option Addr × Nat × List Int)} (h : EnSt w hx bx W0 W v D rs) : EnSt w hx bx W W v D rs := ⟨h.own, h.bel, h.box, Chg.refl _ _, h.nbx, h.rs⟩

end Go.Proofs.Ytpkbimmhimgamaa
