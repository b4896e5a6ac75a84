/-
  Part of the proof of EngineNumbers.
-/
import Derived.Test.YtpkbimmhimgamaaGreatPAG
import Derived.Test.YtpkbimmhimgamaaGreatPAF
namespace Go.Proofs.YtpkbimmhimgamaaGreat
set_option linter.unusedSimpArgs false
set_option linter.unusedVariables false
set_option linter.unnecessarySimpa false
open Go.RowKit
attribute [local go_sem ↓] run_min_int run_max_int
theorem shlS_none {a n : Int} (h : a = 0 ∨ n ≤ 0) : shlS a n = a := by unfold shlS; rw [if_pos h]
theorem shlS_some {a n : Int} (h : a ≠ 0) (hn : 0 < n) : shlS a n = min (a * 2 ^ n.toNat) 18446744073709551615 := by
  unfold shlS; rw [if_neg (by omega)]
theorem pow_ge1 (k : Nat) : (1 : Int) ≤ 2 ^ k := by
  have h : 0 < 2 ^ k := Nat.two_pow_pos k
  have e : ((2 ^ k : Nat) : Int) = (2 : Int) ^ k := by rw [Int.natCast_pow]; rfl
  omega
theorem shlS_u {a n : Int} (ha : isU64 a) : isU64 (shlS a n) := by
  unfold shlS
  split
  · exact ha
  · have := Int.mul_nonneg ha.1 (show (0 : Int) ≤ 2 ^ n.toNat by have := pow_ge1 n.toNat; omega)
    unfold isU64
    omega
theorem shl_big (a s : Nat) (h0 : 0 < a) (ha : a < 18446744073709551616) (h : 65 - Lib.bitLen a ≤ s) (hL : Lib.bitLen a ≤ 64) : 18446744073709551616 ≤ a * 2 ^ s := by
  obtain ⟨b1, b2, b3⟩ := Lib.bitLenAux_bounds 64 a (by simpa using ha) (by omega)
  have b0 : Lib.bitLen a = Lib.bitLenAux 64 a := rfl
  rw [← b0] at b1 b2 b3
  have h1 : 2 ^ (Lib.bitLen a - 1) * 2 ^ s ≤ a * 2 ^ s := Nat.mul_le_mul_right _ b2
  have h2 : 2 ^ 64 ≤ 2 ^ (Lib.bitLen a - 1) * 2 ^ s := by
    rw [← Nat.pow_add]
    exact Nat.pow_le_pow_right (by omega) (by omega)
  have e64 : (2 : Nat) ^ 64 = 18446744073709551616 := by decide
  omega
theorem shl_small (a s : Nat) (h0 : 0 < a) (ha : a < 18446744073709551616) (h : s ≤ 64 - Lib.bitLen a) (hL : Lib.bitLen a ≤ 64) : a * 2 ^ s < 18446744073709551616 := by
  obtain ⟨b1, b2, b3⟩ := Lib.bitLenAux_bounds 64 a (by simpa using ha) (by omega)
  have b0 : Lib.bitLen a = Lib.bitLenAux 64 a := rfl
  rw [← b0] at b1 b2 b3
  have h1 : a * 2 ^ s < 2 ^ Lib.bitLen a * 2 ^ s := (Nat.mul_lt_mul_right (Nat.two_pow_pos s)).2 b3
  have h2 : 2 ^ Lib.bitLen a * 2 ^ s ≤ 2 ^ 64 := by
    rw [← Nat.pow_add]
    exact Nat.pow_le_pow_right (by omega) (by omega)
  have e64 : (2 : Nat) ^ 64 = 18446744073709551616 := by decide
  omega

set_option maxHeartbeats 1000000 in
theorem sat_shl (a n : Int) (w : World) (ha : isU64 a) (hn : n ≤ 9223372036854775807) :
    Calls Tryz.prog 266 #[.int .u64 a, .int .i64 n] w fun e w' => e = .returned (.int .u64 (shlS a n)) ∧ Qt w w' := by
  by_cases h0 : a = 0
  · have HS : Hid (shlS a n = a) := Lib.hid (shlS_none (.inl h0))
    have d0 : (a == 0) = true := beq_iff_eq.2 h0
    clear h0
    go_enter Tryz.func266, Tryz.ntmps266
    go_wp2
    go_ret
    exact ⟨ret_int HS.out.symm, Qt.refl _⟩
  · have d0 : (a == 0) = false := beq_false_of_ne h0
    by_cases h1 : n ≤ 0
    · have HS : Hid (shlS a n = a) := Lib.hid (shlS_none (.inr h1))
      have d1 : decide (n ≤ 0) = true := decide_eq_true h1
      clear h0 h1
      go_enter Tryz.func266, Tryz.ntmps266
      go_wp2
      go_ret
      exact ⟨ret_int HS.out.symm, Qt.refl _⟩
    · have d1 : decide (n ≤ 0) = false := decide_eq_false h1
      obtain ⟨x, hx⟩ := Int.eq_ofNat_of_zero_le ha.1
      obtain ⟨s, hs⟩ : ∃ s : Nat, n = (s : Int) := ⟨n.toNat, by omega⟩
      have hxa := ha.2
      have es : n.toNat = s := by omega
      have ex : a.toNat = x := by omega
      have hL : Lib.bitLen x ≤ 64 := Lib.bitLen_le x 64 (Nat.le_refl _) (by have : x < 18446744073709551616 := by omega
                                                                            simpa using this)
      have KL := Lib.hid (Tryz.bits_LeadingZeros64 a w (by omega) (by omega))
      rw [ex] at KL
      have HS := shlS_some (a := a) (n := n) (by omega) (by omega)
      have PW : a * 2 ^ s = ((x * 2 ^ s : Nat) : Int) := by rw [hx]; exact Dv.pw x s
      rw [es, PW] at HS
      have B1 := shl_big x s (by omega) (by omega)
      have B2 := shl_small x s (by omega) (by omega)
      obtain ⟨z, hz⟩ : ∃ z : Int, z = 64 - (Lib.bitLen x : Int) := ⟨_, rfl⟩
      rw [← hz] at KL
      obtain ⟨z1, hz1⟩ : ∃ z1 : Int, z1 = z + 1 := ⟨_, rfl⟩
      have wz : IntKind.i64.wrap (z + 1) = z1 := by rw [hz1]; exact IntWalk.i64_in _ (by omega)
      by_cases hc : z1 ≤ n
      · have d2 : decide (z1 ≤ n) = true := decide_eq_true hc
        have HS2 : Hid (shlS a n = 18446744073709551615) := Lib.hid (by rw [HS]; have := B1 (by omega) hL; omega)
        clear B1 B2 HS hz h0 h1 hc hL PW hx hs es ex hz1 hxa
        go_enter Tryz.func266, Tryz.ntmps266
        go_wp2_with fail
        refine KL.out.mono ?_
        rintro e w1 ⟨rfl, rfl⟩
        go_wp2
        go_ret
        exact ⟨ret_int HS2.out.symm, Qt.refl _⟩
      · have d2 : decide (z1 ≤ n) = false := decide_eq_false hc
        have b2 := B2 (by omega) hL
        obtain ⟨Y, hY⟩ : ∃ Y : Int, Y = ((x * 2 ^ s : Nat) : Int) := ⟨_, rfl⟩
        have HS2 : Hid (shlS a n = Y) := Lib.hid (by rw [HS]; omega)
        have wY : IntKind.u64.wrap (a * 2 ^ n.toNat) = Y := by rw [es, PW, hY]; exact Dv.wrapS _ b2
        have hs64 : n ≤ 64 := by omega
        have hn0 : 0 ≤ n := by omega
        have wn : IntKind.u64.wrap n = n := IntWalk.u64_in _ (by omega)
        clear B1 B2 HS hz h0 h1 hc hL b2 PW hx hs es ex hz1 hxa hY
        go_enter Tryz.func266, Tryz.ntmps266
        go_wp2_with fail
        refine KL.out.mono ?_
        rintro e w1 ⟨rfl, rfl⟩
        go_wp2
        go_ret
        exact ⟨ret_int HS2.out.symm, Qt.refl _⟩

def backS (a n most : Int) : Int := min (shlS a n) most
theorem backS_u {a n m : Int} (ha : isU64 a) (hm : isU64 m) : isU64 (backS a n m) := by
  have := shlS_u (n := n) ha
  unfold backS isU64 at *
  omega
theorem clk_backoff (a n m : Int) (w : World) (ha : isU64 a) (hn : n ≤ 9223372036854775807) :
    Calls Tryz.prog 208 #[.int .u64 a, .int .i64 n, .int .u64 m] w fun e w' => e = .returned (.int .u64 (backS a n m)) ∧ Qt w w' := by
  have K := Lib.hid (sat_shl a n w ha hn)
  have HB : Hid (backS a n m = min (shlS a n) m) := Lib.hid rfl
  generalize shlS a n = x at *
  go_enter Tryz.func208, Tryz.ntmps208
  go_wp2_with fail
  refine K.out.mono ?_
  rintro e w1 ⟨rfl, q1⟩
  go_wp2
  go_ret
  exact ⟨ret_int HB.out.symm, q1⟩
end Go.Proofs.YtpkbimmhimgamaaGreat
namespace Go.Proofs.YtpkbimmhimgamaaGreat
set_option linter.unusedSimpArgs false
set_option linter.unusedVariables false
set_option linter.unnecessarySimpa false
open Go.RowKit
attribute [local go_sem ↓] run_min_int run_max_int
def undB (c hi lo : Int) : Bool := decide (c * c * c ≤ hi * 18446744073709551616 + lo)
def cub (hi lo : Int) : Nat → Nat → Nat
  | 0, c => c
  | k + 1, c => cub hi lo k (if undB ((c ||| 2 ^ k : Nat) : Int) hi lo = true then c ||| 2 ^ k else c)
def cubS (hi lo : Int) : Int := (cub hi lo 43 0 : Nat)
theorem cub_lt (hi lo : Int) (k c n : Nat) (hk : k ≤ n) (hc : c < 2 ^ n) : cub hi lo k c < 2 ^ n := by
  induction k generalizing c with
  | zero => exact hc
  | succ k ih =>
    rw [cub]
    split
    · exact ih _ (by omega) (Nat.or_lt_two_pow hc (Nat.pow_lt_pow_right (by omega) (by omega)))
    · exact ih _ (by omega) hc
theorem cubS_u (hi lo : Int) : isU64 (cubS hi lo) := by
  have h := cub_lt hi lo 43 0 43 (by omega) (by decide)
  unfold cubS isU64
  omega
end Go.Proofs.YtpkbimmhimgamaaGreat
namespace Go.Proofs.YtpkbimmhimgamaaGreat
set_option linter.unusedSimpArgs false
set_option linter.unusedVariables false
set_option linter.unnecessarySimpa false
open Go.RowKit
attribute [local go_sem ↓] run_min_int run_max_int
theorem box2 (w : World) (o : Obj) (cs : Array Value) (t : TypeId) : ((w.alloc o).alloc (.cells cs t)).heap[w.heap.size + 1]? = some (.cells cs t (0, 0)) := by
  have := heap_alloc_new (w.alloc o) (.cells cs t)
  rwa [World.size_alloc] at this
theorem box2_below (w : World) (o p : Obj) : Below w.heap.size w ((w.alloc o).alloc p) := (box_below _ _).trans ((box_below _ _).mono (by simp))
theorem infoPb : (Tryz.prog.info? 69).map (·.size) = some 2 := by kernel_rfl
theorem infoRo : (Tryz.prog.info? 73).map (·.size) = some 2 := by kernel_rfl
def pbv (c f : Int) : Value := .agg #[.int .i64 c, .int .u64 f]
def firedS (c : Int) : Int := min (max c 0) 59 + 1
theorem firedS_u (c : Int) : 1 ≤ firedS c ∧ firedS c ≤ 60 := by unfold firedS; omega
theorem pb_sent (c f now : Int) (w : World) :
    Calls Tryz.prog 110 #[pbv c f, .int .u64 now] w fun e w' => e = .returned (pbv c now) ∧ Below w.heap.size w w' := by
  unfold pbv
  go_enter Tryz.func110, Tryz.ntmps110
  go_wp2
  (try simp only [Exit.inBlock, Exit.then])
  exact bodyPost_ret (results_cell_row rfl _ _ (w.heap.size + 1) _ _ _ _ rfl (box2 w _ _ _) Tryz.underlying69 rfl infoPb) rfl ⟨rfl, box2_below _ _ _⟩
theorem pb_fired (c f now : Int) (w : World) :
    Calls Tryz.prog 62 #[pbv c f, .int .u64 now] w fun e w' => e = .returned (pbv (firedS c) now) ∧ Below w.heap.size w w' := by
  unfold pbv firedS
  have wr : IntKind.i64.wrap (min (max c 0) 59 + 1) = min (max c 0) 59 + 1 := IntWalk.i64_in _ (by omega)
  go_enter Tryz.func62, Tryz.ntmps62
  go_wp2
  (try simp only [Exit.inBlock, Exit.then])
  exact bodyPost_ret (results_cell_row rfl _ _ (w.heap.size + 1) _ _ _ _ rfl (box2 w _ _ _) Tryz.underlying69 rfl infoPb) rfl ⟨rfl, box2_below _ _ _⟩
def deadS (c f : Int) (fl : Bool) (tm most : Int) : Int := if fl then sadd f (backS tm c most) else 18446744073709551615
theorem deadS_u {c f tm most : Int} {fl : Bool} (hf : isU64 f) (ht : isU64 tm) (hm : isU64 most) : isU64 (deadS c f fl tm most) := by
  unfold deadS
  split
  · exact u64_sadd hf (backS_u ht hm)
  · exact ⟨by omega, by omega⟩
theorem pb_deadline (c f tm most : Int) (fl : Bool) (w : World) (hf : isU64 f) (hc : c ≤ 9223372036854775807) (ht : isU64 tm) (hm : isU64 most) :
    Calls Tryz.prog 115 #[pbv c f, .bool fl, .int .u64 tm, .int .u64 most] w fun e w' => e = .returned (.int .u64 (deadS c f fl tm most)) ∧ Below w.heap.size w w' := by
  have HB := Lib.hid (box_below w (.cells #[.int .i64 c, .int .u64 f] 69))
  unfold pbv
  cases fl with
  | false =>
    have H : Hid (deadS c f false tm most = 18446744073709551615) := Lib.hid rfl
    go_enter Tryz.func115, Tryz.ntmps115
    go_wp2
    go_ret
    exact ⟨ret_int H.out.symm, HB.out⟩
  | true =>
    have H : Hid (deadS c f true tm most = sadd f (backS tm c most)) := Lib.hid rfl
    have K1 := Lib.hid (fun w => clk_backoff tm c most w ht hc)
    have K2 := Lib.hid (fun w => clk_after f (backS tm c most) w hf (backS_u ht hm))
    generalize backS tm c most = b at *
    go_enter Tryz.func115, Tryz.ntmps115
    go_wp2_with fail
    refine wp_region_qt (by kernel_rfl) (by kernel_rfl) ?_
    repeat (first | go_big_quiet_step ((first | (go_at_call 208; exact Qt.callN (K1.out _)) | (go_at_call 207; exact Qt.callN (K2.out _)))) | quiet_step ((first | (go_at_call 208; exact Qt.callN (K1.out _)) | (go_at_call 207; exact Qt.callN (K2.out _)))))
    refine wpQuiet_nil ?_
    intro w1 q1
    have HE := HB.out.trans (q1.below.mono HB.out.size)
    clear q1
    go_wp2
    go_ret
    exact ⟨ret_int H.out.symm, HE⟩
theorem round_fresh (a b pn : Int) (w : World) :
    Calls Tryz.prog 182 #[.agg #[.int .u64 a, .int .u64 b], .int .u64 pn] w fun e w' => e = .returned (.bool (decide (a ≤ pn))) ∧ Below w.heap.size w w' := by
  go_enter Tryz.func182, Tryz.ntmps182
  go_wp2
  go_ret
  exact ⟨rfl, box_below _ _⟩
def beginS (a b pn next : Int) : Int × Int × Bool := if a ≤ pn then (if next ≤ pn then sadd pn 1 else next, sadd b 1, true) else (a, b, false)
theorem set2 {W : World} {g : Nat} {t : TypeId} {a b x y : Value} (h : W.heap[g]? = some (.cells #[a, b] t (0, 0))) : ((W.setCell ⟨g, 0, none⟩ x).setCell ⟨g, 1, none⟩ y).heap[g]? = some (.cells #[x, y] t (0, 0)) :=
  heap_setCell_same _ g 1 _ _ y (heap_setCell_same W g 0 _ _ x h)
theorem set2_chg (W : World) (g : Nat) (x y : Value) : Chg (fun j => j = g) W ((W.setCell ⟨g, 0, none⟩ x).setCell ⟨g, 1, none⟩ y) :=
  ((Chg.refl (fun j => j = g) W).setCell (p := ⟨g, 0, none⟩) (.inl rfl) _).setCell (p := ⟨g, 1, none⟩) (.inl rfl) _
set_option maxHeartbeats 2000000 in
theorem round_begin (a b pn next : Int) (w : World) (ha : isU64 a) (hb : isU64 b) (hp : isU64 pn) :
    Calls Tryz.prog 209 #[.agg #[.int .u64 a, .int .u64 b], .int .u64 pn, .int .u64 next] w fun e w' => e = .returned (.tuple #[.agg #[.int .u64 (beginS a b pn next).1, .int .u64 (beginS a b pn next).2.1], .bool (beginS a b pn next).2.2]) ∧ Below w.heap.size w w' := by
  have z1 := box_below w (.cells #[.int .u64 a, .int .u64 b] 73)
  have z2 := box_below (w.alloc (.cells #[.int .u64 a, .int .u64 b] 73)) (.cells #[.int .u64 0, .int .u64 0] 73)
  have n1 := (z2.block _ (lt_of_block (heap_alloc_new w (.cells #[.int .u64 a, .int .u64 b] 73)))).trans (heap_alloc_new w _)
  have n2 := box2 w (.cells #[.int .u64 a, .int .u64 b] 73) #[.int .u64 0, .int .u64 0] 73
  have HB := Lib.hid (box2_below w (.cells #[.int .u64 a, .int .u64 b] 73) (.cells #[.int .u64 0, .int .u64 0] 73))
  clear z1 z2
  have K := Lib.hid (fun w => round_fresh a b pn w)
  have a0 := ha.1
  have b0 := hb.1
  have b1 := hb.2
  have p0 := hp.1
  have p1 := hp.2
  by_cases hc : a ≤ pn
  · have HR : Hid (beginS a b pn next = (if next ≤ pn then sadd pn 1 else next, sadd b 1, true)) := Lib.hid (if_pos hc)
    rw [decide_eq_true hc] at K
    obtain ⟨q, hq⟩ : ∃ q, q = sadd pn 1 := ⟨_, rfl⟩
    obtain ⟨r, hr⟩ : ∃ r, r = sadd b 1 := ⟨_, rfl⟩
    have u1 : isU64 (1 : Int) := ⟨by omega, by omega⟩
    have w1 : IntKind.u64.wrap (18446744073709551615 - pn) = 18446744073709551615 - pn := IntWalk.u64_in _ (by omega)
    have w2 : IntKind.u64.wrap (pn + min 1 (18446744073709551615 - pn)) = q := by rw [hq, IntWalk.u64_in _ (by omega)]; unfold sadd; omega
    have w3 : IntKind.u64.wrap (18446744073709551615 - b) = 18446744073709551615 - b := IntWalk.u64_in _ (by omega)
    have w4 : IntKind.u64.wrap (b + min 1 (18446744073709551615 - b)) = r := by rw [hr, IntWalk.u64_in _ (by omega)]; unfold sadd; omega
    rw [← hq, ← hr] at HR
    clear hq hr hc a0 b0 b1 p0 p1
    by_cases hn : next ≤ pn
    · rw [if_pos hn] at HR
      rw [HR.out]
      have d1 : decide (next ≤ pn) = true := decide_eq_true hn
      clear hn
      go_enter Tryz.func209, Tryz.ntmps209
      go_wp2_with fail
      generalize (w.alloc (.cells #[.int .u64 a, .int .u64 b] 73)).alloc (.cells #[.int .u64 0, .int .u64 0] 73) = w0 at *
      refine (K.out _).mono ?_
      rintro e w1 ⟨rfl, bb⟩
      have m1 := (bb.block _ (lt_of_block n1)).trans n1
      have m2 := (bb.block _ (lt_of_block n2)).trans n2
      have HE := HB.out.trans (bb.mono HB.out.size)
      clear bb n1 n2
      have x0 := cell_of_row _ (w.heap.size) 0 _ _ _ m1
      have fx0 := frozen_of_row _ (w.heap.size) 0 _ _ m1
      have x1 := cell_of_row _ (w.heap.size) 1 _ _ _ m1
      have fx1 := frozen_of_row _ (w.heap.size) 1 _ _ m1
      have y0 := cell_of_row _ (w.heap.size + 1) 0 _ _ _ m2
      have fy0 := frozen_of_row _ (w.heap.size + 1) 0 _ _ m2
      have y1 := cell_of_row _ (w.heap.size + 1) 1 _ _ _ m2
      have fy1 := frozen_of_row _ (w.heap.size + 1) 1 _ _ m2
      have E2 := Lib.hid (set2 (x := .int .u64 q) (y := .int .u64 r) m2)
      have C2 := Lib.hid (set2_chg w1 (w.heap.size + 1) (.int .u64 q) (.int .u64 r))
      go_wp2
      (try simp only [Exit.inBlock, Exit.then])
      exact bodyPost_ret (results_cell_tmp_row rfl _ _ (w.heap.size + 1) _ _ _ _ rfl E2.out Tryz.underlying73 rfl infoRo) rfl ⟨rfl, HE.trans (C2.out.below HE.size (fun j hj e => by omega))⟩
    · rw [if_neg hn] at HR
      rw [HR.out]
      have d1 : decide (next ≤ pn) = false := decide_eq_false hn
      clear hn
      go_enter Tryz.func209, Tryz.ntmps209
      go_wp2_with fail
      generalize (w.alloc (.cells #[.int .u64 a, .int .u64 b] 73)).alloc (.cells #[.int .u64 0, .int .u64 0] 73) = w0 at *
      refine (K.out _).mono ?_
      rintro e w1 ⟨rfl, bb⟩
      have m1 := (bb.block _ (lt_of_block n1)).trans n1
      have m2 := (bb.block _ (lt_of_block n2)).trans n2
      have HE := HB.out.trans (bb.mono HB.out.size)
      clear bb n1 n2
      have x0 := cell_of_row _ (w.heap.size) 0 _ _ _ m1
      have fx0 := frozen_of_row _ (w.heap.size) 0 _ _ m1
      have x1 := cell_of_row _ (w.heap.size) 1 _ _ _ m1
      have fx1 := frozen_of_row _ (w.heap.size) 1 _ _ m1
      have y0 := cell_of_row _ (w.heap.size + 1) 0 _ _ _ m2
      have fy0 := frozen_of_row _ (w.heap.size + 1) 0 _ _ m2
      have y1 := cell_of_row _ (w.heap.size + 1) 1 _ _ _ m2
      have fy1 := frozen_of_row _ (w.heap.size + 1) 1 _ _ m2
      have E2 := Lib.hid (set2 (x := .int .u64 next) (y := .int .u64 r) m2)
      have C2 := Lib.hid (set2_chg w1 (w.heap.size + 1) (.int .u64 next) (.int .u64 r))
      go_wp2
      (try simp only [Exit.inBlock, Exit.then])
      exact bodyPost_ret (results_cell_tmp_row rfl _ _ (w.heap.size + 1) _ _ _ _ rfl E2.out Tryz.underlying73 rfl infoRo) rfl ⟨rfl, HE.trans (C2.out.below HE.size (fun j hj e => by omega))⟩
  · have HR : Hid (beginS a b pn next = (a, b, false)) := Lib.hid (if_neg hc)
    rw [HR.out]
    rw [decide_eq_false hc] at K
    clear hc a0 b0 b1 p0 p1
    go_enter Tryz.func209, Tryz.ntmps209
    go_wp2_with fail
    generalize (w.alloc (.cells #[.int .u64 a, .int .u64 b] 73)).alloc (.cells #[.int .u64 0, .int .u64 0] 73) = w0 at *
    refine (K.out _).mono ?_
    rintro e w1 ⟨rfl, bb⟩
    have m1 := (bb.block _ (lt_of_block n1)).trans n1
    have m2 := (bb.block _ (lt_of_block n2)).trans n2
    have HE := HB.out.trans (bb.mono HB.out.size)
    clear bb n1 n2
    have x0 := cell_of_row _ (w.heap.size) 0 _ _ _ m1
    have fx0 := frozen_of_row _ (w.heap.size) 0 _ _ m1
    have x1 := cell_of_row _ (w.heap.size) 1 _ _ _ m1
    have fx1 := frozen_of_row _ (w.heap.size) 1 _ _ m1
    have y0 := cell_of_row _ (w.heap.size + 1) 0 _ _ _ m2
    have fy0 := frozen_of_row _ (w.heap.size + 1) 0 _ _ m2
    have y1 := cell_of_row _ (w.heap.size + 1) 1 _ _ _ m2
    have fy1 := frozen_of_row _ (w.heap.size + 1) 1 _ _ m2
    have E2 := Lib.hid (set2 (x := .int .u64 a) (y := .int .u64 b) m2)
    have C2 := Lib.hid (set2_chg w1 (w.heap.size + 1) (.int .u64 a) (.int .u64 b))
    go_wp2
    (try simp only [Exit.inBlock, Exit.then])
    exact bodyPost_ret (results_cell_tmp_row rfl _ _ (w.heap.size + 1) _ _ _ _ rfl E2.out Tryz.underlying73 rfl infoRo) rfl ⟨rfl, C2.out.below HE.size (fun j hj e => by omega) |> HE.trans⟩
end Go.Proofs.YtpkbimmhimgamaaGreat
namespace Go.Proofs.YtpkbimmhimgamaaGreat
set_option linter.unusedSimpArgs false
set_option linter.unusedVariables false
set_option linter.unnecessarySimpa false
open Go.RowKit
attribute [local go_sem ↓] run_min_int run_max_int
theorem sat_addS (a b : Int) (w : World) (ha : isU64 a) (hb : isU64 b) :
    Calls Tryz.prog 101 #[.int .u64 a, .int .u64 b] w fun e w' => e = .returned (.int .u64 (sadd a b)) ∧ Qt w w' := sat_add a b w ha hb

def mixS (k a b : Int) : Int := (k * a + b) / (k + 1)
def timeS (has : Bool) (sm vr first grain : Int) : Int := if has then sadd sm (max (mulS 4 vr) grain) else sadd first (max (mulS 2 first) grain)
def windS (has : Bool) (lt sm first grain : Int) : Int := max (downS (if has then max sm lt else first) 9 8) grain
def rtv (has : Bool) (lt sm vr ls : Int) : Value := .agg #[.bool has, .int .u64 lt, .int .u64 sm, .int .u64 vr, .int .u64 ls]
theorem rtt_timeout (has : Bool) (lt sm vr ls first grain : Int) (w : World) (hs : isU64 sm) (hv : isU64 vr) (hf : isU64 first) (hg : isU64 grain) :
    Calls Tryz.prog 116 #[rtv has lt sm vr ls, .int .u64 first, .int .u64 grain] w fun e w' => e = .returned (.int .u64 (timeS has sm vr first grain)) ∧ Below w.heap.size w w' := by
  have HB := Lib.hid (box_below w (.cells #[.bool has, .int .u64 lt, .int .u64 sm, .int .u64 vr, .int .u64 ls] 67))
  have u2 : isU64 (2 : Int) := ⟨by omega, by omega⟩
  have u4 : isU64 (4 : Int) := ⟨by omega, by omega⟩
  unfold rtv
  cases has with
  | false =>
    have K1 := Lib.hid (fun w => sat_mul 2 first w u2 hf)
    have hm := mulS_u u2 hf
    have H : Hid (timeS false sm vr first grain = sadd first (max (mulS 2 first) grain)) := Lib.hid rfl
    have hx : isU64 (max (mulS 2 first) grain) := by unfold isU64 at hm hg ⊢; omega
    have K2 := Lib.hid (fun w => sat_addS first (max (mulS 2 first) grain) w hf hx)
    generalize mulS 2 first = y at *
    clear hm hx
    go_enter Tryz.func116, Tryz.ntmps116
    go_wp2_with fail
    refine (K1.out _).mono ?_
    rintro e w1 ⟨rfl, q1⟩
    go_wp2_with fail
    refine (K2.out _).mono ?_
    rintro e w2 ⟨rfl, q2⟩
    have HE := HB.out.trans ((q1.trans q2).below.mono HB.out.size)
    clear q1
    go_wp2
    go_ret
    exact ⟨ret_int H.out.symm, HE⟩
  | true =>
    have K1 := Lib.hid (fun w => sat_mul 4 vr w u4 hv)
    have hm := mulS_u u4 hv
    have H : Hid (timeS true sm vr first grain = sadd sm (max (mulS 4 vr) grain)) := Lib.hid rfl
    have hx : isU64 (max (mulS 4 vr) grain) := by unfold isU64 at hm hg ⊢; omega
    have K2 := Lib.hid (fun w => sat_addS sm (max (mulS 4 vr) grain) w hs hx)
    generalize mulS 4 vr = y at *
    clear hm hx
    go_enter Tryz.func116, Tryz.ntmps116
    go_wp2_with fail
    refine wp_region_qt (by kernel_rfl) (by kernel_rfl) ?_
    repeat (first | go_big_quiet_step ((first | (go_at_call 197; exact Qt.callN (K1.out _)) | (go_at_call 101; exact Qt.callN (K2.out _)))) | quiet_step ((first | (go_at_call 197; exact Qt.callN (K1.out _)) | (go_at_call 101; exact Qt.callN (K2.out _)))))
    refine wpQuiet_nil ?_
    intro w1 q1
    have HE := HB.out.trans (q1.below.mono HB.out.size)
    clear q1
    go_wp2
    go_ret
    exact ⟨ret_int H.out.symm, HE⟩
theorem rtt_window (has : Bool) (lt sm vr ls first grain : Int) (w : World) (hl : isU64 lt) (hs : isU64 sm) (hf : isU64 first) :
    Calls Tryz.prog 118 #[rtv has lt sm vr ls, .int .u64 first, .int .u64 grain] w fun e w' => e = .returned (.int .u64 (windS has lt sm first grain)) ∧ Below w.heap.size w w' := by
  have HB := Lib.hid (box_below w (.cells #[.bool has, .int .u64 lt, .int .u64 sm, .int .u64 vr, .int .u64 ls] 67))
  have u9 : isU64 (9 : Int) := ⟨by omega, by omega⟩
  have u8 : isU64 (8 : Int) := ⟨by omega, by omega⟩
  unfold rtv
  cases has with
  | false =>
    have hx : isU64 first := by unfold isU64 at *; omega
    have K1 := Lib.hid (fun w => wide_down first 9 8 w hx u9 u8)
    have H : Hid (windS false lt sm first grain = max (downS first 9 8) grain) := Lib.hid rfl
    have H2 : Hid (windS false lt sm first grain = max grain (downS first 9 8)) := Lib.hid (by rw [H.out]; omega)
    generalize downS first 9 8 = y at *
    clear hx hl hs hf
    go_enter Tryz.func118, Tryz.ntmps118
    go_wp2_with fail
    refine (K1.out _).mono ?_
    rintro e w1 ⟨rfl, q1⟩
    have HE := HB.out.trans (q1.below.mono HB.out.size)
    clear q1
    go_wp2
    go_ret
    exact ⟨ret_int H.out.symm, HE⟩
  | true =>
    have hx : isU64 (max sm lt) := by unfold isU64 at *; omega
    have K1 := Lib.hid (fun w => wide_down (max sm lt) 9 8 w hx u9 u8)
    have H : Hid (windS true lt sm first grain = max (downS (max sm lt) 9 8) grain) := Lib.hid rfl
    have H2 : Hid (windS true lt sm first grain = max grain (downS (max sm lt) 9 8)) := Lib.hid (by rw [H.out]; omega)
    generalize downS (max sm lt) 9 8 = y at *
    clear hx hl hs hf
    go_enter Tryz.func118, Tryz.ntmps118
    go_wp2_with fail
    refine (K1.out _).mono ?_
    rintro e w1 ⟨rfl, q1⟩
    have HE := HB.out.trans (q1.below.mono HB.out.size)
    clear q1
    go_wp2
    go_ret
    exact ⟨ret_int H.out.symm, HE⟩
theorem set5 {W : World} {g : Nat} {t : TypeId} {a b c d e x y z u v : Value} (h : W.heap[g]? = some (.cells #[a, b, c, d, e] t (0, 0))) : (((((W.setCell ⟨g, 0, none⟩ x).setCell ⟨g, 1, none⟩ y).setCell ⟨g, 2, none⟩ z).setCell ⟨g, 3, none⟩ u).setCell ⟨g, 4, none⟩ v).heap[g]? = some (.cells #[x, y, z, u, v] t (0, 0)) :=
  heap_setCell_same _ g 4 _ _ v (heap_setCell_same _ g 3 _ _ u (heap_setCell_same _ g 2 _ _ z (heap_setCell_same _ g 1 _ _ y (heap_setCell_same W g 0 _ _ x h))))
end Go.Proofs.YtpkbimmhimgamaaGreat
namespace Go.Proofs.YtpkbimmhimgamaaGreat
set_option linter.unusedSimpArgs false
set_option linter.unusedVariables false
set_option linter.unnecessarySimpa false
open Go.RowKit
attribute [local go_sem ↓] run_min_int run_max_int
theorem infoPc : (Tryz.prog.info? 77).map (·.size) = some 3 := by kernel_rfl
def pcv (tk at_ rt : Int) : Value := .agg #[.int .u64 tk, .int .u64 at_, .int .u64 rt]
def fullS (b : Int) : Int := mulS b 1000000
theorem u1m : isU64 (1000000 : Int) := ⟨by omega, by omega⟩
theorem fullS_u {b : Int} (h : isU64 b) : isU64 (fullS b) := mulS_u h u1m
def rateS (cwnd sm slow : Int) : Int := min (max (downS cwnd 1250000 (max sm 1)) slow) 4294967296
def fillT (tk at_ rt burst now : Int) : Int := min (sadd tk (mulS rt (ssub now at_))) (fullS burst)
theorem set3 {W : World} {g : Nat} {t : TypeId} {a b c x y z : Value} (h : W.heap[g]? = some (.cells #[a, b, c] t (0, 0))) : (((W.setCell ⟨g, 0, none⟩ x).setCell ⟨g, 1, none⟩ y).setCell ⟨g, 2, none⟩ z).heap[g]? = some (.cells #[x, y, z] t (0, 0)) :=
  heap_setCell_same _ g 2 _ _ z (heap_setCell_same _ g 1 _ _ y (heap_setCell_same W g 0 _ _ x h))
theorem set3_chg (W : World) (g : Nat) (x y z : Value) : Chg (fun j => j = g) W (((W.setCell ⟨g, 0, none⟩ x).setCell ⟨g, 1, none⟩ y).setCell ⟨g, 2, none⟩ z) :=
  (((Chg.refl (fun j => j = g) W).setCell (p := ⟨g, 0, none⟩) (.inl rfl) _).setCell (p := ⟨g, 1, none⟩) (.inl rfl) _).setCell (p := ⟨g, 2, none⟩) (.inl rfl) _
theorem pc_full (b : Int) (w : World) (hb : isU64 b) :
    Calls Tryz.prog 98 #[.int .u64 b] w fun e w' => e = .returned (.int .u64 (fullS b)) ∧ Qt w w' := by
  have K := Lib.hid (sat_mul b 1000000 w hb u1m)
  have H : Hid (fullS b = mulS b 1000000) := Lib.hid rfl
  generalize mulS b 1000000 = y at *
  go_enter Tryz.func98, Tryz.ntmps98
  go_wp2_with fail
  refine K.out.mono ?_
  rintro e w1 ⟨rfl, q1⟩
  go_wp2
  go_ret
  exact ⟨ret_int H.out.symm, q1⟩
theorem pc_start (b now rate : Int) (w : World) (hb : isU64 b) :
    Calls Tryz.prog 40 #[.int .u64 b, .int .u64 now, .int .u64 rate] w fun e w' => e = .returned (pcv (fullS b) now (min rate 4294967296)) ∧ Below w.heap.size w w' := by
  have K := Lib.hid (fun w => pc_full b w hb)
  have n1 := heap_alloc_new w (.cells #[.int .u64 0, .int .u64 0, .int .u64 0] 77)
  have HB := Lib.hid (box_below w (.cells #[.int .u64 0, .int .u64 0, .int .u64 0] 77))
  unfold pcv
  generalize fullS b = y at *
  go_enter Tryz.func40, Tryz.ntmps40
  go_wp2_with fail
  generalize w.alloc (.cells #[.int .u64 0, .int .u64 0, .int .u64 0] 77) = w0 at *
  refine (K.out _).mono ?_
  rintro e w1 ⟨rfl, q1⟩
  have m1 := (q1.below.block _ (lt_of_block n1)).trans n1
  have HE := HB.out.trans (q1.below.mono HB.out.size)
  have a0 := cell_of_row _ (w.heap.size) 0 _ _ _ m1
  have fa0 := frozen_of_row _ (w.heap.size) 0 _ _ m1
  have a1 := cell_of_row _ (w.heap.size) 1 _ _ _ m1
  have fa1 := frozen_of_row _ (w.heap.size) 1 _ _ m1
  have a2 := cell_of_row _ (w.heap.size) 2 _ _ _ m1
  have fa2 := frozen_of_row _ (w.heap.size) 2 _ _ m1
  have E2 := Lib.hid (set3 (x := .int .u64 y) (y := .int .u64 now) (z := .int .u64 (min rate 4294967296)) m1)
  have C2 := Lib.hid (set3_chg w1 w.heap.size (.int .u64 y) (.int .u64 now) (.int .u64 (min rate 4294967296)))
  clear m1 n1 q1
  go_wp2
  (try simp only [Exit.inBlock, Exit.then])
  exact bodyPost_ret (results_cell_row rfl _ _ (w.heap.size) _ _ _ _ rfl E2.out Tryz.underlying77 rfl infoPc) rfl ⟨rfl, HE.trans (C2.out.below HE.size (fun j hj e => by omega))⟩
theorem pc_rate (c sm slow : Int) (w : World) (hc : isU64 c) (hs : isU64 sm) :
    Calls Tryz.prog 99 #[.int .u64 c, .int .u64 sm, .int .u64 slow] w fun e w' => e = .returned (.int .u64 (rateS c sm slow)) ∧ Below w.heap.size w w' := by
  have hm : isU64 (max sm 1) := by unfold isU64 at *; omega
  have K := Lib.hid (wide_down c 1250000 (max sm 1) w hc ⟨by omega, by omega⟩ hm)
  have H : Hid (rateS c sm slow = min (max (downS c 1250000 (max sm 1)) slow) 4294967296) := Lib.hid rfl
  have H2 : Hid (rateS c sm slow = min 4294967296 (max slow (downS c 1250000 (max sm 1)))) := Lib.hid (by rw [H.out]; omega)
  clear hm hc hs
  generalize downS c 1250000 (max sm 1) = y at *
  go_enter Tryz.func99, Tryz.ntmps99
  go_wp2_with fail
  refine K.out.mono ?_
  rintro e w1 ⟨rfl, q1⟩
  go_wp2
  go_ret
  exact ⟨ret_int H.out.symm, q1.below⟩
set_option maxHeartbeats 2000000 in
set_option maxRecDepth 100000 in
theorem pc_fill (tk at_ rt burst now : Int) (w : World) (ht : isU64 tk) (ha : isU64 at_) (hr : isU64 rt) (hb : isU64 burst) (hn : isU64 now) :
    Calls Tryz.prog 102 #[pcv tk at_ rt, .int .u64 burst, .int .u64 now] w fun e w' => e = .returned (pcv (fillT tk at_ rt burst now) (max at_ now) rt) ∧ Below w.heap.size w w' := by
  have h1 := u64_ssub hn ha
  have h2 := mulS_u hr h1
  have K1 := Lib.hid (fun w => clk_since now at_ w hn ha)
  have K2 := Lib.hid (fun w => sat_mul rt (ssub now at_) w hr h1)
  have K3 := Lib.hid (fun w => sat_addS tk (mulS rt (ssub now at_)) w ht h2)
  have K4 := Lib.hid (fun w => pc_full burst w hb)
  have H : Hid (fillT tk at_ rt burst now = min (sadd tk (mulS rt (ssub now at_))) (fullS burst)) := Lib.hid rfl
  generalize sadd tk (mulS rt (ssub now at_)) = y3 at *
  generalize mulS rt (ssub now at_) = y2 at *
  generalize ssub now at_ = y1 at *
  generalize fullS burst = y4 at *
  have H2 : Hid (fillT tk at_ rt burst now = min y3 y4) := Lib.hid (by first | (rw [H.out]; done) | (rw [H.out]; omega))
  clear h1 h2 ht ha hr hb hn H
  have z2 := box_below (w.alloc (.cells #[.int .u64 tk, .int .u64 at_, .int .u64 rt] 77)) (.cells #[.int .u64 0, .int .u64 0, .int .u64 0] 77)
  have n1 := (z2.block _ (lt_of_block (heap_alloc_new w (.cells #[.int .u64 tk, .int .u64 at_, .int .u64 rt] 77)))).trans (heap_alloc_new w _)
  have n2 := box2 w (.cells #[.int .u64 tk, .int .u64 at_, .int .u64 rt] 77) #[.int .u64 0, .int .u64 0, .int .u64 0] 77
  have HB := Lib.hid (box2_below w (.cells #[.int .u64 tk, .int .u64 at_, .int .u64 rt] 77) (.cells #[.int .u64 0, .int .u64 0, .int .u64 0] 77))
  clear z2
  unfold pcv
  rw [H2.out]
  go_enter Tryz.func102, Tryz.ntmps102
  go_upto_region 1 with fail
  generalize (w.alloc (.cells #[.int .u64 tk, .int .u64 at_, .int .u64 rt] 77)).alloc (.cells #[.int .u64 0, .int .u64 0, .int .u64 0] 77) = w0 at *
  have a0 := cell_of_row _ (w.heap.size) 0 _ _ _ n1
  have fa0 := frozen_of_row _ (w.heap.size) 0 _ _ n1
  have a1 := cell_of_row _ (w.heap.size) 1 _ _ _ n1
  have fa1 := frozen_of_row _ (w.heap.size) 1 _ _ n1
  have a2 := cell_of_row _ (w.heap.size) 2 _ _ _ n1
  have fa2 := frozen_of_row _ (w.heap.size) 2 _ _ n1
  refine wp_region_qtt 14 (by kernel_rfl) (by kernel_rfl) ?_
  simp only [List.take_succ_cons, List.take_zero, List.drop_succ_cons, List.drop_zero]
  repeat (first | go_big_quiet_step ((first | (go_at_call 179; with_reducible exact Qt.callN (K1.out _)) | (go_at_call 197; with_reducible exact Qt.callN (K2.out _)) | (go_at_call 101; with_reducible exact Qt.callN (K3.out _)) | (go_at_call 98; with_reducible exact Qt.callN (K4.out _)))) | quiet_step ((first | (go_at_call 179; with_reducible exact Qt.callN (K1.out _)) | (go_at_call 197; with_reducible exact Qt.callN (K2.out _)) | (go_at_call 101; with_reducible exact Qt.callN (K3.out _)) | (go_at_call 98; with_reducible exact Qt.callN (K4.out _)))))
  refine wpQuiet_nil ?_
  intro w2 q2
  have m1 := (q2.below.block _ (lt_of_block n1)).trans n1
  have m2 := (q2.below.block _ (lt_of_block n2)).trans n2
  have HE := HB.out.trans (q2.below.mono HB.out.size)
  clear a0 a1 a2 fa0 fa1 fa2 n1 n2 q2
  have a0 := cell_of_row _ (w.heap.size) 0 _ _ _ m1
  have fa0 := frozen_of_row _ (w.heap.size) 0 _ _ m1
  have a1 := cell_of_row _ (w.heap.size) 1 _ _ _ m1
  have fa1 := frozen_of_row _ (w.heap.size) 1 _ _ m1
  have a2 := cell_of_row _ (w.heap.size) 2 _ _ _ m1
  have fa2 := frozen_of_row _ (w.heap.size) 2 _ _ m1
  have b0 := cell_of_row _ (w.heap.size + 1) 0 _ _ _ m2
  have fb0 := frozen_of_row _ (w.heap.size + 1) 0 _ _ m2
  have b1 := cell_of_row _ (w.heap.size + 1) 1 _ _ _ m2
  have fb1 := frozen_of_row _ (w.heap.size + 1) 1 _ _ m2
  have b2 := cell_of_row _ (w.heap.size + 1) 2 _ _ _ m2
  have fb2 := frozen_of_row _ (w.heap.size + 1) 2 _ _ m2
  obtain ⟨w5, hw5⟩ : ∃ v, v = (w2.setCell ⟨w.heap.size, 0, none⟩ (.int .u64 (min y3 y4))).setCell ⟨w.heap.size, 1, none⟩ (.int .u64 (max at_ now)) := ⟨_, rfl⟩
  have C5 : Chg (fun j => j = w.heap.size) w2 w5 := by
    rw [hw5]
    exact ((Chg.refl (fun j => j = w.heap.size) w2).setCell (p := ⟨w.heap.size, 0, none⟩) (.inl rfl) _).setCell (p := ⟨w.heap.size, 1, none⟩) (.inl rfl) _
  have HE5 := HE.trans (C5.below HE.size (fun j hj e => by omega))
  have s2 := C5.blk m2 (by omega)
  have E2 := Lib.hid (set3 (x := .int .u64 (min y3 y4)) (y := .int .u64 (max at_ now)) (z := .int .u64 rt) s2)
  have C2 := Lib.hid (set3_chg w5 (w.heap.size + 1) (.int .u64 (min y3 y4)) (.int .u64 (max at_ now)) (.int .u64 rt))
  have HE := HE5.trans (C2.out.below HE5.size (fun j hj e => by omega))
  clear C5 HE5 s2 m1 m2 C2
  rw [hw5] at E2 HE
  clear hw5
  go_wp2
  (try simp only [Exit.inBlock, Exit.then])
  exact bodyPost_ret (results_cell_row rfl _ _ (w.heap.size + 1) _ _ _ _ rfl E2.out Tryz.underlying77 rfl infoPc) rfl ⟨rfl, HE⟩
theorem fillT_u {tk at_ rt burst now : Int} (ht : isU64 tk) (ha : isU64 at_) (hr : isU64 rt) (hb : isU64 burst) (hn : isU64 now) : isU64 (fillT tk at_ rt burst now) := by
  have h1 := u64_sadd ht (mulS_u hr (u64_ssub hn ha))
  have h2 := fullS_u hb
  unfold fillT isU64 at *
  omega
set_option maxHeartbeats 1000000 in
theorem pc_set (tk at_ rt burst now rate : Int) (w : World) (ht : isU64 tk) (ha : isU64 at_) (hr : isU64 rt) (hb : isU64 burst) (hn : isU64 now) :
    Calls Tryz.prog 120 #[pcv tk at_ rt, .int .u64 burst, .int .u64 now, .int .u64 rate] w fun e w' => e = .returned (pcv (fillT tk at_ rt burst now) (max at_ now) (min rate 4294967296)) ∧ Below w.heap.size w w' := by
  have K := Lib.hid (fun w => pc_fill tk at_ rt burst now w ht ha hr hb hn)
  generalize fillT tk at_ rt burst now = y at *
  obtain ⟨m, hm⟩ : ∃ m, m = max at_ now := ⟨_, rfl⟩
  simp only [← hm] at K
  rw [← hm]
  clear hm
  have z2 := box_below (w.alloc (.cells #[.int .u64 tk, .int .u64 at_, .int .u64 rt] 77)) (.cells #[.int .u64 0, .int .u64 0, .int .u64 0] 77)
  have n1 := (z2.block _ (lt_of_block (heap_alloc_new w (.cells #[.int .u64 tk, .int .u64 at_, .int .u64 rt] 77)))).trans (heap_alloc_new w _)
  have n2 := box2 w (.cells #[.int .u64 tk, .int .u64 at_, .int .u64 rt] 77) #[.int .u64 0, .int .u64 0, .int .u64 0] 77
  have HB := Lib.hid (box2_below w (.cells #[.int .u64 tk, .int .u64 at_, .int .u64 rt] 77) (.cells #[.int .u64 0, .int .u64 0, .int .u64 0] 77))
  clear z2
  unfold pcv at *
  go_enter Tryz.func120, Tryz.ntmps120
  go_wp2_with fail
  generalize (w.alloc (.cells #[.int .u64 tk, .int .u64 at_, .int .u64 rt] 77)).alloc (.cells #[.int .u64 0, .int .u64 0, .int .u64 0] 77) = w0 at *
  refine (K.out _).mono ?_
  rintro e w1 ⟨rfl, b1⟩
  have m1 := (b1.block _ (lt_of_block n1)).trans n1
  have m2 := (b1.block _ (lt_of_block n2)).trans n2
  have HE := HB.out.trans (b1.mono HB.out.size)
  have a0 := cell_of_row _ (w.heap.size) 0 _ _ _ m1
  have fa0 := frozen_of_row _ (w.heap.size) 0 _ _ m1
  have a1 := cell_of_row _ (w.heap.size) 1 _ _ _ m1
  have fa1 := frozen_of_row _ (w.heap.size) 1 _ _ m1
  have a2 := cell_of_row _ (w.heap.size) 2 _ _ _ m1
  have fa2 := frozen_of_row _ (w.heap.size) 2 _ _ m1
  have s1 := set3 (x := .int .u64 y) (y := .int .u64 m) (z := .int .u64 rt) m1
  have C1 := set3_chg w1 w.heap.size (.int .u64 y) (.int .u64 m) (.int .u64 rt)
  have s2 := C1.blk m2 (by omega)
  have HE1 := HE.trans (C1.below HE.size (fun j hj e => by omega))
  clear m1 m2 n1 n2 b1 HE C1
  go_upto_region 2 with fail
  generalize ((w1.setCell ⟨w.heap.size, 0, none⟩ (.int .u64 y)).setCell ⟨w.heap.size, 1, none⟩ (.int .u64 m)).setCell ⟨w.heap.size, 2, none⟩ (.int .u64 rt) = w3 at *
  clear a0 a1 a2 fa0 fa1 fa2
  have a0 := cell_of_row _ (w.heap.size) 0 _ _ _ s1
  have fa0 := frozen_of_row _ (w.heap.size) 0 _ _ s1
  have a1 := cell_of_row _ (w.heap.size) 1 _ _ _ s1
  have fa1 := frozen_of_row _ (w.heap.size) 1 _ _ s1
  have a2 := cell_of_row _ (w.heap.size) 2 _ _ _ s1
  have fa2 := frozen_of_row _ (w.heap.size) 2 _ _ s1
  have b0 := cell_of_row _ (w.heap.size + 1) 0 _ _ _ s2
  have fb0 := frozen_of_row _ (w.heap.size + 1) 0 _ _ s2
  have b1 := cell_of_row _ (w.heap.size + 1) 1 _ _ _ s2
  have fb1 := frozen_of_row _ (w.heap.size + 1) 1 _ _ s2
  have b2 := cell_of_row _ (w.heap.size + 1) 2 _ _ _ s2
  have fb2 := frozen_of_row _ (w.heap.size + 1) 2 _ _ s2
  obtain ⟨w5, hw5⟩ : ∃ v, v = w3.setCell ⟨w.heap.size, 2, none⟩ (.int .u64 (min rate 4294967296)) := ⟨_, rfl⟩
  have C5 : Chg (fun j => j = w.heap.size) w3 w5 := by
    rw [hw5]
    exact (Chg.refl (fun j => j = w.heap.size) w3).setCell (p := ⟨w.heap.size, 2, none⟩) (.inl rfl) _
  have HE5 := HE1.trans (C5.below HE1.size (fun j hj e => by omega))
  have s3 := C5.blk s2 (by omega)
  have E2 := Lib.hid (set3 (x := .int .u64 y) (y := .int .u64 m) (z := .int .u64 (min rate 4294967296)) s3)
  have C2 := Lib.hid (set3_chg w5 (w.heap.size + 1) (.int .u64 y) (.int .u64 m) (.int .u64 (min rate 4294967296)))
  have HE := HE5.trans (C2.out.below HE5.size (fun j hj e => by omega))
  clear C5 HE5 s1 s2 s3 C2
  rw [hw5] at E2 HE
  clear hw5
  go_wp2
  (try simp only [Exit.inBlock, Exit.then])
  exact bodyPost_ret (results_cell_row rfl _ _ (w.heap.size + 1) _ _ _ _ rfl E2.out Tryz.underlying77 rfl infoPc) rfl ⟨rfl, HE⟩
end Go.Proofs.YtpkbimmhimgamaaGreat
