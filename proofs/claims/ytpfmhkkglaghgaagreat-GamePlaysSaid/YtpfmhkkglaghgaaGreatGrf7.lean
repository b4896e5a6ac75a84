/-
  Walks of the game's references: a draw that is played.
-/
import Derived.Test.YtpfmhkkglaghgaaGreatGrf6
namespace Go.Proofs.YtpfmhkkglaghgaaGreat
set_option linter.unusedSimpArgs false
set_option linter.unusedVariables false
set_option linter.unnecessarySimpa false
open Go.RowKit

theorem play_end {w W : World} {g : Gm} {k : Nat} {A : Option Addr} {c X P base q : Nat} {V M : Value} {lv : List Vd} {li : List Nat} {vv : Int} {s : LS} {gs : GS} {out : List (Vd × Nat)}
    (S : PlJ w g k A c X P base q V M lv li vv s gs W) (hE : out = playedJ g k) (hL : lv = out.map (·.1) ∧ li = out.map (·.2)) :
    ∃ VA vc IA ic, V = .slice VA lv.length vc ∧ M = .slice IA li.length ic ∧ lv.length = (playedJ g k).length ∧ li.length = (playedJ g k).length ∧
      ∀ W', Chg (fun j => j = w.heap.size + 1) W W' → Rd W' 4 VA (playedJ g k).length vc (Vds ((playedJ g k).map (·.1))) ∧ Rd W' 1 IA (playedJ g k).length ic (Ixs ((playedJ g k).map (·.2))) ∧ Below w.heap.size w W' := by
  obtain ⟨hL1, hL2⟩ := hL
  obtain ⟨VA, vc, rfl, -⟩ := own_slice S.ov
  obtain ⟨IA, ic, rfl, -⟩ := own_slice S.om
  have l1 : lv.length = (playedJ g k).length := by rw [hL1, hE, List.length_map]
  have l2 : li.length = (playedJ g k).length := by rw [hL2, hE, List.length_map]
  refine ⟨VA, vc, IA, ic, rfl, rfl, l1, l2, fun W' HF => ?_⟩
  have lx := S.a.lx
  have xp := S.xp
  have pb := S.pb
  have OF1 := Rd.of_own (own_chg S.ov HF (fun x hx e => by have h := (S.ov.lt x hx).1; omega))
  have OF2 := Rd.of_own (own_chg S.om HF (fun x hx e => by have h := (S.om.lt x hx).1; omega))
  have hV : lv = (playedJ g k).map (·.1) := by rw [hL1, hE]
  have hI : li = (playedJ g k).map (·.2) := by rw [hL2, hE]
  refine ⟨?_, ?_, S.a.bel.trans (HF.below S.a.bel.size (fun x hx e => by omega))⟩
  · rw [← hV, ← l1]; exact OF1
  · rw [← hI, ← l2]; exact OF2

set_option maxHeartbeats 16000000 in
set_option maxRecDepth 100000 in
theorem grf_play (g : Gm) (k : Nat) (A : Option Addr) (c : Nat) (w : World) (hg : g.ok) (hk : k < 18446744073709551616) (hr : Rd w 6 A g.moves.length c (Mvs g.moves)) :
    Calls Tryz.prog 19 #[gmVal g A c, .int .u64 k] w fun e w' => ∃ VA vc IA ic, e = .returned (.agg #[.slice VA (playedJ g k).length vc, .slice IA (playedJ g k).length ic]) ∧ Rd w' 4 VA (playedJ g k).length vc (Vds ((playedJ g k).map (·.1))) ∧ Rd w' 1 IA (playedJ g k).length ic (Ixs ((playedJ g k).map (·.2))) ∧ Below w.heap.size w w' := by
  have n4 := hg.n4
  have n1 := hg.n1
  have b6 := hg.b6
  have b1 := hg.b1
  have h8 := hg.len
  have GO := Lib.hid hg
  have HR := Lib.hid hr
  have g2 := gbox2 w (.cells #[.int .i64 g.b, .int .i64 g.n, .int .i64 g.came, .int .i64 g.marked, .slice A g.moves.length c] 24) (.cells #[.slice none 0 0, .slice none 0 0] 49)
  have G2 := Lib.hid g2
  clear hg hr g2
  unfold gmVal
  go_enter Tryz.func19, Tryz.ntmps19
  go_upto_region 1 with fail
  generalize (w.alloc (.cells #[.int .i64 g.b, .int .i64 g.n, .int .i64 g.came, .int .i64 g.marked, .slice A g.moves.length c] 24)).alloc (.cells #[.slice none 0 0, .slice none 0 0] 49) = w2 at *
  have s2 := G2.out.2.2.2
  have K := Lib.hid (ledR_new (4 : Int) 4611686018427387903 w2 ⟨by decide, by decide⟩)
  have e2 : Hid (LS.new (4 : Int) 4611686018427387903 = ledTo g k 0) := Lib.hid rfl
  rw [e2.out] at K
  go_wp2_with fail
  (with_reducible refine K.out.mono ?_)
  rintro e w3 ⟨rfl, L3, b3⟩
  have s3 := b3.size
  have lp := (L3.chg (Chg.refl (fun _ => False) w3) (fun _ _ _ h => h) (fun _ _ h => h) : LedR w3 (fun x => x = w2.heap.size) w2.heap.size (ledTo g k 0))
  have LP := Lib.hid lp
  have lt3 : w2.heap.size < w3.heap.size := by
    obtain ⟨A3, c3, Hb, -⟩ := L3.cells
    exact lt_of_block Hb.out
  have bx := gbox2 w3 (.cells #[.int .u64 0, .int .u64 0, .int .u64 0, .int .u64 0] 81) (.cells #[.bool false, .bool false, .bool false, .bool false] 82)
  have PA : Hid (PlA w g k A c w3.heap.size 0 0 ((w3.alloc (.cells #[.int .u64 0, .int .u64 0, .int .u64 0, .int .u64 0] 81)).alloc (.cells #[.bool false, .bool false, .bool false, .bool false] 82)) ∧ LedR ((w3.alloc (.cells #[.int .u64 0, .int .u64 0, .int .u64 0, .int .u64 0] 81)).alloc (.cells #[.bool false, .bool false, .bool false, .bool false] 82)) (fun x => x = w.heap.size + 2 ∨ w3.heap.size + 2 ≤ x) (w.heap.size + 2) (ledTo g k 0)) := Lib.hid (by
    obtain ⟨x1, x2, x3, x4⟩ := bx
    have y1 := (b3.block w.heap.size (by omega)).trans G2.out.1
    have y2 := (b3.block (w.heap.size + 1) (by omega)).trans G2.out.2.1
    refine ⟨⟨(x3.block _ (by omega)).trans y1, (x3.block _ (by omega)).trans y2, x1, x2, (G2.out.2.2.1.trans (b3.mono (by omega))).trans (x3.mono (by omega)), by omega⟩, ?_⟩
    rw [← s2]
    exact (LP.out.below x3).chg (Chg.refl (fun _ => False) _) (fun _ _ _ h => h) (fun x _ h => .inl h))
  have zsz := bx.2.2.2
  clear L3 b3 lp LP bx K e2 G2
  rw [s2]
  go_upto_region 5 with fail
  generalize ((w3.alloc (.cells #[.int .u64 0, .int .u64 0, .int .u64 0, .int .u64 0] 81)).alloc (.cells #[.bool false, .bool false, .bool false, .bool false] 82)) = w5 at *
  have lxx := PA.out.1.lx
  generalize hX : w3.heap.size = X at *
  clear hX s3 lt3 s2
  go_wp2_with fail
  go_loopw [8] (fun iv wr => ∃ i : Nat, i ≤ g.n ∧ iv = .int .i64 i ∧ Hid (PlA w g k A c X i i wr ∧ LedR wr (fun x => x = w.heap.size + 2 ∨ X + 2 ≤ x) (w.heap.size + 2) (ledTo g k i) ∧ X + 2 ≤ wr.heap.size)) (fun iv _ => g.n - (intOf iv).toNat)
  case atStart => exact ⟨0, Nat.zero_le _, rfl, Lib.hid ⟨PA.out.1, PA.out.2, by omega⟩⟩
  case round =>
    obtain ⟨i, hi, rfl, PP⟩ := hrel
    clear PA zsz
    have y1 : wr.cell? ⟨w.heap.size, 1, none⟩ = some (.int .i64 g.n) := cell_of_row wr w.heap.size 1 _ _ _ PP.out.1.tg
    by_cases hlt : i < g.n
    · skip
      have i4 : i < 4 := by omega
      have wj : IntKind.i64.wrap ((g.b : Int) + 1) = (g.b : Int) + 1 := IntWalk.i64_in _ (by omega)
      obtain ⟨q, hq⟩ : ∃ q, q = i * (g.b + 1) := ⟨_, rfl⟩
      have hq21 : q ≤ 21 := by
        rw [hq]
        exact Nat.mul_le_mul (show i ≤ 3 by omega) (show g.b + 1 ≤ 7 by omega)
      have hqi : (i : Int) * ((g.b : Int) + 1) = (q : Int) := by rw [hq]; simp
      obtain ⟨kk, hkk⟩ : ∃ kk, kk = k / 2 ^ q := ⟨_, rfl⟩
      have hkl : kk ≤ k := by rw [hkk]; exact Nat.div_le_self _ _
      have hki : (k : Int) / 2 ^ q = (kk : Int) := by rw [hkk]; simp
      have HN : Hid (nonN g.b k i = kk % 2 ^ g.b) := Lib.hid (by unfold nonN; rw [← hq, ← hkk])
      have HC : Hid (coinN g.b k i = kk.testBit g.b) := Lib.hid (by unfold coinN; rw [← hq, ← hkk])
      clear hq hkk
      have y0 : wr.cell? ⟨w.heap.size, 0, none⟩ = some (.int .i64 g.b) := cell_of_row wr w.heap.size 0 _ _ _ PP.out.1.tg
      have K6 := Lib.hid (grf_low (kk : Int) g.b wr ⟨by omega, by omega⟩ b1 b6)
      simp only [Int.toNat_natCast] at K6
      rw [← HN.out] at K6
      have x6 : wr.cell? ⟨X, i, none⟩ = some (.int .u64 (nsV g k i i)) := (cell_of_row wr X i _ _ _ PP.out.1.tn).trans (nsRow_get g k i i4)
      have fx6 := frozen_of_row wr X i _ _ PP.out.1.tn
      have f1 : (0 : Int) ≤ i := by omega
      have f2 : (i : Int) < 4 := by omega
      have hLX : X < wr.heap.size := by have := PP.out.2.2; omega
      go_upto_region 9 with (go_at_call 31; (with_reducible refine K6.out.mono ?_); rintro e w6 ⟨rfl, rfl⟩)
      have A6 := Lib.hid (PP.out.1.setN i4)
      have L6 := Lib.hid (PP.out.2.1.chg (H := fun x => x = w.heap.size + 2 ∨ X + 2 ≤ x) ((Chg.refl (fun j => j = X) wr).setCell (p := ⟨X, i, none⟩) (.inl rfl) (.int .u64 (nonN g.b k i : Nat))) (fun x _ hx e => by omega) (fun _ _ h => h))
      have Z6 : Hid (X + 2 ≤ (wr.setCell ⟨X, i, none⟩ (.int .u64 (nonN g.b k i : Nat))).heap.size) := Lib.hid (by simp; exact PP.out.2.2)
      clear K6 x6 fx6 PP y1 y0
      generalize wr.setCell ⟨X, i, none⟩ (.int .u64 (nonN g.b k i : Nat)) = w7 at *
      have y0 : w7.cell? ⟨w.heap.size, 0, none⟩ = some (.int .i64 g.b) := cell_of_row w7 w.heap.size 0 _ _ _ A6.out.tg
      have x7 : w7.cell? ⟨X + 1, i, none⟩ = some (.bool (csV g k i i)) := (cell_of_row w7 (X + 1) i _ _ _ A6.out.tc).trans (csRow_get g k i i4)
      have fx7 := frozen_of_row w7 (X + 1) i _ _ A6.out.tc
      have hbit : (bits .and .u64 ((kk : Int) / 2 ^ g.b) 1 == 1) = coinN g.b k i := by
        have := bit_u64 kk g.b (by omega)
        rw [HC.out, ← this]
        simp
      have hLX1 : X + 1 < w7.heap.size := by have := Z6.out; omega
      clear HN HC
      obtain ⟨ct, hct⟩ : ∃ ct, ct = coinN g.b k i := ⟨_, rfl⟩
      rw [← hct] at hbit
      have HCT := Lib.hid hct
      clear hct
      go_upto_region 10 with fail
      have A7 := Lib.hid (A6.out.setC i4)
      rw [← HCT.out] at A7
      have L7 := Lib.hid (L6.out.chg (H := fun x => x = w.heap.size + 2 ∨ X + 2 ≤ x) ((Chg.refl (fun j => j = X + 1) w7).setCell (p := ⟨X + 1, i, none⟩) (.inl rfl) (.bool ct)) (fun x _ hx e => by omega) (fun _ _ h => h))
      have Z7 : Hid (X + 2 ≤ (w7.setCell ⟨X + 1, i, none⟩ (.bool ct)).heap.size) := Lib.hid (by simp; exact Z6.out)
      clear x7 fx7 A6 L6 Z6 y0 hbit hLX1 hLX
      generalize w7.setCell ⟨X + 1, i, none⟩ (.bool ct) = w8 at *
      have hn64 := nonN_64 b6 k i
      have z1 : w8.cell? ⟨X, i, none⟩ = some (.int .u64 (nonN g.b k i : Nat)) := (cell_of_row w8 X i _ _ _ A7.out.tn).trans (by rw [nsRow_get g k _ i4, nsV_at g k (by omega)])
      have z2 : w8.cell? ⟨X + 1, i, none⟩ = some (.bool ct) := (cell_of_row w8 (X + 1) i _ _ _ A7.out.tc).trans (by rw [csRow_get g k _ i4, csV_at g k (by omega), HCT.out])
      have m1 := mixF_cell (F := fun x => x = w.heap.size + 2 ∨ X + 2 ≤ x) z1 (show ¬ (X = w.heap.size + 2 ∨ X + 2 ≤ X) by omega)
      have m2 := mixF_cell (F := fun x => x = w.heap.size + 2 ∨ X + 2 ≤ x) z2 (show ¬ (X + 1 = w.heap.size + 2 ∨ X + 2 ≤ X + 1) by omega)
      have K8 := Lib.hid (ledR_send w8.drew (fun x => x = w.heap.size + 2 ∨ X + 2 ≤ x) (w.heap.size + 2) (ledTo g k i) ⟨0, i, 1, (nonN g.b k i : Nat), 0, ct, false, 0⟩ (L7.out.below (Below.refl _ _).drew) (snt_ok (by omega) (by omega)) (by simp [ledTo]; omega))
      rw [HCT.out, led_at g k i (by omega), ← HCT.out] at K8
      unfold Snt.val at K8
      simp only at K8
      have wi : IntKind.u64.wrap (i : Int) = (i : Int) := IntWalk.u64_in _ (by omega)
      clear z1 z2
      refine wp_region_chg (fun x => x = w.heap.size + 2 ∨ X + 2 ≤ x) (by kernel_rfl) (by kernel_rfl) ?_
      repeat (refine wpMix_seg 1 _ _ rfl ?_; simp only [List.take_succ_cons, List.take_zero, List.drop_succ_cons, List.drop_zero]; go_big_quiet_step (fail); refine wpQuiet_nil ?_)
      refine wpMix_bar rfl (by rfl) ?_
      go_wp2_with fail
      (with_reducible refine K8.out.mono ?_)
      rintro e w9 ⟨rfl, L9, C9⟩
      have Q9 : Hid (Chg (fun x => x = w.heap.size + 2 ∨ X + 2 ≤ x) w8 w9) := Lib.hid ((Chg.refl _ w8).drew.step C9 (fun _ _ h => h))
      have L10 : Hid (LedR w9 (fun x => x = w.heap.size + 2 ∨ X + 2 ≤ x) (w.heap.size + 2) (ledTo g k (i + 1))) := Lib.hid (L9.chg (Chg.refl (fun _ => False) w9) (fun _ _ _ h => h) (fun x _ h => h.elim id (fun h => .inr (Nat.le_trans Z7.out h))))
      have A9 := Lib.hid (A7.out.chg Q9.out (fun x e => e))
      have Z9 := Lib.hid (Nat.le_trans Z7.out Q9.out.size)
      clear K8 L9 C9
      go_wp2
      refine ⟨chg_mixF Q9.out, ?_⟩
      repeat (refine wpMix_seg 1 _ _ rfl ?_; simp only [List.take_succ_cons, List.take_zero, List.drop_succ_cons, List.drop_zero]; go_big_quiet_step (fail); refine wpQuiet_nil ?_)
      refine wpMix_nil ?_
      go_wp2
      go_roundw
      case rel => exact ⟨i + 1, by omega, by go_num, Lib.hid ⟨A9.out, L10.out, Z9.out⟩⟩
      case measure => simp [intOf]; omega
    · obtain rfl : i = g.n := by omega
      have A10 := Lib.hid PP.out.1
      have L10 := Lib.hid PP.out.2.1
      have Z10 := Lib.hid PP.out.2.2
      clear PP
      go_wp2_with fail
      generalize wr = wm at *
      clear y1
      have y1 : wm.cell? ⟨w.heap.size, 1, none⟩ = some (.int .i64 g.n) := cell_of_row wm w.heap.size 1 _ _ _ A10.out.tg
      have y2 : wm.cell? ⟨w.heap.size, 2, none⟩ = some (.int .i64 g.came) := cell_of_row wm w.heap.size 2 _ _ _ A10.out.tg
      have y3 : wm.cell? ⟨w.heap.size, 3, none⟩ = some (.int .i64 g.marked) := cell_of_row wm w.heap.size 3 _ _ _ A10.out.tg
      have p16 : 2 ^ g.n ≤ 16 := Nat.pow_le_pow_right (n := 2) (by decide) (j := 4) n4
      have hca : g.came < 16 := Nat.lt_of_lt_of_le GO.out.came p16
      have hma : g.marked < 16 := Nat.lt_of_le_of_lt (Nat.le_of_testBit GO.out.marked) hca
      clear p16
      go_loopw [10, 11] (fun vv iv wx => ∃ j : Nat, j ≤ g.n ∧ iv = .int .i64 j ∧ vv = .int .u64 (viewTo g k j) ∧ Hid (Qt wm wx)) (fun _ iv _ => g.n - (intOf iv).toNat)
      case atStart => exact ⟨0, Nat.zero_le _, rfl, rfl, Lib.hid (Qt.refl _)⟩
      case round =>
        obtain ⟨j, hj, rfl, rfl, Q⟩ := hrel
        have y1 := Q.out.cell y1
        have y2 := Q.out.cell y2
        have y3 := Q.out.cell y3
        by_cases hlt : j < g.n
        · skip
          have j4 : j < 4 := by omega
          have VS : Hid (viewTo g k (j + 1) = if g.came.testBit j then (if g.marked.testBit j then foldV (foldV (viewTo g k j) 1) (nonN g.b k j) else foldV (foldV (foldV (foldV (viewTo g k j) 1) (nonN g.b k j)) 1) (if coinN g.b k j then 1 else 0)) else viewTo g k j) := Lib.hid rfl
          have HB := Lib.hid (fun W => grf_bit g.came j W hca j4)
          have HM := Lib.hid (fun W => grf_bit g.marked j W hma j4)
          have z1 : wr.cell? ⟨X, j, none⟩ = some (.int .u64 (nonN g.b k j : Nat)) := Q.out.cell ((cell_of_row wm X j _ _ _ A10.out.tn).trans (by rw [nsRow_get g k _ j4, nsV_at g k hlt]))
          have z2 : wr.cell? ⟨X + 1, j, none⟩ = some (.bool (coinN g.b k j)) := Q.out.cell ((cell_of_row wm (X + 1) j _ _ _ A10.out.tc).trans (by rw [csRow_get g k _ j4, csV_at g k hlt]))
          have f1 : (0 : Int) ≤ j := by omega
          have f2 : (j : Int) < 4 := by omega
          have hv := viewTo_u64 g k j
          generalize viewTo g k j = vv at *
          have K1 := Lib.hid (fun W n => grf_foldQ vv 1 W n)
          have K2 := Lib.hid (fun W n => grf_foldQ (foldV vv 1) (nonN g.b k j : Nat) W n)
          obtain ⟨cb, hcb⟩ : ∃ cb, cb = g.came.testBit j := ⟨_, rfl⟩
          rw [← hcb] at HB VS
          clear hcb
          obtain ⟨mb, hmb⟩ : ∃ mb, mb = g.marked.testBit j := ⟨_, rfl⟩
          rw [← hmb] at HM VS
          clear hmb
          obtain ⟨ct, hct⟩ : ∃ ct, ct = coinN g.b k j := ⟨_, rfl⟩
          rw [← hct] at z2 VS
          clear hct
          cases cb with
          | false =>
            have VS' : Hid (viewTo g k (j + 1) = vv) := Lib.hid (by have h := VS.out; simpa using h)
            clear VS
            go_wp2_with (go_at_call 33; (with_reducible refine (HB.out _).mono ?_); rintro e w' ⟨rfl, rfl⟩)
            go_roundw
            case rel => exact ⟨j + 1, by omega, by go_num, by rw [VS'.out], Q⟩
            case measure => simp [intOf]; omega
          | true =>
            go_upto_region 16 with (go_at_call 33; (with_reducible refine (HB.out _).mono ?_); rintro e w' ⟨rfl, rfl⟩)
            refine wp_region_qt (by kernel_rfl) (by kernel_rfl) ?_
            repeat (first | go_big_quiet_step ((first | (go_at_call 34; exact K1.out _ _) | (go_at_call 34; exact K2.out _ _))) | quiet_step ((first | (go_at_call 34; exact K1.out _ _) | (go_at_call 34; exact K2.out _ _))))
            refine wpQuiet_nil ?_
            intro w7 q7
            have Q7 : Hid (Qt wm w7) := Lib.hid (Q.out.trans q7)
            have y3 := q7.cell y3
            have z2 := q7.cell z2
            clear q7 K1 K2 hv
            generalize foldV (foldV vv 1) (nonN g.b k j : Nat) = v2 at *
            cases mb with
            | true =>
              have VS' : Hid (viewTo g k (j + 1) = v2) := Lib.hid (by have h := VS.out; simpa using h)
              clear VS
              go_wp2_with (go_at_call 33; (with_reducible refine (HM.out _).mono ?_); rintro e w' ⟨rfl, rfl⟩)
              go_roundw
              case rel => exact ⟨j + 1, by omega, by go_num, by rw [VS'.out], Q7⟩
              case measure => simp [intOf]; omega
            | false =>
              cases ct with
              | true =>
                have VS' : Hid (viewTo g k (j + 1) = foldV (foldV v2 1) 1) := Lib.hid (by have h := VS.out; simpa using h)
                have K3 := Lib.hid (fun W => grf_fold v2 1 W)
                have K4 := Lib.hid (fun W => grf_fold (foldV v2 1) 1 W)
                clear VS
                go_wp2_with (first | (go_at_call 33; (with_reducible refine (HM.out _).mono ?_); rintro e w' ⟨rfl, rfl⟩) | (go_at_call 34; (with_reducible refine (K3.out _).mono ?_); rintro e w' ⟨rfl, rfl⟩) | (go_at_call 34; (with_reducible refine (K4.out _).mono ?_); rintro e w' ⟨rfl, rfl⟩))
                go_roundw
                case rel => exact ⟨j + 1, by omega, by go_num, by rw [VS'.out], Q7⟩
                case measure => simp [intOf]; omega
              | false =>
                have VS' : Hid (viewTo g k (j + 1) = foldV (foldV v2 1) 0) := Lib.hid (by have h := VS.out; simpa using h)
                have K3 := Lib.hid (fun W => grf_fold v2 1 W)
                have K4 := Lib.hid (fun W => grf_fold (foldV v2 1) 0 W)
                clear VS
                go_wp2_with (first | (go_at_call 33; (with_reducible refine (HM.out _).mono ?_); rintro e w' ⟨rfl, rfl⟩) | (go_at_call 34; (with_reducible refine (K3.out _).mono ?_); rintro e w' ⟨rfl, rfl⟩) | (go_at_call 34; (with_reducible refine (K4.out _).mono ?_); rintro e w' ⟨rfl, rfl⟩))
                go_roundw
                case rel => exact ⟨j + 1, by omega, by go_num, by rw [VS'.out], Q7⟩
                case measure => simp [intOf]; omega
        · obtain rfl : j = g.n := by omega
          go_wp2_with fail
          have A11 := Lib.hid (A10.out.below Q.out.below)
          have L11 := Lib.hid (L10.out.below Q.out.below)
          have Z11 := Lib.hid (Nat.le_trans Z10.out (show Below 0 wm wr from Q.out.below).size)
          have hvu := viewTo_u64 g k g.n
          clear A10 L10 Z10 Q y1 y2 y3
          generalize wr = wn at *
          clear y1 y2 y3
          have K := Lib.hid (gur_new 0 1 wn ⟨by decide, by decide⟩)
          (with_reducible refine K.out.mono ?_)
          rintro e wg ⟨q, rfl, G12, b12⟩
          have s12 := b12.size
          have AL : Hid (AlR (fun x => x < X + 2 ∧ x ≠ w.heap.size + 2) (w.heap.size + 2) q (ledTo g k g.n) (GS.new 0 1) wg) := Lib.hid ⟨⟨fun x => (x = w.heap.size + 2 ∨ X + 2 ≤ x) ∧ x < wn.heap.size, fun x => wn.heap.size ≤ x ∧ x < wg.heap.size, fun _ => False, ((L11.out.chg (Chg.refl (fun _ => False) wn) (fun _ _ _ h => h) (fun x hx h => (⟨h, hx⟩ : (x = w.heap.size + 2 ∨ X + 2 ≤ x) ∧ x < wn.heap.size))).below b12), G12.sub (fun x hx h => ⟨h, hx⟩) (fun _ _ h => h) (fun _ h => h.elim), fun x hx => ⟨fun h => by omega, id⟩, fun x hx => by rcases hx with hx | hx | hx; exact ⟨by omega, by omega⟩; exact ⟨hx.2, by have := Z11.out; omega⟩; exact hx.elim⟩⟩
          have A12 := Lib.hid (A11.out.below b12)
          have Z12 : X + 2 ≤ wg.heap.size := by have := Z11.out; omega
          clear K G12 b12 A11 L11 Z11
          have PJ : Hid (PlJ w g k A c X wg.heap.size (wg.heap.size + 1) q (.slice none 0 0) (.slice none 0 0) [] [] (viewTo g k g.n) (ledTo g k g.n) (GS.new 0 1) (wg.alloc (.cells #[.slice none 0 0, .slice none 0 0] 49))) := Lib.hid
            ⟨A12.out.below (box_below _ _), heap_alloc_new _ _, World.ownsRow_nil _ _ _ _, World.ownsRow_nil _ _ _ _, fun _ e => by simp [Value.ownBlock] at e, (AL.out.turn (chg_below (box_below wg _) (F := fun _ => False)) (fun _ _ h => h.elim) (fun x e => by rcases e with e | e | e | e; exact .inl e; exact .inr (by omega); (simp [Value.ownBlock] at e); (simp [Value.ownBlock] at e))), hvu, by simp, ⟨rfl, rfl⟩, Z12, by omega⟩
          clear AL A12 hvu
          go_upto_region 25 with fail
          generalize (wg.alloc (.cells #[.slice none 0 0, .slice none 0 0] 49)) = wk at *
          generalize hP : wg.heap.size = P at *
          clear hP s12
          go_wp2_with fail
          go_loopw [10, 15] (fun vw iv wx => ∃ (j : Nat) (V M : Value) (out : List (Vd × Nat)) (lv : List Vd) (li : List Nat) (vv : Int) (s : LS) (gs : GS), j ≤ g.moves.length ∧ iv = .int .i64 j ∧ vw = .int .u64 vv ∧ out.length ≤ j ∧ Hid (out ++ playJ g k (g.moves.drop j) j vv s gs = playedJ g k) ∧ Hid (lv = out.map (·.1) ∧ li = out.map (·.2)) ∧ Hid (PlJ w g k A c X P (P + 1) q V M lv li vv s gs wx)) (fun _ iv _ => g.moves.length - (intOf iv).toNat)
          case atStart => exact ⟨0, _, _, [], [], [], _, _, _, Nat.zero_le _, rfl, rfl, Nat.le_refl _, Lib.hid rfl, Lib.hid ⟨rfl, rfl⟩, PJ⟩
          case round =>
            obtain ⟨j, V, M, out, lv, li, vv, s, gs, hj, rfl, rfl, hol, HE, HLL, S⟩ := hrel
            clear PJ
            generalize wr = wo at *
            have y4 : wo.cell? ⟨w.heap.size, 4, none⟩ = some (.slice A g.moves.length c) := cell_of_row wo w.heap.size 4 _ _ _ S.out.a.tg
            by_cases hlt : j < g.moves.length
            · have hlv : lv.length ≤ 8 := by rw [HLL.out.1, List.length_map]; omega
              have hli : li.length ≤ 8 := by rw [HLL.out.2, List.length_map]; omega
              have f1 : (j : Int) < g.moves.length := by omega
              have HD := Lib.hid (List.drop_eq_getElem_cons hlt)
              rw [HD.out] at HE
              obtain ⟨m, hmj⟩ : ∃ m, m = g.moves[j] := ⟨_, rfl⟩
              rw [← hmj] at HE
              have HM := Lib.hid hmj.symm
              clear HD hmj
              go_upto_block 5 with fail
              refine playT3 S GO HR hlt HM hlv hli (Lib.hid ?_) (Lib.hid ?_)
              · intro V' M' vv' s' gs' lv' li' _ _ _ _ _ _ _ _ _ _ _ _ _ _ _ _ _ _ _ _ _ _ _ _ _ _ _ _ _ _ _ _ _ _ _ _ _ _ _ _ _ _ _ _ _ _ _ _ _ _ _ _ _ _ _ _ _ _ _ _ _ _ _ _ _ _ _ _ _ _ _ _ _ _ _ _ _ _ _ _ _ _ _ _ _ _ _ _ _ _ _ _ _ _ _ _ _ _ _ _ _ _ _ _ _ _ _ _ _ _ _ _ _ _ _ _ _ _ _ _ _ _ _ _ _ _ _ _ _ _ _ wx h
                have S' := Lib.hid h.out.2
                have N' := Lib.hid h.out.1
                clear h S y4
                go_wp2_with fail
                go_roundw
                case rel =>
                  rcases N'.out with ⟨h0, rfl, rfl, rfl, rfl, rfl⟩ | ⟨h0, o, ho, hk, rfl, rfl, rfl, rfl, rfl⟩
                  · exact ⟨j + 1, V', M', out, _, _, _, _, _, by omega, by go_num, rfl, by omega, Lib.hid (by have h := HE.out; unfold playJ at h; rw [if_pos h0] at h; exact h), HLL, S'⟩
                  · refine ⟨j + 1, V', M', out ++ [(o.v, j)], _, _, _, _, _, by omega, by go_num, rfl, by simp; omega, Lib.hid ?_, Lib.hid ⟨by rw [HLL.out.1]; simp, by rw [HLL.out.2]; simp⟩, S'⟩
                    have h := HE.out
                    unfold playJ at h
                    rw [if_neg h0] at h
                    simp only at h
                    rw [← ho, if_neg hk] at h
                    rw [List.append_assoc]
                    exact h
                case measure => simp [intOf]; omega
              · intro V' M' vv' s' gs' lv' li' _ _ _ _ _ _ _ _ _ _ _ _ _ _ _ _ _ _ _ _ _ _ _ _ _ _ _ _ _ _ _ _ _ _ _ _ _ _ _ _ _ _ _ _ _ _ _ _ _ _ _ _ _ _ _ _ _ _ _ _ _ _ _ _ _ _ _ _ _ _ _ _ _ _ _ _ _ _ _ _ _ _ _ _ _ _ _ _ _ _ _ _ _ _ _ _ _ _ _ _ _ _ _ _ _ _ _ _ _ _ _ _ _ _ _ _ _ _ _ _ _ _ _ _ _ _ _ _ _ _ _ wx h
                obtain ⟨h0, o, ho, hk, e1, e2⟩ := h.out.1
                have HE' : Hid (out ++ [(o.v, j)] = playedJ g k) := Lib.hid (by
                  have h := HE.out
                  unfold playJ at h
                  rw [if_neg h0] at h
                  simp only at h
                  rw [← ho, if_pos hk] at h
                  exact h)
                have HLL' : Hid (lv' = (out ++ [(o.v, j)]).map (·.1) ∧ li' = (out ++ [(o.v, j)]).map (·.2)) := Lib.hid ⟨by rw [e1, HLL.out.1]; simp, by rw [e2, HLL.out.2]; simp⟩
                have S' := Lib.hid h.out.2
                clear S y4 h HE HLL e1 e2 h0 ho hk
                obtain ⟨VA, vc, IA, ic, rfl, rfl, l1, l2, HEnd⟩ := play_end S'.out HE'.out HLL'.out
                have HEN := Lib.hid HEnd
                have tr := S'.out.a.tr
                have z0 := cell_of_row wx (w.heap.size + 1) 0 _ _ _ tr
                have fz0 := frozen_of_row wx (w.heap.size + 1) 0 _ _ tr
                have z1 := cell_of_row wx (w.heap.size + 1) 1 _ _ _ tr
                have fz1 := frozen_of_row wx (w.heap.size + 1) 1 _ _ tr
                have x0 := cell_of_row wx P 0 _ _ _ S'.out.tp
                have x1 := cell_of_row wx P 1 _ _ _ S'.out.tp
                rw [l1, l2] at x0 x1
                obtain ⟨nl, hnl⟩ : ∃ nl, nl = (playedJ g k).length := ⟨_, rfl⟩
                rw [← hnl] at x0 x1 HEN
                have HNL := Lib.hid hnl
                have qf := fill_all [.slice VA nl vc, .slice IA nl ic] tr rfl
                have hf := fill_chg (w.heap.size + 1) [.slice VA nl vc, .slice IA nl ic] wx 0
                simp only [fillFrom] at qf hf
                have HQ := Lib.hid qf
                have HF := Lib.hid hf
                clear qf hf tr HEnd l1 l2 hnl
                go_wp2
                (try simp only [Exit.inBlock, Exit.then])
                refine bodyPost_ret (results_cell_row rfl _ _ (w.heap.size + 1) _ _ _ _ rfl HQ.out Tryz.underlying49 rfl (by kernel_rfl)) rfl ?_
                rw [← HNL.out]
                exact ⟨VA, vc, IA, ic, rfl, HEN.out _ HF.out⟩
            · obtain rfl : j = g.moves.length := by omega
              have HE' : Hid (out = playedJ g k) := Lib.hid (by have h := HE.out; rw [List.drop_length] at h; unfold playJ at h; rw [List.append_nil] at h; exact h)
              clear HE
              obtain ⟨VA, vc, IA, ic, rfl, rfl, l1, l2, HEnd⟩ := play_end S.out HE'.out HLL.out
              have HEN := Lib.hid HEnd
              have tr := S.out.a.tr
              have z0 := cell_of_row wo (w.heap.size + 1) 0 _ _ _ tr
              have fz0 := frozen_of_row wo (w.heap.size + 1) 0 _ _ tr
              have z1 := cell_of_row wo (w.heap.size + 1) 1 _ _ _ tr
              have fz1 := frozen_of_row wo (w.heap.size + 1) 1 _ _ tr
              have x0 := cell_of_row wo P 0 _ _ _ S.out.tp
              have x1 := cell_of_row wo P 1 _ _ _ S.out.tp
              rw [l1, l2] at x0 x1
              obtain ⟨nl, hnl⟩ : ∃ nl, nl = (playedJ g k).length := ⟨_, rfl⟩
              rw [← hnl] at x0 x1 HEN
              have HNL := Lib.hid hnl
              have qf := fill_all [.slice VA nl vc, .slice IA nl ic] tr rfl
              have hf := fill_chg (w.heap.size + 1) [.slice VA nl vc, .slice IA nl ic] wo 0
              simp only [fillFrom] at qf hf
              have HQ := Lib.hid qf
              have HF := Lib.hid hf
              clear qf hf tr HEnd l1 l2 hnl
              go_wp2
              (try simp only [Exit.inBlock, Exit.then])
              refine bodyPost_ret (results_cell_row rfl _ _ (w.heap.size + 1) _ _ _ _ rfl HQ.out Tryz.underlying49 rfl (by kernel_rfl)) rfl ?_
              rw [← HNL.out]
              exact ⟨VA, vc, IA, ic, rfl, HEN.out _ HF.out⟩

end Go.Proofs.YtpfmhkkglaghgaaGreat
