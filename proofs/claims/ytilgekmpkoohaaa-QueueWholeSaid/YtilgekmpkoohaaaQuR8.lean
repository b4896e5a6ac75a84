/-
  The reference's queue: Next.
-/
import Derived.Test.YtilgekmpkoohaaaQuR7
import Derived.Deep.CutBlock
namespace Go.Proofs.Ytilgekmpkoohaaa
set_option linter.unusedSimpArgs false
set_option linter.unusedVariables false
set_option linter.unnecessarySimpa false
open Go.RowKit
attribute [local go_sem ↓] run_min_int run_max_int

set_option maxHeartbeats 1000000 in
set_option maxRecDepth 100000 in
theorem quR_next (w : World) (F : Nat → Prop) (q : Nat) (s : QS) (most : Int) (h : QuRP w F q s) (hm : most < 9223372036854775808) :
    Calls Try.prog 26 #[.pointer (some ⟨q, 0, none⟩), .int .i64 most] w fun e w' => s.NextVal most w w' e ∧ Below w.heap.size w w' := by
  have hf : s.b.length ≤ 1000000 := h.few
  have H := Lib.hid h
  obtain ⟨A, c, A1, c1, A2, c2, hC⟩ := h.ex
  have HC := Lib.hid hC
  have EI := Lib.hid (QS.ends_in h.good)
  clear hC h
  by_cases hm1 : most < 1
  · have HN : Hid (s.next most = none) := by show _ = _; rw [QS.next_eq, if_pos hm1]
    have hb : decide (most < 1) = true := decide_eq_true hm1
    go_enter Try.func26, Try.ntmps26
    go_wp2_with fail
    refine bodyPost_ret (results_cell_tmp_row rfl _ _ w.heap.size _ _ _ _ rfl (heap_alloc_new w _) Try.underlying43 rfl infoPiece) rfl ⟨?_, box_below w _⟩
    unfold QS.NextVal
    rw [HN.out]
    rfl
  · have hb : decide (most < 1) = false := decide_eq_false hm1
    have HN : Hid (s.next most = if s.ends.2 = s.ends.1 then none else some (s.ends.1, min s.ends.2 (s.ends.1 + (min most s.b.length).toNat))) := by show _ = _; rw [QS.next_eq, if_neg hm1]
    have B1 := Lib.hid (box_below w (.cells #[.int .u64 0, .slice none 0 0] 43))
    have XB : Hid ((w.alloc (.cells #[.int .u64 0, .slice none 0 0] 43)).heap[w.heap.size]? = some (.cells #[.int .u64 0, .slice none 0 0] 43 (0, 0))) := heap_alloc_new w _
    have hlo := H.out.good.lo
    have hfl := QS.firstOf_le s.ow
    have FL := Lib.hid (fun i => QS.firstOf_lt (l := s.ow) (i := i))
    have FA := Lib.hid (QS.firstOf_at (l := s.ow))
    go_enter Try.func26, Try.ntmps26
    go_upto_region 3 with fail
    generalize hW : (w.alloc (.cells #[.int .u64 0, .slice none 0 0] 43)) = w1 at *
    clear hW
    have C1 := Lib.hid (HC.out.below B1.out)
    have t0 := cell_of_row w1 q 0 _ _ _ C1.out.t
    have ft0 := frozen_of_row w1 q 0 _ _ C1.out.t
    have t1 := cell_of_row w1 q 1 _ _ _ C1.out.t
    have ft1 := frozen_of_row w1 q 1 _ _ C1.out.t
    have t2 := cell_of_row w1 q 2 _ _ _ C1.out.t
    have ft2 := frozen_of_row w1 q 2 _ _ C1.out.t
    have t3 := cell_of_row w1 q 3 _ _ _ C1.out.t
    have ft3 := frozen_of_row w1 q 3 _ _ C1.out.t
    have t4 := cell_of_row w1 q 4 _ _ _ C1.out.t
    have ft4 := frozen_of_row w1 q 4 _ _ C1.out.t
    have O2 := Lib.hid (Rd.of_own C1.out.o2)
    go_upto_block 0 with fail
    go_cut [6] (fun s6 wx => s6 = .int .i64 (QS.firstOf s.ow : Nat) ∧ wx = w1)
    case first =>
      go_wp2_with fail
      go_loopw [6] (fun i wr => ∃ k : Nat, k ≤ QS.firstOf s.ow ∧ i = .int .i64 k ∧ wr = w1) (fun i _ => s.b.length - (intOf i).toNat)
      case atStart => exact ⟨0, Nat.zero_le _, rfl, by first | rfl | trivial⟩
      case round =>
        obtain ⟨k, hk, rfl, rfl⟩ := hrel
        by_cases hlt : k < QS.firstOf s.ow
        · obtain ⟨b, off, rfl, hc⟩ := O2.out.bool (k := k) (by omega)
          rw [FL.out k hlt] at hc
          go_wp2
          go_roundw
          case rel => exact ⟨k + 1, by omega, by go_num, by first | rfl | trivial⟩
          case measure => simp [intOf]; omega
        · have hke : Hid (k = QS.firstOf s.ow) := by show _ = _; omega
          by_cases hlb : k < s.b.length
          · obtain ⟨b, off, rfl, hc⟩ := O2.out.bool (k := k) (by omega)
            rw [show s.ow.getD k false = true by rw [hke.out]; exact FA.out (by omega)] at hc
            go_wp2
            go_meet
            exact ⟨by rw [hke.out], rfl⟩
          · go_wp2
            go_meet
            exact ⟨by rw [hke.out], rfl⟩
    case rest =>
    obtain ⟨rfl, rfl⟩ := hcut
    generalize wc = w1 at *
    obtain ⟨ei1, ei2, ei3⟩ := EI.out
    have RT := Lib.hid (fun i => QS.runTo_lt (l := s.ow) (f := QS.firstOf s.ow) (i := i))
    have RA := Lib.hid (QS.runTo_at hfl)
    go_upto_if 37 with fail
    go_cut [6, 7] (fun s6 s7 wx => ∃ k0 : Nat, s6 = .int .i64 s.ends.1 ∧ s7 = .int .i64 k0 ∧ k0 ≤ s.ends.2 ∧ Hid ((∀ i, k0 ≤ i → i < s.ends.2 → s.ow.getD i false = true) ∧ (s.ends.2 < s.b.length → s.ow.getD s.ends.2 false = false)) ∧ wx = w1)
    case first =>
      by_cases hfe : QS.firstOf s.ow = s.ow.length
      · have E1 : Hid (s.ends = (s.fresh, s.b.length)) := by show _ = _; unfold QS.ends; rw [if_pos hfe]
        have hd : decide ((QS.firstOf s.ow : Int) = (s.b.length : Int)) = true := decide_eq_true (by omega)
        have hd' : ((QS.firstOf s.ow : Int) == (s.b.length : Int)) = true := by simp; omega
        generalize QS.firstOf s.ow = f0 at *
        clear hfe
        go_wp2_with fail
        go_meet
        refine ⟨s.b.length, by rw [E1.out], rfl, by rw [E1.out]; exact Nat.le_refl _, ?_, rfl⟩
        rw [E1.out]
        exact ⟨fun i h1 h2 => by simp only at h2; omega, fun h => by simp only at h; omega⟩
      · have E1 : Hid (s.ends = (QS.firstOf s.ow, QS.runTo s.ow (QS.firstOf s.ow))) := by show _ = _; unfold QS.ends; rw [if_neg hfe]
        have hd : decide ((QS.firstOf s.ow : Int) = (s.b.length : Int)) = false := decide_eq_false (by omega)
        have hd' : ((QS.firstOf s.ow : Int) == (s.b.length : Int)) = false := by simp; omega
        have RL := Lib.hid (QS.runTo_le hfl)
        generalize QS.firstOf s.ow = f0 at *
        go_wp2_with fail
        go_meet
        refine ⟨f0, by rw [E1.out], rfl, by rw [E1.out]; exact RL.out.1, ?_, rfl⟩
        rw [E1.out]
        exact ⟨fun i h1 h2 => RT.out i h1 h2, fun _ => RA.out⟩
    case rest =>
    obtain ⟨k0, rfl, rfl, hk0, KK, rfl⟩ := hcut
    generalize wc = w1 at *
    clear RT RA FL FA hfl
    generalize hE1 : s.ends.1 = a at *
    generalize hE2 : s.ends.2 = z at *
    clear hE1 hE2 EI
    go_upto_block 2 with fail
    go_cut [7] (fun s7 wx => s7 = .int .i64 (z : Nat) ∧ wx = w1)
    case first =>
      go_wp2_with fail
      go_loopw [7] (fun i wr => ∃ k : Nat, k0 ≤ k ∧ k ≤ z ∧ i = .int .i64 k ∧ wr = w1) (fun i _ => s.b.length - (intOf i).toNat)
      case atStart => exact ⟨k0, Nat.le_refl _, hk0, rfl, by first | rfl | trivial⟩
      case round =>
        obtain ⟨k, hk0', hk, rfl, rfl⟩ := hrel
        by_cases hlt : k < z
        · obtain ⟨b, off, rfl, hc⟩ := O2.out.bool (k := k) (by omega)
          rw [KK.out.1 k hk0' hlt] at hc
          go_wp2
          go_roundw
          case rel => exact ⟨k + 1, by omega, by omega, by go_num, by first | rfl | trivial⟩
          case measure => simp [intOf]; omega
        · have hke : Hid (k = z) := by show _ = _; omega
          by_cases hlb : k < s.b.length
          · obtain ⟨b, off, rfl, hc⟩ := O2.out.bool (k := k) (by omega)
            rw [show s.ow.getD k false = false by rw [hke.out]; exact KK.out.2 (by omega)] at hc
            go_wp2
            go_meet
            exact ⟨by rw [hke.out], rfl⟩
          · go_wp2
            go_meet
            exact ⟨by rw [hke.out], rfl⟩
    case rest =>
    obtain ⟨rfl, rfl⟩ := hcut
    generalize wc = w1 at *
    clear KK O2
    have O1 := Lib.hid (Rd.of_own C1.out.o)
    clear C1
    have x0 := cell_of_row w1 w.heap.size 0 _ _ _ XB.out
    have fx0 := frozen_of_row w1 w.heap.size 0 _ _ XB.out
    have x1 := cell_of_row w1 w.heap.size 1 _ _ _ XB.out
    have fx1 := frozen_of_row w1 w.heap.size 1 _ _ XB.out
    by_cases hz : z = a
    · have HN2 : Hid (s.next most = none) := by show _ = _; rw [HN.out, if_pos hz]
      subst hz
      go_wp2_with fail
      have E5 := Lib.hid (heap_setCell_same _ w.heap.size 1 _ _ (.slice none 0 0) (heap_setCell_same w1 w.heap.size 0 _ _ (.int .u64 0) XB.out))
      refine bodyPost_ret (results_cell_tmp_row rfl _ _ w.heap.size _ _ _ _ rfl E5.out Try.underlying43 rfl infoPiece) rfl ⟨?_, ?_⟩
      · unfold QS.NextVal
        rw [HN2.out]
        rfl
      · have hb5 := B1.out
        repeat (first | exact Below.refl _ _ | exact hb5 | (refine Below.setCell ?_ (by first | exact Nat.le_refl _ | omega | (simp; done) | (simp; omega)) _) | (refine Below.alloc ?_ (by first | exact Nat.le_refl _ | omega | (simp; done) | (simp; omega)) _) | (refine Below.drew ?_) | (refine below_drewN ?_ _))
    · have hzb : ((z : Int) == (a : Int)) = false := by simp; omega
      have hzb' : decide ((a : Int) = (z : Int)) = false := decide_eq_false (by omega)
      have hzb2 : decide ((z : Int) = (a : Int)) = false := decide_eq_false (by omega)
      obtain ⟨z', hz'⟩ : ∃ z' : Nat, z' = min z (a + (min most s.b.length).toNat) := ⟨_, rfl⟩
      have HN2 : Hid (s.next most = some (a, z')) := by show _ = _; rw [HN.out, if_neg hz, ← hz']
      have HZ : Hid ((z' : Int) = min (z : Int) ((a : Int) + min most (s.b.length : Int))) := by show _ = _; omega
      have l1 : a ≤ z' := by omega
      have l2 : z' ≤ s.b.length := by omega
      clear hz' hz
      obtain ⟨iB, hiB, bz0, bz1, bz2⟩ := info_parts infoByte
      obtain ⟨AB, hrunB, hcutB⟩ := piece_run (P := Try.prog) (t := 38) Try.underlying38 hiB bz1 A s.b.length c a z' (by omega) (by omega) O1.out.cap
      have RB := Lib.hid (hcutB w1 _ O1.out)
      have wa : IntKind.u64.wrap (a : Int) = (a : Int) := IntWalk.u64_in _ (by omega)
      have hmn1 : min most (s.b.length : Int) ≤ s.b.length := Int.min_le_right _ _
      have hmn2 : (1 : Int) ≤ min most (s.b.length : Int) ∨ min most (s.b.length : Int) = 0 := by omega
      have wm2 : IntKind.i64.wrap ((a : Int) + min most (s.b.length : Int)) = (a : Int) + min most (s.b.length : Int) := IntWalk.i64_in _ (by omega)
      have hx : ((U8 s.b).drop (a * 1)).take ((z' - a) * 1) = U8 ((s.b.drop a).take (z' - a)) := by
        simp [U8, ← List.map_drop, ← List.map_take]
      rw [hx] at RB
      clear hcutB hx
      go_upto_region 15 with fail
      rw [← HZ.out]
      have hc := O1.out.cap
      have hmx := O1.out.max
      unfold maxLen at hmx
      go_wp2_with (
        at_builtin
        refine wpList_append_rd _ rfl (.const (.slice none 0 0)) (.tmp 88) 38 rfl w1.heap.size 5 iB _ 1 1 Try.underlying38 hiB bz0 bz1 bz2 rfl (by decide) (.slice none 0 0) 0 [] rfl (World.ownsRow_nil _ _ _ _)
              AB (z' - a) (c - a) (U8 ((s.b.drop a).take (z' - a))) rfl RB.out (U8_one _) (by unfold maxLen; omega) (by omega) (by simp) ?_
        intro v6 w6 ho6 hg6 hv6
        rw [Nat.zero_add, List.nil_append] at ho6
        obtain ⟨A6, c6, ev6, hA6⟩ := own_slice ho6
        subst ev6
        have HV6 := Lib.hid hv6
        have HO6 := Lib.hid ho6
        have B6 : Hid (Below w1.heap.size w1 w6) := (Below.refl _ _).grown hg6 (Nat.le_refl _) (fun g hg => by simp [Value.ownBlock] at hg)
        have X6 := Lib.hid ((B6.out.block w.heap.size (lt_of_block XB.out)).trans XB.out)
        clear ho6 hg6 hv6 hA6
        have y0 := cell_of_row w6 w.heap.size 0 _ _ _ X6.out
        have fy0 := frozen_of_row w6 w.heap.size 0 _ _ X6.out
        have y1 := cell_of_row w6 w.heap.size 1 _ _ _ X6.out
        have fy1 := frozen_of_row w6 w.heap.size 1 _ _ X6.out)
      have E6 := Lib.hid (heap_setCell_same _ w.heap.size 1 _ _ (.slice A6 (z' - a) c6) (heap_setCell_same w6 w.heap.size 0 _ _ (.int .u64 a) X6.out))
      have hs5 := B1.out.size
      refine bodyPost_ret (results_cell_tmp_row rfl _ _ w.heap.size _ _ _ _ rfl E6.out Try.underlying43 rfl infoPiece) rfl ⟨?_, ?_⟩
      · unfold QS.NextVal
        rw [HN2.out]
        refine ⟨A6, c6, rfl, ?_, fun b off e hn => Nat.le_trans hs5 (own_base2 HO6.out b off e hn)⟩
        have h5 := lt_of_block XB.out
        exact (Rd.of_own HO6.out).chg (((Chg.refl (fun j => j = w.heap.size) w6).setCell (p := ⟨w.heap.size, 0, none⟩) (.inl rfl) _).setCell (p := ⟨w.heap.size, 1, none⟩) (.inl rfl) _) (fun b off e hn e' => by have := own_base2 HO6.out b off e hn; omega)
      · have hb6 := B1.out.trans (B6.out.mono hs5)
        repeat (first | exact Below.refl _ _ | exact hb6 | (refine Below.setCell ?_ (by first | exact Nat.le_refl _ | omega | (simp; done) | (simp; omega)) _) | (refine Below.alloc ?_ (by first | exact Nat.le_refl _ | omega | (simp; done) | (simp; omega)) _) | (refine Below.drew ?_) | (refine below_drewN ?_ _))

end Go.Proofs.Ytilgekmpkoohaaa
