/-
  Part of the proof of EngineRanges.
-/
import Derived.Test.YtpkbimmhimgamaaPAG
namespace Go.Proofs.Ytpkbimmhimgamaa
set_option linter.unusedSimpArgs false
set_option linter.unusedVariables false
set_option linter.unnecessarySimpa false
open Go.RowKit
attribute [local go_sem ↓] run_min_int run_max_int
theorem infoPc : (Try.prog.info? 60).map (·.size) = some 3 := by kernel_rfl
def pcv (tk at_ rt : Int) : Value := .agg #[.int .u64 tk, .int .u64 at_, .int .u64 rt]
def fullS (b : Int) : Int := mulS b 1000000
theorem u1m : isU64 (1000000 : Int) := ⟨by omega, by omega⟩
theorem fullS_u {b : Int} (h : isU64 b) : isU64 (fullS b) := mulS_u h u1m
def rateS (cwnd sm slow : Int) : Int := min (max (downS cwnd 1250000 (max sm 1)) slow) 4294967296
def fillT (tk at_ rt burst now : Int) : Int := min (sadd tk (mulS rt (ssub now at_))) (fullS burst)
theorem set3 {W : World} {g : Nat} {t : TypeId} {a b c x y z : Value} (h : W.heap[g]? = some (.cells #[a, b, c] t (0, 0))) : (((W.setCell ⟨g, 0, none⟩ x).setCell ⟨g, 1, none⟩ y).setCell ⟨g, 2, none⟩ z).heap[g]? = some (.cells #[x, y, z] t (0, 0)) :=
  heap_setCell_same _ g 2 _ _ z (heap_setCell_same _ g 1 _ _ y (heap_setCell_same W g 0 _ _ x h))
theorem set3_chg (W : World) (g : Nat) (x y z : Value) : Chg (fun j => j = g) W (((W.setCell ⟨g, 0, none⟩ x).setCell ⟨g, 1, none⟩ y).setCell ⟨g, 2, none⟩ z) :=
  (((Chg.refl (fun j => j = g) W).setCell (p := ⟨g, 0, none⟩) (.inl rfl) _).setCell (p := ⟨g, 1, none⟩) (.inl rfl) _).setCell (p := ⟨g, 2, none⟩) (.inl rfl) _
theorem pc_full (b : Int) (w : World) (hb : isU64 b) :
    Calls Try.prog 35 #[.int .u64 b] w fun e w' => e = .returned (.int .u64 (fullS b)) ∧ Qt w w' := by
  have K := Lib.hid (sat_mul b 1000000 w hb u1m)
  have H : Hid (fullS b = mulS b 1000000) := Lib.hid rfl
  generalize mulS b 1000000 = y at *
  go_enter Try.func35, Try.ntmps35
  go_wp2_with fail
  refine K.out.mono ?_
  rintro e w1 ⟨rfl, q1⟩
  go_wp2
  go_ret
  exact ⟨ret_int H.out.symm, q1⟩
theorem pc_start (b now rate : Int) (w : World) (hb : isU64 b) :
    Calls Try.prog 15 #[.int .u64 b, .int .u64 now, .int .u64 rate] w fun e w' => e = .returned (pcv (fullS b) now (min rate 4294967296)) ∧ Below w.heap.size w w' := by
  have K := Lib.hid (fun w => pc_full b w hb)
  have n1 := heap_alloc_new w (.cells #[.int .u64 0, .int .u64 0, .int .u64 0] 60)
  have HB := Lib.hid (box_below w (.cells #[.int .u64 0, .int .u64 0, .int .u64 0] 60))
  unfold pcv
  generalize fullS b = y at *
  go_enter Try.func15, Try.ntmps15
  go_wp2_with fail
  generalize w.alloc (.cells #[.int .u64 0, .int .u64 0, .int .u64 0] 60) = w0 at *
  refine (K.out _).mono ?_
  rintro e w1 ⟨rfl, q1⟩
  have m1 := (q1.below.block _ (lt_of_block n1)).trans n1
  have HE := HB.out.trans (q1.below.mono HB.out.size)
  have a0 := cell_of_row _ (w.heap.size) 0 _ _ _ m1
  have fa0 := frozen_of_row _ (w.heap.size) 0 _ _ m1
  have a1 := cell_of_row _ (w.heap.size) 1 _ _ _ m1
  have fa1 := frozen_of_row _ (w.heap.size) 1 _ _ m1
  have a2 := cell_of_row _ (w.heap.size) 2 _ _ _ m1
  have fa2 := frozen_of_row _ (w.heap.size) 2 _ _ m1
  have E2 := Lib.hid (set3 (x := .int .u64 y) (y := .int .u64 now) (z := .int .u64 (min rate 4294967296)) m1)
  have C2 := Lib.hid (set3_chg w1 w.heap.size (.int .u64 y) (.int .u64 now) (.int .u64 (min rate 4294967296)))
  clear m1 n1 q1
  go_wp2
  (try simp only [Exit.inBlock, Exit.then])
  exact bodyPost_ret (results_cell_row rfl _ _ (w.heap.size) _ _ _ _ rfl E2.out Try.underlying60 rfl infoPc) rfl ⟨rfl, HE.trans (C2.out.below HE.size (fun j hj e => by omega))⟩
theorem pc_rate (c sm slow : Int) (w : World) (hc : isU64 c) (hs : isU64 sm) :
    Calls Try.prog 36 #[.int .u64 c, .int .u64 sm, .int .u64 slow] w fun e w' => e = .returned (.int .u64 (rateS c sm slow)) ∧ Below w.heap.size w w' := by
  have hm : isU64 (max sm 1) := by unfold isU64 at *; omega
  have K := Lib.hid (wide_down c 1250000 (max sm 1) w hc ⟨by omega, by omega⟩ hm)
  have H : Hid (rateS c sm slow = min (max (downS c 1250000 (max sm 1)) slow) 4294967296) := Lib.hid rfl
  have H2 : Hid (rateS c sm slow = min 4294967296 (max slow (downS c 1250000 (max sm 1)))) := Lib.hid (by rw [H.out]; omega)
  clear hm hc hs
  generalize downS c 1250000 (max sm 1) = y at *
  go_enter Try.func36, Try.ntmps36
  go_wp2_with fail
  refine K.out.mono ?_
  rintro e w1 ⟨rfl, q1⟩
  go_wp2
  go_ret
  exact ⟨ret_int H.out.symm, q1.below⟩
theorem ref_rate (c sm slow : Int) (w : World) (hc : isU64 c) (hs : isU64 sm) :
    Calls Try.prog 8 #[.int .u64 c, .int .u64 sm, .int .u64 slow] w fun e w' => e = .returned (.int .u64 (rateS c sm slow)) ∧ Below w.heap.size w w' := by
  have hm : isU64 (max sm 1) := by unfold isU64 at *; omega
  have K := Lib.hid (ref_down c 1250000 (max sm 1) w hc ⟨by omega, by omega⟩ hm)
  have H : Hid (rateS c sm slow = min (max (downS c 1250000 (max sm 1)) slow) 4294967296) := Lib.hid rfl
  have H2 : Hid (rateS c sm slow = min 4294967296 (max slow (downS c 1250000 (max sm 1)))) := Lib.hid (by rw [H.out]; omega)
  clear hm hc hs
  generalize downS c 1250000 (max sm 1) = y at *
  go_enter Try.func8, Try.ntmps8
  go_wp2_with fail
  refine K.out.mono ?_
  rintro e w1 ⟨rfl, q1⟩
  go_wp2
  go_ret
  exact ⟨ret_int H2.out.symm, q1⟩
set_option maxHeartbeats 2000000 in
set_option maxRecDepth 100000 in
theorem pc_fill (tk at_ rt burst now : Int) (w : World) (ht : isU64 tk) (ha : isU64 at_) (hr : isU64 rt) (hb : isU64 burst) (hn : isU64 now) :
    Calls Try.prog 62 #[pcv tk at_ rt, .int .u64 burst, .int .u64 now] w fun e w' => e = .returned (pcv (fillT tk at_ rt burst now) (max at_ now) rt) ∧ Below w.heap.size w w' := by
  have h1 := u64_ssub hn ha
  have h2 := mulS_u hr h1
  have K1 := Lib.hid (fun w => clk_since now at_ w hn ha)
  have K2 := Lib.hid (fun w => sat_mul rt (ssub now at_) w hr h1)
  have K3 := Lib.hid (fun w => sat_addS tk (mulS rt (ssub now at_)) w ht h2)
  have K4 := Lib.hid (fun w => pc_full burst w hb)
  have H : Hid (fillT tk at_ rt burst now = min (sadd tk (mulS rt (ssub now at_))) (fullS burst)) := Lib.hid rfl
  generalize sadd tk (mulS rt (ssub now at_)) = y3 at *
  generalize mulS rt (ssub now at_) = y2 at *
  generalize ssub now at_ = y1 at *
  generalize fullS burst = y4 at *
  have H2 : Hid (fillT tk at_ rt burst now = min y3 y4) := Lib.hid (by first | (rw [H.out]; done) | (rw [H.out]; omega))
  clear h1 h2 ht ha hr hb hn H
  have z2 := box_below (w.alloc (.cells #[.int .u64 tk, .int .u64 at_, .int .u64 rt] 60)) (.cells #[.int .u64 0, .int .u64 0, .int .u64 0] 60)
  have n1 := (z2.block _ (lt_of_block (heap_alloc_new w (.cells #[.int .u64 tk, .int .u64 at_, .int .u64 rt] 60)))).trans (heap_alloc_new w _)
  have n2 := box2 w (.cells #[.int .u64 tk, .int .u64 at_, .int .u64 rt] 60) #[.int .u64 0, .int .u64 0, .int .u64 0] 60
  have HB := Lib.hid (box2_below w (.cells #[.int .u64 tk, .int .u64 at_, .int .u64 rt] 60) (.cells #[.int .u64 0, .int .u64 0, .int .u64 0] 60))
  clear z2
  unfold pcv
  rw [H2.out]
  go_enter Try.func62, Try.ntmps62
  go_upto_region 1 with fail
  generalize (w.alloc (.cells #[.int .u64 tk, .int .u64 at_, .int .u64 rt] 60)).alloc (.cells #[.int .u64 0, .int .u64 0, .int .u64 0] 60) = w0 at *
  have a0 := cell_of_row _ (w.heap.size) 0 _ _ _ n1
  have fa0 := frozen_of_row _ (w.heap.size) 0 _ _ n1
  have a1 := cell_of_row _ (w.heap.size) 1 _ _ _ n1
  have fa1 := frozen_of_row _ (w.heap.size) 1 _ _ n1
  have a2 := cell_of_row _ (w.heap.size) 2 _ _ _ n1
  have fa2 := frozen_of_row _ (w.heap.size) 2 _ _ n1
  refine wp_region_qtt 14 (by kernel_rfl) (by kernel_rfl) ?_
  simp only [List.take_succ_cons, List.take_zero, List.drop_succ_cons, List.drop_zero]
  repeat (first | go_big_quiet_step ((first | (go_at_call 80; with_reducible exact Qt.callN (K1.out _)) | (go_at_call 58; with_reducible exact Qt.callN (K2.out _)) | (go_at_call 50; with_reducible exact Qt.callN (K3.out _)) | (go_at_call 35; with_reducible exact Qt.callN (K4.out _)))) | quiet_step ((first | (go_at_call 80; with_reducible exact Qt.callN (K1.out _)) | (go_at_call 58; with_reducible exact Qt.callN (K2.out _)) | (go_at_call 50; with_reducible exact Qt.callN (K3.out _)) | (go_at_call 35; with_reducible exact Qt.callN (K4.out _)))))
  refine wpQuiet_nil ?_
  intro w2 q2
  have m1 := (q2.below.block _ (lt_of_block n1)).trans n1
  have m2 := (q2.below.block _ (lt_of_block n2)).trans n2
  have HE := HB.out.trans (q2.below.mono HB.out.size)
  clear a0 a1 a2 fa0 fa1 fa2 n1 n2 q2
  have a0 := cell_of_row _ (w.heap.size) 0 _ _ _ m1
  have fa0 := frozen_of_row _ (w.heap.size) 0 _ _ m1
  have a1 := cell_of_row _ (w.heap.size) 1 _ _ _ m1
  have fa1 := frozen_of_row _ (w.heap.size) 1 _ _ m1
  have a2 := cell_of_row _ (w.heap.size) 2 _ _ _ m1
  have fa2 := frozen_of_row _ (w.heap.size) 2 _ _ m1
  have b0 := cell_of_row _ (w.heap.size + 1) 0 _ _ _ m2
  have fb0 := frozen_of_row _ (w.heap.size + 1) 0 _ _ m2
  have b1 := cell_of_row _ (w.heap.size + 1) 1 _ _ _ m2
  have fb1 := frozen_of_row _ (w.heap.size + 1) 1 _ _ m2
  have b2 := cell_of_row _ (w.heap.size + 1) 2 _ _ _ m2
  have fb2 := frozen_of_row _ (w.heap.size + 1) 2 _ _ m2
  obtain ⟨w5, hw5⟩ : ∃ v, v = (w2.setCell ⟨w.heap.size, 0, none⟩ (.int .u64 (min y3 y4))).setCell ⟨w.heap.size, 1, none⟩ (.int .u64 (max at_ now)) := ⟨_, rfl⟩
  have C5 : Chg (fun j => j = w.heap.size) w2 w5 := by
    rw [hw5]
    exact ((Chg.refl (fun j => j = w.heap.size) w2).setCell (p := ⟨w.heap.size, 0, none⟩) (.inl rfl) _).setCell (p := ⟨w.heap.size, 1, none⟩) (.inl rfl) _
  have HE5 := HE.trans (C5.below HE.size (fun j hj e => by omega))
  have s2 := C5.blk m2 (by omega)
  have E2 := Lib.hid (set3 (x := .int .u64 (min y3 y4)) (y := .int .u64 (max at_ now)) (z := .int .u64 rt) s2)
  have C2 := Lib.hid (set3_chg w5 (w.heap.size + 1) (.int .u64 (min y3 y4)) (.int .u64 (max at_ now)) (.int .u64 rt))
  have HE := HE5.trans (C2.out.below HE5.size (fun j hj e => by omega))
  clear C5 HE5 s2 m1 m2 C2
  rw [hw5] at E2 HE
  clear hw5
  go_wp2
  (try simp only [Exit.inBlock, Exit.then])
  exact bodyPost_ret (results_cell_row rfl _ _ (w.heap.size + 1) _ _ _ _ rfl E2.out Try.underlying60 rfl infoPc) rfl ⟨rfl, HE⟩
theorem fillT_u {tk at_ rt burst now : Int} (ht : isU64 tk) (ha : isU64 at_) (hr : isU64 rt) (hb : isU64 burst) (hn : isU64 now) : isU64 (fillT tk at_ rt burst now) := by
  have h1 := u64_sadd ht (mulS_u hr (u64_ssub hn ha))
  have h2 := fullS_u hb
  unfold fillT isU64 at *
  omega
end Go.Proofs.Ytpkbimmhimgamaa
namespace Go.Proofs.Ytpkbimmhimgamaa
set_option linter.unusedSimpArgs false
set_option linter.unusedVariables false
set_option linter.unnecessarySimpa false
open Go.RowKit
attribute [local go_sem ↓] run_min_int run_max_int
def takeT (tk at_ rt burst now size : Int) : Int := if fillT tk at_ rt burst now < fullS size then fillT tk at_ rt burst now else fillT tk at_ rt burst now - fullS size
theorem takeT_u {tk at_ rt burst now size : Int} (ht : isU64 tk) (ha : isU64 at_) (hr : isU64 rt) (hb : isU64 burst) (hn : isU64 now) (hz : isU64 size) : isU64 (takeT tk at_ rt burst now size) := by
  have h1 := fillT_u ht ha hr hb hn
  have h2 := fullS_u hz
  unfold takeT
  split
  · exact h1
  · unfold isU64 at *
    omega
set_option maxHeartbeats 1000000 in
theorem pc_take (tk at_ rt burst now size : Int) (w : World) (ht : isU64 tk) (ha : isU64 at_) (hr : isU64 rt) (hb : isU64 burst) (hn : isU64 now) (hz : isU64 size) :
    Calls Try.prog 42 #[pcv tk at_ rt, .int .u64 burst, .int .u64 now, .int .u64 size] w fun e w' => e = .returned (.tuple #[pcv (takeT tk at_ rt burst now size) (max at_ now) rt, .bool (decide (fullS size ≤ fillT tk at_ rt burst now))]) ∧ Below w.heap.size w w' := by
  have hy := fillT_u ht ha hr hb hn
  have hq := fullS_u hz
  have HT : Hid (takeT tk at_ rt burst now size = if fillT tk at_ rt burst now < fullS size then fillT tk at_ rt burst now else fillT tk at_ rt burst now - fullS size) := Lib.hid rfl
  have KF := Lib.hid (fun w => pc_full size w hz)
  generalize takeT tk at_ rt burst now size = z at *
  generalize fullS size = q at *
  have K := Lib.hid (fun w => pc_fill tk at_ rt burst now w ht ha hr hb hn)
  generalize fillT tk at_ rt burst now = y at *
  obtain ⟨m, hm⟩ : ∃ m, m = max at_ now := ⟨_, rfl⟩
  simp only [← hm] at K
  rw [← hm]
  clear hm
  have z2 := box_below (w.alloc (.cells #[.int .u64 tk, .int .u64 at_, .int .u64 rt] 60)) (.cells #[.int .u64 0, .int .u64 0, .int .u64 0] 60)
  have n1 := (z2.block _ (lt_of_block (heap_alloc_new w (.cells #[.int .u64 tk, .int .u64 at_, .int .u64 rt] 60)))).trans (heap_alloc_new w _)
  have n2 := box2 w (.cells #[.int .u64 tk, .int .u64 at_, .int .u64 rt] 60) #[.int .u64 0, .int .u64 0, .int .u64 0] 60
  have HB := Lib.hid (box2_below w (.cells #[.int .u64 tk, .int .u64 at_, .int .u64 rt] 60) (.cells #[.int .u64 0, .int .u64 0, .int .u64 0] 60))
  clear z2
  unfold pcv at *
  by_cases hc : y < q
  · have d1 : decide (y < q) = true := decide_eq_true hc
    have HZ := HT.out
    rw [if_pos hc] at HZ
    rw [decide_eq_false (show ¬ q ≤ y by omega)]
    have HY := HZ.symm
    clear HZ
    subst HY
    clear HT hc hy hq
    go_enter Try.func42, Try.ntmps42
    go_wp2_with fail
    generalize (w.alloc (.cells #[.int .u64 tk, .int .u64 at_, .int .u64 rt] 60)).alloc (.cells #[.int .u64 0, .int .u64 0, .int .u64 0] 60) = w0 at *
    refine (K.out _).mono ?_
    rintro e w1 ⟨rfl, b1⟩
    have m1 := (b1.block _ (lt_of_block n1)).trans n1
    have m2 := (b1.block _ (lt_of_block n2)).trans n2
    have HE := HB.out.trans (b1.mono HB.out.size)
    have a0 := cell_of_row _ (w.heap.size) 0 _ _ _ m1
    have fa0 := frozen_of_row _ (w.heap.size) 0 _ _ m1
    have a1 := cell_of_row _ (w.heap.size) 1 _ _ _ m1
    have fa1 := frozen_of_row _ (w.heap.size) 1 _ _ m1
    have a2 := cell_of_row _ (w.heap.size) 2 _ _ _ m1
    have fa2 := frozen_of_row _ (w.heap.size) 2 _ _ m1
    have s1 := set3 (x := .int .u64 y) (y := .int .u64 m) (z := .int .u64 rt) m1
    have C1 := set3_chg w1 w.heap.size (.int .u64 y) (.int .u64 m) (.int .u64 rt)
    have s2 := C1.blk m2 (by omega)
    have HE1 := HE.trans (C1.below HE.size (fun j hj e => by omega))
    clear m1 m2 n1 n2 b1 HE C1
    go_upto_region 2 with fail
    generalize ((w1.setCell ⟨w.heap.size, 0, none⟩ (.int .u64 y)).setCell ⟨w.heap.size, 1, none⟩ (.int .u64 m)).setCell ⟨w.heap.size, 2, none⟩ (.int .u64 rt) = w3 at *
    clear a0 a1 a2 fa0 fa1 fa2
    go_wp2_with fail
    refine (KF.out _).mono ?_
    rintro e w4 ⟨rfl, q4⟩
    have r1 := (q4.below.block _ (lt_of_block s1)).trans s1
    have r2 := (q4.below.block _ (lt_of_block s2)).trans s2
    have HE4 := HE1.trans (q4.below.mono HE1.size)
    clear q4 s1 s2 HE1
    have a0 := cell_of_row _ (w.heap.size) 0 _ _ _ r1
    have fa0 := frozen_of_row _ (w.heap.size) 0 _ _ r1
    have a1 := cell_of_row _ (w.heap.size) 1 _ _ _ r1
    have fa1 := frozen_of_row _ (w.heap.size) 1 _ _ r1
    have a2 := cell_of_row _ (w.heap.size) 2 _ _ _ r1
    have fa2 := frozen_of_row _ (w.heap.size) 2 _ _ r1
    have b0 := cell_of_row _ (w.heap.size + 1) 0 _ _ _ r2
    have fb0 := frozen_of_row _ (w.heap.size + 1) 0 _ _ r2
    have b1 := cell_of_row _ (w.heap.size + 1) 1 _ _ _ r2
    have fb1 := frozen_of_row _ (w.heap.size + 1) 1 _ _ r2
    have b2 := cell_of_row _ (w.heap.size + 1) 2 _ _ _ r2
    have fb2 := frozen_of_row _ (w.heap.size + 1) 2 _ _ r2
    have E2 := Lib.hid (set3 (x := .int .u64 y) (y := .int .u64 m) (z := .int .u64 rt) r2)
    have C2 := Lib.hid (set3_chg w4 (w.heap.size + 1) (.int .u64 y) (.int .u64 m) (.int .u64 rt))
    have HE := HE4.trans (C2.out.below HE4.size (fun j hj e => by omega))
    clear C2 r1 r2
    go_wp2
    (try simp only [Exit.inBlock, Exit.then])
    exact bodyPost_ret (results_cell_tmp_row rfl _ _ (w.heap.size + 1) _ _ _ _ rfl E2.out Try.underlying60 rfl infoPc) rfl ⟨rfl, HE⟩
  · have d1 : decide (y < q) = false := decide_eq_false hc
    have HZ := HT.out
    rw [if_neg hc] at HZ
    rw [decide_eq_true (show q ≤ y by omega)]
    have wz : IntKind.u64.wrap (y - q) = z := by rw [HZ]; exact IntWalk.u64_in _ (by unfold isU64 at *; omega)
    clear HT HZ hc hy hq
    go_enter Try.func42, Try.ntmps42
    go_wp2_with fail
    generalize (w.alloc (.cells #[.int .u64 tk, .int .u64 at_, .int .u64 rt] 60)).alloc (.cells #[.int .u64 0, .int .u64 0, .int .u64 0] 60) = w0 at *
    refine (K.out _).mono ?_
    rintro e w1 ⟨rfl, b1⟩
    have m1 := (b1.block _ (lt_of_block n1)).trans n1
    have m2 := (b1.block _ (lt_of_block n2)).trans n2
    have HE := HB.out.trans (b1.mono HB.out.size)
    have a0 := cell_of_row _ (w.heap.size) 0 _ _ _ m1
    have fa0 := frozen_of_row _ (w.heap.size) 0 _ _ m1
    have a1 := cell_of_row _ (w.heap.size) 1 _ _ _ m1
    have fa1 := frozen_of_row _ (w.heap.size) 1 _ _ m1
    have a2 := cell_of_row _ (w.heap.size) 2 _ _ _ m1
    have fa2 := frozen_of_row _ (w.heap.size) 2 _ _ m1
    have s1 := set3 (x := .int .u64 y) (y := .int .u64 m) (z := .int .u64 rt) m1
    have C1 := set3_chg w1 w.heap.size (.int .u64 y) (.int .u64 m) (.int .u64 rt)
    have s2 := C1.blk m2 (by omega)
    have HE1 := HE.trans (C1.below HE.size (fun j hj e => by omega))
    clear m1 m2 n1 n2 b1 HE C1
    go_upto_region 2 with fail
    generalize ((w1.setCell ⟨w.heap.size, 0, none⟩ (.int .u64 y)).setCell ⟨w.heap.size, 1, none⟩ (.int .u64 m)).setCell ⟨w.heap.size, 2, none⟩ (.int .u64 rt) = w3 at *
    clear a0 a1 a2 fa0 fa1 fa2
    go_wp2_with fail
    refine (KF.out _).mono ?_
    rintro e w4 ⟨rfl, q4⟩
    have r1 := (q4.below.block _ (lt_of_block s1)).trans s1
    have r2 := (q4.below.block _ (lt_of_block s2)).trans s2
    have HE4 := HE1.trans (q4.below.mono HE1.size)
    clear q4 s1 s2 HE1
    have a0 := cell_of_row _ (w.heap.size) 0 _ _ _ r1
    have fa0 := frozen_of_row _ (w.heap.size) 0 _ _ r1
    have a1 := cell_of_row _ (w.heap.size) 1 _ _ _ r1
    have fa1 := frozen_of_row _ (w.heap.size) 1 _ _ r1
    have a2 := cell_of_row _ (w.heap.size) 2 _ _ _ r1
    have fa2 := frozen_of_row _ (w.heap.size) 2 _ _ r1
    have b0 := cell_of_row _ (w.heap.size + 1) 0 _ _ _ r2
    have fb0 := frozen_of_row _ (w.heap.size + 1) 0 _ _ r2
    have b1 := cell_of_row _ (w.heap.size + 1) 1 _ _ _ r2
    have fb1 := frozen_of_row _ (w.heap.size + 1) 1 _ _ r2
    have b2 := cell_of_row _ (w.heap.size + 1) 2 _ _ _ r2
    have fb2 := frozen_of_row _ (w.heap.size + 1) 2 _ _ r2
    obtain ⟨w5, hw5⟩ : ∃ v, v = w4.setCell ⟨w.heap.size, 0, none⟩ (.int .u64 z) := ⟨_, rfl⟩
    have C5 : Chg (fun j => j = w.heap.size) w4 w5 := by
      rw [hw5]
      exact (Chg.refl (fun j => j = w.heap.size) w4).setCell (p := ⟨w.heap.size, 0, none⟩) (.inl rfl) _
    have HE5 := HE4.trans (C5.below HE4.size (fun j hj e => by omega))
    have s3 := C5.blk r2 (by omega)
    have E2 := Lib.hid (set3 (x := .int .u64 z) (y := .int .u64 m) (z := .int .u64 rt) s3)
    have C2 := Lib.hid (set3_chg w5 (w.heap.size + 1) (.int .u64 z) (.int .u64 m) (.int .u64 rt))
    have HE := HE5.trans (C2.out.below HE5.size (fun j hj e => by omega))
    clear C5 HE5 s3 C2 r1 r2
    rw [hw5] at E2 HE
    clear hw5
    go_wp2
    (try simp only [Exit.inBlock, Exit.then])
    exact bodyPost_ret (results_cell_tmp_row rfl _ _ (w.heap.size + 1) _ _ _ _ rfl E2.out Try.underlying60 rfl infoPc) rfl ⟨rfl, HE⟩
end Go.Proofs.Ytpkbimmhimgamaa
namespace Go.Proofs.Ytpkbimmhimgamaa
set_option linter.unusedSimpArgs false
set_option linter.unusedVariables false
set_option linter.unnecessarySimpa false
open Go.RowKit
attribute [local go_sem ↓] run_min_int run_max_int
/-- A function by value under way: the argument's box, the result's cell. -/
structure StB (w : World) (T : TypeId) (cs zs : Array Value) (W : World) : Prop where
  a : W.heap[w.heap.size]? = some (.cells cs T (0, 0))
  b : W.heap[w.heap.size + 1]? = some (.cells zs T (0, 0))
  bel : Below w.heap.size w W
theorem StB.of (w : World) (T : TypeId) (cs zs : Array Value) : StB w T cs zs ((w.alloc (.cells cs T)).alloc (.cells zs T)) := by
  have z2 := box_below (w.alloc (.cells cs T)) (.cells zs T)
  exact ⟨(z2.block _ (lt_of_block (heap_alloc_new w (.cells cs T)))).trans (heap_alloc_new w _), box2 w (.cells cs T) zs T, box2_below w _ _⟩
theorem StB.step {w W W' : World} {T : TypeId} {cs zs : Array Value} (h : StB w T cs zs W) (b : Below W.heap.size W W') : StB w T cs zs W' :=
  ⟨(b.block _ (lt_of_block h.a)).trans h.a, (b.block _ (lt_of_block h.b)).trans h.b, h.bel.trans (b.mono h.bel.size)⟩
theorem StB.set {w W : World} {T : TypeId} {cs zs : Array Value} (h : StB w T cs zs W) (i : Nat) (v : Value) (cs' : Array Value) (e : cs' = cs.setIfInBounds i v) : StB w T cs' zs (W.setCell ⟨w.heap.size, i, none⟩ v) := by
  have C5 : Chg (fun j => j = w.heap.size) W (W.setCell ⟨w.heap.size, i, none⟩ v) := (Chg.refl (fun j => j = w.heap.size) W).setCell (p := ⟨w.heap.size, i, none⟩) (.inl rfl) _
  refine ⟨?_, C5.blk h.b (by omega), h.bel.trans (C5.below h.bel.size (fun j hj e => by omega))⟩
  rw [e]
  exact heap_setCell_same W w.heap.size i _ _ v h.a
def wnv (cw th ac pk ep kk fr : Int) : Value := .agg #[.int .u64 cw, .int .u64 th, .int .u64 ac, .int .u64 pk, .int .u64 ep, .int .u64 kk, .int .u64 fr]
def slowS (cw acked mss : Int) : Int := sadd cw (min acked (mulS 2 mss))
end Go.Proofs.Ytpkbimmhimgamaa
namespace Go.Proofs.Ytpkbimmhimgamaa
set_option linter.unusedSimpArgs false
set_option linter.unusedVariables false
set_option linter.unnecessarySimpa false
open Go.RowKit
end Go.Proofs.Ytpkbimmhimgamaa
namespace Go.Proofs.Ytpkbimmhimgamaa
set_option linter.unusedSimpArgs false
set_option linter.unusedVariables false
set_option linter.unnecessarySimpa false
open Go.RowKit
attribute [local go_sem ↓] run_min_int run_max_int
def growC (cw th ac acked mss : Int) : Int := if cw < th then slowS cw acked mss else if cw ≤ sadd ac acked then sadd cw mss else cw
def growA (cw th ac acked : Int) : Int := if cw < th then ac else if cw ≤ sadd ac acked then sadd ac acked - cw else sadd ac acked
end Go.Proofs.Ytpkbimmhimgamaa
namespace Go.Proofs.Ytpkbimmhimgamaa
set_option linter.unusedSimpArgs false
set_option linter.unusedVariables false
set_option linter.unnecessarySimpa false
open Go.RowKit
attribute [local go_sem ↓] run_min_int run_max_int
def peakS (cw pk : Int) : Int := if cw < pk then downS cw 17 20 else cw
theorem u17 : isU64 (17 : Int) := ⟨by omega, by omega⟩
theorem u20 : isU64 (20 : Int) := ⟨by omega, by omega⟩
end Go.Proofs.Ytpkbimmhimgamaa
namespace Go.Proofs.Ytpkbimmhimgamaa
set_option linter.unusedSimpArgs false
set_option linter.unusedVariables false
set_option linter.unnecessarySimpa false
open Go.RowKit
attribute [local go_sem ↓] run_min_int run_max_int
def atD (t k : Int) : Int := downS (downS (diffS t k) (diffS t k) 1000000) (diffS t k) 1000000
def atZ (t k mss : Int) : Int := downS (atD t k) (mulS 2 mss) 5000000
def atS (peak k t mss : Int) : Int := if k ≤ t then sadd peak (atZ t k mss) else ssub peak (atZ t k mss)
end Go.Proofs.Ytpkbimmhimgamaa
namespace Go.Proofs.Ytpkbimmhimgamaa
set_option linter.unusedSimpArgs false
set_option linter.unusedVariables false
set_option linter.unnecessarySimpa false
open Go.RowKit
attribute [local go_sem ↓] run_min_int run_max_int
def longH (peak cw : Int) : Int := (peak - cw) * 2500000000000000000 / 18446744073709551616
def longL (peak cw : Int) : Int := (peak - cw) * 2500000000000000000 % 18446744073709551616
def longQ (peak cw mss : Int) : Int := (longH peak cw % mss * 18446744073709551616 + longL peak cw) / mss
def longS (peak cw mss : Int) : Int := if peak ≤ cw ∨ mss = 0 then 0 else cubS (longH peak cw / mss) (longQ peak cw mss)
theorem longS_u (peak cw mss : Int) : isU64 (longS peak cw mss) := by
  unfold longS
  split
  · exact ⟨by omega, by omega⟩
  · exact cubS_u _ _
end Go.Proofs.Ytpkbimmhimgamaa
namespace Go.Proofs.Ytpkbimmhimgamaa
set_option linter.unusedSimpArgs false
set_option linter.unusedVariables false
set_option linter.unnecessarySimpa false
open Go.RowKit
end Go.Proofs.Ytpkbimmhimgamaa
namespace Go.Proofs.Ytpkbimmhimgamaa
set_option linter.unusedSimpArgs false
set_option linter.unusedVariables false
set_option linter.unnecessarySimpa false
open Go.RowKit
/-- A window's numbers. -/
structure Wn where
  cw : Int
  th : Int
  ac : Int
  pk : Int
  ep : Int
  kk : Int
  fr : Int
def Wn.val (s : Wn) : Value := wnv s.cw s.th s.ac s.pk s.ep s.kk s.fr
structure Wn.Good (s : Wn) : Prop where
  cw : isU64 s.cw
  th : isU64 s.th
  ac : isU64 s.ac
  pk : isU64 s.pk
  ep : isU64 s.ep
  kk : isU64 s.kk
  fr : isU64 s.fr
/-- An epoch begins, where none is. -/
def Wn.begun (s : Wn) (mss now : Int) : Wn := if s.ep = 18446744073709551615 then { s with ep := now, fr := s.cw, kk := longS s.pk s.cw mss, pk := max s.pk s.cw } else s
def Wn.aim (s : Wn) (mss now smooth : Int) : Int := max (min (atS s.pk s.kk (sadd (ssub now s.ep) smooth) mss) (downS s.cw 3 2)) s.cw
def Wn.more (s : Wn) (acked mss : Int) : Int := if s.fr < s.pk then downS (downS mss acked s.cw) 9 17 else downS mss acked s.cw
def Wn.grown (s : Wn) (acked mss now smooth : Int) : Wn :=
  { s with cw := max (sadd s.cw (downS (s.aim mss now smooth - s.cw) acked s.cw)) (sadd s.fr (s.more acked mss)), fr := sadd s.fr (s.more acked mss) }
def Wn.cubic (s : Wn) (acked mss now smooth : Int) : Wn :=
  if s.cw < s.th then { s with cw := slowS s.cw acked mss }
  else if s.cw = 0 then s.begun mss now
  else (s.begun mss now).grown acked mss now smooth
theorem Wn.Good.begun {s : Wn} (h : s.Good) {mss now : Int} (hn : isU64 now) : (s.begun mss now).Good := by
  unfold Wn.begun
  split
  · refine ⟨h.cw, h.th, h.ac, ?_, hn, longS_u _ _ _, h.cw⟩
    have := h.pk
    have := h.cw
    show isU64 (max s.pk s.cw)
    unfold isU64 at *
    omega
  · exact h
end Go.Proofs.Ytpkbimmhimgamaa
namespace Go.Proofs.Ytpkbimmhimgamaa
set_option linter.unusedSimpArgs false
set_option linter.unusedVariables false
set_option linter.unnecessarySimpa false
open Go.RowKit
def coinS (x : Int) : Bool := x / 9223372036854775808 == 1
def skipsS (x one : Int) : Bool := if 0 < one then x % one == 0 else false
theorem draw_coin (x : Int) (w : World) :
    Calls Try.prog 67 #[.int .u64 x] w fun e w' => e = .returned (.bool (coinS x)) ∧ Qt w w' := by
  have H : Hid (coinS x = (x / 9223372036854775808 == 1)) := Lib.hid rfl
  go_enter Try.func67, Try.ntmps67
  go_wp2
  go_ret
  exact ⟨congrArg Ending.returned (congrArg Value.bool H.out.symm), Qt.refl _⟩
theorem draw_skips (x one : Int) (w : World) (hx : isU64 x) (ho : isU64 one) :
    Calls Try.prog 63 #[.int .u64 x, .int .u64 one] w fun e w' => e = .returned (.bool (skipsS x one)) ∧ Qt w w' := by
  have H : Hid (skipsS x one = if 0 < one then x % one == 0 else false) := Lib.hid rfl
  have tm : Int.tmod x one = x % one := Int.tmod_eq_emod_of_nonneg hx.1
  by_cases h : 0 < one
  · have d1 : decide (0 < one) = true := decide_eq_true h
    have d2 : ¬ one = 0 := by omega
    have d3 : (one != 0) = true := bne_iff_ne.2 d2
    have r0 : 0 ≤ x % one := Int.emod_nonneg _ (by omega)
    have r1 : x % one < one := Int.emod_lt_of_pos _ h
    have wr : IntKind.u64.wrap (x % one) = x % one := IntWalk.u64_in _ (by unfold isU64 at *; omega)
    rw [if_pos h] at H
    clear h hx ho r0 r1
    go_enter Try.func63, Try.ntmps63
    go_wp2
    go_ret
    exact ⟨congrArg Ending.returned (congrArg Value.bool H.out.symm), Qt.refl _⟩
  · have d1 : decide (0 < one) = false := decide_eq_false h
    rw [if_neg h] at H
    clear h hx ho
    go_enter Try.func63, Try.ntmps63
    go_wp2
    go_ret
    exact ⟨congrArg Ending.returned (congrArg Value.bool H.out.symm), Qt.refl _⟩
end Go.Proofs.Ytpkbimmhimgamaa
namespace Go.Proofs.Ytpkbimmhimgamaa
set_option linter.unusedSimpArgs false
set_option linter.unusedVariables false
set_option linter.unnecessarySimpa false
open Go.RowKit
def drA (x : Int) : Int := IntKind.u64.wrap (IntKind.u64.wrap (x + 1) * 11400714819323198485)
def drB (a : Int) : Int := IntKind.u64.wrap (bits .xor .u64 a (a / 1073741824) * 13787848793156543929)
def drC (b : Int) : Int := IntKind.u64.wrap (bits .xor .u64 b (b / 134217728) * 10723151780598845931)
def drD (c : Int) : Int := bits .xor .u64 c (c / 2147483648)
def mixW (x : Int) : Int := drD (drC (drB (drA x)))
theorem draw_mix (x : Int) (w : World) :
    Calls Try.prog 81 #[.int .u64 x] w fun e w' => e = .returned (.int .u64 (mixW x)) ∧ Qt w w' := by
  go_enter Try.func81, Try.ntmps81
  go_wp2
  go_ret
  exact ⟨rfl, Qt.refl _⟩
end Go.Proofs.Ytpkbimmhimgamaa
namespace Go.Proofs.Ytpkbimmhimgamaa
set_option linter.unusedSimpArgs false
set_option linter.unusedVariables false
set_option linter.unnecessarySimpa false
open Go.RowKit
def lowS (x n : Int) : Int := if n < 1 then 0 else if 64 ≤ n then x else x % 2 ^ n.toNat
theorem low_and (x : Int) (k : Nat) (hx : isU64 x) (hk : k < 64) : bits .and .u64 x (((2 ^ k - 1 : Nat)) : Int) = x % 2 ^ k := by
  obtain ⟨y, rfl⟩ := Int.eq_ofNat_of_zero_le hx.1
  have h2 : 2 ^ k ≤ 2 ^ 63 := Nat.pow_le_pow_right (by omega) (by omega)
  have e63 : (2 : Nat) ^ 63 = 9223372036854775808 := by decide
  have h := bits_and_u64_nat y (2 ^ k - 1) (by have := hx.2; omega) (by omega)
  rw [Nat.and_two_pow_sub_one_eq_mod] at h
  have e : ((2 : Int) ^ k) = ((2 ^ k : Nat) : Int) := by rw [Int.natCast_pow]; rfl
  rw [e]
  exact h
set_option maxHeartbeats 1000000 in
theorem draw_low (x n : Int) (w : World) (hx : isU64 x) :
    Calls Try.prog 66 #[.int .u64 x, .int .i64 n] w fun e w' => e = .returned (.int .u64 (lowS x n)) ∧ Qt w w' := by
  have H : Hid (lowS x n = if n < 1 then 0 else if 64 ≤ n then x else x % 2 ^ n.toNat) := Lib.hid rfl
  by_cases h1 : n < 1
  · have d1 : decide (n < 1) = true := decide_eq_true h1
    rw [if_pos h1] at H
    clear h1 hx
    go_enter Try.func66, Try.ntmps66
    go_wp2
    go_ret
    exact ⟨ret_int H.out.symm, Qt.refl _⟩
  · have d1 : decide (n < 1) = false := decide_eq_false h1
    rw [if_neg h1] at H
    by_cases h2 : 64 ≤ n
    · have d2 : decide (64 ≤ n) = true := decide_eq_true h2
      have d3 : decide (63 < n) = true := decide_eq_true (by omega)
      rw [if_pos h2] at H
      clear h1 h2 hx
      go_enter Try.func66, Try.ntmps66
      go_wp2
      go_ret
      exact ⟨ret_int H.out.symm, Qt.refl _⟩
    · have d2 : decide (64 ≤ n) = false := decide_eq_false h2
      have d3 : decide (63 < n) = false := decide_eq_false (by omega)
      rw [if_neg h2] at H
      obtain ⟨k, hk⟩ : ∃ k : Nat, n.toNat = k := ⟨_, rfl⟩
      have hk64 : k < 64 := by omega
      have wn : IntKind.u64.wrap n = n := IntWalk.u64_in _ (by omega)
      have A := low_and x k hx hk64
      have hp : 2 ^ k ≤ 2 ^ 63 := Nat.pow_le_pow_right (by omega) (by omega)
      have hp0 : 0 < 2 ^ k := Nat.two_pow_pos k
      have e63 : (2 : Nat) ^ 63 = 9223372036854775808 := by decide
      have e : ((2 : Int) ^ n.toNat) = ((2 ^ k : Nat) : Int) := by rw [hk, Int.natCast_pow]; rfl
      obtain ⟨P, hP⟩ : ∃ P : Int, P = ((2 ^ k : Nat) : Int) := ⟨_, rfl⟩
      obtain ⟨P1, hP1⟩ : ∃ P1 : Int, P1 = ((2 ^ k - 1 : Nat) : Int) := ⟨_, rfl⟩
      have w1 : IntKind.u64.wrap (2 ^ n.toNat) = P := by rw [e, ← hP]; exact IntWalk.u64_in _ (by omega)
      have w2 : IntKind.u64.wrap (1 * 2 ^ n.toNat) = P := by rw [Int.one_mul]; exact w1
      have w3 : IntKind.u64.wrap (P - 1) = P1 := by rw [show P - 1 = P1 by omega]; exact IntWalk.u64_in _ (by omega)
      rw [← hP1] at A
      rw [hk, ← A] at H
      have hn0 : 0 ≤ n := by omega
      have hn1 : n < 64 := by omega
      clear h1 h2 hx hk hk64 hp hp0 e63 e hP hP1 A
      go_enter Try.func66, Try.ntmps66
      go_wp2
      go_ret
      exact ⟨ret_int H.out.symm, Qt.refl _⟩
end Go.Proofs.Ytpkbimmhimgamaa
