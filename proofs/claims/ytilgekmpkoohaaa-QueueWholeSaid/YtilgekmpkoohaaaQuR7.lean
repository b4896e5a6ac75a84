/-
  The reference's queue: Fork.
-/
import Derived.Test.YtilgekmpkoohaaaQuR6
import Derived.Test.YtilgekmpkoohaaaSeq
namespace Go.Proofs.Ytilgekmpkoohaaa
set_option linter.unusedSimpArgs false
set_option linter.unusedVariables false
set_option linter.unnecessarySimpa false
open Go.RowKit
attribute [local go_sem ↓] run_min_int run_max_int

set_option maxHeartbeats 400000 in
set_option maxRecDepth 100000 in
theorem quR_fork (w : World) (F : Nat → Prop) (q : Nat) (s : QS) (h : QuRP w F q s) :
    Calls Try.prog 22 #[.pointer (some ⟨q, 0, none⟩)] w fun e w' => ∃ q', e = .returned (.pointer (some ⟨q', 0, none⟩)) ∧ QuRP w' (fun k => w.heap.size ≤ k) q' s ∧ Below w.heap.size w w' := by
  obtain ⟨iB, hiB, bz0, bz1, bz2⟩ := info_parts infoByte
  obtain ⟨iO, hiO, oz0, oz1, oz2⟩ := info_parts infoBool
  have hf : s.b.length ≤ 1000000 := h.few
  have hla : s.ak.length ≤ 1000000 := by have := h.good.la; omega
  have hlo : s.ow.length ≤ 1000000 := by have := h.good.lo; omega
  have H := Lib.hid h
  obtain ⟨A, c, A1, c1, A2, c2, hC⟩ := h.ex
  have HC := Lib.hid hC
  clear hC h
  have t0 := cell_of_row w q 0 _ _ _ HC.out.t
  have ft0 := frozen_of_row w q 0 _ _ HC.out.t
  have t1 := cell_of_row w q 1 _ _ _ HC.out.t
  have ft1 := frozen_of_row w q 1 _ _ HC.out.t
  have t2 := cell_of_row w q 2 _ _ _ HC.out.t
  have ft2 := frozen_of_row w q 2 _ _ HC.out.t
  have t3 := cell_of_row w q 3 _ _ _ HC.out.t
  have ft3 := frozen_of_row w q 3 _ _ HC.out.t
  have t4 := cell_of_row w q 4 _ _ _ HC.out.t
  have ft4 := frozen_of_row w q 4 _ _ HC.out.t
  have m0 := mixF_cell (F := fun _ => False) (t0 ▸ rfl : w.cell? ⟨q, 0, none⟩ = some (.int .i64 s.room)) (fun h => h)
  have m1 := mixF_cell (F := fun _ => False) (t1 ▸ rfl : w.cell? ⟨q, 1, none⟩ = some (.slice A s.b.length c)) (fun h => h)
  have m2 := mixF_cell (F := fun _ => False) (t2 ▸ rfl : w.cell? ⟨q, 2, none⟩ = some (.slice A1 s.ak.length c1)) (fun h => h)
  have m3 := mixF_cell (F := fun _ => False) (t3 ▸ rfl : w.cell? ⟨q, 3, none⟩ = some (.slice A2 s.ow.length c2)) (fun h => h)
  have m4 := mixF_cell (F := fun _ => False) (t4 ▸ rfl : w.cell? ⟨q, 4, none⟩ = some (.int .i64 s.fresh)) (fun h => h)
  go_enter Try.func22, Try.ntmps22
  go_upto_region 1 with fail
  refine wp_region_chg ((fun _ => False)) (by kernel_rfl) (by kernel_rfl) ?_
  repeat (refine wpMix_seg 1 _ _ rfl ?_; simp only [List.take_succ_cons, List.take_zero, List.drop_succ_cons, List.drop_zero]; go_big_quiet_step (fail); refine wpQuiet_nil ?_)
  refine wpMix_bar rfl (by rfl) ?_
  refine wpList_append_rd _ rfl (.const (.slice none 0 0)) (.tmp 10) 38 rfl w.heap.size 5 iB _ 1 1 Try.underlying38 hiB bz0 bz1 bz2 rfl (by decide) (.slice none 0 0) 0 [] rfl (World.ownsRow_nil _ _ _ _) A s.b.length c (U8 s.b) rfl (Rd.of_own HC.out.o).drew (U8_one _) (by unfold maxLen; omega) (by omega) (by simp) ?_
  intro v2 w2 ho2 hg2 _
  rw [Nat.zero_add, List.nil_append] at ho2
  obtain ⟨B2, d2, hv2, -⟩ := own_slice ho2
  subst hv2
  have b2 : Below w.heap.size w w2 := ((Below.refl _ _).drew).grown hg2 (Nat.le_refl _) (fun g hg => by simp [Value.ownBlock] at hg)
  clear hg2
  go_wp2
  refine ⟨chg_mixF (chg_below b2), ?_⟩
  repeat (refine wpMix_seg 1 _ _ rfl ?_; simp only [List.take_succ_cons, List.take_zero, List.drop_succ_cons, List.drop_zero]; go_big_quiet_step (fail); refine wpQuiet_nil ?_)
  refine wpMix_bar rfl (by rfl) ?_
  refine wpList_append_rd _ rfl (.const (.slice none 0 0)) (.tmp 15) 39 rfl w2.heap.size 4 iO _ 1 1 Try.underlying39 hiO oz0 oz1 oz2 rfl (by decide) (.slice none 0 0) 0 [] rfl (World.ownsRow_nil _ _ _ _) A1 s.ak.length c1 (Bs s.ak) rfl (Rd.of_own (HC.out.below b2).o1) (Bs_one _) (by unfold maxLen; omega) (by omega) (by simp) ?_
  intro v3 w3 ho3 hg3 _
  rw [Nat.zero_add, List.nil_append] at ho3
  obtain ⟨B3, d3, hv3, -⟩ := own_slice ho3
  subst hv3
  have b3 : Below w2.heap.size w2 w3 := (Below.refl _ _).grown hg3 (Nat.le_refl _) (fun g hg => by simp [Value.ownBlock] at hg)
  clear hg3
  go_wp2
  refine ⟨chg_mixF (chg_below (b2.trans (b3.mono b2.size))), ?_⟩
  repeat (refine wpMix_seg 1 _ _ rfl ?_; simp only [List.take_succ_cons, List.take_zero, List.drop_succ_cons, List.drop_zero]; go_big_quiet_step (fail); refine wpQuiet_nil ?_)
  refine wpMix_bar rfl (by rfl) ?_
  refine wpList_append_rd _ rfl (.const (.slice none 0 0)) (.tmp 20) 39 rfl w3.heap.size 4 iO _ 1 1 Try.underlying39 hiO oz0 oz1 oz2 rfl (by decide) (.slice none 0 0) 0 [] rfl (World.ownsRow_nil _ _ _ _) A2 s.ow.length c2 (Bs s.ow) rfl (Rd.of_own (HC.out.below (b2.trans (b3.mono b2.size))).o2) (Bs_one _) (by unfold maxLen; omega) (by omega) (by simp) ?_
  intro v4 w4 ho4 hg4 _
  rw [Nat.zero_add, List.nil_append] at ho4
  obtain ⟨B4, d4, hv4, -⟩ := own_slice ho4
  subst hv4
  have b4 : Below w3.heap.size w3 w4 := (Below.refl _ _).grown hg4 (Nat.le_refl _) (fun g hg => by simp [Value.ownBlock] at hg)
  clear hg4
  go_wp2
  refine ⟨chg_mixF (chg_below (b2.trans ((b3.mono b2.size).trans (b4.mono (Nat.le_trans b2.size b3.size))))), ?_⟩
  repeat (refine wpMix_seg 1 _ _ rfl ?_; simp only [List.take_succ_cons, List.take_zero, List.drop_succ_cons, List.drop_zero]; go_big_quiet_step (fail); refine wpQuiet_nil ?_)
  have b5 : Below w.heap.size w w4 := b2.trans ((b3.mono b2.size).trans (b4.mono (Nat.le_trans b2.size b3.size)))
  refine wpMix_bar rfl (by rfl) ?_
  go_wp2
  refine ⟨chg_mixF ((chg_below b5).alloc _), ?_⟩
  repeat (refine wpMix_seg 1 _ _ rfl ?_; simp only [List.take_succ_cons, List.take_zero, List.drop_succ_cons, List.drop_zero]; go_big_quiet_step (fail); refine wpQuiet_nil ?_)
  refine wpMix_nil ?_
  go_wp2
  go_ret
  have z2 := b2.size
  have z3 := b3.size
  have z4 := b4.size
  have o4 := own_above ho4 (box_below w4 (.cells #[.int .i64 s.room, .slice B2 s.b.length d2, .slice B3 s.ak.length d3, .slice B4 s.ow.length d4, .int .i64 s.fresh] 41))
  have o3 := own_above (own_above ho3 b4) (box_below w4 (.cells #[.int .i64 s.room, .slice B2 s.b.length d2, .slice B3 s.ak.length d3, .slice B4 s.ow.length d4, .int .i64 s.fresh] 41))
  have o2 := own_above (own_above (own_above ho2 b3) b4) (box_below w4 (.cells #[.int .i64 s.room, .slice B2 s.b.length d2, .slice B3 s.ak.length d3, .slice B4 s.ow.length d4, .int .i64 s.fresh] 41))
  refine ⟨w4.heap.size, rfl, ⟨H.out.good, H.out.few, B2, d2, B3, d3, B4, d4, heap_alloc_new w4 _, own_base o2 (fun _ _ => Nat.zero_le _), own_base o3 (fun _ _ => Nat.zero_le _), own_base o4 (fun _ _ => Nat.zero_le _), by show w.heap.size ≤ _; omega, ?_, ?_, ?_⟩, b5.trans ((box_below w4 _).mono b5.size)⟩
  · intro g e
    have h1 := ho2.lt g e
    exact ⟨by show w.heap.size ≤ g; omega, by omega⟩
  · intro g e
    have h1 := ho3.lt g e
    exact ⟨by show w.heap.size ≤ g; omega, by omega, fun e' => by have := ho2.lt g e'; omega⟩
  · intro g e
    have h1 := ho4.lt g e
    exact ⟨by show w.heap.size ≤ g; omega, by omega, fun e' => by have := ho2.lt g e'; omega, fun e' => by have := ho3.lt g e'; omega⟩

end Go.Proofs.Ytilgekmpkoohaaa
