/-
  Two queues behind deeds of drawn numbers.
-/
import Derived.Test.YtilgekmpkoohaaaDoQ
import Derived.Test.YtilgekmpkoohaaaDeed
namespace Go.Proofs.Ytilgekmpkoohaaa
set_option linter.unusedSimpArgs false
set_option linter.unusedVariables false
set_option linter.unnecessarySimpa false
open Go.RowKit

structure MakeRelQ (w : World) (p r g k : Nat) (room : Int) (s : QS) (wr : World) : Prop where
  two : TwoQ wr (Own w g) p r s
  z : wr.heap[w.heap.size]? = some (.cells #[.pointer none, .pointer none] 26 (0, 0))
  t : wr.heap[g]? = some (.cells #[.pointer (some ⟨p, 0, none⟩), .pointer (some ⟨r, 0, none⟩)] 26 (0, 0))
  bel : Below w.heap.size w wr
  rm : s.room = (QS.new room).room
  len : s.b.length ≤ 20 * k

set_option maxHeartbeats 4000000 in
set_option maxRecDepth 100000 in
theorem makeQ (room : Int) (A : Option Addr) (n c : Nat) (l : List Dd) (w : World) (hr : Rd w 3 A n c (Ds l)) (hok : ∀ d ∈ l, d.ok) :
    Calls Try.prog 8 #[.int .i64 room, .slice A n c] w fun e w' => ∃ p r s, e = .returned (.tuple #[.agg #[.pointer (some ⟨p, 0, none⟩), .pointer (some ⟨r, 0, none⟩)], .bool true]) ∧
      TwoQ w' (fun j => w.heap.size ≤ j) p r s ∧ Below w.heap.size w w' ∧ s.room = (QS.new room).room ∧ s.b.length ≤ 1200 := by
  have hcap := hr.cap
  have hmax := hr.max
  unfold maxLen at hmax
  have hln := hr.deeds
  subst hln
  have HR := Lib.hid hr
  have OK := Lib.hid hok
  have e1 := box_below w (.cells #[.pointer none, .pointer none] 26)
  have z1 := heap_alloc_new w (.cells #[.pointer none, .pointer none] 26)
  have E1 := Lib.hid e1
  have Z1 := Lib.hid z1
  clear e1 z1 hr hok
  go_enter Try.func8, Try.ntmps8
  go_wp2_with fail
  refine (que_new room _).mono ?_
  rintro e w1 ⟨rfl, hL, b1⟩
  have s1 := hL.lt
  have L1 := Lib.hid hL
  have E2 := Lib.hid (E1.out.trans (b1.mono E1.out.size))
  have Z2 := Lib.hid ((b1.block _ (lt_of_block Z1.out)).trans Z1.out)
  clear hL b1 Z1
  go_wp2_with fail
  refine (quR_new room _).mono ?_
  rintro e w2 ⟨rfl, hL, b2⟩
  have s2 := hL.lt
  have hs : (w.alloc (.cells #[.pointer none, .pointer none] 26)).heap.size = w.heap.size + 1 := by simp
  have PR := Lib.hid (Prs.mk (P := QP _ (QS.new room)) (R := QR _ (QS.new room)) (QP.stays.below (P := QP _ (QS.new room)) (QP.stays.sub (P := QP _ (QS.new room)) (G := fun k => w.heap.size + 1 ≤ k ∧ k < w1.heap.size) L1.out (fun k hk h => ⟨by omega, hk⟩)) b2) (QR.stays.sub (P := QR _ (QS.new room)) (G := fun k => w1.heap.size ≤ k ∧ k < w2.heap.size) hL (fun k hk h => ⟨h, hk⟩)) (fun k h1 h2 => by omega) : Prs _ _ w2 _ _)
  have E3 := Lib.hid (E2.out.trans (b2.mono E2.out.size))
  have Z3 := Lib.hid ((b2.block _ (lt_of_block Z2.out)).trans Z2.out)
  clear hL b2 Z2 L1 E2 E1
  simp only [hs] at *
  generalize hp : w.heap.size + 1 = p at *
  generalize w1.heap.size = r at *
  have HP := Lib.hid hp
  clear hs
  have BX := Lib.hid (heap_alloc_new w2 (.cells #[.pointer (some ⟨p, 0, none⟩), .pointer (some ⟨r, 0, none⟩)] 26))
  have hb3 := box_below w2 (.cells #[.pointer (some ⟨p, 0, none⟩), .pointer (some ⟨r, 0, none⟩)] 26)
  have st : Hid (MakeRelQ w p r w2.heap.size 0 room (QS.new room) (w2.alloc (.cells #[.pointer (some ⟨p, 0, none⟩), .pointer (some ⟨r, 0, none⟩)] 26))) := by
    refine ⟨((PR.out.below QP.stays QR.stays hb3).shut QP.stays QR.stays fun k hk' hk => ?_), (hb3.block _ (lt_of_block Z3.out)).trans Z3.out, BX.out, E3.out.trans (hb3.mono E3.out.size), rfl, by simp [QS.new]⟩
    have := HP.out
    unfold Own
    have hne : k ≠ w2.heap.size := fun e => by
      subst e
      rcases hk with hk | hk
      · omega
      · omega
    rcases hk with hk | hk <;> omega
  have hg : w.heap.size < w2.heap.size := lt_of_block Z3.out
  clear E3 Z3 PR hp hb3 s1 s2
  go_wp2
  have hw3 : w2.heap.size < (w2.alloc (.cells #[.pointer (some ⟨p, 0, none⟩), .pointer (some ⟨r, 0, none⟩)] 26)).heap.size := by simp
  generalize hW3 : w2.alloc (.cells #[.pointer (some ⟨p, 0, none⟩), .pointer (some ⟨r, 0, none⟩)] 26) = w3 at *
  clear hW3
  generalize w2.heap.size = g at *
  go_loopw [7] (fun i wr => ∃ (k : Nat) (s : QS), k ≤ l.length ∧ k ≤ 60 ∧ i = .int .i64 k ∧ MakeRelQ w p r g k room s wr) (fun i _ => l.length - (intOf i).toNat)
  case atStart => exact ⟨0, _, Nat.zero_le _, Nat.zero_le _, rfl, st.out⟩
  case round =>
    obtain ⟨k, s, hk1, hk2, rfl, hM⟩ := hrel
    have HM := Lib.hid hM
    have hsk := hM.len
    have hgs := lt_of_block hM.t
    have t0 := cell_of_row wr g 0 _ _ _ HM.out.t
    have t1 := cell_of_row wr g 1 _ _ _ HM.out.t
    clear hM
    by_cases hlt : k < l.length ∧ k < 60
    · obtain ⟨h1, h2⟩ := hlt
      obtain ⟨bb, off, rfl, d0, d1, d2⟩ := (HR.out.below (HM.out.bel)).deed h1
      have od := OK.out l[k] (List.getElem_mem _)
      generalize l[k] = d at *
      go_wp2_with fail
      refine (two_doQ _ (Own w g) p r s _ d.a d.b ((HM.out.two.below QP.stays QR.stays (box_below wr _))) od.1 od.2 (by omega)).mono ?_
      rintro e w4 ⟨rfl, s', hT, hC, hn⟩
      have hC1 : Hid (Chg (Own w g) wr w4) := ((chg_below (box_below wr _)).step hC (fun _ _ h => h))
      have HT := Lib.hid hT
      have HN := Lib.hid hn
      clear hT hC hn t0 t1 d0 d1 d2
      go_wp2
      go_roundw
      case rel =>
        refine ⟨k + 1, s', by omega, by omega, by go_num, ?_⟩
        have hN := HN.out
        have hM := HM.out
        have hz := lt_of_block hM.z
        refine ⟨HT.out.sub (fun j _ hj => ?_), hC1.out.blk hM.z (fun h => h.2.1 rfl), hC1.out.blk hM.t (fun h => h.2.2 rfl), hM.bel.trans (hC1.out.below hM.bel.size (fun j hj h => by have := h.1; omega)), hN.1.trans hM.rm, by have := hN.2; omega⟩
        rcases hj with hj | hj
        · exact hj
        · have := hM.bel.size
          simp only [World.alloc, Array.size_push] at hj
          exact ⟨by omega, by omega, by omega⟩
      case measure => simp [intOf]; omega
    · have hM := HM.out
      have fz0 := frozen_of_row wr w.heap.size 0 _ _ hM.z
      have fz1 := frozen_of_row wr w.heap.size 1 _ _ hM.z
      have z0 := cell_of_row wr w.heap.size 0 _ _ _ hM.z
      have z1 := cell_of_row wr w.heap.size 1 _ _ _ hM.z
      have M0 := mixF_cell (F := fun j => j = w.heap.size) t0 (by show ¬ g = w.heap.size; omega)
      have M1 := mixF_cell (F := fun j => j = w.heap.size) t1 (by show ¬ g = w.heap.size; omega)
      have TS := Lib.hid (hM.two.below QP.stays QR.stays (Below.refl _ _).drew)
      have MB := Lib.hid hM.bel
      have MT := Lib.hid hM.two
      have MZ := Lib.hid hM.z
      have hzs := lt_of_block hM.z
      clear hM
      by_cases h1 : k < l.length
      all_goals
        go_wp2
        refine wp_region_chg (fun j => j = w.heap.size) (by kernel_rfl) (by kernel_rfl) ?_
        repeat (refine wpMix_seg 1 _ _ rfl ?_; simp only [List.take_succ_cons, List.take_zero, List.drop_succ_cons, List.drop_zero]; go_big_quiet_step (fail); refine wpQuiet_nil ?_)
        refine wpMix_bar rfl (by rfl) ?_
        go_wp2_with fail
        refine (two_sameQ _ _ p r s 9 TS.out (by omega)).mono ?_
        rintro e w5 ⟨rfl, b5⟩
        have b6 : Below wr.heap.size wr w5 := ((Below.refl _ _).drew).trans b5
        have B6 := Lib.hid b6
        have fy0 := frozen_of_row w5 w.heap.size 0 _ _ ((b6.block _ hzs).trans MZ.out)
        have fy1 := frozen_of_row w5 w.heap.size 1 _ _ ((b6.block _ hzs).trans MZ.out)
        have y0 := cell_of_row w5 w.heap.size 0 _ _ _ ((b6.block _ hzs).trans MZ.out)
        have y1 := cell_of_row w5 w.heap.size 1 _ _ _ ((b6.block _ hzs).trans MZ.out)
        clear b5 b6
        go_wp2
        refine ⟨chg_mixF (chg_below B6.out), ?_⟩
        repeat (refine wpMix_seg 1 _ _ rfl ?_; simp only [List.take_succ_cons, List.take_zero, List.drop_succ_cons, List.drop_zero]; go_big_quiet_step (fail); refine wpQuiet_nil ?_)
        refine wpMix_bar rfl (by rfl) ?_
        go_wp2
        have hC : Chg (fun j => j = w.heap.size) w5 ((w5.setCell ⟨w.heap.size, 0, none⟩ (.pointer (some ⟨p, 0, none⟩))).setCell ⟨w.heap.size, 1, none⟩ (.pointer (some ⟨r, 0, none⟩))) :=
          ((Chg.refl (fun j => j = w.heap.size) w5).setCell (p := ⟨w.heap.size, 0, none⟩) (.inl rfl) _).setCell (p := ⟨w.heap.size, 1, none⟩) (.inl rfl) _
        have HC := Lib.hid hC
        refine ⟨chg_mixF ((chg_below B6.out).step hC (fun _ _ h => h)), ?_⟩
        repeat (refine wpMix_seg 1 _ _ rfl ?_; simp only [List.take_succ_cons, List.take_zero, List.drop_succ_cons, List.drop_zero]; go_big_quiet_step (fail); refine wpQuiet_nil ?_)
        refine wpMix_nil ?_
        go_wp2
        (try simp only [Exit.inBlock, Exit.then])
        refine bodyPost_ret (v := .tuple #[.agg #[.pointer (some ⟨p, 0, none⟩), .pointer (some ⟨r, 0, none⟩)], .bool true]) ?_ rfl ⟨p, r, s, rfl, ?_, ?_, HM.out.rm, by omega⟩
        · rw [results_cell_tmp rfl]
          go_simp
        · exact ((MT.out.below QP.stays QR.stays B6.out).chg QP.stays QR.stays HC.out (fun j _ h e => h.2.1 e)).sub (fun j _ h => h.1)
        · exact (MB.out.trans (B6.out.mono MB.out.size)).trans (HC.out.below (Nat.le_trans MB.out.size B6.out.size) (fun j hj e => by omega))

end Go.Proofs.Ytilgekmpkoohaaa
