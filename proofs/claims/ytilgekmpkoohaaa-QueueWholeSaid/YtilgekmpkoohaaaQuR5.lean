/-
  The reference's queue: Write, the walk.
-/
import Derived.Test.YtilgekmpkoohaaaQuR4
namespace Go.Proofs.Ytilgekmpkoohaaa
set_option linter.unusedSimpArgs false
set_option linter.unusedVariables false
set_option linter.unnecessarySimpa false
open Go.RowKit
attribute [local go_sem ↓] run_min_int run_max_int

theorem infoBool : (Try.prog.info? 4).map (fun i => (i.zero, i.size, i.bytes)) = some (some (.bool false), 1, 1) := by kernel_rfl
theorem Rd.u8 {w : World} {A : Option Addr} {n c : Nat} {l : List Int} {k : Nat} (h : Rd w 1 A n c (U8 l)) (hk : k < n) (hl : k < l.length) :
    ∃ b off, A = some ⟨b, off, none⟩ ∧ w.cell? ⟨b, off + k, none⟩ = some (.int .u8 l[k]) := by
  obtain ⟨b, off, u, e, hx, hc⟩ := h.at_ hk
  have : (U8 l)[k]? = some (.int .u8 l[k]) := by simp [U8, hl]
  rw [this] at hx
  exact ⟨b, off, e, by rw [hc]; exact hx.symm⟩

set_option maxHeartbeats 2000000 in
set_option maxRecDepth 100000 in
theorem quR_write (w : World) (F : Nat → Prop) (q : Nat) (s : QS) (l : List Int) (Ab : Option Addr) (cb : Nat) (h : QuRP w F q s) (hr : Rd w 1 Ab l.length cb (U8 l)) (hdj : ∀ b off, Ab = some ⟨b, off, none⟩ → 0 < l.length → ¬ F b) (hb : ∀ x ∈ l, 0 ≤ x ∧ x ≤ 255) (hl : s.b.length + l.length ≤ 1000000) :
    Calls Try.prog 33 #[.pointer (some ⟨q, 0, none⟩), .slice Ab l.length cb] w fun e w' => e = .returned (.int .i64 (s.write l).2) ∧ QuRP w' (Grow F w) q (s.write l).1 ∧ Chg F w w' := by
  have hf : s.b.length ≤ 1000000 := h.few
  have H := Lib.hid h
  have R := Lib.hid hr
  have DJ := Lib.hid hdj
  have hfit := h.good.fit
  have hbl := s.base_le h.good
  have hroom := h.good.room2
  have hla := h.good.la
  have hlo := h.good.lo
  have GW := Lib.hid (h.good.write hb)
  obtain ⟨A, c, A1, c1, A2, c2, hC⟩ := h.ex
  have HC := Lib.hid hC
  clear h hr hC hdj
  obtain ⟨m, hm⟩ : ∃ m, m = min l.length (s.room - (s.b.length - s.base)) := ⟨_, rfl⟩
  have HW1 : Hid ((s.write l).1 = { s with b := s.b ++ l.take m, ak := s.ak ++ List.replicate m false, ow := s.ow ++ List.replicate m false }) := by subst hm; rfl
  have HW2 : Hid ((s.write l).2 = (m : Int)) := by subst hm; rfl
  have HK : Hid ((m : Int) = min (l.length : Int) ((s.room : Int) - ((s.b.length : Int) - (s.base : Int)))) := by show _ = _; omega
  have hml : m ≤ l.length := by omega
  clear hm
  obtain ⟨iB, hiB, bz0, bz1, bz2⟩ := info_parts infoByte
  obtain ⟨iO, hiO, oz0, oz1, oz2⟩ := info_parts infoBool
  rw [HW2.out]
  rw [HW1.out] at GW ⊢
  have t0 := cell_of_row w q 0 _ _ _ HC.out.t
  have ft0 := frozen_of_row w q 0 _ _ HC.out.t
  have t1 := cell_of_row w q 1 _ _ _ HC.out.t
  have ft1 := frozen_of_row w q 1 _ _ HC.out.t
  have t2 := cell_of_row w q 2 _ _ _ HC.out.t
  have ft2 := frozen_of_row w q 2 _ _ HC.out.t
  have t3 := cell_of_row w q 3 _ _ _ HC.out.t
  have ft3 := frozen_of_row w q 3 _ _ HC.out.t
  have t4 := cell_of_row w q 4 _ _ _ HC.out.t
  have ft4 := frozen_of_row w q 4 _ _ HC.out.t
  go_enter Try.func33, Try.ntmps33
  go_upto_region 1 with fail
  refine wp_region_qt (by kernel_rfl) (by kernel_rfl) ?_
  repeat (first | go_big_quiet_step ((go_at_call 27; exact Qt.callN ((quR_base _ F q s H.out.dn).mono (fun e w' ⟨he, hw⟩ => ⟨he, hw ▸ Qt.refl _⟩)))) | quiet_step ((go_at_call 27; exact Qt.callN ((quR_base _ F q s H.out.dn).mono (fun e w' ⟨he, hw⟩ => ⟨he, hw ▸ Qt.refl _⟩)))))
  refine wpQuiet_nil ?_
  intro w1 q1
  rw [← HK.out]
  have C1 := Lib.hid (HC.out.below q1.below)
  have D1 : Hid (Chg F w w1) := chg_below (q1.below (B := w.heap.size))
  clear q1 t0 t1 t2 t3 t4 ft0 ft1 ft2 ft3 ft4
  go_wp2_with fail
  go_loopw [6] (fun i wr => ∃ (k : Nat) (A' : Option Addr) (c' : Nat) (A1' : Option Addr) (c1' : Nat) (A2' : Option Addr) (c2' : Nat), k ≤ m ∧ i = .int .i64 k ∧ Hid (QuRC wr (Grow F w) q { s with b := s.b ++ l.take k, ak := s.ak ++ List.replicate k false, ow := s.ow ++ List.replicate k false } A' c' A1' c1' A2' c2') ∧ Hid (Chg F w wr)) (fun i _ => m - (intOf i).toNat)
  case atStart =>
    refine ⟨0, A, c, A1, c1, A2, c2, Nat.zero_le _, rfl, Lib.hid ?_, D1⟩
    have := C1.out.chg (Chg.refl (fun _ => False) w1) (fun _ _ _ h => h) (H := Grow F w) (fun k _ h => .inl h)
    simpa using this
  case round =>
    obtain ⟨k, A', c', A1', c1', A2', c2', hk, rfl, S, D⟩ := hrel
    clear C1 D1
    by_cases hlt : k < m
    · obtain ⟨t, ht⟩ : ∃ t : QS, t = { s with b := s.b ++ l.take k, ak := s.ak ++ List.replicate k false, ow := s.ow ++ List.replicate k false } := ⟨_, rfl⟩
      have hkl : k < l.length := by omega
      have NX : Hid ({ s with b := s.b ++ l.take (k + 1), ak := s.ak ++ List.replicate (k + 1) false, ow := s.ow ++ List.replicate (k + 1) false } = ({ t with b := t.b ++ [l[k]], ak := t.ak ++ [false], ow := t.ow ++ [false] } : QS)) := by
        show _ = _
        rw [ht, take_snoc _ _ hkl, List.replicate_succ']
        simp
      have tl : t.b.length = s.b.length + k := by rw [ht, List.length_append, List.length_take]; omega
      have tl1 : t.ak.length = s.b.length + k := by rw [ht, List.length_append, List.length_replicate]; omega
      have tl2 : t.ow.length = s.b.length + k := by rw [ht, List.length_append, List.length_replicate]; omega
      have tb : t.b.length ≤ 1000000 := by omega
      have tb1 : t.ak.length ≤ 1000000 := by omega
      have tb2 : t.ow.length ≤ 1000000 := by omega
      rw [← ht] at S
      clear ht tl tl1 tl2
      obtain ⟨bb, oo, rfl, hx⟩ := (R.out.chg D.out DJ.out).u8 hkl hkl
      generalize l[k] = x at *
      have hgs := D.out.size
      have hqs := lt_of_block S.out.t
      have hbs := block_lt_of_cell hx
      have FN := Lib.hid (fun (v : World) (h : wr.heap.size ≤ v.heap.size) (j : Nat) (hj : v.heap.size ≤ j) => (show Grow F w j from .inr (by omega)))
      have t0 := cell_of_row wr q 0 _ _ _ S.out.t
      have ft0 := frozen_of_row wr q 0 _ _ S.out.t
      have t1 := cell_of_row wr q 1 _ _ _ S.out.t
      have ft1 := frozen_of_row wr q 1 _ _ S.out.t
      have t2 := cell_of_row wr q 2 _ _ _ S.out.t
      have ft2 := frozen_of_row wr q 2 _ _ S.out.t
      have t3 := cell_of_row wr q 3 _ _ _ S.out.t
      have ft3 := frozen_of_row wr q 3 _ _ S.out.t
      have t4 := cell_of_row wr q 4 _ _ _ S.out.t
      have ft4 := frozen_of_row wr q 4 _ _ S.out.t
      go_upto_region 5 with fail
      go_cut [] (fun wx => ∃ (A5 : Option Addr) (c5 : Nat), Hid (QuRC wx (Grow F w) q { t with b := t.b ++ [x] } A5 c5 A1' c1' A2' c2') ∧ Hid (Chg F w wx) ∧ Hid (wr.heap.size ≤ wx.heap.size))
      case first =>
        go_region_law
          ((refine step_append_rd _ (by rfl) (.tmp 32) (.tmp 37) 38 (by rfl) 0 5 iB _ 1 1 Try.underlying38 hiB bz0 bz1 bz2 rfl (by decide) _ t.b.length (U8 t.b) (by rfl) ((S.out.o.alloc _).drew)
                _ 1 1 [.int .u8 x] (by rfl) ((Rd.lit wr 1 #[.int .u8 x] 5 1 _ rfl (by simp) (by unfold maxLen; omega)).drew) (by simp [Value.oneCell'])
                (by unfold maxLen; omega) (by omega) (by simp) ?_; intro v5 w5 ho5 hg5 hv5
            obtain ⟨A5, c5, ev5, hA5⟩ := own_slice ho5
            subst ev5
            have HV5 := Lib.hid hv5
            have HO5 := Lib.hid ho5
            have HG5 := Lib.hid hg5
            have B5 : Hid (Below wr.heap.size wr (wr.alloc (.cells #[.int .u8 x] 5)).drew) := (box_below wr _).drew
            have S5 := Lib.hid (S.out.below B5.out)
            have T5 := Lib.hid ((hg5.block q (lt_of_block S5.out.t) (fun e => (S.out.fo q e.symm).2 rfl)).trans S5.out.t)
            clear ho5 hg5 hv5 hA5
            have y1 := cell_of_row w5 q 1 _ _ _ T5.out
            have fy1 := frozen_of_row w5 q 1 _ _ T5.out))
        all_goals
          have e1 : (t.b ++ [x]).length = t.b.length + 1 := by simp
          have HO := HO5.out
          have HV := HV5.out
          rw [← e1, show U8 t.b ++ [Value.int .u8 x] = U8 (t.b ++ [x]) by simp [U8]] at HO
          rw [← e1] at HV
          have K5 := Lib.hid (S.out.app0 B5.out HG5.out HO HV (fun j hj => FN.out wr (Nat.le_refl _) j hj))
          have D5 := Lib.hid (((D.out.thenBelow B5.out hgs).grown HG5.out (fun g e => (S.out.fo g e).1)).setCell (p := ⟨q, 1, none⟩) S.out.fq (.slice A5 (t.b ++ [x]).length c5))
          have Z5 : Hid (wr.heap.size ≤ (w5.setCell ⟨q, 1, none⟩ (.slice A5 (t.b ++ [x]).length c5)).heap.size) := by
            have h1 := B5.out.size
            have h2 := HG5.out.size
            show _ ≤ _
            simp only [World.size_setCell]
            exact Nat.le_trans h1 h2
          rw [e1] at K5 D5 Z5
          clear HO HV
          go_wp2_with fail
          go_meet
          exact ⟨A5, c5, K5, D5, Z5⟩
      case rest =>
      obtain ⟨A5, c5, S5, D5, Z5⟩ := hcut
      clear S D t0 t1 t2 t3 t4 ft0 ft1 ft2 ft3 ft4 hx
      generalize wc = w5 at *
      generalize hu : ({ t with b := t.b ++ [x] } : QS) = u at *
      have ub1 : u.ak.length ≤ 1000000 := by rw [← hu]; exact tb1
      have ub2' : u.ow.length ≤ 1000000 := by rw [← hu]; exact tb2
      have HU1 := Lib.hid hu
      clear hu Z5
      have t0 := cell_of_row w5 q 0 _ _ _ S5.out.t
      have ft0 := frozen_of_row w5 q 0 _ _ S5.out.t
      have t1 := cell_of_row w5 q 1 _ _ _ S5.out.t
      have ft1 := frozen_of_row w5 q 1 _ _ S5.out.t
      have t2 := cell_of_row w5 q 2 _ _ _ S5.out.t
      have ft2 := frozen_of_row w5 q 2 _ _ S5.out.t
      have t3 := cell_of_row w5 q 3 _ _ _ S5.out.t
      have ft3 := frozen_of_row w5 q 3 _ _ S5.out.t
      have t4 := cell_of_row w5 q 4 _ _ _ S5.out.t
      have ft4 := frozen_of_row w5 q 4 _ _ S5.out.t
      have q6 := lt_of_block S5.out.t
      go_upto_region 6 with fail
      go_cut [] (fun wx => ∃ (A6 : Option Addr) (c6 : Nat), Hid (QuRC wx (Grow F w) q { u with ak := u.ak ++ [false] } A5 c5 A6 c6 A2' c2') ∧ Hid (Chg F w wx))
      case first =>
        go_wp2_with (
          at_builtin
          refine wpList_append_rd _ rfl (.tmp 45) (.tmp 46) 39 rfl 0 4 iO _ 1 1 Try.underlying39 hiO oz0 oz1 oz2 rfl (by decide) (.slice A1' u.ak.length c1') u.ak.length (Bs u.ak) rfl (S5.out.o1.alloc _) _ 1 1 [.bool false] rfl (Rd.lit w5 1 #[.bool false] 4 1 _ rfl (by simp) (by unfold maxLen; omega)) (by simp [Value.oneCell']) (by unfold maxLen; omega) (by omega) (Nat.zero_le _) ?_
          intro v6 w6 ho6 hg6 hv6
          obtain ⟨A6, c6, ev6, hA6⟩ := own_slice ho6
          subst ev6
          have HV6 := Lib.hid hv6
          have HO6 := Lib.hid ho6
          have HG6 := Lib.hid hg6
          have B6 : Hid (Below w5.heap.size w5 (w5.alloc (.cells #[.bool false] 4))) := box_below w5 _
          have S6 := Lib.hid (S5.out.below B6.out)
          have T6 := Lib.hid ((hg6.block q (lt_of_block S6.out.t) (fun e => (S5.out.fo1 q e.symm).2.1 rfl)).trans S6.out.t)
          clear ho6 hg6 hv6 hA6
          have y1 := cell_of_row w6 q 2 _ _ _ T6.out
          have fy1 := frozen_of_row w6 q 2 _ _ T6.out)
        have e1 : (u.ak ++ [false]).length = u.ak.length + 1 := by simp
        have HO := HO6.out
        have HV := HV6.out
        rw [← e1, show Bs u.ak ++ [Value.bool false] = Bs (u.ak ++ [false]) by simp [Bs]] at HO
        rw [← e1] at HV
        have K6 := Lib.hid (S5.out.app1 B6.out HG6.out HO HV (fun j hj => (show Grow F w j from .inr (Nat.le_trans D5.out.size hj))))
        have D6 := Lib.hid (((D5.out.thenBelow B6.out D5.out.size).grown HG6.out (fun g e => (S5.out.fo1 g e).1)).setCell (p := ⟨q, 2, none⟩) S5.out.fq (.slice A6 (u.ak ++ [false]).length c6))
        rw [e1] at K6 D6
        clear HO HV
        go_meet
        exact ⟨A6, c6, K6, D6⟩
      case rest =>
      obtain ⟨A6, c6, S7, D7⟩ := hcut
      clear S5 D5 t0 t1 t2 t3 t4 ft0 ft1 ft2 ft3 ft4
      generalize wc = w7 at *
      generalize hv : ({ u with ak := u.ak ++ [false] } : QS) = v at *
      have ub2 : v.ow.length ≤ 1000000 := by rw [← hv]; exact ub2'
      have HV1 := Lib.hid hv
      clear hv
      have t0 := cell_of_row w7 q 0 _ _ _ S7.out.t
      have ft0 := frozen_of_row w7 q 0 _ _ S7.out.t
      have t1 := cell_of_row w7 q 1 _ _ _ S7.out.t
      have ft1 := frozen_of_row w7 q 1 _ _ S7.out.t
      have t2 := cell_of_row w7 q 2 _ _ _ S7.out.t
      have ft2 := frozen_of_row w7 q 2 _ _ S7.out.t
      have t3 := cell_of_row w7 q 3 _ _ _ S7.out.t
      have ft3 := frozen_of_row w7 q 3 _ _ S7.out.t
      have t4 := cell_of_row w7 q 4 _ _ _ S7.out.t
      have ft4 := frozen_of_row w7 q 4 _ _ S7.out.t
      have q7 := lt_of_block S7.out.t
      go_upto_region 7 with fail
      go_wp2_with (
        at_builtin
        refine wpList_append_rd _ rfl (.tmp 54) (.tmp 55) 39 rfl 0 4 iO _ 1 1 Try.underlying39 hiO oz0 oz1 oz2 rfl (by decide) (.slice A2' v.ow.length c2') v.ow.length (Bs v.ow) rfl (S7.out.o2.alloc _) _ 1 1 [.bool false] rfl (Rd.lit w7 1 #[.bool false] 4 1 _ rfl (by simp) (by unfold maxLen; omega)) (by simp [Value.oneCell']) (by unfold maxLen; omega) (by omega) (Nat.zero_le _) ?_
        intro v7 w8 ho6 hg6 hv6
        obtain ⟨A7, c7, ev6, hA6⟩ := own_slice ho6
        subst ev6
        have HV6 := Lib.hid hv6
        have HO6 := Lib.hid ho6
        have HG6 := Lib.hid hg6
        have B6 : Hid (Below w7.heap.size w7 (w7.alloc (.cells #[.bool false] 4))) := box_below w7 _
        have S6 := Lib.hid (S7.out.below B6.out)
        have T6 := Lib.hid ((hg6.block q (lt_of_block S6.out.t) (fun e => (S7.out.fo2 q e.symm).2.1 rfl)).trans S6.out.t)
        clear ho6 hg6 hv6 hA6
        have y1 := cell_of_row w8 q 3 _ _ _ T6.out
        have fy1 := frozen_of_row w8 q 3 _ _ T6.out)
      have e1 : (v.ow ++ [false]).length = v.ow.length + 1 := by simp
      have HO := HO6.out
      have HV := HV6.out
      rw [← e1, show Bs v.ow ++ [Value.bool false] = Bs (v.ow ++ [false]) by simp [Bs]] at HO
      rw [← e1] at HV
      have K6 := Lib.hid (S7.out.app2 B6.out HG6.out HO HV (fun j hj => (show Grow F w j from .inr (Nat.le_trans D7.out.size hj))))
      have D6 := Lib.hid (((D7.out.thenBelow B6.out D7.out.size).grown HG6.out (fun g e => (S7.out.fo2 g e).1)).setCell (p := ⟨q, 3, none⟩) S7.out.fq (.slice A7 (v.ow ++ [false]).length c7))
      rw [e1] at K6 D6
      clear HO HV
      refine ⟨⟨k + 1, A5, c5, A6, c6, A7, c7, by omega, by go_num, Lib.hid ?_, D6⟩, ?_⟩
      · rw [NX.out]
        have e9 : ({ t with b := t.b ++ [x], ak := t.ak ++ [false], ow := t.ow ++ [false] } : QS) = { v with ow := v.ow ++ [false] } := by rw [← HV1.out, ← HU1.out]
        rw [e9]
        exact K6.out
      · simp [intOf]
        omega
    · obtain rfl : k = m := by omega
      go_wp2
      go_ret
      exact ⟨rfl, ⟨GW.out.1, by show (s.b ++ l.take k).length ≤ 1000000; rw [List.length_append, List.length_take]; omega, _, _, _, _, _, _, S.out⟩, D.out⟩

end Go.Proofs.Ytilgekmpkoohaaa
