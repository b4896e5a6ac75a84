/-
  Walks of the reference's ledger: give, Send, Skip, Fork; SameSent.
-/
import Derived.Test.YteigflkpopcjkaaLedR2
import Derived.Deep.RegionLaw
import Derived.OneCell
namespace Go.Proofs.Yteigflkpopcjkaa
set_option linter.unusedSimpArgs false
set_option linter.unusedVariables false
set_option linter.unnecessarySimpa false
open Go.RowKit

set_option maxHeartbeats 3200000 in
set_option maxRecDepth 100000 in
theorem ledR_give (w : World) (F : Nat → Prop) (b : Nat) (s : LS) (x : Snt) (h : LedR w F b s) (hx : x.ok) (hf : x.state = 1 → 1 ≤ x.len ∧ x.len ≤ 1500) (hmax : s.all.length < 1000000000) :
    Calls Try.prog 89 #[.pointer (some ⟨b, 0, none⟩), x.val] w fun e w' => e = .returned (.tuple #[.int .u64 (s.give x).2.1, .int .i64 (s.give x).2.2]) ∧
      LedR w' (Grow F w) b (s.give x).1 ∧ Chg F w w' := by
  obtain ⟨i0, hi0, hz0, hz1, hz2⟩ := info_parts infoSent
  obtain ⟨A, c, Hb, c0, c1, c2, ho, hF, hG⟩ := h.cells
  have gd := h.good
  have g1 := gd.ring4
  have g2 := gd.ring256
  have g3 := gd.len
  have g4 := gd.lim1
  have gu := Lib.hid (gd.give hx hf)
  have hbl := block_lt_of_cell c0
  simp only at hbl
  have k2 := s.room_ge
  have k3 := s.room_le
  have HQ : Hid (∀ w', Below w.heap.size w w' → LedR w' (Grow F w) b s ∧ Chg F w w') := fun w' hb => ⟨(h.below hb).chg (Chg.refl (fun _ => False) _) (fun _ _ _ h => h) (fun _ _ h => .inl h), chg_below hb⟩
  have eb := box_below w (.cells #[.int .u64 x.pn, .int .u64 x.off, .int .u64 x.len, .int .u64 x.nonce, .int .u64 x.at_, .bool x.coin, .bool x.used, .int .i64 x.state] 32)
  have H := Lib.hid h
  have HP := Lib.hid (h.below eb)
  have HO := Lib.hid ho
  have HG := Lib.hid hG
  have HB := Lib.hid eb
  clear h ho hG gd eb
  unfold Snt.val
  by_cases h1 : s.limit < s.all.length
  · have Hg : Hid (s.give x = (s, 0, 8)) := if_pos h1
    go_enter Try.func89, Try.ntmps89
    go_wp2
    have e1 : (w.alloc (.cells #[.int .u64 x.pn, .int .u64 x.off, .int .u64 x.len, .int .u64 x.nonce, .int .u64 x.at_, .bool x.coin, .bool x.used, .int .i64 x.state] 32)).cell? ⟨b, 1, none⟩ = some (.int .u64 s.limit) := by rw [HB.out.cell (by exact hbl)]; exact c1
    generalize hw1 : (w.alloc (.cells #[.int .u64 x.pn, .int .u64 x.off, .int .u64 x.len, .int .u64 x.nonce, .int .u64 x.at_, .bool x.coin, .bool x.used, .int .i64 x.state] 32)) = w1 at *
    clear hw1
    refine wp_region_qt (by kernel_rfl) (by kernel_rfl) ?_
    repeat (first | go_big_quiet_step ((go_at_call 42; exact Qt.callN (ledR_next _ F b s HP.out.dn))) | quiet_step ((go_at_call 42; exact Qt.callN (ledR_next _ F b s HP.out.dn))))
    refine wpQuiet_nil ?_
    intro w2 q2
    go_wp2
    go_ret2
    rw [Hg.out]
    exact ⟨rfl, HQ.out _ (HB.out.trans q2.below)⟩
  · by_cases h2 : s.room < 1
    · have Hg : Hid (s.give x = (s, 0, 7)) := by show _ = _; rw [LS.give, if_neg h1, if_pos h2]
      have h2' : s.room ≤ 0 := by omega
      go_enter Try.func89, Try.ntmps89
      go_wp2
      have e1 : (w.alloc (.cells #[.int .u64 x.pn, .int .u64 x.off, .int .u64 x.len, .int .u64 x.nonce, .int .u64 x.at_, .bool x.coin, .bool x.used, .int .i64 x.state] 32)).cell? ⟨b, 1, none⟩ = some (.int .u64 s.limit) := by rw [HB.out.cell (by exact hbl)]; exact c1
      generalize hw1 : (w.alloc (.cells #[.int .u64 x.pn, .int .u64 x.off, .int .u64 x.len, .int .u64 x.nonce, .int .u64 x.at_, .bool x.coin, .bool x.used, .int .i64 x.state] 32)) = w1 at *
      clear hw1
      refine wp_region_qt (by kernel_rfl) (by kernel_rfl) ?_
      repeat (first | go_big_quiet_step ((go_at_call 42; exact Qt.callN (ledR_next _ F b s HP.out.dn))) | quiet_step ((go_at_call 42; exact Qt.callN (ledR_next _ F b s HP.out.dn))))
      refine wpQuiet_nil ?_
      intro w2 q2
      have HP2 := Lib.hid (HP.out.qt q2)
      have b2 := HB.out.trans (q2.below (B := w.heap.size))
      clear q2
      go_wp2_with fail
      refine (ledR_room _ F b s HP2.out).mono ?_
      rintro e w3 ⟨rfl, n3, rfl⟩
      go_wp2
      go_ret2
      rw [Hg.out]
      exact ⟨rfl, HQ.out _ (below_drewN b2 _)⟩
    · have Hg : Hid (s.give x = ({ s with all := s.all ++ [{ x with pn := s.all.length }] }, (s.all.length : Int), 0)) := by show _ = _; rw [LS.give, if_neg h1, if_neg h2]
      have h2' : 1 ≤ s.room := by omega
      have HX := Lib.hid (heap_alloc_new w (.cells #[.int .u64 x.pn, .int .u64 x.off, .int .u64 x.len, .int .u64 x.nonce, .int .u64 x.at_, .bool x.coin, .bool x.used, .int .i64 x.state] 32))
      go_enter Try.func89, Try.ntmps89
      go_wp2
      have e1 : (w.alloc (.cells #[.int .u64 x.pn, .int .u64 x.off, .int .u64 x.len, .int .u64 x.nonce, .int .u64 x.at_, .bool x.coin, .bool x.used, .int .i64 x.state] 32)).cell? ⟨b, 1, none⟩ = some (.int .u64 s.limit) := by rw [HB.out.cell (by exact hbl)]; exact c1
      generalize hw1 : (w.alloc (.cells #[.int .u64 x.pn, .int .u64 x.off, .int .u64 x.len, .int .u64 x.nonce, .int .u64 x.at_, .bool x.coin, .bool x.used, .int .i64 x.state] 32)) = w1 at *
      clear hw1
      refine wp_region_qt (by kernel_rfl) (by kernel_rfl) ?_
      repeat (first | go_big_quiet_step ((go_at_call 42; exact Qt.callN (ledR_next _ F b s HP.out.dn))) | quiet_step ((go_at_call 42; exact Qt.callN (ledR_next _ F b s HP.out.dn))))
      refine wpQuiet_nil ?_
      intro w2 q2
      have HP2 := Lib.hid (HP.out.qt q2)
      have b2 := HB.out.trans (q2.below (B := w.heap.size))
      have HX2 := Lib.hid (q2.blk HX.out)
      clear q2 HX e1
      go_wp2_with fail
      refine (ledR_room _ F b s HP2.out).mono ?_
      rintro e w3 ⟨rfl, n3, rfl⟩
      go_wp2_with fail
      refine (ledR_next _ F b s HP2.out.dn).mono ?_
      rintro e w3 ⟨rfl, n4, rfl⟩
      have hb3 : Below w.heap.size w (w2.drewN (n3 + n4)) := below_drewN b2 _
      simp only [World.drewN_drewN] at *
      have HX3 : Hid ((w2.drewN (n3 + n4)).heap[w.heap.size]? = _) := HX2.out
      generalize (w2.drewN (n3 + n4)) = w3 at *
      have HB3 := Lib.hid ((hb3.block _ hbl).trans Hb.out)
      have HO3 := Lib.hid (own_chg HO.out (chg_below hb3 (F := fun _ => False)) (fun _ _ h => h))
      have fx0 := frozen_of_row w3 w.heap.size 0 _ _ HX3.out
      have x0 := cell_of_row w3 w.heap.size 0 _ _ _ HX3.out
      have hne : w.heap.size ≠ b := by omega
      go_wp2
      have HX4 : Hid ((w3.setCell ⟨w.heap.size, 0, none⟩ (.int .u64 s.all.length)).heap[w.heap.size]? = some (.cells #[.int .u64 s.all.length, .int .u64 x.off, .int .u64 x.len, .int .u64 x.nonce, .int .u64 x.at_, .bool x.coin, .bool x.used, .int .i64 x.state] 32 (0, 0))) :=
        heap_setCell_same w3 w.heap.size 0 _ _ (.int .u64 s.all.length) HX3.out
      have HB4 : Hid ((w3.setCell ⟨w.heap.size, 0, none⟩ (.int .u64 s.all.length)).heap[b]? = some (.cells #[.int .i64 s.ring, .int .u64 s.limit, .slice A s.all.length c] 104 (0, 0))) :=
        (heap_setCell_other w3 ⟨w.heap.size, 0, none⟩ b _ (Ne.symm hne)).trans HB3.out
      have HC4 : Hid (Chg F w (w3.setCell ⟨w.heap.size, 0, none⟩ (.int .u64 s.all.length))) :=
        (chg_below hb3).setCell (p := ⟨w.heap.size, 0, none⟩) (.inr (Nat.le_refl _)) _
      have HO4 : Hid ((w3.setCell ⟨w.heap.size, 0, none⟩ (.int .u64 s.all.length)).ownsRow 0 32 8 (.slice A s.all.length c) s.all.length (Sns s.all)) :=
        own_chg HO3.out ((Chg.refl (fun k => k = w.heap.size) w3).setCell (p := ⟨w.heap.size, 0, none⟩) (.inl rfl) _)
          (fun k hk => fun e => by have := (HO.out.lt k hk).2; omega)
      clear fx0 x0 HX3 HB3 HO3 HP2 HX2 b2
      generalize (w3.setCell ⟨w.heap.size, 0, none⟩ (.int .u64 s.all.length)) = w4 at *
      have HW4 := Lib.hid HC4.out.size
      have hne1 : (Value.slice A s.all.length c).ownBlock ≠ some w.heap.size := fun e => by have := (HO.out.lt _ e).2; omega
      have hne2 : (Value.slice A s.all.length c).ownBlock ≠ some b := fun e => (HG.out _ e).2 rfl
      have x0 := cell_of_row w4 w.heap.size 0 _ _ _ HX4.out
      have x1 := cell_of_row w4 w.heap.size 1 _ _ _ HX4.out
      have x2 := cell_of_row w4 w.heap.size 2 _ _ _ HX4.out
      have x3 := cell_of_row w4 w.heap.size 3 _ _ _ HX4.out
      have x4 := cell_of_row w4 w.heap.size 4 _ _ _ HX4.out
      have x5 := cell_of_row w4 w.heap.size 5 _ _ _ HX4.out
      have x6 := cell_of_row w4 w.heap.size 6 _ _ _ HX4.out
      have x7 := cell_of_row w4 w.heap.size 7 _ _ _ HX4.out
      have y2 := cell_of_row w4 b 2 _ _ _ HB4.out
      have fy2 := frozen_of_row w4 b 2 _ _ HB4.out
      have hxs := lt_of_block HX4.out
      have hbs := lt_of_block HB4.out
      go_region_law
        ((refine step_append_rd _ (by rfl) (.tmp 23) (.tmp 25) 48 (by rfl) 0 32 i0 _ 8 56 Try.underlying48 hi0 hz0 hz1 hz2 rfl (by omega) _ s.all.length (Sns s.all) (by rfl) ((HO4.out.alloc _).drew)
              _ 1 1 [.int .u64 s.all.length, .int .u64 x.off, .int .u64 x.len, .int .u64 x.nonce, .int .u64 x.at_, .bool x.coin, .bool x.used, .int .i64 x.state] (by rfl) ((Rd.lit w4 8 #[.int .u64 s.all.length, .int .u64 x.off, .int .u64 x.len, .int .u64 x.nonce, .int .u64 x.at_, .bool x.coin, .bool x.used, .int .i64 x.state] 32 1 _ rfl (by simp) (by unfold maxLen; omega)).drew) (by simp [Value.oneCell'])
              (by unfold maxLen; omega) (by omega) (by simp) ?_; intro v5 w5 ho5 hg5 hv5
          obtain ⟨A5, c5, ev5, hA5⟩ := own_slice ho5
          obtain ⟨g5, eg5, -⟩ := hA5 (by omega)
          subst ev5
          subst eg5
          have HB5 := Lib.hid ((hg5.block b (by simp; omega) (fun e => hne2 e.symm)).trans ((Below.heap_alloc w4 _ b hbs).trans HB4.out))
          have fz5 := frozen_of_row w5 b 2 _ _ HB5.out
          have y5 := cell_of_row w5 b 2 _ _ _ HB5.out))
      all_goals
        have HB6 : Hid ((w5.setCell ⟨b, 2, none⟩ (.slice (some ⟨g5, 0, none⟩) (s.all.length + 1) c5)).heap[b]? = some (.cells #[.int .i64 s.ring, .int .u64 s.limit, (.slice (some ⟨g5, 0, none⟩) (s.all.length + 1) c5)] 104 (0, 0))) :=
          heap_setCell_same w5 b 2 _ _ _ HB5.out
        have HX6 : Hid ((w5.setCell ⟨b, 2, none⟩ (.slice (some ⟨g5, 0, none⟩) (s.all.length + 1) c5)).heap[w.heap.size]? = some (.cells #[.int .u64 s.all.length, .int .u64 x.off, .int .u64 x.len, .int .u64 x.nonce, .int .u64 x.at_, .bool x.coin, .bool x.used, .int .i64 x.state] 32 (0, 0))) :=
          (heap_setCell_other _ ⟨b, 2, none⟩ w.heap.size _ hne).trans ((hg5.block _ (by simp; omega) (fun e => hne1 e.symm)).trans ((Below.heap_alloc w4 _ _ hxs).trans HX4.out))
        have HG5 : Hid (g5 ≠ b ∧ (F g5 ∨ w.heap.size ≤ g5)) := by
          rcases hv5 with e | e
          · have h1 := HG.out g5 e.symm
            exact ⟨h1.2, .inl h1.1⟩
          · have e' : g5 = w4.heap.size + 1 := by simpa [Value.ownBlock] using e
            have := HW4.out
            exact ⟨by omega, .inr (by omega)⟩
        have HO6 : Hid ((w5.setCell ⟨b, 2, none⟩ (.slice (some ⟨g5, 0, none⟩) (s.all.length + 1) c5)).ownsRow 0 32 8 (.slice (some ⟨g5, 0, none⟩) (s.all.length + 1) c5) (s.all.length + 1) (Sns (s.all ++ [{ x with pn := s.all.length }]))) := by
          rw [Sns_append]
          exact ownsRow_setCell_other ho5 (fun e => by simp only [Value.ownBlock, Option.some.injEq] at e; exact HG5.out.1 e) _
        have HC6 : Hid (Chg F w (w5.setCell ⟨b, 2, none⟩ (.slice (some ⟨g5, 0, none⟩) (s.all.length + 1) c5))) :=
          ((HC4.out.alloc _).drew.grown hg5 (fun k hk => .inl (HG.out k hk).1)).setCell (.inl hF) _
        clear hv5 hg5 ho5 HB5 HX4 HB4 HO4 HC4 fz5 y5 x0 x1 x2 x3 x4 x5 x6 x7 y2 fy2
        generalize (w5.setCell ⟨b, 2, none⟩ (.slice (some ⟨g5, 0, none⟩) (s.all.length + 1) c5)) = w6 at *
        have z0 := cell_of_row w6 w.heap.size 0 _ _ _ HX6.out
        go_wp2
        go_ret2
        have gu := gu.out
        rw [Hg.out] at gu ⊢
        refine ⟨rfl, ⟨gu, some ⟨g5, 0, none⟩, c5, ?_⟩, HC6.out⟩
        refine ⟨by simpa using HB6.out, by simpa using HO6.out, .inl hF, ?_⟩
        intro k hk
        simp only [Value.ownBlock, Option.some.injEq] at hk
        subst hk
        exact ⟨HG5.out.2, HG5.out.1⟩

end Go.Proofs.Yteigflkpopcjkaa
