/-
  Walks of package ledger: give, Send, Skip.
-/
import Derived.Test.YteigflkpopcjkaaLed6
import Derived.Deep.RegionLaw
import Derived.OneCell
namespace Go.Proofs.Yteigflkpopcjkaa
set_option linter.unusedSimpArgs false
set_option linter.unusedVariables false
set_option linter.unnecessarySimpa false
open Go.RowKit

set_option maxHeartbeats 3200000 in
set_option maxRecDepth 100000 in
theorem led_give (w : World) (F : Nat → Prop) (b : Nat) (s : LS) (x : Snt) (h : LedP w F b s) (hx : x.ok) (hf : x.state = 1 → 1 ≤ x.len ∧ x.len ≤ 1500) :
    Calls Try.prog 61 #[.pointer (some ⟨b, 0, none⟩), x.val] w fun e w' => e = .returned (.tuple #[.int .u64 (s.give x).2.1, .int .i64 (s.give x).2.2]) ∧
      LedP w' (Grow F w) b (s.give x).1 ∧ Chg F w w' := by
  obtain ⟨i0, hi0, hz0, hz1, hz2⟩ := info_parts infoSent
  obtain ⟨A, c, Hb, c0, c1, c2, c3, ho, hF, hG⟩ := h.cells
  have gd := h.good
  have g1 := gd.ring4
  have g2 := gd.ring256
  have g3 := gd.len
  have g4 := gd.lim1
  have g5 := s.kept_le
  have gu := Lib.hid (gd.give hx hf)
  have hbl := block_lt_of_cell c0
  simp only at hbl
  have k2 := s.room_ge
  have k3 := s.room_le
  unfold Snt.val
  by_cases h1 : s.limit < s.all.length
  · have Hg : Hid (s.give x = (s, 0, 8)) := if_pos h1
    clear gd
    go_enter Try.func61, Try.ntmps61
    go_wp2
    have eb : Below w.heap.size w (w.alloc (.cells #[.int .u64 x.pn, .int .u64 x.off, .int .u64 x.len, .int .u64 x.nonce, .int .u64 x.at_, .bool x.coin, .bool x.used, .int .i64 x.state] 32)) := (Below.refl _ _).alloc (Nat.le_refl _) _
    generalize (w.alloc (.cells #[.int .u64 x.pn, .int .u64 x.off, .int .u64 x.len, .int .u64 x.nonce, .int .u64 x.at_, .bool x.coin, .bool x.used, .int .i64 x.state] 32)) = w1 at *
    have e1 := (eb.cell (block_lt_of_cell c1)).trans c1
    have e2 := (eb.cell (block_lt_of_cell c2)).trans c2
    refine wp_region_qt (by kernel_rfl) (by kernel_rfl) ?_
    repeat (go_big_quiet_step (fail))
    refine wpQuiet_nil ?_
    intro w2 q2
    go_wp2
    go_ret2
    rw [Hg.out]
    exact ⟨rfl, (h.below (eb.trans q2.below)).chg (Chg.refl (fun _ => False) _) (fun _ _ _ h => h) (fun _ _ h => .inl h), chg_below (eb.trans q2.below)⟩
  · have H := Lib.hid h
    have HO := Lib.hid ho
    have HG := Lib.hid hG
    clear h ho hG gd c3
    by_cases h2 : s.room < 1
    · have Hg : Hid (s.give x = (s, 0, 7)) := by show _ = _; rw [LS.give, if_neg h1, if_pos h2]
      go_enter Try.func61, Try.ntmps61
      go_wp2
      have eb : Below w.heap.size w (w.alloc (.cells #[.int .u64 x.pn, .int .u64 x.off, .int .u64 x.len, .int .u64 x.nonce, .int .u64 x.at_, .bool x.coin, .bool x.used, .int .i64 x.state] 32)) := (Below.refl _ _).alloc (Nat.le_refl _) _
      have HX := Lib.hid (heap_alloc_new w (.cells #[.int .u64 x.pn, .int .u64 x.off, .int .u64 x.len, .int .u64 x.nonce, .int .u64 x.at_, .bool x.coin, .bool x.used, .int .i64 x.state] 32))
      generalize (w.alloc (.cells #[.int .u64 x.pn, .int .u64 x.off, .int .u64 x.len, .int .u64 x.nonce, .int .u64 x.at_, .bool x.coin, .bool x.used, .int .i64 x.state] 32)) = w1 at *
      have e1 := (eb.cell (block_lt_of_cell c1)).trans c1
      have e2 := (eb.cell (block_lt_of_cell c2)).trans c2
      refine wp_region_qt (by kernel_rfl) (by kernel_rfl) ?_
      repeat (go_big_quiet_step (fail))
      refine wpQuiet_nil ?_
      intro w2 q2
      have hb2 := eb.trans (q2.below (B := w.heap.size))
      have HP2 := Lib.hid (H.out.below hb2)
      have HX2 := Lib.hid (q2.blk HX.out)
      clear eb HX e1 e2 q2
      go_wp2_with fail
      refine (led_room _ F b s HP2.out).mono ?_
      rintro e w3 ⟨rfl, b3⟩
      have hb3 := hb2.trans (b3.mono hb2.size)
      go_wp2
      go_ret2
      rw [Hg.out]
      exact ⟨rfl, (H.out.below hb3).chg (Chg.refl (fun _ => False) _) (fun _ _ _ h => h) (fun _ _ h => .inl h), chg_below hb3⟩
    · have Hg : Hid (s.give x = ({ s with all := s.all ++ [{ x with pn := s.all.length }] }, (s.all.length : Int), 0)) := by show _ = _; rw [LS.give, if_neg h1, if_neg h2]
      go_enter Try.func61, Try.ntmps61
      go_wp2
      have eb : Below w.heap.size w (w.alloc (.cells #[.int .u64 x.pn, .int .u64 x.off, .int .u64 x.len, .int .u64 x.nonce, .int .u64 x.at_, .bool x.coin, .bool x.used, .int .i64 x.state] 32)) := (Below.refl _ _).alloc (Nat.le_refl _) _
      have HX := Lib.hid (heap_alloc_new w (.cells #[.int .u64 x.pn, .int .u64 x.off, .int .u64 x.len, .int .u64 x.nonce, .int .u64 x.at_, .bool x.coin, .bool x.used, .int .i64 x.state] 32))
      generalize (w.alloc (.cells #[.int .u64 x.pn, .int .u64 x.off, .int .u64 x.len, .int .u64 x.nonce, .int .u64 x.at_, .bool x.coin, .bool x.used, .int .i64 x.state] 32)) = w1 at *
      have e1 := (eb.cell (block_lt_of_cell c1)).trans c1
      have e2 := (eb.cell (block_lt_of_cell c2)).trans c2
      refine wp_region_qt (by kernel_rfl) (by kernel_rfl) ?_
      repeat (go_big_quiet_step (fail))
      refine wpQuiet_nil ?_
      intro w2 q2
      have hb2 := eb.trans (q2.below (B := w.heap.size))
      have HP2 := Lib.hid (H.out.below hb2)
      have HX2 := Lib.hid (q2.blk HX.out)
      clear eb HX e1 e2 q2
      go_wp2_with fail
      refine (led_room _ F b s HP2.out).mono ?_
      rintro e w3 ⟨rfl, b3⟩
      have hb3 := hb2.trans (b3.mono hb2.size)
      have HX3 := Lib.hid ((b3.block _ (lt_of_block HX2.out)).trans HX2.out)
      have HB3 := Lib.hid ((hb3.block _ hbl).trans Hb.out)
      have HO3 := Lib.hid (own_chg HO.out (chg_below hb3 (F := fun _ => False)) (fun _ _ h => h))
      have fx0 := frozen_of_row w3 w.heap.size 0 _ _ HX3.out
      have fb2 := frozen_of_row w3 b 2 _ _ HB3.out
      have x0 := cell_of_row w3 w.heap.size 0 _ _ _ HX3.out
      have y0 := cell_of_row w3 b 0 _ _ _ HB3.out
      have y2 := cell_of_row w3 b 2 _ _ _ HB3.out
      have y3 := cell_of_row w3 b 3 _ _ _ HB3.out
      have hne : w.heap.size ≠ b := by omega
      go_wp2
      have HX4 : Hid (((w3.setCell ⟨w.heap.size, 0, none⟩ (.int .u64 s.all.length)).setCell ⟨b, 2, none⟩ (.int .u64 ((s.all.length : Int) + 1))).heap[w.heap.size]? = some (.cells #[.int .u64 s.all.length, .int .u64 x.off, .int .u64 x.len, .int .u64 x.nonce, .int .u64 x.at_, .bool x.coin, .bool x.used, .int .i64 x.state] 32 (0, 0))) :=
        (heap_setCell_other _ ⟨b, 2, none⟩ w.heap.size _ hne).trans (heap_setCell_same w3 w.heap.size 0 _ _ (.int .u64 s.all.length) HX3.out)
      have HB4 : Hid (((w3.setCell ⟨w.heap.size, 0, none⟩ (.int .u64 s.all.length)).setCell ⟨b, 2, none⟩ (.int .u64 ((s.all.length : Int) + 1))).heap[b]? = some (.cells #[.int .i64 s.ring, .int .u64 s.limit, .int .u64 ((s.all.length : Int) + 1), .slice A s.kept.length c] 100 (0, 0))) :=
        heap_setCell_same _ b 2 _ _ _ ((heap_setCell_other w3 ⟨w.heap.size, 0, none⟩ b _ (Ne.symm hne)).trans HB3.out)
      have HC4 : Hid (Chg F w ((w3.setCell ⟨w.heap.size, 0, none⟩ (.int .u64 s.all.length)).setCell ⟨b, 2, none⟩ (.int .u64 ((s.all.length : Int) + 1)))) :=
        ((chg_below hb3).setCell (p := ⟨w.heap.size, 0, none⟩) (.inr (Nat.le_refl _)) _).setCell (.inl hF) _
      have HO4 : Hid (((w3.setCell ⟨w.heap.size, 0, none⟩ (.int .u64 s.all.length)).setCell ⟨b, 2, none⟩ (.int .u64 ((s.all.length : Int) + 1))).ownsRow 0 32 8 (.slice A s.kept.length c) s.kept.length (Sns s.kept)) :=
        own_chg HO3.out (((Chg.refl (fun k => k = w.heap.size ∨ k = b) w3).setCell (p := ⟨w.heap.size, 0, none⟩) (.inl (.inl rfl)) _).setCell (p := ⟨b, 2, none⟩) (.inl (.inr rfl)) _)
          (fun k hk => fun h => h.elim (fun e => by have := (HO.out.lt k hk).2; omega) (fun e => (HG.out k hk).2 e))
      clear fx0 fb2 x0 y0 y2 y3 HX3 HB3 HO3
      generalize ((w3.setCell ⟨w.heap.size, 0, none⟩ (.int .u64 s.all.length)).setCell ⟨b, 2, none⟩ (.int .u64 ((s.all.length : Int) + 1))) = w4 at *
      have HW4 := Lib.hid HC4.out.size
      have hne1 : (Value.slice A s.kept.length c).ownBlock ≠ some w.heap.size := fun e => by have := (HO.out.lt _ e).2; omega
      have hne2 : (Value.slice A s.kept.length c).ownBlock ≠ some b := fun e => (HG.out _ e).2 rfl
      have x0 := cell_of_row w4 w.heap.size 0 _ _ _ HX4.out
      have x1 := cell_of_row w4 w.heap.size 1 _ _ _ HX4.out
      have x2 := cell_of_row w4 w.heap.size 2 _ _ _ HX4.out
      have x3 := cell_of_row w4 w.heap.size 3 _ _ _ HX4.out
      have x4 := cell_of_row w4 w.heap.size 4 _ _ _ HX4.out
      have x5 := cell_of_row w4 w.heap.size 5 _ _ _ HX4.out
      have x6 := cell_of_row w4 w.heap.size 6 _ _ _ HX4.out
      have x7 := cell_of_row w4 w.heap.size 7 _ _ _ HX4.out
      have y3 := cell_of_row w4 b 3 _ _ _ HB4.out
      have fy3 := frozen_of_row w4 b 3 _ _ HB4.out
      have hxs := lt_of_block HX4.out
      have hbs := lt_of_block HB4.out
      go_region_law
        ((refine step_append_rd _ (by rfl) (.tmp 34) (.tmp 36) 48 (by rfl) 0 32 i0 _ 8 56 Try.underlying48 hi0 hz0 hz1 hz2 rfl (by omega) _ s.kept.length (Sns s.kept) (by rfl) ((HO4.out.alloc _).drew)
              _ 1 1 [.int .u64 s.all.length, .int .u64 x.off, .int .u64 x.len, .int .u64 x.nonce, .int .u64 x.at_, .bool x.coin, .bool x.used, .int .i64 x.state] (by rfl) ((Rd.lit w4 8 #[.int .u64 s.all.length, .int .u64 x.off, .int .u64 x.len, .int .u64 x.nonce, .int .u64 x.at_, .bool x.coin, .bool x.used, .int .i64 x.state] 32 1 _ rfl (by simp) (by unfold maxLen; omega)).drew) (by simp [Value.oneCell'])
              (by unfold maxLen; omega) (by omega) (by simp) ?_; intro v5 w5 ho5 hg5 hv5
          obtain ⟨A5, c5, ev5, hA5⟩ := own_slice ho5
          obtain ⟨g5, eg5, -⟩ := hA5 (by omega)
          subst ev5
          subst eg5
          have HB5 := Lib.hid ((hg5.block b (by simp; omega) (fun e => hne2 e.symm)).trans ((Below.heap_alloc w4 _ b hbs).trans HB4.out))
          have fz5 := frozen_of_row w5 b 3 _ _ HB5.out
          have y5 := cell_of_row w5 b 3 _ _ _ HB5.out))
      all_goals
        have HB6 : Hid ((w5.setCell ⟨b, 3, none⟩ (.slice (some ⟨g5, 0, none⟩) (s.kept.length + 1) c5)).heap[b]? = some (.cells #[.int .i64 s.ring, .int .u64 s.limit, .int .u64 ((s.all.length : Int) + 1), (.slice (some ⟨g5, 0, none⟩) (s.kept.length + 1) c5)] 100 (0, 0))) :=
          heap_setCell_same w5 b 3 _ _ _ HB5.out
        have HX6 : Hid ((w5.setCell ⟨b, 3, none⟩ (.slice (some ⟨g5, 0, none⟩) (s.kept.length + 1) c5)).heap[w.heap.size]? = some (.cells #[.int .u64 s.all.length, .int .u64 x.off, .int .u64 x.len, .int .u64 x.nonce, .int .u64 x.at_, .bool x.coin, .bool x.used, .int .i64 x.state] 32 (0, 0))) :=
          (heap_setCell_other _ ⟨b, 3, none⟩ w.heap.size _ hne).trans ((hg5.block _ (by simp; omega) (fun e => hne1 e.symm)).trans ((Below.heap_alloc w4 _ _ hxs).trans HX4.out))
        have HG5 : Hid (g5 ≠ b ∧ g5 ≠ w.heap.size ∧ (F g5 ∨ w.heap.size ≤ g5)) := by
          rcases hv5 with e | e
          · have h1 := HG.out g5 e.symm
            have h2 := HO.out.lt g5 e.symm
            exact ⟨h1.2, by omega, .inl h1.1⟩
          · have e' : g5 = w4.heap.size + 1 := by simpa [Value.ownBlock] using e
            have := HW4.out
            exact ⟨by omega, by omega, .inr (by omega)⟩
        have HO6 : Hid ((w5.setCell ⟨b, 3, none⟩ (.slice (some ⟨g5, 0, none⟩) (s.kept.length + 1) c5)).ownsRow 0 32 8 (.slice (some ⟨g5, 0, none⟩) (s.kept.length + 1) c5) (s.kept.length + 1) (Sns (s.kept ++ [{ x with pn := s.all.length }]))) := by
          rw [Sns_append]
          exact ownsRow_setCell_other ho5 (fun e => by simp only [Value.ownBlock, Option.some.injEq] at e; exact HG5.out.1 e) _
        have HC6 : Hid (Chg F w (w5.setCell ⟨b, 3, none⟩ (.slice (some ⟨g5, 0, none⟩) (s.kept.length + 1) c5))) :=
          ((HC4.out.alloc _).drew.grown hg5 (fun k hk => .inl (HG.out k hk).1)).setCell (.inl hF) _
        clear hv5 hg5 ho5 HB5 HX4 HB4 HO4 HC4 fz5 y5 x0 x1 x2 x3 x4 x5 x6 x7 y3 fy3
        generalize (w5.setCell ⟨b, 3, none⟩ (.slice (some ⟨g5, 0, none⟩) (s.kept.length + 1) c5)) = w6 at *
        have z0 := cell_of_row w6 w.heap.size 0 _ _ _ HX6.out
        have y0 := cell_of_row w6 b 0 _ _ _ HB6.out
        have y3 := cell_of_row w6 b 3 _ _ _ HB6.out
        have HE := Lib.hid (s.give_kept { x with pn := s.all.length } (by omega))
        by_cases hr : s.kept.length + 1 ≤ s.ring
        · go_wp2
          refine wp_region_qt (by kernel_rfl) (by kernel_rfl) ?_
          repeat (go_big_quiet_step (fail))
          refine wpQuiet_nil ?_
          intro w7 q7
          have z0' := q7.cell z0
          go_wp2
          go_ret2
          rw [Hg.out] at gu ⊢
          have e := HE.out
          rw [if_pos hr] at e
          refine ⟨rfl, ⟨gu.out, some ⟨g5, 0, none⟩, c5, ?_⟩, HC6.out.qt q7⟩
          rw [e]
          refine ⟨?_, ?_, .inl hF, ?_⟩
          · have := q7.blk HB6.out
            simpa using this
          · have := q7.own HO6.out
            simpa using this
          · intro k hk
            simp only [Value.ownBlock, Option.some.injEq] at hk
            subst hk
            exact ⟨HG5.out.2.2, HG5.out.1⟩
        · obtain ⟨A9, hrun9, hcut9⟩ := (Rd.of_own HO6.out).cut_run (P := Try.prog) (t := 48) Try.underlying48 hi0 hz1 (k := 1) (by omega)
          have hrun : ∀ (kl : IntKind) (w : World), (Instr.slice 48 (.slice (some ⟨g5, 0, none⟩) (s.kept.length + 1) c5) (some (.int kl 1)) none none).run Try.prog w = .ok (.slice A9 s.kept.length (c5 - 1)) w := by simpa using hrun9
          clear hrun9
          go_wp2
          refine wp_region_qt (by kernel_rfl) (by kernel_rfl) ?_
          repeat (go_big_quiet_step (fail))
          refine wpQuiet_nil ?_
          intro w7 q7
          have z0' := q7.cell z0
          have y3' := q7.cell y3
          have R9 := hcut9 w7 _ ((Rd.of_own HO6.out).qt q7)
          rw [Sns_drop] at R9
          have n9 : s.kept.length + 1 - 1 = s.kept.length := by omega
          rw [n9] at R9
          have HB7 := Lib.hid (q7.blk HB6.out)
          have HX7 := Lib.hid (q7.blk HX6.out)
          have HC7 := Lib.hid (HC6.out.qt q7)
          clear z0 y0 y3 HB6 HX6 HC6 HO6 hcut9 q7 z0'
          have hb7s : b < w7.heap.size := lt_of_block HB7.out
          have hx7s : w.heap.size < w7.heap.size := lt_of_block HX7.out
          go_wp2_with (
            at_builtin
            refine wpList_append_rd _ rfl (.const (.slice none 0 0)) (.tmp 55) 48 rfl w7.heap.size 32 i0 _ 8 56 Try.underlying48 hi0 hz0 hz1 hz2 rfl (by decide) (.slice none 0 0) 0 [] rfl (World.ownsRow_nil _ _ _ _) A9 s.kept.length (c5 - 1) _ rfl R9 (Sns_one _) (by unfold maxLen; omega) (by omega) (Nat.le_refl _) ?_
            intro v8 w8 ho8 hg8 _
            have hb8 : Below w7.heap.size w7 w8 := (Below.refl _ _).grown hg8 (Nat.le_refl _) (fun g hg => by simp [Value.ownBlock] at hg)
            rw [Nat.zero_add, List.nil_append] at ho8
            obtain ⟨A8, c8, ev8, hA8⟩ := own_slice ho8
            subst ev8
            have HB8 := Lib.hid ((hb8.block b hb7s).trans HB7.out)
            have HX8 := Lib.hid ((hb8.block w.heap.size hx7s).trans HX7.out)
            have HO8 := Lib.hid ho8
            have fy8 := frozen_of_row w8 b 3 _ _ HB8.out
            have y8 := cell_of_row w8 b 3 _ _ _ HB8.out
            have z8 := cell_of_row w8 w.heap.size 0 _ _ _ HX8.out
            clear ho8 hg8 hA8)
          go_ret2
          rw [Hg.out] at gu ⊢
          have e := HE.out
          rw [if_neg hr] at e
          refine ⟨rfl, ⟨gu.out, A8, c8, ?_⟩, (HC7.out.thenBelow hb8 HC7.out.size).setCell (.inl hF) _⟩
          rw [e]
          have hl : ((s.kept ++ [{ x with pn := (s.all.length : Int) }]).drop 1).length = s.kept.length := by simp
          rw [hl]
          refine ⟨?_, ownsRow_setCell_other (own_base HO8.out (fun _ _ => Nat.zero_le _)) (fun e => by have := (HO8.out.lt b e).1; omega) _, .inl hF, ?_⟩
          · simpa using heap_setCell_same w8 b 3 _ _ (.slice A8 s.kept.length c8) HB8.out
          · intro k hk
            have := (HO8.out.lt k hk).1
            exact ⟨.inr (by omega), by omega⟩

end Go.Proofs.Yteigflkpopcjkaa
