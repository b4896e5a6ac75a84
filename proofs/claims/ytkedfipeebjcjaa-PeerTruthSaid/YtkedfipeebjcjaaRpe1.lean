/-
  AddSpan of the references again: its row is new. · The reference's receiver: where it lies; Got, Marked. · The reference's receiver: raise.
-/
import Derived.Test.YtkedfipeebjcjaaSpanN
import Derived.StillTailTactics
import Derived.Test.YtkedfipeebjcjaaPee6
import Derived.Deep.RegionHeld3
namespace Go.Proofs.Ytkedfipeebjcjaa
set_option linter.unusedSimpArgs false
set_option linter.unusedVariables false
set_option linter.unnecessarySimpa false
open Go.RowKit
attribute [local go_sem ↓] run_min_int run_max_int

set_option maxHeartbeats 3200000 in
set_option maxRecDepth 100000 in
theorem addSpan_new (A : Option Addr) (n c : Nat) (l : List Sp) (lo hi : Int) (w : World) (h : Rd w 2 A n c (Ss l)) (hg : Good l) (hs : IsSpan (lo, hi)) (h0 : 0 ≤ lo) (hu : U2s l) (hn : n ≤ 8796093021952) :
    Calls Try.prog 73 #[.slice A n c, .agg #[.int .u64 lo, .int .u64 hi]] w fun e w' => ∃ A' c', e = .returned (.slice A' (addP l (lo, hi)).length c') ∧ RdN w' w.heap.size A' (addP l (lo, hi)).length c' (Ss (addP l (lo, hi))) ∧ Below w.heap.size w w' := by
  obtain ⟨i0, hi0, hz0, hz1, hz2⟩ := info_parts infoSpan
  have hl := h.len
  rw [Ss_length] at hl
  obtain rfl : l.length = n := by omega
  clear hl
  have hmax := h.cap
  have hmax' := h.max
  unfold maxLen at hmax'
  obtain ⟨s1, s2⟩ := hs
  simp only [maxPn_eq] at s1 s2
  have Hg := Lib.hid hg
  clear hg
  go_enter Try.func73, Try.ntmps73
  go_wp2
  go_loopw [5, 6] (fun out i wr => ∃ k : Nat, k ≤ skipN (lo, hi) l ∧ i = .int .i64 k ∧ wr.ownsRow (w.heap.size + 1) 68 2 out k (Ss (l.take k)) ∧
      Hid (wr.heap[w.heap.size]? = some (.cells #[.int .u64 lo, .int .u64 hi] 68 (0, 0))) ∧ Below w.heap.size w wr) (fun _ i _ => l.length - (intOf i).toNat)
  case atStart => exact ⟨0, Nat.zero_le _, rfl, World.ownsRow_nil _ _ _ _, heap_alloc_new w _, (Below.refl _ _).alloc (Nat.le_refl _) _⟩
  case round =>
    obtain ⟨k, hk, rfl, hown, HB, hb⟩ := hrel
    have hkl : k ≤ l.length := Nat.le_trans hk (skipN_le _ _)
    have b1 := cell_of_row wr w.heap.size 0 _ _ _ HB.out
    have b2 := cell_of_row wr w.heap.size 1 _ _ _ HB.out
    have hgs := lt_of_block HB.out
    by_cases hsk : k < skipN (lo, hi) l
    · have hlt : k < l.length := Nat.lt_of_lt_of_le hsk (skipN_le _ _)
      obtain ⟨b, off, x, y, rfl, He, hc1, hc2, u1, u2, u3, u4⟩ := (h.below hb).sp hu hlt
      have hym : y ≤ 4611686018427387903 := by have := (Hg.out k hlt).1.2; rw [He.out] at this; exact this
      have ht : decide (y + 1 < lo) = true := by
        have := skipN_lt (lo, hi) l k hsk hlt
        rw [He.out] at this
        simpa using this
      have Hts := Lib.hid (take_snoc l k hlt)
      go_wp2
      refine wp_region_qt (by kernel_rfl) (by kernel_rfl) ?_
      repeat (go_big_quiet_step (fail))
      refine wpQuiet_nil ?_
      intro wd qd
      have hownd := qd.own hown
      have hc5 := qd.cell hc1
      have hc6 := qd.cell hc2
      go_wp2_with (at_builtin; refine wpList_append_own _ rfl _ _ 46 rfl (w.heap.size + 1) 68 i0 (.agg #[.int .u64 0, .int .u64 0]) 2 16 Try.underlying46 hi0 hz0 hz1 hz2 rfl (by decide) _ _ _ rfl (hownd.alloc _) ⟨wd.heap.size, 0, none⟩ 1 1 [.int .u64 x, .int .u64 y] rfl rfl ?c1 ?c2 ?c3 ?c4 ?c5 ?_)
      case c1 => exact World.news_of_block (cs := #[.int .u64 x, .int .u64 y]) (t := 68) (fr := (0, 0)) (heap_alloc_new wd _)
      case c2 => simp [Value.oneCell']
      case c3 => unfold maxLen; omega
      case c4 => omega
      case c5 => have := lt_of_block (qd.blk HB.out); simp; omega
      intro v' w1 hown' hgrow _
      have hbd := hb.trans qd.below
      have hb1 : Below w.heap.size w w1 := (hbd.alloc hbd.size _).grown hgrow (by have := hbd.size; simp; omega) (fun g hg => by have := (hown.lt g hg).1; omega)
      have HB1 : Hid (w1.heap[w.heap.size]? = some (.cells #[.int .u64 lo, .int .u64 hi] 68 (0, 0))) := by
        refine (hgrow.block _ (by have := lt_of_block (qd.blk HB.out); simp; omega) (fun e => ?_)).trans ((Below.heap_alloc _ _ _ (lt_of_block (qd.blk HB.out))).trans (qd.blk HB.out))
        have := (hown.lt _ e.symm).1
        omega
      have Hn : Hid (Ss (l.take (k + 1)) = Ss (l.take k) ++ [.int .u64 x, .int .u64 y]) := by
        show _ = _
        rw [Hts.out, Ss_append, He.out]
        rfl
      clear hown b1 b2 hgrow
      go_wp2
      go_roundw
      case rel => exact ⟨k + 1, by omega, by go_num, by rw [Hn.out]; exact hown', HB1, hb1⟩
      case measure => simp [intOf]; omega
    · obtain rfl : k = skipN (lo, hi) l := by omega
      clear hsk hk
      generalize hK : skipN (lo, hi) l = K at *
      have HK := Lib.hid hK
      clear hK
      have hlen0 : K ≤ l.length := hkl
      have hstep : (K < l.length ∧ ∃ b off x y, A = some ⟨b, off, none⟩ ∧ wr.cell? ⟨b, off + K * 2 + 1, none⟩ = some (.int .u64 y) ∧ 0 ≤ y ∧ y ≤ 4611686018427387903 ∧ Hid (l[K]? = some (x, y)) ∧ decide (y + 1 < lo) = false) ∨ ¬ K < l.length := by
        by_cases hlt : K < l.length
        · refine .inl ⟨hlt, ?_⟩
          obtain ⟨b, off, x, y, e, He, hc1, hc2, u1, u2, u3, u4⟩ := (h.below hb).sp hu hlt
          have hym : y ≤ 4611686018427387903 := by have := (Hg.out K hlt).1.2; rw [He.out] at this; exact this
          have ht : decide (y + 1 < lo) = false := by
            have := skipN_end (lo, hi) l (by rw [HK.out]; exact hlt)
            simp only [HK.out] at this
            rw [He.out] at this
            simpa using this
          exact ⟨b, off, x, y, e, hc2, u3, hym, Lib.hid (by rw [List.getElem?_eq_getElem hlt, He.out]), ht⟩
        · exact .inr hlt
      rcases hstep with ⟨hlt, b, off, x, y, rfl, hc2, u3, u4, He, ht⟩ | hlt
      all_goals
        go_wp2
        refine wp_region_qt (by kernel_rfl) (by kernel_rfl) ?_
        repeat (go_big_quiet_step (fail))
        refine wpQuiet_nil ?_
        intro wd qd
        go_wp2
        have hown1 := qd.own hown
        have hbq := hb.trans qd.below
        have HBq := Lib.hid (qd.blk HB.out)
        have hro : ∀ z ∈ l.drop K, 0 ≤ z.1 ∧ 0 ≤ z.2 ∧ z.2 ≤ maxPn := fun z hz => ⟨(hu z (List.mem_of_mem_drop hz)).1.1, (hu z (List.mem_of_mem_drop hz)).2.1, (Hg.out.span z (List.mem_of_mem_drop hz)).2⟩
        have Hro := Lib.hid hro
        clear hro HB hown hb b1 b2
        go_loopw [6] (fun i wq => ∃ (j m : Nat) (x y : Int), m ≤ eatN (lo, hi) (l.drop K) ∧ i = .int .i64 j ∧ Hid (j = K + m) ∧ Hid (eaten (lo, hi) (l.drop K) m = (x, y)) ∧
          wq.ownsRow (w.heap.size + 1) 68 2 u5 K (Ss (l.take K)) ∧ Hid (wq.heap[w.heap.size]? = some (.cells #[.int .u64 x, .int .u64 y] 68 (0, 0))) ∧ Below w.heap.size w wq) (fun i _ => l.length - (intOf i).toNat)
        case atStart => exact ⟨K, 0, lo, hi, Nat.zero_le _, rfl, Lib.hid rfl, eaten_zero _ _, hown1, HBq, hbq⟩
        case round =>
          obtain ⟨j, m, x2, y2, hm, rfl, Hj, He2, hown2, HB2, hb2⟩ := hrel
          have hmr : m ≤ (l.drop K).length := Nat.le_trans hm (eatN_le _ _)
          have hml : j ≤ l.length := by have := Hj.out; simp only [List.length_drop] at hmr; omega
          obtain ⟨v1, v2, v3, v4⟩ : 0 ≤ x2 ∧ x2 ≤ 4611686018427387903 ∧ 0 ≤ y2 ∧ y2 ≤ 4611686018427387903 := by
            have := eaten_bounds (lo, hi) (l.drop K) m (by simp only [maxPn_eq]; omega) Hro.out
            rw [He2.out] at this
            exact this
          have b1 := cell_of_row wr w.heap.size 0 _ _ _ HB2.out
          have b2 := cell_of_row wr w.heap.size 1 _ _ _ HB2.out
          have f1 := frozen_of_row wr w.heap.size 0 _ _ HB2.out
          have f2 := frozen_of_row wr w.heap.size 1 _ _ HB2.out
          by_cases hme : m < eatN (lo, hi) (l.drop K)
          · have hmd : m < (l.drop K).length := Nat.lt_of_lt_of_le hme (eatN_le _ _)
            have hlt2 : j < l.length := by have := Hj.out; simp only [List.length_drop] at hmd; omega
            obtain ⟨b3, o3, x3, y3, e3, He3, hc3, hc4, w1, w2, w3, w4⟩ := (h.below hb2).sp hu hlt2
            have ht2 : decide (x3 ≤ y2 + 1) = true := by
              have := eatN_lt (lo, hi) (l.drop K) m hme hmd
              have e := Hj.out
              subst e
              rw [He2.out, List.getElem_drop, He3.out] at this
              simpa using this
            have hnext : Hid (eaten (lo, hi) (l.drop K) (m + 1) = (min x2 x3, max y2 y3)) := by
              show _ = _
              have e := Hj.out
              subst e
              rw [eaten_succ _ _ _ hmd, He2.out, List.getElem_drop, He3.out]
              rfl
            first
              | (exfalso
                 have := Hj.out
                 simp only [List.length_drop] at hmd
                 omega)
              | (injection e3 with e3
                 injection e3 with e3 e4
                 subst e3
                 subst e4
                 go_wp2
                 refine wp_region_qt (by kernel_rfl) (by kernel_rfl) ?_
                 repeat (go_big_quiet_step (fail))
                 refine wpQuiet_nil ?_
                 intro wd qd
                 go_wp2
                 refine wp_region_st 9 (by kernel_rfl) (by kernel_rfl) ?_
                 intro we qe
                 simp only [List.take_succ_cons, List.take_zero, List.drop_succ_cons, List.drop_zero]
                 have g1 := qe.blk (qd.blk HB2.out)
                 have d1 := cell_of_row we w.heap.size 0 _ _ _ g1
                 have d3 := qe.cell (qd.cell hc3)
                 repeat still_step
                 try refine wpStill_nil ?_
                 have d2 := cell_of_row we w.heap.size 1 _ _ _ g1
                 have d4 := qe.cell (qd.cell hc4)
                 have d5 := frozen_of_row we w.heap.size 0 _ _ g1
                 have G1 := Lib.hid g1
                 clear g1
                 go_wp2
                 have g2 := heap_setCell_same we w.heap.size 0 _ _ (.int .u64 (min x2 x3)) G1.out
                 have ho2 := ownsRow_setCell_below (qe.own (qd.own hown2)) (a := ⟨w.heap.size, 0, none⟩) (by simp) (.int .u64 (min x2 x3))
                 have hb3 := ((hb2.trans qd.below).trans qe.below).setCell (p := ⟨w.heap.size, 0, none⟩) (Nat.le_refl _) (.int .u64 (min x2 x3))
                 have g3 : (we.setCell ⟨w.heap.size, 0, none⟩ (.int .u64 (min x2 x3))).cell? ⟨b, off + j * 2 + 1, none⟩ = some (.int .u64 y3) :=
                   (World.cell?_setCell_other _ _ _ _ (fun e => by injection e with e; omega)).trans d4
                 clear d1 d2 d3 d4 d5 G1
                 generalize we.setCell ⟨w.heap.size, 0, none⟩ (.int .u64 (min x2 x3)) = wf at *
                 refine wp_region_st 9 (by kernel_rfl) (by kernel_rfl) ?_
                 intro wg qg
                 simp only [List.take_succ_cons, List.take_zero, List.drop_succ_cons, List.drop_zero]
                 have d1 := cell_of_row wg w.heap.size 1 _ _ _ (qg.blk g2)
                 have d2 := qg.cell g3
                 simp at d1
                 repeat still_step
                 try refine wpStill_nil ?_
                 have d5 := frozen_of_row wg w.heap.size 1 _ _ (qg.blk g2)
                 have G2 := Lib.hid (qg.blk g2)
                 clear g2
                 go_wp2
                 go_roundw
                 case rel =>
                   have e1 := heap_setCell_same wg w.heap.size 1 _ _ (.int .u64 (max y2 y3)) G2.out
                   simp at e1
                   exact ⟨j + 1, m + 1, min x2 x3, max y2 y3, hme, by go_num, Lib.hid (by have := Hj.out; omega), hnext, ownsRow_setCell_below (qg.own ho2) (by simp) _, Lib.hid e1, (hb3.trans qg.below).setCell (Nat.le_refl _) _⟩
                 case measure => simp [intOf]; omega
                 )
          · have hme' : m = eatN (lo, hi) (l.drop K) := by omega
            have Hme := Lib.hid hme'
            clear hme hm hmr hme'
            have hadd : Hid (addP l (lo, hi) = l.take K ++ [(x2, y2)] ++ l.drop j) := by
              show _ = _
              unfold addP
              rw [HK.out, ← Hme.out, He2.out, Hj.out]
            by_cases hlt2 : j < l.length
            · obtain ⟨b3, o3, x3, y3, e3, He3, hc3, hc4, w1, w2, w3, w4⟩ := (h.below hb2).sp hu hlt2
              have ht2 : decide (x3 ≤ y2 + 1) = false := by
                have e := Hj.out
                have e2 := Hme.out
                have := eatN_end (lo, hi) (l.drop K) (by simp only [List.length_drop]; omega)
                rw [List.getElem_drop] at this
                simp only [← e2, ← e] at this
                rw [He2.out, He3.out] at this
                simpa using this
              first
                | (exfalso
                   have := Hj.out
                   omega)
                | (injection e3 with e3
                   injection e3 with e3 e4
                   subst e3
                   subst e4
                   go_wp2
                   refine wp_region_qt (by kernel_rfl) (by kernel_rfl) ?_
                   repeat (go_big_quiet_step (fail))
                   refine wpQuiet_nil ?_
                   intro wd qd
                   have g1 := qd.blk HB2.out
                   have d1 := cell_of_row wd w.heap.size 0 _ _ _ g1
                   have d2 := cell_of_row wd w.heap.size 1 _ _ _ g1
                   have hgd := lt_of_block g1
                   clear g1
                   have hown3 := qd.own hown2
                   have hb3 := hb2.trans qd.below
                   have hKl : (l.take K).length = K := by simp; omega
                   have Hlen : Hid ((addP l (lo, hi)).length = K + 1 + (l.length - j)) := by
                     show _ = _
                     rw [hadd.out]; simp; omega
                   have HKl := Lib.hid hKl
                   have hjK : K ≤ j := by have := Hj.out; omega
                   obtain ⟨A9, hrun9, hcut9⟩ := h.cut_run (P := Try.prog) (t := 46) Try.underlying46 hi0 hz1 hml
                   clear hKl
                   go_wp2_with (first
                     | (at_builtin
                        refine wpList_append_own _ rfl (.tmp 66) (.tmp 68) 46 rfl (w.heap.size + 1) 68 i0 (.agg #[.int .u64 0, .int .u64 0]) 2 16 Try.underlying46 hi0 hz0 hz1 hz2 rfl (by decide) u5 K (Ss (l.take K)) rfl (hown3.alloc _) ⟨wd.heap.size, 0, none⟩ 1 1 [.int .u64 x2, .int .u64 y2] rfl rfl (World.news_of_block (cs := #[.int .u64 x2, .int .u64 y2]) (t := 68) (fr := (0, 0)) (heap_alloc_new wd _)) (by simp [Value.oneCell']) (by unfold maxLen; omega) (by omega) (by simp; omega) ?_
                        intro v1 w1 hown4 hg4 _
                        have hb4 : Below w.heap.size w w1 := (hb3.alloc hb3.size _).grown hg4 (by have := hb3.size; simp; omega) (fun g hg => by have := (hown3.lt g hg).1; omega)
                        have R4 := hcut9 _ _ (h.below hb4)
                        rw [Ss_drop] at R4)
                     | (at_builtin
                        refine wpList_append_rd _ rfl (.tmp 70) (.tmp 73) 46 rfl (w.heap.size + 1) 68 i0 (.agg #[.int .u64 0, .int .u64 0]) 2 16 Try.underlying46 hi0 hz0 hz1 hz2 rfl (by decide) v1 (K + 1) (Ss (l.take K) ++ [.int .u64 x2, .int .u64 y2]) rfl hown4 A9 (l.length - j) (c - j) (Ss (l.drop j)) rfl R4 (Ss_one _) (by unfold maxLen; omega) (by omega) (by have := hb4.size; have := hg4.size; simp at this; omega) ?_
                        intro v2 w2 hown5 hg5 _))
                   go_ret
                   obtain ⟨A5, c5, rfl, _⟩ := own_slice hown5
                   have R5 := RdN.of_own (B' := w.heap.size) hown5 (by omega)
                   refine ⟨A5, c5, by rw [Hlen.out]; rfl, ?_, hb4.grown hg5 hb4.size (fun g hg => by have := (hown4.lt g hg).1; omega)⟩
                   rw [Hlen.out, hadd.out, Ss_append, Ss_append]
                   exact R5
                   )
            · have hltf : decide (j < l.length) = false := by simpa using hlt2
              go_wp2
              refine wp_region_qt (by kernel_rfl) (by kernel_rfl) ?_
              repeat (go_big_quiet_step (fail))
              refine wpQuiet_nil ?_
              intro wd qd
              have g1 := qd.blk HB2.out
              have d1 := cell_of_row wd w.heap.size 0 _ _ _ g1
              have d2 := cell_of_row wd w.heap.size 1 _ _ _ g1
              have hgd := lt_of_block g1
              clear g1
              have hown3 := qd.own hown2
              have hb3 := hb2.trans qd.below
              have hKl : (l.take K).length = K := by simp; omega
              have Hlen : Hid ((addP l (lo, hi)).length = K + 1 + (l.length - j)) := by
                show _ = _
                rw [hadd.out]; simp; omega
              have HKl := Lib.hid hKl
              have hjK : K ≤ j := by have := Hj.out; omega
              obtain ⟨A9, hrun9, hcut9⟩ := h.cut_run (P := Try.prog) (t := 46) Try.underlying46 hi0 hz1 hml
              clear hKl
              go_wp2_with (first
                | (at_builtin
                   refine wpList_append_own _ rfl (.tmp 66) (.tmp 68) 46 rfl (w.heap.size + 1) 68 i0 (.agg #[.int .u64 0, .int .u64 0]) 2 16 Try.underlying46 hi0 hz0 hz1 hz2 rfl (by decide) u5 K (Ss (l.take K)) rfl (hown3.alloc _) ⟨wd.heap.size, 0, none⟩ 1 1 [.int .u64 x2, .int .u64 y2] rfl rfl (World.news_of_block (cs := #[.int .u64 x2, .int .u64 y2]) (t := 68) (fr := (0, 0)) (heap_alloc_new wd _)) (by simp [Value.oneCell']) (by unfold maxLen; omega) (by omega) (by simp; omega) ?_
                   intro v1 w1 hown4 hg4 _
                   have hb4 : Below w.heap.size w w1 := (hb3.alloc hb3.size _).grown hg4 (by have := hb3.size; simp; omega) (fun g hg => by have := (hown3.lt g hg).1; omega)
                   have R4 := hcut9 _ _ (h.below hb4)
                   rw [Ss_drop] at R4)
                | (at_builtin
                   refine wpList_append_rd _ rfl (.tmp 70) (.tmp 73) 46 rfl (w.heap.size + 1) 68 i0 (.agg #[.int .u64 0, .int .u64 0]) 2 16 Try.underlying46 hi0 hz0 hz1 hz2 rfl (by decide) v1 (K + 1) (Ss (l.take K) ++ [.int .u64 x2, .int .u64 y2]) rfl hown4 A9 (l.length - j) (c - j) (Ss (l.drop j)) rfl R4 (Ss_one _) (by unfold maxLen; omega) (by omega) (by have := hb4.size; have := hg4.size; simp at this; omega) ?_
                   intro v2 w2 hown5 hg5 _))
              go_ret
              obtain ⟨A5, c5, rfl, _⟩ := own_slice hown5
              have R5 := RdN.of_own (B' := w.heap.size) hown5 (by omega)
              refine ⟨A5, c5, by rw [Hlen.out]; rfl, ?_, hb4.grown hg5 hb4.size (fun g hg => by have := (hown4.lt g hg).1; omega)⟩
              rw [Hlen.out, hadd.out, Ss_append, Ss_append]
              exact R5
end Go.Proofs.Ytkedfipeebjcjaa

namespace Go.Proofs.Ytkedfipeebjcjaa
set_option linter.unusedSimpArgs false
set_option linter.unusedVariables false
set_option linter.unnecessarySimpa false
open Go.RowKit
attribute [local go_sem ↓] run_min_int run_max_int

def Hp.cells (h : Hp) : List Value := [.int .u64 h.pn, .int .u64 h.nonce, .bool h.coin, .bool h.marked]
theorem Hp.cells_len (h : Hp) : h.cells.length = 4 := rfl
theorem Rd.hp {w : World} {A : Option Addr} {n c : Nat} {l : List Hp} (h : Rd w 4 A n c (l.flatMap Hp.cells)) {i : Nat} (hi : i < l.length) :
    ∃ b off, A = some ⟨b, off, none⟩ ∧ w.cell? ⟨b, off + i * 4, none⟩ = some (.int .u64 l[i].pn) ∧ w.cell? ⟨b, off + i * 4 + 1, none⟩ = some (.int .u64 l[i].nonce) ∧ w.cell? ⟨b, off + i * 4 + 2, none⟩ = some (.bool l[i].coin) ∧ w.cell? ⟨b, off + i * 4 + 3, none⟩ = some (.bool l[i].marked) := by
  obtain ⟨b, off, e, hc⟩ := Rd.elem Hp.cells_len h (by omega) hi
  exact ⟨b, off, e, hc 0 _ rfl, hc 1 _ rfl, hc 2 _ rfl, hc 3 _ rfl⟩
/-- Where the rows of a reference's receiver lie. -/
structure RM where
  A1 : Option Addr
  c1 : Nat
  A2 : Option Addr
  c2 : Nat
  pl : List Pc
def RM.v1 (m : RM) (s : PS) : Value := .slice m.A1 s.l.length m.c1
def RM.v2 (m : RM) (s : PS) : Value := .slice m.A2 s.s.length m.c2
structure RfR (w : World) (F M : Nat → Prop) (p : Nat) (s : PS) (m : RM) : Prop where
  t : w.heap[p]? = some (.cells #[.int .u64 s.delay, .int .u64 s.floor, .int .u64 s.next, .slice m.A1 s.l.length m.c1, .int .u64 s.bytes, .slice m.A2 s.s.length m.c2, .int .i64 s.waits, .int .u64 s.trigger, .int .u64 s.due] 99 (0, 0))
  o1 : w.ownsRow 0 103 4 (.slice m.A1 s.l.length m.c1) s.l.length (s.l.flatMap Hp.cells)
  o2 : w.ownsRow 0 82 2 (.slice m.A2 s.s.length m.c2) s.s.length (m.pl.flatMap Pc.cells)
  pe : m.pl.map Pc.pure = s.s
  bd : ∀ x ∈ m.pl, Rd w 1 x.A x.b.length x.c (U8 x.b)
  fp : F p
  f1 : ∀ g, (m.v1 s).ownBlock = some g → F g ∧ g ≠ p
  f2 : ∀ g, (m.v2 s).ownBlock = some g → F g ∧ g ≠ p ∧ (m.v1 s).ownBlock ≠ some g
  fb : ∀ x ∈ m.pl, ∀ b off, x.A = some ⟨b, off, none⟩ → 0 < x.b.length → (F b ∨ M b) ∧ b ≠ p ∧ (m.v1 s).ownBlock ≠ some b ∧ (m.v2 s).ownBlock ≠ some b
theorem RfR.lt {w : World} {F M : Nat → Prop} {p : Nat} {s : PS} {m : RM} (h : RfR w F M p s m) : p < w.heap.size := lt_of_block h.t
theorem RfR.chg {w w' : World} {F M G F' M' : Nat → Prop} {p : Nat} {s : PS} {m : RM} (h : RfR w F M p s m) (hc : Chg G w w') (hd : ∀ k, k < w.heap.size → F k ∨ M k → ¬ G k) (hF : ∀ k, k < w.heap.size → F k → F' k) (hM : ∀ k, k < w.heap.size → M k → F' k ∨ M' k) : RfR w' F' M' p s m := by
  have hp := h.lt
  have k1 := fun g e => (h.o1.lt g e).2
  have k2 := fun g e => (h.o2.lt g e).2
  refine ⟨hc.blk h.t (hd p hp (.inl h.fp)), own_chg h.o1 hc (fun g e => hd g (k1 g e) (.inl (h.f1 g e).1)), own_chg h.o2 hc (fun g e => hd g (k2 g e) (.inl (h.f2 g e).1)), h.pe, fun x hx => (h.bd x hx).chg hc (fun b off e hn => hd b ((h.bd x hx).lt (by omega) hn b off e) (h.fb x hx b off e hn).1), hF p hp h.fp,
    fun g e => ⟨hF g (k1 g e) (h.f1 g e).1, (h.f1 g e).2⟩, fun g e => ⟨hF g (k2 g e) (h.f2 g e).1, (h.f2 g e).2⟩, fun x hx b off e hn => ?_⟩
  have g1 := h.fb x hx b off e hn
  have g2 := (h.bd x hx).lt (by omega) hn b off e
  refine ⟨?_, g1.2⟩
  rcases g1.1 with g | g
  · exact .inl (hF b g2 g)
  · exact hM b g2 g
theorem RfR.below {w w' : World} {F M : Nat → Prop} {p : Nat} {s : PS} {m : RM} (h : RfR w F M p s m) (b : Below w.heap.size w w') : RfR w' F M p s m :=
  h.chg (chg_below b (F := fun _ => False)) (fun _ _ _ h => h) (fun _ _ h => h) (fun _ _ h => .inr h)
theorem RfR.sub {w : World} {F M G N : Nat → Prop} {p : Nat} {s : PS} {m : RM} (h : RfR w F M p s m) (hF : ∀ k, k < w.heap.size → F k → G k) (hM : ∀ k, k < w.heap.size → M k → G k ∨ N k) : RfR w G N p s m := h.chg (Chg.refl (fun _ => False) w) (fun _ _ _ h => h) hF hM
/-- A field that is no row has been stored. -/
theorem RfR.put {w : World} {F M : Nat → Prop} {p i : Nat} {s s' : PS} {m : RM} (h : RfR w F M p s m) (v : Value) (hl : s'.l = s.l) (hs : s'.s = s.s)
    (hc : #[.int .u64 s'.delay, .int .u64 s'.floor, .int .u64 s'.next, .slice m.A1 s'.l.length m.c1, .int .u64 s'.bytes, .slice m.A2 s'.s.length m.c2, .int .i64 s'.waits, .int .u64 s'.trigger, .int .u64 s'.due] = (#[.int .u64 s.delay, .int .u64 s.floor, .int .u64 s.next, .slice m.A1 s.l.length m.c1, .int .u64 s.bytes, .slice m.A2 s.s.length m.c2, .int .i64 s.waits, .int .u64 s.trigger, .int .u64 s.due] : Array Value).setIfInBounds i v) :
    RfR (w.setCell ⟨p, i, none⟩ v) F M p s' m := by
  have hC : Chg (fun j => j = p) w (w.setCell ⟨p, i, none⟩ v) := (Chg.refl (fun j => j = p) w).setCell (p := ⟨p, i, none⟩) (.inl rfl) _
  refine ⟨?_, ?_, ?_, ?_, ?_, h.fp, ?_, ?_, ?_⟩
  · rw [hc]
    exact heap_setCell_same w p i _ _ v h.t
  · rw [hl]
    exact own_chg h.o1 hC (fun g e => (h.f1 g e).2)
  · rw [hs]
    exact own_chg h.o2 hC (fun g e => (h.f2 g e).2.1)
  · rw [hs]; exact h.pe
  · exact fun x hx => (h.bd x hx).chg hC (fun b off e hn => (h.fb x hx b off e hn).2.1)
  · unfold RM.v1
    rw [hl]; exact h.f1
  · unfold RM.v1 RM.v2
    rw [hl, hs]; exact h.f2
  · unfold RM.v1 RM.v2
    rw [hl, hs]; exact h.fb

/-- What the walk needs of the packets that are kept. -/
structure PS.Fit (s : PS) : Prop where
  pn : ∀ h ∈ s.l, 0 ≤ h.pn ∧ h.pn ≤ maxPn
  few : s.l.length ≤ 1000000
theorem gotL_short (l : List Hp) : (gotL l).length ≤ l.length := by
  have : ∀ a : List Sp, (l.foldl (fun a h => addP a (h.pn, h.pn)) a).length ≤ a.length + l.length := by
    induction l with
    | nil => exact fun a => Nat.le_refl _
    | cons x l ih =>
      intro a
      rw [List.foldl_cons]
      have h1 := ih (addP a (x.pn, x.pn))
      have h2 := addP_le a (x.pn, x.pn)
      rw [List.length_cons]
      omega
  simpa [gotL] using this []
theorem gotL_take (l : List Hp) {k : Nat} (h : k < l.length) : gotL (l.take (k + 1)) = addP (gotL (l.take k)) (l[k].pn, l[k].pn) := by
  rw [List.take_succ_eq_append_getElem h, gotL_snoc]
theorem markL_take (l : List Hp) {k : Nat} (h : k < l.length) : markL (l.take (k + 1)) = if l[k].marked then addP (markL (l.take k)) (l[k].pn, l[k].pn) else markL (l.take k) := by
  unfold markL
  rw [List.take_succ_eq_append_getElem h, List.filter_append]
  cases hm : l[k].marked with
  | true => simp only [List.filter_cons, hm, if_true, List.filter_nil]; rw [gotL_snoc]
  | false => simp [List.filter_cons, hm]

set_option maxHeartbeats 1000000 in
set_option maxRecDepth 100000 in
theorem rp_got (w : World) (F M : Nat → Prop) (p : Nat) (s : PS) (m : RM) (h : RfR w F M p s m) (hf : s.Fit) :
    Calls Try.prog 52 #[.pointer (some ⟨p, 0, none⟩)] w fun e w' => ∃ A c, e = .returned (.slice A s.got.length c) ∧ RdN w' w.heap.size A s.got.length c (Ss s.got) ∧ Below w.heap.size w w' := by
  have H := Lib.hid h
  have HF := Lib.hid hf
  have hfew := hf.few
  clear h hf
  go_enter Try.func52, Try.ntmps52
  go_wp2_with fail
  go_loopw [3, 4] (fun out i wr => ∃ (k : Nat) (A' : Option Addr) (c' : Nat), k ≤ s.l.length ∧ out = .slice A' (gotL (s.l.take k)).length c' ∧ i = .int .i64 k ∧ Hid (RdN wr w.heap.size A' (gotL (s.l.take k)).length c' (Ss (gotL (s.l.take k)))) ∧ Below w.heap.size w wr) (fun _ i _ => s.l.length - (intOf i).toNat)
  case atStart => exact ⟨0, none, 0, Nat.zero_le _, rfl, rfl, Lib.hid ⟨Rd.nil_ _ _, fun b off e => by cases e⟩, Below.refl _ _⟩
  case round =>
    obtain ⟨k, A', c', hk, rfl, rfl, R, b⟩ := hrel
    have H1 := Lib.hid (H.out.below b)
    have t0 := cell_of_row wr p 0 _ _ _ H1.out.t
    have ft0 := frozen_of_row wr p 0 _ _ H1.out.t
    have t1 := cell_of_row wr p 1 _ _ _ H1.out.t
    have ft1 := frozen_of_row wr p 1 _ _ H1.out.t
    have t2 := cell_of_row wr p 2 _ _ _ H1.out.t
    have ft2 := frozen_of_row wr p 2 _ _ H1.out.t
    have t3 := cell_of_row wr p 3 _ _ _ H1.out.t
    have ft3 := frozen_of_row wr p 3 _ _ H1.out.t
    have t4 := cell_of_row wr p 4 _ _ _ H1.out.t
    have ft4 := frozen_of_row wr p 4 _ _ H1.out.t
    have t5 := cell_of_row wr p 5 _ _ _ H1.out.t
    have ft5 := frozen_of_row wr p 5 _ _ H1.out.t
    have t6 := cell_of_row wr p 6 _ _ _ H1.out.t
    have ft6 := frozen_of_row wr p 6 _ _ H1.out.t
    have t7 := cell_of_row wr p 7 _ _ _ H1.out.t
    have ft7 := frozen_of_row wr p 7 _ _ H1.out.t
    have t8 := cell_of_row wr p 8 _ _ _ H1.out.t
    have ft8 := frozen_of_row wr p 8 _ _ H1.out.t
    by_cases hlt : k < s.l.length
    · obtain ⟨gd, off, hA, x0, -⟩ := (Rd.of_own H1.out.o1).hp hlt
      have hcp := (Rd.of_own H1.out.o1).cap
      have g1 := gotL_spec (s.l.take k) fun x hx => (HF.out.pn x (List.mem_of_mem_take hx)).2
      have g2 : (gotL (s.l.take k)).length ≤ s.l.length := Nat.le_trans (gotL_short _) (by rw [List.length_take]; omega)
      have g3 := gotL_lo (l := s.l.take k) (fun x hx => (HF.out.pn x (List.mem_of_mem_take hx)).2) fun x hx => (HF.out.pn x (List.mem_of_mem_take hx)).1
      have g4 := HF.out.pn s.l[k] (List.getElem_mem hlt)
      have HN := Lib.hid (gotL_take s.l hlt)
      have ADD := Lib.hid (addSpan_new A' (gotL (s.l.take k)).length c' _ s.l[k].pn s.l[k].pn wr.drew R.out.rd.drew g1.1.good ⟨Int.le_refl _, g4.2⟩ g4.1 (gd_u2 g1.1 g3) (by omega))
      have hgs := b.size
      clear g1 g2 g3 g4
      rw [hA] at t3
      go_wp2_with fail
      go_region_with ((go_at_call 73; refine ADD.out.mono ?_; rintro e w2 ⟨A5, c5, rfl, hr5, b5⟩; rw [← HN.out] at hr5; have B5 : Hid (Below wr.heap.size wr w2) := Lib.hid ((Below.refl _ _).drew.trans b5); have R5 := Lib.hid (RdN.mono hr5 hgs); rw [← HN.out]; clear hr5 b5))
      all_goals (
        go_wp2_with fail
        go_roundw
        case rel => exact ⟨k + 1, A5, c5, by omega, rfl, by go_num, R5, b.trans (B5.out.mono b.size)⟩
        case measure => (simp [intOf]; omega))
    · obtain rfl : k = s.l.length := by omega
      rw [List.take_length] at *
      go_wp2
      go_ret
      exact ⟨A', c', rfl, R.out, b⟩

set_option maxHeartbeats 1000000 in
set_option maxRecDepth 100000 in
theorem rp_marked (w : World) (F M : Nat → Prop) (p : Nat) (s : PS) (m : RM) (h : RfR w F M p s m) (hf : s.Fit) :
    Calls Try.prog 54 #[.pointer (some ⟨p, 0, none⟩)] w fun e w' => ∃ A c, e = .returned (.slice A s.marked.length c) ∧ RdN w' w.heap.size A s.marked.length c (Ss s.marked) ∧ Below w.heap.size w w' := by
  have H := Lib.hid h
  have HF := Lib.hid hf
  have hfew := hf.few
  clear h hf
  go_enter Try.func54, Try.ntmps54
  go_wp2_with fail
  go_loopw [3, 4] (fun out i wr => ∃ (k : Nat) (A' : Option Addr) (c' : Nat), k ≤ s.l.length ∧ out = .slice A' (markL (s.l.take k)).length c' ∧ i = .int .i64 k ∧ Hid (RdN wr w.heap.size A' (markL (s.l.take k)).length c' (Ss (markL (s.l.take k)))) ∧ Below w.heap.size w wr) (fun _ i _ => s.l.length - (intOf i).toNat)
  case atStart => exact ⟨0, none, 0, Nat.zero_le _, rfl, rfl, Lib.hid ⟨Rd.nil_ _ _, fun b off e => by cases e⟩, Below.refl _ _⟩
  case round =>
    obtain ⟨k, A', c', hk, rfl, rfl, R, b⟩ := hrel
    have H1 := Lib.hid (H.out.below b)
    have t0 := cell_of_row wr p 0 _ _ _ H1.out.t
    have ft0 := frozen_of_row wr p 0 _ _ H1.out.t
    have t1 := cell_of_row wr p 1 _ _ _ H1.out.t
    have ft1 := frozen_of_row wr p 1 _ _ H1.out.t
    have t2 := cell_of_row wr p 2 _ _ _ H1.out.t
    have ft2 := frozen_of_row wr p 2 _ _ H1.out.t
    have t3 := cell_of_row wr p 3 _ _ _ H1.out.t
    have ft3 := frozen_of_row wr p 3 _ _ H1.out.t
    have t4 := cell_of_row wr p 4 _ _ _ H1.out.t
    have ft4 := frozen_of_row wr p 4 _ _ H1.out.t
    have t5 := cell_of_row wr p 5 _ _ _ H1.out.t
    have ft5 := frozen_of_row wr p 5 _ _ H1.out.t
    have t6 := cell_of_row wr p 6 _ _ _ H1.out.t
    have ft6 := frozen_of_row wr p 6 _ _ H1.out.t
    have t7 := cell_of_row wr p 7 _ _ _ H1.out.t
    have ft7 := frozen_of_row wr p 7 _ _ H1.out.t
    have t8 := cell_of_row wr p 8 _ _ _ H1.out.t
    have ft8 := frozen_of_row wr p 8 _ _ H1.out.t
    by_cases hlt : k < s.l.length
    · obtain ⟨gd, off, hA, x0, -, -, x3⟩ := (Rd.of_own H1.out.o1).hp hlt
      have hcp := (Rd.of_own H1.out.o1).cap
      have g1 := gotL_spec ((s.l.take k).filter (·.marked)) fun x hx => (HF.out.pn x (List.mem_of_mem_take (List.mem_filter.1 hx).1)).2
      have g2 : (markL (s.l.take k)).length ≤ s.l.length := Nat.le_trans (gotL_short _) (Nat.le_trans (List.length_filter_le _ _) (by rw [List.length_take]; omega))
      have g3 := gotL_lo (l := (s.l.take k).filter (·.marked)) (fun x hx => (HF.out.pn x (List.mem_of_mem_take (List.mem_filter.1 hx).1)).2) fun x hx => (HF.out.pn x (List.mem_of_mem_take (List.mem_filter.1 hx).1)).1
      have g4 := HF.out.pn s.l[k] (List.getElem_mem hlt)
      have HN0 := markL_take s.l hlt
      have ADD := Lib.hid (addSpan_new A' (markL (s.l.take k)).length c' _ s.l[k].pn s.l[k].pn wr.drew R.out.rd.drew g1.1.good ⟨Int.le_refl _, g4.2⟩ g4.1 (gd_u2 g1.1 g3) (by omega))
      have hgs := b.size
      clear g1 g2 g3 g4
      rw [hA] at t3
      by_cases hm : s.l[k].marked = true
      · rw [hm] at x3
        have HN : Hid (markL (s.l.take (k + 1)) = addP (markL (s.l.take k)) (s.l[k].pn, s.l[k].pn)) := Lib.hid (by rw [HN0, if_pos hm])
        clear HN0 hm
        go_wp2_with fail
        go_region_with ((go_at_call 73; refine ADD.out.mono ?_; rintro e w2 ⟨A5, c5, rfl, hr5, b5⟩; rw [← HN.out] at hr5; have B5 : Hid (Below wr.heap.size wr w2) := Lib.hid ((Below.refl _ _).drew.trans b5); have R5 := Lib.hid (RdN.mono hr5 hgs); rw [← HN.out]; clear hr5 b5))
        all_goals (
          go_wp2_with fail
          go_roundw
          case rel => exact ⟨k + 1, A5, c5, by omega, rfl, by go_num, R5, b.trans (B5.out.mono b.size)⟩
          case measure => (simp [intOf]; omega))
      · have hm2 : s.l[k].marked = false := by simpa using hm
        rw [hm2] at x3
        have HN : Hid (markL (s.l.take (k + 1)) = markL (s.l.take k)) := Lib.hid (by rw [HN0, if_neg hm])
        clear HN0 hm hm2 ADD
        go_wp2_with fail
        go_roundw
        case rel => exact ⟨k + 1, A', c', by omega, by rw [HN.out], by go_num, by rw [HN.out]; exact R, b⟩
        case measure => simp [intOf]; omega
    · obtain rfl : k = s.l.length := by omega
      rw [List.take_length] at *
      go_wp2
      go_ret
      exact ⟨A', c', rfl, R.out, b⟩

end Go.Proofs.Ytkedfipeebjcjaa

namespace Go.Proofs.Ytkedfipeebjcjaa
set_option linter.unusedSimpArgs false
set_option linter.unusedVariables false
set_option linter.unnecessarySimpa false
open Go.RowKit
attribute [local go_sem ↓] run_min_int run_max_int

theorem infoHp : (Try.prog.info? 103).map (fun i => (i.zero, i.size, i.bytes)) = some (some (.agg #[.int .u64 0, .int .u64 0, .bool false, .bool false]), 4, 24) := by kernel_rfl
/-- The row of the packets is another one. -/
theorem RfR.row {w w' : World} {F M : Nat → Prop} {p : Nat} {s : PS} {m : RM} {A : Option Addr} {c : Nat} {l : List Hp} (h : RfR w F M p s m) (b : Below w.heap.size w w') (o : w'.ownsRow w.heap.size 103 4 (.slice A l.length c) l.length (l.flatMap Hp.cells)) (hn : ∀ k, w.heap.size ≤ k → F k) :
    RfR (w'.setCell ⟨p, 3, none⟩ (.slice A l.length c)) F M p { s with l := l } { m with A1 := A, c1 := c } := by
  have hp := h.lt
  have h1 := h.below b
  have hC : Chg (fun j => j = p) w' (w'.setCell ⟨p, 3, none⟩ (.slice A l.length c)) := (Chg.refl (fun j => j = p) w').setCell (p := ⟨p, 3, none⟩) (.inl rfl) _
  have o2 := h1.o2
  have k2 : ∀ g, (m.v2 s).ownBlock = some g → g < w.heap.size := fun g e => (h.o2.lt g e).2
  refine ⟨?_, ?_, ?_, h1.pe, ?_, h1.fp, ?_, ?_, ?_⟩
  · exact heap_setCell_same w' p 3 _ _ (.slice A l.length c) h1.t
  · exact own_chg (own_base o (fun k _ => Nat.zero_le k)) hC (fun g e => by have := (o.lt g e).1; omega)
  · exact own_chg h1.o2 hC (fun g e => (h1.f2 g e).2.1)
  · exact fun x hx => (h1.bd x hx).chg hC (fun b off e hn => (h1.fb x hx b off e hn).2.1)
  · exact fun g e => by have := (o.lt g e).1; exact ⟨hn g this, by omega⟩
  · exact fun g e => ⟨(h1.f2 g e).1, (h1.f2 g e).2.1, fun e2 => by have := (o.lt g e2).1; have := k2 g e; omega⟩
  · intro x hx b off e hn2
    have g1 := h1.fb x hx b off e hn2
    have g2 := (h.bd x hx).lt (by omega) hn2 b off e
    exact ⟨g1.1, g1.2.1, fun e2 => by have := (o.lt b e2).1; omega, g1.2.2.2⟩

set_option maxHeartbeats 1000000 in
set_option maxRecDepth 100000 in
theorem rp_raise (w : World) (F M : Nat → Prop) (p : Nat) (s : PS) (m : RM) (f : Int) (h : RfR w F M p s m) (hn : ∀ k, w.heap.size ≤ k → F k) (hf : s.Fit) :
    Calls Try.prog 53 #[.pointer (some ⟨p, 0, none⟩), .int .u64 f] w fun e w' => e = .returned (.tuple #[]) ∧ (∃ A c, RfR w' F M p (s.raise f) { m with A1 := A, c1 := c }) ∧ Chg F w w' := by
  obtain ⟨iH, hiH, hz0, hz1, hz2⟩ := info_parts infoHp
  have HN := Lib.hid hn
  have hfew := hf.few
  have t0 := cell_of_row w p 0 _ _ _ h.t
  have ft0 := frozen_of_row w p 0 _ _ h.t
  have t1 := cell_of_row w p 1 _ _ _ h.t
  have ft1 := frozen_of_row w p 1 _ _ h.t
  have t2 := cell_of_row w p 2 _ _ _ h.t
  have ft2 := frozen_of_row w p 2 _ _ h.t
  have t3 := cell_of_row w p 3 _ _ _ h.t
  have ft3 := frozen_of_row w p 3 _ _ h.t
  have t4 := cell_of_row w p 4 _ _ _ h.t
  have ft4 := frozen_of_row w p 4 _ _ h.t
  have t5 := cell_of_row w p 5 _ _ _ h.t
  have ft5 := frozen_of_row w p 5 _ _ h.t
  have t6 := cell_of_row w p 6 _ _ _ h.t
  have ft6 := frozen_of_row w p 6 _ _ h.t
  have t7 := cell_of_row w p 7 _ _ _ h.t
  have ft7 := frozen_of_row w p 7 _ _ h.t
  have t8 := cell_of_row w p 8 _ _ _ h.t
  have ft8 := frozen_of_row w p 8 _ _ h.t
  have H1 : Hid (RfR (w.setCell ⟨p, 1, none⟩ (.int .u64 (max s.floor f))) F M p { s with floor := max s.floor f } m) := Lib.hid (h.put _ rfl rfl rfl)
  have C1 : Hid (Chg F w (w.setCell ⟨p, 1, none⟩ (.int .u64 (max s.floor f)))) := Lib.hid ((Chg.refl F w).setCell (p := ⟨p, 1, none⟩) (.inl h.fp) _)
  clear h hn hf
  go_enter Try.func53, Try.ntmps53
  go_upto_region 1 with fail
  clear t0 t1 t2 t3 t4 t5 t6 t7 t8 ft0 ft1 ft2 ft3 ft4 ft5 ft6 ft7 ft8
  have HN1 : Hid (∀ k, (w.setCell ⟨p, 1, none⟩ (.int .u64 (max s.floor f))).heap.size ≤ k → F k) := Lib.hid (fun k hk => HN.out k (Nat.le_trans C1.out.size hk))
  generalize (w.setCell ⟨p, 1, none⟩ (.int .u64 (max s.floor f))) = w1 at *
  generalize hfl : max s.floor f = fl at *
  have HFL := Lib.hid hfl
  clear hfl
  go_wp2_with fail
  go_loopw [4, 5] (fun out i wr => ∃ (k n : Nat), k ≤ s.l.length ∧ n ≤ k ∧ i = .int .i64 k ∧ wr.ownsRow w1.heap.size 103 4 out n (((s.l.take k).filter fun h => decide (fl ≤ h.pn)).flatMap Hp.cells) ∧ Below w1.heap.size w1 wr) (fun _ i _ => s.l.length - (intOf i).toNat)
  case atStart => exact ⟨0, 0, Nat.zero_le _, Nat.le_refl _, rfl, World.ownsRow_nil _ _ _ _, Below.refl _ _⟩
  case round =>
    obtain ⟨k, n, hk, hnk, rfl, hown, hb⟩ := hrel
    have H2 := Lib.hid (H1.out.below hb)
    have t1 := cell_of_row wr p 1 _ _ _ H2.out.t
    have t3 := cell_of_row wr p 3 _ _ _ H2.out.t
    have ft3 := frozen_of_row wr p 3 _ _ H2.out.t
    have hgs := hb.size
    by_cases hlt : k < s.l.length
    · obtain ⟨gd, off, hA, x0, x1, x2, x3⟩ := (Rd.of_own H2.out.o1).hp hlt
      have hcp := (Rd.of_own H2.out.o1).cap
      have hcp : s.l.length ≤ m.c1 := hcp
      rw [hA] at t3
      have HT := Lib.hid (List.take_succ_eq_append_getElem hlt)
      have x0 : wr.cell? ⟨gd, off + k * 4, none⟩ = some (.int .u64 s.l[k].pn) := x0
      have x1 : wr.cell? ⟨gd, off + k * 4 + 1, none⟩ = some (.int .u64 s.l[k].nonce) := x1
      have x2 : wr.cell? ⟨gd, off + k * 4 + 2, none⟩ = some (.bool s.l[k].coin) := x2
      have x3 : wr.cell? ⟨gd, off + k * 4 + 3, none⟩ = some (.bool s.l[k].marked) := x3
      by_cases hle : fl ≤ s.l[k].pn
      · have d1 : decide (fl ≤ s.l[k].pn) = true := decide_eq_true hle
        have d2 : decide (s.l[k].pn ≥ fl) = true := decide_eq_true hle
        have HF : Hid ((s.l.take (k + 1)).filter (fun h => decide (fl ≤ h.pn)) = (s.l.take k).filter (fun h => decide (fl ≤ h.pn)) ++ [s.l[k]]) := Lib.hid (by rw [HT.out, List.filter_append, List.filter_cons, if_pos d1, List.filter_nil])
        clear hle
        go_wp2_with fail
        refine wp_region_qt (by kernel_rfl) (by kernel_rfl) ?_
        repeat (go_big_quiet_step (fail))
        refine wpQuiet_nil ?_
        intro wd qd
        have t3 := qd.cell t3
        have x0 := qd.cell x0
        have x1 := qd.cell x1
        have x2 := qd.cell x2
        have x3 := qd.cell x3
        have hownd := qd.own hown
        have hgd : w1.heap.size ≤ wd.heap.size := by rw [qd.heap]; exact hgs
        have hbd : Below w1.heap.size w1 wd := hb.trans (qd.below)
        clear t1 ft3 H2 hown
        go_wp2_with (
          at_builtin
          refine wpList_app1 _ rfl (.tmp 37) (.tmp 45) 97 rfl w1.heap.size 103 iH (.agg #[.int .u64 0, .int .u64 0, .bool false, .bool false]) 4 24 Try.underlying97 hiH hz0 hz1 hz2 rfl (by decide) u4 n _ rfl hownd #[.int .u64 s.l[k].pn, .int .u64 s.l[k].nonce, .bool s.l[k].coin, .bool s.l[k].marked] _ rfl (by simp) rfl (by simp [Value.oneCell']) (by unfold maxLen; omega) (by omega) (by omega) ?_
          intro v8 w8 hown8 hg8 _)
        have hb8 : Below w1.heap.size w1 w8 := hbd.grown hg8 hbd.size (fun g hg => (hownd.lt g hg).1)
        go_roundw
        case rel => exact ⟨k + 1, n + 1, by omega, by omega, by go_num, by rw [HF.out, List.flatMap_append]; simpa [Hp.cells] using hown8, hb8⟩
        case measure => simp [intOf]; omega
      · have d1 : decide (fl ≤ s.l[k].pn) = false := decide_eq_false hle
        have d2 : decide (s.l[k].pn ≥ fl) = false := decide_eq_false hle
        have HF : Hid ((s.l.take (k + 1)).filter (fun h => decide (fl ≤ h.pn)) = (s.l.take k).filter (fun h => decide (fl ≤ h.pn))) := Lib.hid (by rw [HT.out, List.filter_append, List.filter_cons, if_neg (by rw [d1]; simp), List.filter_nil, List.append_nil])
        clear hle
        go_wp2_with fail
        refine wp_region_qt (by kernel_rfl) (by kernel_rfl) ?_
        repeat (go_big_quiet_step (fail))
        refine wpQuiet_nil ?_
        intro wd qd
        go_wp2
        go_roundw
        case rel => exact ⟨k + 1, n, by omega, by omega, by go_num, by rw [HF.out]; exact qd.own hown, hb.trans qd.below⟩
        case measure => simp [intOf]; omega
    · obtain rfl : k = s.l.length := by omega
      rw [List.take_length] at hown
      obtain ⟨A, c, rfl, -⟩ := own_slice hown
      have hl : n = (s.l.filter fun h => decide (fl ≤ h.pn)).length := by have := Rd.count Hp.cells_len (Rd.of_own hown) (by omega); omega
      subst hl
      have RR := Lib.hid (H1.out.row hb hown HN1.out)
      have C2 : Hid (Chg F w1 (wr.setCell ⟨p, 3, none⟩ (.slice A (s.l.filter fun h => decide (fl ≤ h.pn)).length c))) := Lib.hid ((chg_below hb).setCell (p := ⟨p, 3, none⟩) (.inl H1.out.fp) _)
      have CC := Lib.hid (C1.out.step C2.out (fun _ _ e => e))
      have hlt' : decide ((s.l.length : Int) < s.l.length) = false := by simp
      go_wp2
      refine bodyPost_end (results_none rfl _ _ _) rfl ?_
      refine ⟨rfl, ⟨A, c, ?_⟩, CC.out⟩
      unfold PS.raise
      rw [HFL.out]
      exact RR.out

end Go.Proofs.Ytkedfipeebjcjaa
