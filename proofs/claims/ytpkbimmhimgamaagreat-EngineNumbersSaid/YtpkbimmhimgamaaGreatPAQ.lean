/-
  Part of the proof of EngineNumbers.
-/
import Derived.Test.YtpkbimmhimgamaaGreatPAC
import Derived.Test.YtpkbimmhimgamaaGreatPAA
import Derived.Test.YtpkbimmhimgamaaGreatPAE
import Derived.StillTailTactics
namespace Go.Proofs.YtpkbimmhimgamaaGreat
set_option linter.unusedSimpArgs false
set_option linter.unusedVariables false
set_option linter.unnecessarySimpa false
open Go.RowKit
attribute [local go_sem ↓] run_min_int run_max_int
/-- A row of spans in a block from B on. -/
structure RdN (w : World) (B : Nat) (A : Option Addr) (n c : Nat) (xs : List Value) : Prop where
  rd : Rd w 2 A n c xs
  nw : ∀ b off, A = some ⟨b, off, none⟩ → 0 < n → B ≤ b
theorem RdN.of_own {w : World} {base B' : Nat} {e : TypeId} {n c : Nat} {A : Option Addr} {xs : List Value} (h : w.ownsRow base e 2 (.slice A n c) n xs) (hB : B' ≤ base) : RdN w B' A n c xs := by
  refine ⟨Rd.of_own h, fun b off e hn => ?_⟩
  obtain ⟨A', c', e', h'⟩ := own_slice h
  injection e' with e1 e2 e3
  obtain ⟨g, eg, hg⟩ := h' hn
  rw [e1, eg] at e
  injection e with e
  injection e with e
  omega

set_option maxHeartbeats 3200000 in
set_option maxRecDepth 100000 in
theorem add_yes (A : Option Addr) (n c : Nat) (l : List Sp) (lo hi : Int) (w : World) (h : Rd w 2 A n c (Ss l)) (hg : Good l) (hs : IsSpan (lo, hi)) (h0 : 0 ≤ lo) (hu : U2s l) (hn : n ≤ 8796093021952) :
    Calls Tryz.prog 212 #[.slice A n c, .agg #[.int .u64 lo, .int .u64 hi]] w fun e w' => ∃ A' c', e = .returned (.tuple #[.slice A' (addP l (lo, hi)).length c', .bool true]) ∧ RdN w' w.heap.size A' (addP l (lo, hi)).length c' (Ss (addP l (lo, hi))) ∧ Below w.heap.size w w' := by
  obtain ⟨i0, hi0, hz0, hz1, hz2⟩ := info_parts infoSpan
  have hl := h.len
  rw [Ss_length] at hl
  obtain rfl : l.length = n := by omega
  clear hl
  have hmax := h.cap
  have hmax' := h.max
  unfold maxLen at hmax'
  obtain ⟨s1, s2⟩ := hs
  simp only [maxPn_eq] at s1 s2
  have Hg := Lib.hid hg
  clear hg
  have Hgb := Lib.hid (goodB_true Hg.out)
  have Hsp := Lib.hid (show IsSpan (lo, hi) from ⟨s1, s2⟩)
  go_enter Tryz.func212, Tryz.ntmps212
  go_wp2_with fail
  have hw0 := (Below.refl w.heap.size w).alloc (Nat.le_refl _) (.cells #[.int .u64 lo, .int .u64 hi] 209)
  have hw1 := heap_alloc_new w (.cells #[.int .u64 lo, .int .u64 hi] 209)
  refine (good_any A l.length c l _ (h.below hw0) hu).mono ?_
  rw [Hgb.out]
  rintro e wa ⟨rfl, ba⟩
  have hwa := hw0.trans (ba.mono (by simp))
  have HBa := Lib.hid ((ba.block w.heap.size (by simp)).trans hw1)
  have a1 := cell_of_row wa w.heap.size 0 _ _ _ HBa.out
  have a2 := cell_of_row wa w.heap.size 1 _ _ _ HBa.out
  clear hw0 hw1
  go_wp2_with fail
  refine (right_yes lo hi wa (by omega) (by omega) (by omega) (by omega) Hsp.out).mono ?_
  rintro e wb ⟨rfl, bb⟩
  have hwb := hwa.trans (bb.mono hwa.size)
  have HBb := Lib.hid ((bb.block w.heap.size (lt_of_block HBa.out)).trans HBa.out)
  clear a1 a2 ba bb HBa hwa
  go_wp2
  go_loopw [6, 7] (fun out i wr => ∃ k : Nat, k ≤ skipN (lo, hi) l ∧ i = .int .i64 k ∧ wr.ownsRow (w.heap.size + 1) 209 2 out k (Ss (l.take k)) ∧
      Hid (wr.heap[w.heap.size]? = some (.cells #[.int .u64 lo, .int .u64 hi] 209 (0, 0))) ∧ Below w.heap.size w wr) (fun _ i _ => l.length - (intOf i).toNat)
  case atStart => exact ⟨0, Nat.zero_le _, rfl, World.ownsRow_nil _ _ _ _, HBb, hwb⟩
  case round =>
    obtain ⟨k, hk, rfl, hown, HB, hb⟩ := hrel
    have hkl : k ≤ l.length := Nat.le_trans hk (skipN_le _ _)
    have b1 := cell_of_row wr w.heap.size 0 _ _ _ HB.out
    have b2 := cell_of_row wr w.heap.size 1 _ _ _ HB.out
    have hgs := lt_of_block HB.out
    by_cases hsk : k < skipN (lo, hi) l
    · have hlt : k < l.length := Nat.lt_of_lt_of_le hsk (skipN_le _ _)
      obtain ⟨b, off, x, y, rfl, He, hc1, hc2, u1, u2, u3, u4⟩ := (h.below hb).sp hu hlt
      have hym : y ≤ 4611686018427387903 := by have := (Hg.out k hlt).1.2; rw [He.out] at this; exact this
      have ht : decide (y + 1 < lo) = true := by
        have := skipN_lt (lo, hi) l k hsk hlt
        rw [He.out] at this
        simpa using this
      have Hts := Lib.hid (take_snoc l k hlt)
      go_wp2
      refine wp_region_qt (by kernel_rfl) (by kernel_rfl) ?_
      repeat (go_big_quiet_step (fail))
      refine wpQuiet_nil ?_
      intro wd qd
      have hownd := qd.own hown
      have hc5 := qd.cell hc1
      have hc6 := qd.cell hc2
      go_wp2_with (at_builtin; refine wpList_append_own _ rfl _ _ 150 rfl (w.heap.size + 1) 209 i0 (.agg #[.int .u64 0, .int .u64 0]) 2 16 Tryz.underlying150 hi0 hz0 hz1 hz2 rfl (by decide) _ _ _ rfl (hownd.alloc _) ⟨wd.heap.size, 0, none⟩ 1 1 [.int .u64 x, .int .u64 y] rfl rfl ?c1 ?c2 ?c3 ?c4 ?c5 ?_)
      case c1 => exact World.news_of_block (cs := #[.int .u64 x, .int .u64 y]) (t := 209) (fr := (0, 0)) (heap_alloc_new wd _)
      case c2 => simp [Value.oneCell']
      case c3 => unfold maxLen; omega
      case c4 => omega
      case c5 => have := lt_of_block (qd.blk HB.out); simp; omega
      intro v' w1 hown' hgrow _
      have hbd := hb.trans qd.below
      have hb1 : Below w.heap.size w w1 := (hbd.alloc hbd.size _).grown hgrow (by have := hbd.size; simp; omega) (fun g hg => by have := (hown.lt g hg).1; omega)
      have HB1 : Hid (w1.heap[w.heap.size]? = some (.cells #[.int .u64 lo, .int .u64 hi] 209 (0, 0))) := by
        refine (hgrow.block _ (by have := lt_of_block (qd.blk HB.out); simp; omega) (fun e => ?_)).trans ((Below.heap_alloc _ _ _ (lt_of_block (qd.blk HB.out))).trans (qd.blk HB.out))
        have := (hown.lt _ e.symm).1
        omega
      have Hn : Hid (Ss (l.take (k + 1)) = Ss (l.take k) ++ [.int .u64 x, .int .u64 y]) := by
        show _ = _
        rw [Hts.out, Ss_append, He.out]
        rfl
      clear hown b1 b2 hgrow
      go_wp2
      go_roundw
      case rel => exact ⟨k + 1, by omega, by go_num, by rw [Hn.out]; exact hown', HB1, hb1⟩
      case measure => simp [intOf]; omega
    · obtain rfl : k = skipN (lo, hi) l := by omega
      clear hsk hk
      generalize hK : skipN (lo, hi) l = K at *
      have HK := Lib.hid hK
      clear hK
      have hlen0 : K ≤ l.length := hkl
      have hstep : (K < l.length ∧ ∃ b off x y, A = some ⟨b, off, none⟩ ∧ wr.cell? ⟨b, off + K * 2 + 1, none⟩ = some (.int .u64 y) ∧ 0 ≤ y ∧ y ≤ 4611686018427387903 ∧ Hid (l[K]? = some (x, y)) ∧ decide (y + 1 < lo) = false) ∨ ¬ K < l.length := by
        by_cases hlt : K < l.length
        · refine .inl ⟨hlt, ?_⟩
          obtain ⟨b, off, x, y, e, He, hc1, hc2, u1, u2, u3, u4⟩ := (h.below hb).sp hu hlt
          have hym : y ≤ 4611686018427387903 := by have := (Hg.out K hlt).1.2; rw [He.out] at this; exact this
          have ht : decide (y + 1 < lo) = false := by
            have := skipN_end (lo, hi) l (by rw [HK.out]; exact hlt)
            simp only [HK.out] at this
            rw [He.out] at this
            simpa using this
          exact ⟨b, off, x, y, e, hc2, u3, hym, Lib.hid (by rw [List.getElem?_eq_getElem hlt, He.out]), ht⟩
        · exact .inr hlt
      rcases hstep with ⟨hlt, b, off, x, y, rfl, hc2, u3, u4, He, ht⟩ | hlt
      all_goals
        go_wp2
        refine wp_region_qt (by kernel_rfl) (by kernel_rfl) ?_
        repeat (go_big_quiet_step (fail))
        refine wpQuiet_nil ?_
        intro wd qd
        go_wp2
        have hown1 := qd.own hown
        have hbq := hb.trans qd.below
        have HBq := Lib.hid (qd.blk HB.out)
        have hro : ∀ z ∈ l.drop K, 0 ≤ z.1 ∧ 0 ≤ z.2 ∧ z.2 ≤ maxPn := fun z hz => ⟨(hu z (List.mem_of_mem_drop hz)).1.1, (hu z (List.mem_of_mem_drop hz)).2.1, (Hg.out.span z (List.mem_of_mem_drop hz)).2⟩
        have Hro := Lib.hid hro
        clear hro HB hown hb b1 b2
        go_loopw [7] (fun i wq => ∃ (j m : Nat) (x y : Int), m ≤ eatN (lo, hi) (l.drop K) ∧ i = .int .i64 j ∧ Hid (j = K + m) ∧ Hid (eaten (lo, hi) (l.drop K) m = (x, y)) ∧
          wq.ownsRow (w.heap.size + 1) 209 2 u6 K (Ss (l.take K)) ∧ Hid (wq.heap[w.heap.size]? = some (.cells #[.int .u64 x, .int .u64 y] 209 (0, 0))) ∧ Below w.heap.size w wq) (fun i _ => l.length - (intOf i).toNat)
        case atStart => exact ⟨K, 0, lo, hi, Nat.zero_le _, rfl, Lib.hid rfl, eaten_zero _ _, hown1, HBq, hbq⟩
        case round =>
          obtain ⟨j, m, x2, y2, hm, rfl, Hj, He2, hown2, HB2, hb2⟩ := hrel
          have hmr : m ≤ (l.drop K).length := Nat.le_trans hm (eatN_le _ _)
          have hml : j ≤ l.length := by have := Hj.out; simp only [List.length_drop] at hmr; omega
          obtain ⟨v1, v2, v3, v4⟩ : 0 ≤ x2 ∧ x2 ≤ 4611686018427387903 ∧ 0 ≤ y2 ∧ y2 ≤ 4611686018427387903 := by
            have := eaten_bounds (lo, hi) (l.drop K) m (by simp only [maxPn_eq]; omega) Hro.out
            rw [He2.out] at this
            exact this
          have b1 := cell_of_row wr w.heap.size 0 _ _ _ HB2.out
          have b2 := cell_of_row wr w.heap.size 1 _ _ _ HB2.out
          have f1 := frozen_of_row wr w.heap.size 0 _ _ HB2.out
          have f2 := frozen_of_row wr w.heap.size 1 _ _ HB2.out
          by_cases hme : m < eatN (lo, hi) (l.drop K)
          · have hmd : m < (l.drop K).length := Nat.lt_of_lt_of_le hme (eatN_le _ _)
            have hlt2 : j < l.length := by have := Hj.out; simp only [List.length_drop] at hmd; omega
            obtain ⟨b3, o3, x3, y3, e3, He3, hc3, hc4, w1, w2, w3, w4⟩ := (h.below hb2).sp hu hlt2
            have ht2 : decide (x3 ≤ y2 + 1) = true := by
              have := eatN_lt (lo, hi) (l.drop K) m hme hmd
              have e := Hj.out
              subst e
              rw [He2.out, List.getElem_drop, He3.out] at this
              simpa using this
            have hnext : Hid (eaten (lo, hi) (l.drop K) (m + 1) = (min x2 x3, max y2 y3)) := by
              show _ = _
              have e := Hj.out
              subst e
              rw [eaten_succ _ _ _ hmd, He2.out, List.getElem_drop, He3.out]
              rfl
            first
              | (exfalso
                 have := Hj.out
                 simp only [List.length_drop] at hmd
                 omega)
              | (injection e3 with e3
                 injection e3 with e3 e4
                 subst e3
                 subst e4
                 go_wp2
                 refine wp_region_qt (by kernel_rfl) (by kernel_rfl) ?_
                 repeat (go_big_quiet_step (fail))
                 refine wpQuiet_nil ?_
                 intro wd qd
                 go_wp2
                 refine wp_region_st 17 (by kernel_rfl) (by kernel_rfl) ?_
                 intro we qe
                 simp only [List.take_succ_cons, List.take_zero, List.drop_succ_cons, List.drop_zero]
                 have g1 := qe.blk (qd.blk HB2.out)
                 have d1 := cell_of_row we w.heap.size 0 _ _ _ g1
                 have d2 := cell_of_row we w.heap.size 1 _ _ _ g1
                 have d3 := qe.cell (qd.cell hc3)
                 have d4 := qe.cell (qd.cell hc4)
                 repeat still_step
                 try refine wpStill_nil ?_
                 have d5 := frozen_of_row we w.heap.size 0 _ _ g1
                 have d6 := frozen_of_row we w.heap.size 1 _ _ g1
                 have G1 := Lib.hid g1
                 clear g1
                 go_wp2
                 go_roundw
                 case rel =>
                   have e1 := heap_setCell_same we w.heap.size 0 _ _ (.int .u64 (min x2 x3)) G1.out
                   have e2 := heap_setCell_same _ w.heap.size 1 _ _ (.int .u64 (max y2 y3)) e1
                   simp at e2
                   exact ⟨j + 1, m + 1, min x2 x3, max y2 y3, hme, by go_num, Lib.hid (by have := Hj.out; omega), hnext, ownsRow_setCell_below (ownsRow_setCell_below (qe.own (qd.own hown2)) (by simp) _) (by simp) _, Lib.hid e2, (((hb2.trans qd.below).trans qe.below).setCell (Nat.le_refl _) _).setCell (Nat.le_refl _) _⟩
                 case measure => simp [intOf]; omega
                 )
          · have hme' : m = eatN (lo, hi) (l.drop K) := by omega
            have Hme := Lib.hid hme'
            clear hme hm hmr hme'
            have hadd : Hid (addP l (lo, hi) = l.take K ++ [(x2, y2)] ++ l.drop j) := by
              show _ = _
              unfold addP
              rw [HK.out, ← Hme.out, He2.out, Hj.out]
            by_cases hlt2 : j < l.length
            · obtain ⟨b3, o3, x3, y3, e3, He3, hc3, hc4, w1, w2, w3, w4⟩ := (h.below hb2).sp hu hlt2
              have ht2 : decide (x3 ≤ y2 + 1) = false := by
                have e := Hj.out
                have e2 := Hme.out
                have := eatN_end (lo, hi) (l.drop K) (by simp only [List.length_drop]; omega)
                rw [List.getElem_drop] at this
                simp only [← e2, ← e] at this
                rw [He2.out, He3.out] at this
                simpa using this
              first
                | (exfalso
                   have := Hj.out
                   omega)
                | (injection e3 with e3
                   injection e3 with e3 e4
                   subst e3
                   subst e4
                   go_wp2
                   refine wp_region_qt (by kernel_rfl) (by kernel_rfl) ?_
                   repeat (go_big_quiet_step (fail))
                   refine wpQuiet_nil ?_
                   intro wd qd
                   have g1 := qd.blk HB2.out
                   have d1 := cell_of_row wd w.heap.size 0 _ _ _ g1
                   have d2 := cell_of_row wd w.heap.size 1 _ _ _ g1
                   have hgd := lt_of_block g1
                   clear g1
                   have hown3 := qd.own hown2
                   have hb3 := hb2.trans qd.below
                   have hKl : (l.take K).length = K := by simp; omega
                   have Hlen : Hid ((addP l (lo, hi)).length = K + 1 + (l.length - j)) := by
                     show _ = _
                     rw [hadd.out]; simp; omega
                   have HKl := Lib.hid hKl
                   have hjK : K ≤ j := by have := Hj.out; omega
                   obtain ⟨A9, hrun9, hcut9⟩ := h.cut_run (P := Tryz.prog) (t := 150) Tryz.underlying150 hi0 hz1 hml
                   clear hKl
                   go_wp2_with (first
                     | (at_builtin
                        refine wpList_append_own _ rfl (.tmp 74) (.tmp 76) 150 rfl (w.heap.size + 1) 209 i0 (.agg #[.int .u64 0, .int .u64 0]) 2 16 Tryz.underlying150 hi0 hz0 hz1 hz2 rfl (by decide) u6 K (Ss (l.take K)) rfl (hown3.alloc _) ⟨wd.heap.size, 0, none⟩ 1 1 [.int .u64 x2, .int .u64 y2] rfl rfl (World.news_of_block (cs := #[.int .u64 x2, .int .u64 y2]) (t := 209) (fr := (0, 0)) (heap_alloc_new wd _)) (by simp [Value.oneCell']) (by unfold maxLen; omega) (by omega) (by simp; omega) ?_
                        intro v1 w1 hown4 hg4 _
                        have hb4 : Below w.heap.size w w1 := (hb3.alloc hb3.size _).grown hg4 (by have := hb3.size; simp; omega) (fun g hg => by have := (hown3.lt g hg).1; omega)
                        have R4 := hcut9 _ _ (h.below hb4)
                        rw [Ss_drop] at R4)
                     | (at_builtin
                        refine wpList_append_rd _ rfl (.tmp 78) (.tmp 81) 150 rfl (w.heap.size + 1) 209 i0 (.agg #[.int .u64 0, .int .u64 0]) 2 16 Tryz.underlying150 hi0 hz0 hz1 hz2 rfl (by decide) v1 (K + 1) (Ss (l.take K) ++ [.int .u64 x2, .int .u64 y2]) rfl hown4 A9 (l.length - j) (c - j) (Ss (l.drop j)) rfl R4 (Ss_one _) (by unfold maxLen; omega) (by omega) (by have := hb4.size; have := hg4.size; simp at this; omega) ?_
                        intro v2 w2 hown5 hg5 _))
                   go_ret2
                   obtain ⟨A5, c5, rfl, _⟩ := own_slice hown5
                   have R5 := RdN.of_own hown5 (B' := w.heap.size) (by omega)
                   refine ⟨A5, c5, by rw [Hlen.out]; rfl, ?_, hb4.grown hg5 hb4.size (fun g hg => by have := (hown4.lt g hg).1; omega)⟩
                   rw [Hlen.out, hadd.out, Ss_append, Ss_append]
                   exact R5
                   )
            · have hltf : decide (j < l.length) = false := by simpa using hlt2
              go_wp2
              refine wp_region_qt (by kernel_rfl) (by kernel_rfl) ?_
              repeat (go_big_quiet_step (fail))
              refine wpQuiet_nil ?_
              intro wd qd
              have g1 := qd.blk HB2.out
              have d1 := cell_of_row wd w.heap.size 0 _ _ _ g1
              have d2 := cell_of_row wd w.heap.size 1 _ _ _ g1
              have hgd := lt_of_block g1
              clear g1
              have hown3 := qd.own hown2
              have hb3 := hb2.trans qd.below
              have hKl : (l.take K).length = K := by simp; omega
              have Hlen : Hid ((addP l (lo, hi)).length = K + 1 + (l.length - j)) := by
                show _ = _
                rw [hadd.out]; simp; omega
              have HKl := Lib.hid hKl
              have hjK : K ≤ j := by have := Hj.out; omega
              obtain ⟨A9, hrun9, hcut9⟩ := h.cut_run (P := Tryz.prog) (t := 150) Tryz.underlying150 hi0 hz1 hml
              clear hKl
              go_wp2_with (first
                | (at_builtin
                   refine wpList_append_own _ rfl (.tmp 74) (.tmp 76) 150 rfl (w.heap.size + 1) 209 i0 (.agg #[.int .u64 0, .int .u64 0]) 2 16 Tryz.underlying150 hi0 hz0 hz1 hz2 rfl (by decide) u6 K (Ss (l.take K)) rfl (hown3.alloc _) ⟨wd.heap.size, 0, none⟩ 1 1 [.int .u64 x2, .int .u64 y2] rfl rfl (World.news_of_block (cs := #[.int .u64 x2, .int .u64 y2]) (t := 209) (fr := (0, 0)) (heap_alloc_new wd _)) (by simp [Value.oneCell']) (by unfold maxLen; omega) (by omega) (by simp; omega) ?_
                   intro v1 w1 hown4 hg4 _
                   have hb4 : Below w.heap.size w w1 := (hb3.alloc hb3.size _).grown hg4 (by have := hb3.size; simp; omega) (fun g hg => by have := (hown3.lt g hg).1; omega)
                   have R4 := hcut9 _ _ (h.below hb4)
                   rw [Ss_drop] at R4)
                | (at_builtin
                   refine wpList_append_rd _ rfl (.tmp 78) (.tmp 81) 150 rfl (w.heap.size + 1) 209 i0 (.agg #[.int .u64 0, .int .u64 0]) 2 16 Tryz.underlying150 hi0 hz0 hz1 hz2 rfl (by decide) v1 (K + 1) (Ss (l.take K) ++ [.int .u64 x2, .int .u64 y2]) rfl hown4 A9 (l.length - j) (c - j) (Ss (l.drop j)) rfl R4 (Ss_one _) (by unfold maxLen; omega) (by omega) (by have := hb4.size; have := hg4.size; simp at this; omega) ?_
                   intro v2 w2 hown5 hg5 _))
              go_ret2
              obtain ⟨A5, c5, rfl, _⟩ := own_slice hown5
              have R5 := RdN.of_own hown5 (B' := w.heap.size) (by omega)
              refine ⟨A5, c5, by rw [Hlen.out]; rfl, ?_, hb4.grown hg5 hb4.size (fun g hg => by have := (hown4.lt g hg).1; omega)⟩
              rw [Hlen.out, hadd.out, Ss_append, Ss_append]
              exact R5
set_option maxHeartbeats 3200000 in
set_option maxRecDepth 100000 in
theorem cut_yes (A : Option Addr) (n c : Nat) (l : List Sp) (lo hi : Int) (w : World) (h : Rd w 2 A n c (Ss l)) (hg : Good l) (hs : IsSpan (lo, hi)) (h0 : 0 ≤ lo) (hu : U2s l) (hn : n ≤ 8796093021952) :
    Calls Tryz.prog 203 #[.slice A n c, .agg #[.int .u64 lo, .int .u64 hi]] w fun e w' => ∃ A' c', e = .returned (.tuple #[.slice A' (cutP l (lo, hi)).length c', .bool true]) ∧ RdN w' w.heap.size A' (cutP l (lo, hi)).length c' (Ss (cutP l (lo, hi))) ∧ Below w.heap.size w w' := by
  obtain ⟨i0, hi0, hz0, hz1, hz2⟩ := info_parts infoSpan
  have hl := h.len
  rw [Ss_length] at hl
  obtain rfl : l.length = n := by omega
  clear hl
  have hmax := h.cap
  have hmax' := h.max
  unfold maxLen at hmax'
  obtain ⟨s1, s2⟩ := hs
  simp only [maxPn_eq] at s1 s2
  have Hg := Lib.hid hg
  have Hpw := Lib.hid hg.gd.2
  clear hg
  have Hgb := Lib.hid (goodB_true Hg.out)
  have Hsp := Lib.hid (show IsSpan (lo, hi) from ⟨s1, s2⟩)
  go_enter Tryz.func203, Tryz.ntmps203
  go_wp2_with fail
  have hw0 := (Below.refl w.heap.size w).alloc (Nat.le_refl _) (.cells #[.int .u64 lo, .int .u64 hi] 209)
  have hw1 := heap_alloc_new w (.cells #[.int .u64 lo, .int .u64 hi] 209)
  refine (good_any A l.length c l _ (h.below hw0) hu).mono ?_
  rw [Hgb.out]
  rintro e wa ⟨rfl, ba⟩
  have hwa := hw0.trans (ba.mono (by simp))
  have HBa := Lib.hid ((ba.block w.heap.size (by simp)).trans hw1)
  have a1 := cell_of_row wa w.heap.size 0 _ _ _ HBa.out
  have a2 := cell_of_row wa w.heap.size 1 _ _ _ HBa.out
  clear hw0 hw1
  go_wp2_with fail
  refine (right_yes lo hi wa (by omega) (by omega) (by omega) (by omega) Hsp.out).mono ?_
  rintro e wb ⟨rfl, bb⟩
  have hwb := hwa.trans (bb.mono hwa.size)
  have HBb := Lib.hid ((bb.block w.heap.size (lt_of_block HBa.out)).trans HBa.out)
  clear a1 a2 ba bb HBa hwa
  go_wp2
  go_loopw [6, 19] (fun out i wr => ∃ k : Nat, k ≤ l.length ∧ i = .int .i64 k ∧ ∃ m : Nat, wr.ownsRow (w.heap.size + 1) 209 2 out m (Ss ((l.take k).flatMap (cut1 (lo, hi)))) ∧
      Hid (wr.heap[w.heap.size]? = some (.cells #[.int .u64 lo, .int .u64 hi] 209 (0, 0))) ∧ Below w.heap.size w wr) (fun _ i _ => l.length - (intOf i).toNat)
  case atStart => exact ⟨0, Nat.zero_le _, rfl, 0, World.ownsRow_nil _ _ _ _, HBb, hwb⟩
  case round =>
    obtain ⟨k, hk, rfl, m, hown, HB, hb⟩ := hrel
    by_cases hlt : k < l.length
    · obtain ⟨b, off, x, y, rfl, He, hc1, hc2, u1, u2, u3, u4⟩ := (h.below hb).sp hu hlt
      have hym : y ≤ 4611686018427387903 := by have := (Hg.out k hlt).1.2; rw [He.out] at this; exact this
      have hxy : x ≤ y := by have := (Hg.out k hlt).1.1; rw [He.out] at this; exact this
      have hb0 := hb.alloc hb.size (.cells #[.int .u64 x, .int .u64 y] 209)
      have HS0 := Lib.hid ((Below.heap_alloc wr (.cells #[.int .u64 x, .int .u64 y] 209) _ (lt_of_block HB.out)).trans HB.out)
      have HX0 := Lib.hid (heap_alloc_new wr (.cells #[.int .u64 x, .int .u64 y] 209))
      have hown0 := hown.alloc (.cells #[.int .u64 x, .int .u64 y] 209)
      have hne0 : u6.ownBlock ≠ some wr.heap.size := fun e => by have := (hown.lt _ e).2; omega
      have hgs := lt_of_block HB.out
      have hmk : m ≤ k + 1 := by
        have e1 := hown.1
        rw [Ss_length] at e1
        have e2 := cut_len (l.take k) (lo, hi) s1 (fun z hz => (Hg.out.span z (List.mem_of_mem_take hz)).1) (Hpw.out.sublist (List.take_sublist _ _))
        simp only [cutP, List.length_take] at e2
        omega
      have xs0 := cell_of_row wr w.heap.size 0 _ _ _ HB.out
      have ys0 := cell_of_row wr w.heap.size 1 _ _ _ HB.out
      have Hsp : Hid ((l.take (k + 1)).flatMap (cut1 (lo, hi)) = ((l.take k).flatMap (cut1 (lo, hi))) ++ cut1 (lo, hi) (x, y)) := by show _ = _; rw [flatMap_take_succ _ _ _ hlt, He.out]
      by_cases k1 : y < lo
      · have t1 : decide (y < lo) = true := by simpa using k1
        have Hn : Hid (Ss ((l.take (k + 1)).flatMap (cut1 (lo, hi))) = Ss ((l.take k).flatMap (cut1 (lo, hi))) ++ [.int .u64 x, .int .u64 y]) := by
          show _ = _
          rw [Hsp.out, Ss_append, show cut1 (lo, hi) (x, y) = [(x, y)] from by unfold cut1; rw [if_pos (by simp only; omega)]]
          rfl
        clear Hsp
        go_wp2_with (
          at_builtin
          refine wpList_app1 _ rfl (.tmp 35) (.tmp 37) 150 rfl (w.heap.size + 1) 209 i0 (.agg #[.int .u64 0, .int .u64 0]) 2 16 Tryz.underlying150 hi0 hz0 hz1 hz2 rfl (by decide) u6 (m) (Ss ((l.take k).flatMap (cut1 (lo, hi)))) rfl hown0 #[.int .u64 x, .int .u64 y] _ rfl (by simp) rfl (by simp [Value.oneCell']) (by unfold maxLen; omega) (by omega) (by have := hgs; simp; omega) ?_
          intro v1 w1 ho1 hg1 hk1
          have hne := hne0
          have hb1 : Below w.heap.size w w1 := hb0.grown hg1 (by have := hb0.size; simp at this ⊢; omega) (fun g hg => by have := (hown0.lt g hg).1; omega)
          have HS1 := Lib.hid ((hg1.block w.heap.size (lt_of_block HS0.out) (fun e => by have := (hown0.lt _ e.symm).1; omega)).trans HS0.out)
          have HX1 := Lib.hid ((hg1.block wr.heap.size (lt_of_block HX0.out) (fun e => hne e.symm)).trans HX0.out)
          have xs1 := cell_of_row w1 w.heap.size 0 _ _ _ HS1.out
          have ys1 := cell_of_row w1 w.heap.size 1 _ _ _ HS1.out
          have xx1 := cell_of_row w1 wr.heap.size 0 _ _ _ HX1.out
          have yx1 := cell_of_row w1 wr.heap.size 1 _ _ _ HX1.out
          have hgs := lt_of_block HS1.out
          )
        go_roundw
        case rel => exact ⟨k + 1, by omega, by go_num, m + 1, by rw [Hn.out]; exact ho1, HS1, hb1⟩
        case measure => simp [intOf]; omega
      · by_cases k2 : hi < x
        · have t1 : decide (y < lo) = false := by simpa using k1
          have t2 : decide (hi < x) = true := by simpa using k2
          have Hn : Hid (Ss ((l.take (k + 1)).flatMap (cut1 (lo, hi))) = Ss ((l.take k).flatMap (cut1 (lo, hi))) ++ [.int .u64 x, .int .u64 y]) := by
            show _ = _
            rw [Hsp.out, Ss_append, show cut1 (lo, hi) (x, y) = [(x, y)] from by unfold cut1; rw [if_pos (by simp only; omega)]]
            rfl
          clear Hsp
          go_wp2_with (
            at_builtin
            refine wpList_app1 _ rfl (.tmp 35) (.tmp 37) 150 rfl (w.heap.size + 1) 209 i0 (.agg #[.int .u64 0, .int .u64 0]) 2 16 Tryz.underlying150 hi0 hz0 hz1 hz2 rfl (by decide) u6 (m) (Ss ((l.take k).flatMap (cut1 (lo, hi)))) rfl hown0 #[.int .u64 x, .int .u64 y] _ rfl (by simp) rfl (by simp [Value.oneCell']) (by unfold maxLen; omega) (by omega) (by have := hgs; simp; omega) ?_
            intro v1 w1 ho1 hg1 hk1
            have hne := hne0
            have hb1 : Below w.heap.size w w1 := hb0.grown hg1 (by have := hb0.size; simp at this ⊢; omega) (fun g hg => by have := (hown0.lt g hg).1; omega)
            have HS1 := Lib.hid ((hg1.block w.heap.size (lt_of_block HS0.out) (fun e => by have := (hown0.lt _ e.symm).1; omega)).trans HS0.out)
            have HX1 := Lib.hid ((hg1.block wr.heap.size (lt_of_block HX0.out) (fun e => hne e.symm)).trans HX0.out)
            have xs1 := cell_of_row w1 w.heap.size 0 _ _ _ HS1.out
            have ys1 := cell_of_row w1 w.heap.size 1 _ _ _ HS1.out
            have xx1 := cell_of_row w1 wr.heap.size 0 _ _ _ HX1.out
            have yx1 := cell_of_row w1 wr.heap.size 1 _ _ _ HX1.out
            have hgs := lt_of_block HS1.out
            )
          go_roundw
          case rel => exact ⟨k + 1, by omega, by go_num, m + 1, by rw [Hn.out]; exact ho1, HS1, hb1⟩
          case measure => simp [intOf]; omega
        · by_cases k3 : x < lo
          · by_cases k4 : hi < y
            · have Hn : Hid (Ss ((l.take (k + 1)).flatMap (cut1 (lo, hi))) = Ss ((l.take k).flatMap (cut1 (lo, hi))) ++ [.int .u64 x, .int .u64 (lo - 1)] ++ [.int .u64 (hi + 1), .int .u64 y]) := by
                show _ = _
                rw [Hsp.out, Ss_append, show cut1 (lo, hi) (x, y) = [(x, lo - 1), (hi + 1, y)] from by unfold cut1; rw [if_neg (by simp only; omega), if_pos (by simp only; omega), if_pos (by simp only; omega)]; rfl]
                simp [Ss]
              clear Hsp
              go_wp2_with (first
                | (at_builtin
                   refine wpList_app1 _ rfl (.tmp 44) (.tmp 51) 150 rfl (w.heap.size + 1) 209 i0 (.agg #[.int .u64 0, .int .u64 0]) 2 16 Tryz.underlying150 hi0 hz0 hz1 hz2 rfl (by decide) u6 (m) (Ss ((l.take k).flatMap (cut1 (lo, hi)))) rfl hown0 #[.int .u64 x, .int .u64 (lo - 1)] _ rfl (by simp) rfl (by simp [Value.oneCell']) (by unfold maxLen; omega) (by omega) (by have := hgs; simp; omega) ?_
                   intro v1 w1 ho1 hg1 hk1
                   have hne := hne0
                   have hb1 : Below w.heap.size w w1 := hb0.grown hg1 (by have := hb0.size; simp at this ⊢; omega) (fun g hg => by have := (hown0.lt g hg).1; omega)
                   have HS1 := Lib.hid ((hg1.block w.heap.size (lt_of_block HS0.out) (fun e => by have := (hown0.lt _ e.symm).1; omega)).trans HS0.out)
                   have HX1 := Lib.hid ((hg1.block wr.heap.size (lt_of_block HX0.out) (fun e => hne e.symm)).trans HX0.out)
                   have xs1 := cell_of_row w1 w.heap.size 0 _ _ _ HS1.out
                   have ys1 := cell_of_row w1 w.heap.size 1 _ _ _ HS1.out
                   have xx1 := cell_of_row w1 wr.heap.size 0 _ _ _ HX1.out
                   have yx1 := cell_of_row w1 wr.heap.size 1 _ _ _ HX1.out
                   have hgs := lt_of_block HS1.out
                   have hne1 := hk1 wr.heap.size (lt_of_block HX0.out) hne0)
                | (at_builtin
                   refine wpList_app1 _ rfl (.tmp 58) (.tmp 65) 150 rfl (w.heap.size + 1) 209 i0 (.agg #[.int .u64 0, .int .u64 0]) 2 16 Tryz.underlying150 hi0 hz0 hz1 hz2 rfl (by decide) v1 (m + 1) (Ss ((l.take k).flatMap (cut1 (lo, hi))) ++ [.int .u64 x, .int .u64 (lo - 1)]) rfl ho1 #[.int .u64 (hi + 1), .int .u64 y] _ rfl (by simp) rfl (by simp [Value.oneCell']) (by unfold maxLen; omega) (by omega) (by have := hgs; simp; omega) ?_
                   intro v2 w2 ho2 hg2 hk2
                   have hne := hne1
                   have hb2 : Below w.heap.size w w2 := hb1.grown hg2 (by have := hb1.size; simp at this ⊢; omega) (fun g hg => by have := (ho1.lt g hg).1; omega)
                   have HS2 := Lib.hid ((hg2.block w.heap.size (lt_of_block HS1.out) (fun e => by have := (ho1.lt _ e.symm).1; omega)).trans HS1.out)
                   have HX2 := Lib.hid ((hg2.block wr.heap.size (lt_of_block HX1.out) (fun e => hne e.symm)).trans HX1.out)
                   have xs2 := cell_of_row w2 w.heap.size 0 _ _ _ HS2.out
                   have ys2 := cell_of_row w2 w.heap.size 1 _ _ _ HS2.out
                   have xx2 := cell_of_row w2 wr.heap.size 0 _ _ _ HX2.out
                   have yx2 := cell_of_row w2 wr.heap.size 1 _ _ _ HX2.out
                   have hgs := lt_of_block HS2.out
                   ))
              go_roundw
              case rel => exact ⟨k + 1, by omega, by go_num, m + 1 + 1, by rw [Hn.out]; exact ho2, HS2, hb2⟩
              case measure => simp [intOf]; omega
            · have t4 : decide (hi < y) = false := by simpa using k4
              have Hn : Hid (Ss ((l.take (k + 1)).flatMap (cut1 (lo, hi))) = Ss ((l.take k).flatMap (cut1 (lo, hi))) ++ [.int .u64 x, .int .u64 (lo - 1)]) := by
                show _ = _
                rw [Hsp.out, Ss_append, show cut1 (lo, hi) (x, y) = [(x, lo - 1)] from by unfold cut1; rw [if_neg (by simp only; omega), if_pos (by simp only; omega), if_neg (by simp only; omega)]; rfl]
                rfl
              clear Hsp
              go_wp2_with (
                at_builtin
                refine wpList_app1 _ rfl (.tmp 44) (.tmp 51) 150 rfl (w.heap.size + 1) 209 i0 (.agg #[.int .u64 0, .int .u64 0]) 2 16 Tryz.underlying150 hi0 hz0 hz1 hz2 rfl (by decide) u6 (m) (Ss ((l.take k).flatMap (cut1 (lo, hi)))) rfl hown0 #[.int .u64 x, .int .u64 (lo - 1)] _ rfl (by simp) rfl (by simp [Value.oneCell']) (by unfold maxLen; omega) (by omega) (by have := hgs; simp; omega) ?_
                intro v1 w1 ho1 hg1 hk1
                have hne := hne0
                have hb1 : Below w.heap.size w w1 := hb0.grown hg1 (by have := hb0.size; simp at this ⊢; omega) (fun g hg => by have := (hown0.lt g hg).1; omega)
                have HS1 := Lib.hid ((hg1.block w.heap.size (lt_of_block HS0.out) (fun e => by have := (hown0.lt _ e.symm).1; omega)).trans HS0.out)
                have HX1 := Lib.hid ((hg1.block wr.heap.size (lt_of_block HX0.out) (fun e => hne e.symm)).trans HX0.out)
                have xs1 := cell_of_row w1 w.heap.size 0 _ _ _ HS1.out
                have ys1 := cell_of_row w1 w.heap.size 1 _ _ _ HS1.out
                have xx1 := cell_of_row w1 wr.heap.size 0 _ _ _ HX1.out
                have yx1 := cell_of_row w1 wr.heap.size 1 _ _ _ HX1.out
                have hgs := lt_of_block HS1.out
                )
              go_roundw
              case rel => exact ⟨k + 1, by omega, by go_num, m + 1, by rw [Hn.out]; exact ho1, HS1, hb1⟩
              case measure => simp [intOf]; omega
          · by_cases k4 : hi < y
            · have t4 : decide (hi < y) = true := by simpa using k4
              have Hn : Hid (Ss ((l.take (k + 1)).flatMap (cut1 (lo, hi))) = Ss ((l.take k).flatMap (cut1 (lo, hi))) ++ [.int .u64 (hi + 1), .int .u64 y]) := by
                show _ = _
                rw [Hsp.out, Ss_append, show cut1 (lo, hi) (x, y) = [(hi + 1, y)] from by unfold cut1; rw [if_neg (by simp only; omega), if_neg (by simp only; omega), if_pos (by simp only; omega)]; rfl]
                rfl
              clear Hsp
              go_wp2_with (
                at_builtin
                refine wpList_app1 _ rfl (.tmp 58) (.tmp 65) 150 rfl (w.heap.size + 1) 209 i0 (.agg #[.int .u64 0, .int .u64 0]) 2 16 Tryz.underlying150 hi0 hz0 hz1 hz2 rfl (by decide) u6 (m) (Ss ((l.take k).flatMap (cut1 (lo, hi)))) rfl hown0 #[.int .u64 (hi + 1), .int .u64 y] _ rfl (by simp) rfl (by simp [Value.oneCell']) (by unfold maxLen; omega) (by omega) (by have := hgs; simp; omega) ?_
                intro v1 w1 ho1 hg1 hk1
                have hne := hne0
                have hb1 : Below w.heap.size w w1 := hb0.grown hg1 (by have := hb0.size; simp at this ⊢; omega) (fun g hg => by have := (hown0.lt g hg).1; omega)
                have HS1 := Lib.hid ((hg1.block w.heap.size (lt_of_block HS0.out) (fun e => by have := (hown0.lt _ e.symm).1; omega)).trans HS0.out)
                have HX1 := Lib.hid ((hg1.block wr.heap.size (lt_of_block HX0.out) (fun e => hne e.symm)).trans HX0.out)
                have xs1 := cell_of_row w1 w.heap.size 0 _ _ _ HS1.out
                have ys1 := cell_of_row w1 w.heap.size 1 _ _ _ HS1.out
                have xx1 := cell_of_row w1 wr.heap.size 0 _ _ _ HX1.out
                have yx1 := cell_of_row w1 wr.heap.size 1 _ _ _ HX1.out
                have hgs := lt_of_block HS1.out
                )
              go_roundw
              case rel => exact ⟨k + 1, by omega, by go_num, m + 1, by rw [Hn.out]; exact ho1, HS1, hb1⟩
              case measure => simp [intOf]; omega
            · have Hn : Hid (Ss ((l.take (k + 1)).flatMap (cut1 (lo, hi))) = Ss ((l.take k).flatMap (cut1 (lo, hi)))) := by
                show _ = _
                rw [Hsp.out, Ss_append, show cut1 (lo, hi) (x, y) = [] from by unfold cut1; rw [if_neg (by simp only; omega), if_neg (by simp only; omega), if_neg (by simp only; omega)]; rfl]
                simp [Ss]
              clear Hsp
              go_wp2
              go_roundw
              case rel => exact ⟨k + 1, by omega, by go_num, m, by rw [Hn.out]; exact hown0, HS0, hb0⟩
              case measure => simp [intOf]; omega
    · obtain rfl : k = l.length := by omega
      rw [List.take_length] at hown
      go_wp2
      go_ret2
      have hm : m = (cutP l (lo, hi)).length := by have e1 := hown.1; rw [Ss_length] at e1; unfold cutP; omega
      subst hm
      obtain ⟨A5, c5, e5, _⟩ := own_slice hown
      subst e5
      exact ⟨A5, c5, rfl, RdN.of_own hown (by omega), hb⟩
set_option maxHeartbeats 1600000 in
set_option maxRecDepth 100000 in
theorem from_yes (A : Option Addr) (n c : Nat) (l : List Sp) (q : Int) (w : World) (h : Rd w 2 A n c (Ss l)) (hu : U2s l) (hg : Good l) (hq0 : 0 ≤ q) (hq1 : q < 18446744073709551616) (hn : n ≤ 8796093021952) :
    Calls Tryz.prog 211 #[.slice A n c, .int .u64 q] w fun e w' => ∃ A' c', e = .returned (.slice A' (fromP l q).length c') ∧ RdN w' w.heap.size A' (fromP l q).length c' (Ss (fromP l q)) ∧ Below w.heap.size w w' := by
  obtain ⟨i0, hi0, hz0, hz1, hz2⟩ := info_parts infoSpan
  have hl := h.len
  rw [Ss_length] at hl
  obtain rfl : l.length = n := by omega
  clear hl
  have hmax := h.cap
  have hmax' := h.max
  unfold maxLen at hmax'
  have Hgb := Lib.hid (goodB_true hg)
  clear hg
  go_enter Tryz.func211, Tryz.ntmps211
  go_wp2_with fail
  refine (good_any A l.length c l _ h hu).mono ?_
  rw [Hgb.out]
  rintro e w1 ⟨rfl, hb1⟩
  go_wp2
  go_loopw [5, 13] (fun out i wr => ∃ k m : Nat, k ≤ l.length ∧ i = .int .i64 k ∧ wr.ownsRow w.heap.size 209 2 out m (Ss (fromP (l.take k) q)) ∧ Below w.heap.size w wr) (fun _ i _ => l.length - (intOf i).toNat)
  case atStart => exact ⟨0, 0, Nat.zero_le _, rfl, World.ownsRow_nil _ _ _ _, hb1⟩
  case round =>
    obtain ⟨k, m, hk, rfl, hown, hb⟩ := hrel
    have hmk : m ≤ k := by
      have e1 := hown.1
      rw [Ss_length] at e1
      have e2 := fromP_len (l.take k) q
      simp only [List.length_take] at e2
      omega
    by_cases hlt : k < l.length
    · obtain ⟨b, off, x, y, rfl, He, hc1, hc2, u1, u2, u3, u4⟩ := (h.below hb).sp hu hlt
      have Hsp : Hid (fromP (l.take (k + 1)) q = fromP (l.take k) q ++ from1 q (x, y)) := by show _ = _; unfold fromP; rw [flatMap_take_succ _ _ _ hlt, He.out]
      have hgs := hb.size
      by_cases k1 : q ≤ y
      · have Hn : Hid (Ss (fromP (l.take (k + 1)) q) = Ss (fromP (l.take k) q) ++ [.int .u64 (max x q), .int .u64 y]) := by
          show _ = _
          rw [Hsp.out, Ss_append, from1_yes k1]
          rfl
        clear Hsp
        have t1 : decide (q ≤ y) = true := by simpa using k1
        have hown0 := hown.alloc (.cells #[.int .u64 x, .int .u64 y] 209)
        have hb0 := hb.alloc hb.size (.cells #[.int .u64 x, .int .u64 y] 209)
        go_wp2_with (
          at_builtin
          refine wpList_app1 _ rfl (.tmp 21) (.tmp 29) 150 rfl (w.heap.size) 209 i0 (.agg #[.int .u64 0, .int .u64 0]) 2 16 Tryz.underlying150 hi0 hz0 hz1 hz2 rfl (by decide) u5 (m) (Ss (fromP (l.take k) q)) rfl hown0 #[.int .u64 (max x q), .int .u64 y] _ rfl (by simp) rfl (by simp [Value.oneCell']) (by unfold maxLen; omega) (by omega) (by have := hgs; simp; omega) ?_
          intro v1 w1 ho1 hg1 hk1
          have hb1 : Below w.heap.size w w1 := hb0.grown hg1 (by have := hb0.size; simp at this ⊢; omega) (fun g hg => (hown0.lt g hg).1))
        go_roundw
        case rel => exact ⟨k + 1, m + 1, by omega, by go_num, by rw [Hn.out]; exact ho1, hb1⟩
        case measure => simp [intOf]; omega
      · have Hn : Hid (fromP (l.take (k + 1)) q = fromP (l.take k) q) := by
          show _ = _
          rw [Hsp.out, from1_no k1, List.append_nil]
        clear Hsp
        have t1 : decide (q ≤ y) = false := by simpa using k1
        go_wp2
        go_roundw
        case rel => exact ⟨k + 1, m, by omega, by go_num, by rw [Hn.out]; exact hown.alloc _, hb.alloc hb.size _⟩
        case measure => simp [intOf]; omega
    · obtain rfl : k = l.length := by omega
      rw [List.take_length] at hown
      go_wp2
      go_ret
      have hm : m = (fromP l q).length := by have e1 := hown.1; rw [Ss_length] at e1; omega
      subst hm
      obtain ⟨A5, c5, e5, _⟩ := own_slice hown
      subst e5
      exact ⟨A5, c5, rfl, RdN.of_own hown (by omega), hb⟩

end Go.Proofs.YtpkbimmhimgamaaGreat
