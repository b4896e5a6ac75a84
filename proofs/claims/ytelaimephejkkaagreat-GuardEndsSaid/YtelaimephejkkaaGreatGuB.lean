/-
  Same lists of spans, same acknowledgments, same evidences: the reference's tests. · Both guards and both ledgers: the law's pair; same. · Both guards and both ledgers: take.
-/
import Derived.Test.YtelaimephejkkaaGreatSpan
import Derived.Test.YtelaimephejkkaaGreatObj
import Derived.Test.YtelaimephejkkaaGreatBytes
import Derived.Test.YtelaimephejkkaaGreatGua1
import Derived.StillTailTactics
import Derived.Test.YtelaimephejkkaaGreatGuR
import Derived.Test.YtelaimephejkkaaGreatTwo
namespace Go.Proofs.YtelaimephejkkaaGreat
set_option linter.unusedSimpArgs false
set_option linter.unusedVariables false
set_option linter.unnecessarySimpa false
open Go.RowKit

set_option maxHeartbeats 800000 in
set_option maxRecDepth 100000 in
theorem sameSpans_any (A B : Option Addr) (n m c d : Nat) (a b : List Sp) (w : World) (ha : Rd w 2 A n c (Ss a)) (hb : Rd w 2 B m d (Ss b)) :
    Calls Tryz.prog 57 #[.slice A n c, .slice B m d] w fun e w' => e = .returned (.bool (decide (a = b))) ∧ Qt w w' := by
  have hl := ha.len
  have hm := hb.len
  rw [Ss_length] at hl hm
  obtain rfl : a.length = n := by omega
  obtain rfl : b.length = m := by omega
  clear hl hm
  have hmax := ha.cap
  have hmax' := ha.max
  unfold maxLen at hmax'
  by_cases hne : a.length = b.length
  · have heq : ((a.length : Int) != b.length) = false := by simp [hne]
    have Hne := Lib.hid hne
    clear hne
    go_enter Tryz.func57, Tryz.ntmps57
    go_wp2
    go_loopw [5] (fun i wr => ∃ k : Nat, k ≤ a.length ∧ i = .int .i64 k ∧ a.take k = b.take k ∧ Qt w wr) (fun i _ => a.length - (intOf i).toNat)
    case atStart => exact ⟨0, Nat.zero_le _, rfl, by simp, Qt.refl w⟩
    case round =>
      obtain ⟨k, hk, rfl, ht, hq⟩ := hrel
      have Ht := Lib.hid ht
      clear ht
      by_cases hlt : k < a.length
      · have hlb : k < b.length := by rw [← Hne.out]; exact hlt
        obtain ⟨b1, o1, rfl, hc1, hc2⟩ := (ha.qt hq).span hlt
        obtain ⟨b2, o2, rfl, hc3, hc4⟩ := (hb.qt hq).span hlb
        generalize hp : a[k] = p at *
        generalize hr : b[k] = r at *
        have Hp := Lib.hid hp
        have Hr := Lib.hid hr
        clear hp hr
        obtain ⟨p1, p2⟩ := p
        obtain ⟨r1, r2⟩ := r
        simp only at hc1 hc2 hc3 hc4
        by_cases he : p1 = r1 ∧ p2 = r2
        · obtain ⟨rfl, rfl⟩ := he
          go_wp2
          refine wp_region_qt (by kernel_rfl) (by kernel_rfl) ?_
          repeat (go_big_quiet_step (fail))
          refine wpQuiet_nil ?_
          intro wd qd
          go_wp2
          go_roundw
          case rel => exact ⟨k + 1, by omega, by go_num, take_snoc_eq k hlt hlb Ht.out (by rw [Hp.out, Hr.out]), hq.trans qd⟩
          case measure => simp [intOf]; omega
        · have He : Hid (¬ (p1 = r1 ∧ p2 = r2)) := he
          have he1 : ((p1 == r1) && (p2 == r2)) = false := by
            rw [Bool.and_eq_false_iff]
            by_cases h1 : p1 = r1
            · right; simp; intro h2; exact he ⟨h1, h2⟩
            · left; simpa using h1
          clear he
          by_cases h1 : p1 = r1
          · have h2 : (p2 == r2) = false := by simp; intro h2; exact He.out ⟨h1, h2⟩
            subst h1
            clear he1
            go_wp2
            refine wp_region_qt (by kernel_rfl) (by kernel_rfl) ?_
            repeat (go_big_quiet_step (fail))
            refine wpQuiet_nil ?_
            intro wd qd
            go_wp2
            go_ret
            exact ⟨ret_bool (by rw [eq_comm, decide_eq_false_iff_not]; intro e; subst e; rw [Hr.out] at Hp; injection Hp.out with _ e2; exact He.out ⟨trivial, e2.symm⟩), hq.trans qd⟩
          · have h2 : (p1 == r1) = false := by simpa using h1
            clear he1 h1
            go_wp2
            refine wp_region_qt (by kernel_rfl) (by kernel_rfl) ?_
            repeat (go_big_quiet_step (fail))
            refine wpQuiet_nil ?_
            intro wd qd
            go_wp2
            go_ret
            exact ⟨ret_bool (by rw [eq_comm, decide_eq_false_iff_not]; intro e; subst e; rw [Hr.out] at Hp; injection Hp.out with e1 e2; exact He.out ⟨e1.symm, e2.symm⟩), hq.trans qd⟩
      · go_wp2
        go_ret
        obtain rfl : k = a.length := by omega
        refine ⟨ret_bool ?_, hq⟩
        rw [eq_comm, decide_eq_true_eq]
        exact eq_of_take a.length rfl Hne.out.symm Ht.out
  · have heq : ((a.length : Int) != b.length) = true := by simp; omega
    have Hne := Lib.hid hne
    clear hne
    go_enter Tryz.func57, Tryz.ntmps57
    go_wp2
    go_ret
    exact ⟨ret_bool (by rw [eq_comm, decide_eq_false_iff_not]; intro e; exact Hne.out (by rw [e])), Qt.refl w⟩

theorem size2 (w : World) (o o' : Obj) : ((w.alloc o).alloc o').heap.size = w.heap.size + 2 := by simp
set_option maxHeartbeats 2000000 in
set_option maxRecDepth 100000 in
theorem sameAck_yes (w : World) (a b : Ak) (d : AckD) (ha : AkR w a) (hb : AkR w b) (ea : a.is d) (eb : b.is d) :
    Calls Tryz.prog 25 #[a.val, b.val] w fun e w' => e = .returned (.bool true) ∧ Below w.heap.size w w' := by
  obtain ⟨A, c, B, dd, sp, mm, tr, xo, od⟩ := a
  obtain ⟨A', c', B', dd', sp', mm', tr', xo', od'⟩ := b
  obtain ⟨e1, e2, e3, e4, e5⟩ := ea
  obtain ⟨f1, f2, f3, f4, f5⟩ := eb
  simp only at e1 e2 e3 e4 e5 f1 f2 f3 f4 f5
  subst e1 e2 e3 e4 e5 f1 f2 f3 f4 f5
  have t1 := heap_alloc_new w (.cells #[.slice A d.sp.length c, .slice B d.mm.length dd, .int .u64 d.tr, .int .u64 d.xo, .bool d.od] 56)
  have b1 := box_below w (.cells #[.slice A d.sp.length c, .slice B d.mm.length dd, .int .u64 d.tr, .int .u64 d.xo, .bool d.od] 56)
  have t2 := heap_alloc_new (w.alloc (.cells #[.slice A d.sp.length c, .slice B d.mm.length dd, .int .u64 d.tr, .int .u64 d.xo, .bool d.od] 56)) (.cells #[.slice A' d.sp.length c', .slice B' d.mm.length dd', .int .u64 d.tr, .int .u64 d.xo, .bool d.od] 56)
  have b2 := box_below (w.alloc (.cells #[.slice A d.sp.length c, .slice B d.mm.length dd, .int .u64 d.tr, .int .u64 d.xo, .bool d.od] 56)) (.cells #[.slice A' d.sp.length c', .slice B' d.mm.length dd', .int .u64 d.tr, .int .u64 d.xo, .bool d.od] 56)
  rw [World.size_alloc] at t2
  have t1 := (b2.block _ (by simp)).trans t1
  have HA := Lib.hid ((ha.below b1).below b2)
  have HB := Lib.hid ((hb.below b1).below b2)
  have BB := Lib.hid (b1.trans (b2.mono (by simp)))
  clear ha hb b1 b2
  unfold Ak.val
  simp only [Ak.cells]
  go_enter Tryz.func25, Tryz.ntmps25
  go_upto_region 1 with fail
  generalize (w.alloc (.cells #[.slice A d.sp.length c, .slice B d.mm.length dd, .int .u64 d.tr, .int .u64 d.xo, .bool d.od] 56)).alloc (.cells #[.slice A' d.sp.length c', .slice B' d.mm.length dd', .int .u64 d.tr, .int .u64 d.xo, .bool d.od] 56) = w2 at *
  have y0 := cell_of_row w2 w.heap.size 0 _ _ _ t1
  have fy0 := frozen_of_row w2 w.heap.size 0 _ _ t1
  have y1 := cell_of_row w2 w.heap.size 1 _ _ _ t1
  have fy1 := frozen_of_row w2 w.heap.size 1 _ _ t1
  have y2 := cell_of_row w2 w.heap.size 2 _ _ _ t1
  have fy2 := frozen_of_row w2 w.heap.size 2 _ _ t1
  have y3 := cell_of_row w2 w.heap.size 3 _ _ _ t1
  have fy3 := frozen_of_row w2 w.heap.size 3 _ _ t1
  have y4 := cell_of_row w2 w.heap.size 4 _ _ _ t1
  have fy4 := frozen_of_row w2 w.heap.size 4 _ _ t1
  have z0 := cell_of_row w2 (w.heap.size + 1) 0 _ _ _ t2
  have fz0 := frozen_of_row w2 (w.heap.size + 1) 0 _ _ t2
  have z1 := cell_of_row w2 (w.heap.size + 1) 1 _ _ _ t2
  have fz1 := frozen_of_row w2 (w.heap.size + 1) 1 _ _ t2
  have z2 := cell_of_row w2 (w.heap.size + 1) 2 _ _ _ t2
  have fz2 := frozen_of_row w2 (w.heap.size + 1) 2 _ _ t2
  have z3 := cell_of_row w2 (w.heap.size + 1) 3 _ _ _ t2
  have fz3 := frozen_of_row w2 (w.heap.size + 1) 3 _ _ t2
  have z4 := cell_of_row w2 (w.heap.size + 1) 4 _ _ _ t2
  have fz4 := frozen_of_row w2 (w.heap.size + 1) 4 _ _ t2
  have K1 := Lib.hid (sameSpans_any A A' _ _ c c' d.sp d.sp w2 HA.out.rs HB.out.rs)
  rw [decide_eq_true rfl] at K1
  go_wp2_with fail
  refine K1.out.mono ?_
  rintro e w3 ⟨rfl, q3⟩
  have K2 := Lib.hid (sameSpans_any B B' _ _ dd dd' d.mm d.mm w3 (HA.out.rm.qt q3) (HB.out.rm.qt q3))
  rw [decide_eq_true rfl] at K2
  have BB3 := Lib.hid (BB.out.trans (q3.below))
  have t1 := (q3.below (B := w2.heap.size)).block _ (lt_of_block t1) |>.trans t1
  have t2 := (q3.below (B := w2.heap.size)).block _ (lt_of_block t2) |>.trans t2
  clear K1 HA HB BB y0 y1 y2 y3 y4 fy0 fy1 fy2 fy3 fy4 z0 z1 z2 z3 z4 fz0 fz1 fz2 fz3 fz4 q3
  have y0 := cell_of_row w3 w.heap.size 0 _ _ _ t1
  have fy0 := frozen_of_row w3 w.heap.size 0 _ _ t1
  have y1 := cell_of_row w3 w.heap.size 1 _ _ _ t1
  have fy1 := frozen_of_row w3 w.heap.size 1 _ _ t1
  have y2 := cell_of_row w3 w.heap.size 2 _ _ _ t1
  have fy2 := frozen_of_row w3 w.heap.size 2 _ _ t1
  have y3 := cell_of_row w3 w.heap.size 3 _ _ _ t1
  have fy3 := frozen_of_row w3 w.heap.size 3 _ _ t1
  have y4 := cell_of_row w3 w.heap.size 4 _ _ _ t1
  have fy4 := frozen_of_row w3 w.heap.size 4 _ _ t1
  have z0 := cell_of_row w3 (w.heap.size + 1) 0 _ _ _ t2
  have fz0 := frozen_of_row w3 (w.heap.size + 1) 0 _ _ t2
  have z1 := cell_of_row w3 (w.heap.size + 1) 1 _ _ _ t2
  have fz1 := frozen_of_row w3 (w.heap.size + 1) 1 _ _ t2
  have z2 := cell_of_row w3 (w.heap.size + 1) 2 _ _ _ t2
  have fz2 := frozen_of_row w3 (w.heap.size + 1) 2 _ _ t2
  have z3 := cell_of_row w3 (w.heap.size + 1) 3 _ _ _ t2
  have fz3 := frozen_of_row w3 (w.heap.size + 1) 3 _ _ t2
  have z4 := cell_of_row w3 (w.heap.size + 1) 4 _ _ _ t2
  have fz4 := frozen_of_row w3 (w.heap.size + 1) 4 _ _ t2
  go_wp2_with fail
  refine K2.out.mono ?_
  rintro e w4 ⟨rfl, q4⟩
  have BB4 := Lib.hid (BB3.out.trans (q4.below))
  have t1 := (q4.below (B := w3.heap.size)).block _ (lt_of_block t1) |>.trans t1
  have t2 := (q4.below (B := w3.heap.size)).block _ (lt_of_block t2) |>.trans t2
  clear K2 BB3 y0 y1 y2 y3 y4 fy0 fy1 fy2 fy3 fy4 z0 z1 z2 z3 z4 fz0 fz1 fz2 fz3 fz4 q4
  have y0 := cell_of_row w4 w.heap.size 0 _ _ _ t1
  have fy0 := frozen_of_row w4 w.heap.size 0 _ _ t1
  have y1 := cell_of_row w4 w.heap.size 1 _ _ _ t1
  have fy1 := frozen_of_row w4 w.heap.size 1 _ _ t1
  have y2 := cell_of_row w4 w.heap.size 2 _ _ _ t1
  have fy2 := frozen_of_row w4 w.heap.size 2 _ _ t1
  have y3 := cell_of_row w4 w.heap.size 3 _ _ _ t1
  have fy3 := frozen_of_row w4 w.heap.size 3 _ _ t1
  have y4 := cell_of_row w4 w.heap.size 4 _ _ _ t1
  have fy4 := frozen_of_row w4 w.heap.size 4 _ _ t1
  have z0 := cell_of_row w4 (w.heap.size + 1) 0 _ _ _ t2
  have fz0 := frozen_of_row w4 (w.heap.size + 1) 0 _ _ t2
  have z1 := cell_of_row w4 (w.heap.size + 1) 1 _ _ _ t2
  have fz1 := frozen_of_row w4 (w.heap.size + 1) 1 _ _ t2
  have z2 := cell_of_row w4 (w.heap.size + 1) 2 _ _ _ t2
  have fz2 := frozen_of_row w4 (w.heap.size + 1) 2 _ _ t2
  have z3 := cell_of_row w4 (w.heap.size + 1) 3 _ _ _ t2
  have fz3 := frozen_of_row w4 (w.heap.size + 1) 3 _ _ t2
  have z4 := cell_of_row w4 (w.heap.size + 1) 4 _ _ _ t2
  have fz4 := frozen_of_row w4 (w.heap.size + 1) 4 _ _ t2
  go_wp2
  go_ret
  exact ⟨by simp, BB4.out⟩

set_option maxHeartbeats 2000000 in
set_option maxRecDepth 100000 in
theorem sameEv_yes (w : World) (ev : Ev) (a b : Ak) (ha : AkR w a) (hb : AkR w b) (ea : a.is ev.d) (eb : b.is ev.d) :
    Calls Tryz.prog 24 #[.agg (evRow ev a), .agg (evRow ev b)] w fun e w' => e = .returned (.bool true) ∧ Below w.heap.size w w' := by
  unfold evRow
  have t1 := heap_alloc_new w (.cells #[.int .u64 ev.at_, .int .u64 ev.pn, .int .u64 ev.used, .int .i64 ev.why, .slice a.A a.sp.length a.c, .slice a.B a.mm.length a.d, .int .u64 a.tr, .int .u64 a.xo, .bool a.od] 65)
  have b1 := box_below w (.cells #[.int .u64 ev.at_, .int .u64 ev.pn, .int .u64 ev.used, .int .i64 ev.why, .slice a.A a.sp.length a.c, .slice a.B a.mm.length a.d, .int .u64 a.tr, .int .u64 a.xo, .bool a.od] 65)
  have t2 := heap_alloc_new (w.alloc (.cells #[.int .u64 ev.at_, .int .u64 ev.pn, .int .u64 ev.used, .int .i64 ev.why, .slice a.A a.sp.length a.c, .slice a.B a.mm.length a.d, .int .u64 a.tr, .int .u64 a.xo, .bool a.od] 65)) (.cells #[.int .u64 ev.at_, .int .u64 ev.pn, .int .u64 ev.used, .int .i64 ev.why, .slice b.A b.sp.length b.c, .slice b.B b.mm.length b.d, .int .u64 b.tr, .int .u64 b.xo, .bool b.od] 65)
  have b2 := box_below (w.alloc (.cells #[.int .u64 ev.at_, .int .u64 ev.pn, .int .u64 ev.used, .int .i64 ev.why, .slice a.A a.sp.length a.c, .slice a.B a.mm.length a.d, .int .u64 a.tr, .int .u64 a.xo, .bool a.od] 65)) (.cells #[.int .u64 ev.at_, .int .u64 ev.pn, .int .u64 ev.used, .int .i64 ev.why, .slice b.A b.sp.length b.c, .slice b.B b.mm.length b.d, .int .u64 b.tr, .int .u64 b.xo, .bool b.od] 65)
  rw [World.size_alloc] at t2
  have t1 := (b2.block _ (by simp)).trans t1
  have HA := Lib.hid ((ha.below b1).below b2)
  have HB := Lib.hid ((hb.below b1).below b2)
  have BB := Lib.hid (b1.trans (b2.mono (by simp)))
  clear ha hb b1 b2
  go_enter Tryz.func24, Tryz.ntmps24
  go_upto_region 1 with fail
  generalize (w.alloc (.cells #[.int .u64 ev.at_, .int .u64 ev.pn, .int .u64 ev.used, .int .i64 ev.why, .slice a.A a.sp.length a.c, .slice a.B a.mm.length a.d, .int .u64 a.tr, .int .u64 a.xo, .bool a.od] 65)).alloc (.cells #[.int .u64 ev.at_, .int .u64 ev.pn, .int .u64 ev.used, .int .i64 ev.why, .slice b.A b.sp.length b.c, .slice b.B b.mm.length b.d, .int .u64 b.tr, .int .u64 b.xo, .bool b.od] 65) = w2 at *
  have y0 := cell_of_row w2 w.heap.size 0 _ _ _ t1
  have fy0 := frozen_of_row w2 w.heap.size 0 _ _ t1
  have y1 := cell_of_row w2 w.heap.size 1 _ _ _ t1
  have fy1 := frozen_of_row w2 w.heap.size 1 _ _ t1
  have y2 := cell_of_row w2 w.heap.size 2 _ _ _ t1
  have fy2 := frozen_of_row w2 w.heap.size 2 _ _ t1
  have y3 := cell_of_row w2 w.heap.size 3 _ _ _ t1
  have fy3 := frozen_of_row w2 w.heap.size 3 _ _ t1
  have y4 := cell_of_row w2 w.heap.size 4 _ _ _ t1
  have fy4 := frozen_of_row w2 w.heap.size 4 _ _ t1
  have y5 := cell_of_row w2 w.heap.size 5 _ _ _ t1
  have fy5 := frozen_of_row w2 w.heap.size 5 _ _ t1
  have y6 := cell_of_row w2 w.heap.size 6 _ _ _ t1
  have fy6 := frozen_of_row w2 w.heap.size 6 _ _ t1
  have y7 := cell_of_row w2 w.heap.size 7 _ _ _ t1
  have fy7 := frozen_of_row w2 w.heap.size 7 _ _ t1
  have y8 := cell_of_row w2 w.heap.size 8 _ _ _ t1
  have fy8 := frozen_of_row w2 w.heap.size 8 _ _ t1
  have z0 := cell_of_row w2 (w.heap.size + 1) 0 _ _ _ t2
  have fz0 := frozen_of_row w2 (w.heap.size + 1) 0 _ _ t2
  have z1 := cell_of_row w2 (w.heap.size + 1) 1 _ _ _ t2
  have fz1 := frozen_of_row w2 (w.heap.size + 1) 1 _ _ t2
  have z2 := cell_of_row w2 (w.heap.size + 1) 2 _ _ _ t2
  have fz2 := frozen_of_row w2 (w.heap.size + 1) 2 _ _ t2
  have z3 := cell_of_row w2 (w.heap.size + 1) 3 _ _ _ t2
  have fz3 := frozen_of_row w2 (w.heap.size + 1) 3 _ _ t2
  have z4 := cell_of_row w2 (w.heap.size + 1) 4 _ _ _ t2
  have fz4 := frozen_of_row w2 (w.heap.size + 1) 4 _ _ t2
  have z5 := cell_of_row w2 (w.heap.size + 1) 5 _ _ _ t2
  have fz5 := frozen_of_row w2 (w.heap.size + 1) 5 _ _ t2
  have z6 := cell_of_row w2 (w.heap.size + 1) 6 _ _ _ t2
  have fz6 := frozen_of_row w2 (w.heap.size + 1) 6 _ _ t2
  have z7 := cell_of_row w2 (w.heap.size + 1) 7 _ _ _ t2
  have fz7 := frozen_of_row w2 (w.heap.size + 1) 7 _ _ t2
  have z8 := cell_of_row w2 (w.heap.size + 1) 8 _ _ _ t2
  have fz8 := frozen_of_row w2 (w.heap.size + 1) 8 _ _ t2
  have K1 := Lib.hid (sameAck_yes w2 a b ev.d HA.out HB.out ea eb)
  unfold Ak.val Ak.cells at K1
  go_wp2_with fail
  refine K1.out.mono ?_
  rintro e w3 ⟨rfl, q3⟩
  have BB3 := Lib.hid (BB.out.trans (q3.mono BB.out.size))
  go_wp2
  go_ret
  exact ⟨by simp, BB3.out⟩

end Go.Proofs.YtelaimephejkkaaGreat

namespace Go.Proofs.YtelaimephejkkaaGreat
set_option linter.unusedSimpArgs false
set_option linter.unusedVariables false
set_option linter.unnecessarySimpa false
open Go.RowKit

/-- Both ledgers hold s, both guards hold g, in blocks of X; what was kept as evidence lies in blocks of E. -/
structure BothC (w : World) (X E : Nat → Prop) (p r a b : Nat) (s : LS) (g : GS) (G H F1 F2 : Nat → Prop) : Prop where
  lp : LedP w G p s
  lr : LedR w H r s
  gp : GuaP w F1 E a g
  gr : GuRP w F2 E b g
  d1 : ∀ k, G k → ¬ H k ∧ ¬ F1 k ∧ ¬ F2 k
  d2 : ∀ k, H k → ¬ F1 k ∧ ¬ F2 k
  d3 : ∀ k, F1 k → ¬ F2 k
  sub : ∀ k, G k ∨ H k ∨ F1 k ∨ F2 k → X k ∧ k < w.heap.size
  ev : ∀ k, E k → ¬ X k ∧ k < w.heap.size
def BothG (w : World) (X E : Nat → Prop) (p r a b : Nat) (s : LS) (g : GS) : Prop := ∃ G H F1 F2, BothC w X E p r a b s g G H F1 F2
theorem GuRP.good_ {w : World} {F E : Nat → Prop} {b : Nat} {g : GS} (h : GuRP w F E b g) : g.Good := h.good
theorem BothC.below {w w' : World} {X E : Nat → Prop} {p r a b : Nat} {s : LS} {g : GS} {G H F1 F2 : Nat → Prop} (h : BothC w X E p r a b s g G H F1 F2) (q : Below w.heap.size w w') : BothC w' X E p r a b s g G H F1 F2 :=
  ⟨h.lp.below q, h.lr.below q, h.gp.below q, h.gr.below q, h.d1, h.d2, h.d3, fun k hk => ⟨(h.sub k hk).1, Nat.lt_of_lt_of_le (h.sub k hk).2 q.size⟩, fun k hk => ⟨(h.ev k hk).1, Nat.lt_of_lt_of_le (h.ev k hk).2 q.size⟩⟩
theorem BothG.below {w w' : World} {X E : Nat → Prop} {p r a b : Nat} {s : LS} {g : GS} (h : BothG w X E p r a b s g) (q : Below w.heap.size w w') : BothG w' X E p r a b s g := by
  obtain ⟨G, H, F1, F2, hC⟩ := h
  exact ⟨G, H, F1, F2, hC.below q⟩
/-- What turns other blocks alone. -/
theorem BothG.chg {w w' : World} {X E Z : Nat → Prop} {p r a b : Nat} {s : LS} {g : GS} (h : BothG w X E p r a b s g) (hc : Chg Z w w') (hd : ∀ k, k < w.heap.size → X k ∨ E k → ¬ Z k) : BothG w' X E p r a b s g := by
  obtain ⟨G, H, F1, F2, hC⟩ := h
  have hs := hc.size
  refine ⟨G, H, F1, F2, hC.lp.chg hc (fun k hk hg => hd k hk (.inl (hC.sub k (.inl hg)).1)) (fun _ _ h => h), hC.lr.chg hc (fun k hk hg => hd k hk (.inl (hC.sub k (.inr (.inl hg))).1)) (fun _ _ h => h),
    hC.gp.chg hc (fun k hk hg => hg.elim (fun hg => hd k hk (.inl (hC.sub k (.inr (.inr (.inl hg)))).1)) (fun he => hd k hk (.inr he))) (fun _ _ h => h) (fun _ _ h => h) hC.gp.dj,
    hC.gr.chg hc (fun k hk hg => hg.elim (fun hg => hd k hk (.inl (hC.sub k (.inr (.inr (.inr hg)))).1)) (fun he => hd k hk (.inr he))) (fun _ _ h => h) (fun _ _ h => h) hC.gr.dj,
    hC.d1, hC.d2, hC.d3, fun k hk => ⟨(hC.sub k hk).1, Nat.lt_of_lt_of_le (hC.sub k hk).2 hs⟩, fun k hk => ⟨(hC.ev k hk).1, Nat.lt_of_lt_of_le (hC.ev k hk).2 hs⟩⟩
theorem BothG.two {w : World} {X E : Nat → Prop} {p r a b : Nat} {s : LS} {g : GS} (h : BothG w X E p r a b s g) : Two w X p r s := by
  obtain ⟨G, H, F1, F2, hC⟩ := h
  exact ⟨G, H, ⟨hC.lp, hC.lr, fun k h1 h2 => (hC.d1 k h1).1 h2⟩, fun k hk => hC.sub k (hk.elim .inl (fun h => .inr (.inl h)))⟩
theorem BothG.sgood {w : World} {X E : Nat → Prop} {p r a b : Nat} {s : LS} {g : GS} (h : BothG w X E p r a b s g) : s.Good := h.two.good
theorem BothG.ggood {w : World} {X E : Nat → Prop} {p r a b : Nat} {s : LS} {g : GS} (h : BothG w X E p r a b s g) : g.Good := by
  obtain ⟨G, H, F1, F2, hC⟩ := h
  exact hC.gp.good
/-- More blocks, or none but these. -/
theorem BothG.sub {w : World} {X X' E : Nat → Prop} {p r a b : Nat} {s : LS} {g : GS} (h : BothG w X E p r a b s g) (hX : ∀ k, k < w.heap.size → X k → X' k) (hE : ∀ k, E k → ¬ X' k) : BothG w X' E p r a b s g := by
  obtain ⟨G, H, F1, F2, hC⟩ := h
  exact ⟨G, H, F1, F2, hC.lp, hC.lr, hC.gp, hC.gr, hC.d1, hC.d2, hC.d3, fun k hk => ⟨hX k (hC.sub k hk).2 (hC.sub k hk).1, (hC.sub k hk).2⟩, fun k hk => ⟨hE k hk, (hC.ev k hk).2⟩⟩

set_option maxHeartbeats 8000000 in
set_option maxRecDepth 100000 in
theorem both_same (w : World) (X E : Nat → Prop) (p r a b : Nat) (s : LS) (g : GS) (h : BothG w X E p r a b s g) :
    Calls Tryz.prog 15 #[.agg #[.pointer (some ⟨a, 0, none⟩), .pointer (some ⟨b, 0, none⟩)]] w fun e w' => e = .returned (.bool true) ∧ Below w.heap.size w w' := by
  obtain ⟨G, H, F1, F2, hC⟩ := h
  have b1 := box_below w (.cells #[.pointer (some ⟨a, 0, none⟩), .pointer (some ⟨b, 0, none⟩)] 36)
  have t1 := heap_alloc_new w (.cells #[.pointer (some ⟨a, 0, none⟩), .pointer (some ⟨b, 0, none⟩)] 36)
  have C1 := Lib.hid (hC.below b1)
  have B1 := Lib.hid b1
  clear hC b1
  go_enter Tryz.func15, Tryz.ntmps15
  go_upto_region 1 with fail
  generalize w.alloc (.cells #[.pointer (some ⟨a, 0, none⟩), .pointer (some ⟨b, 0, none⟩)] 36) = w1 at *
  have x0 := cell_of_row w1 w.heap.size 0 _ _ _ t1
  have fx0 := frozen_of_row w1 w.heap.size 0 _ _ t1
  have x1 := cell_of_row w1 w.heap.size 1 _ _ _ t1
  have fx1 := frozen_of_row w1 w.heap.size 1 _ _ t1
  have K1 := Lib.hid (gua_evidence w1 F1 E a g C1.out.gp)
  go_wp2_with fail
  refine K1.out.mono ?_
  rintro e w2 ⟨a2, rfl, is2, hA2, hb2⟩
  have e3 := box_below w2 (.cells (evRow g.ev a2) 65)
  have n3 := heap_alloc_new w2 (.cells (evRow g.ev a2) 65)
  have C3 := Lib.hid ((C1.out.below hb2).below e3)
  have A3 := Lib.hid (hA2.below e3)
  have B3 := Lib.hid ((B1.out.trans (hb2.mono B1.out.size)).trans (e3.mono (Nat.le_trans B1.out.size hb2.size)))
  have t3 := (e3.block _ (Nat.lt_of_lt_of_le (lt_of_block t1) hb2.size)).trans ((hb2.block _ (lt_of_block t1)).trans t1)
  have IS := Lib.hid is2
  clear K1 C1 B1 hA2 is2 x0 x1 fx0 fx1 t1
  unfold evRow at *
  go_upto_region 2 with fail
  generalize (w2.alloc (.cells #[.int .u64 g.ev.at_, .int .u64 g.ev.pn, .int .u64 g.ev.used, .int .i64 g.ev.why, .slice a2.A a2.sp.length a2.c, .slice a2.B a2.mm.length a2.d, .int .u64 a2.tr, .int .u64 a2.xo, .bool a2.od] 65)) = w3 at *
  generalize w2.heap.size = h3 at *
  clear hb2 e3
  obtain ⟨good, qb, a0, hR⟩ := C3.out.gr
  have HR := Lib.hid hR
  have K3 : Hid (∀ u, GuaP (mix w3 u) F1 E a g) := Lib.hid (fun u => C3.out.gp.below (mix_below w3 u))
  have KE : Hid (∀ u, AkR (mix w3 u) a2 ∧ AkR (mix w3 u) a0) := Lib.hid (fun u => ⟨A3.out.r.below (mix_below w3 u), HR.out.ev.r.below (mix_below w3 u)⟩)
  have I0 := Lib.hid HR.out.is
  have r0 : w3.heap[b]? = some (.cells #[.pointer (some ⟨qb, 0, none⟩), .int .u64 g.mal, .int .u64 g.drp, .int .u64 g.tak, .int .u64 g.cha, .int .u64 g.lat, .bool g.over,
    .int .u64 g.ev.at_, .int .u64 g.ev.pn, .int .u64 g.ev.used, .int .i64 g.ev.why, .slice a0.A a0.sp.length a0.c, .slice a0.B a0.mm.length a0.d, .int .u64 a0.tr, .int .u64 a0.xo, .bool a0.od] 113 (0, 0)) := hR.t
  have m0 := mixc ((cell_of_row w3 w.heap.size 0 _ _ _ t3).trans rfl)
  have m1 := mixc ((cell_of_row w3 w.heap.size 1 _ _ _ t3).trans rfl)
  have q1 := mixc (v := .int .u64 g.mal) (cell_of_row w3 b 1 _ _ _ r0)
  have q2 := mixc (v := .int .u64 g.drp) (cell_of_row w3 b 2 _ _ _ r0)
  have q3 := mixc (v := .int .u64 g.tak) (cell_of_row w3 b 3 _ _ _ r0)
  have q4 := mixc (v := .int .u64 g.cha) (cell_of_row w3 b 4 _ _ _ r0)
  have q5 := mixc (v := .int .u64 g.lat) (cell_of_row w3 b 5 _ _ _ r0)
  have q6 := mixc (v := .bool g.over) (cell_of_row w3 b 6 _ _ _ r0)
  have q7 := mixc (v := .int .u64 g.ev.at_) (cell_of_row w3 b 7 _ _ _ r0)
  have q8 := mixc (v := .int .u64 g.ev.pn) (cell_of_row w3 b 8 _ _ _ r0)
  have q9 := mixc (v := .int .u64 g.ev.used) (cell_of_row w3 b 9 _ _ _ r0)
  have q10 := mixc (v := .int .i64 g.ev.why) (cell_of_row w3 b 10 _ _ _ r0)
  have q11 := mixc (v := .slice a0.A a0.sp.length a0.c) (cell_of_row w3 b 11 _ _ _ r0)
  have q12 := mixc (v := .slice a0.B a0.mm.length a0.d) (cell_of_row w3 b 12 _ _ _ r0)
  have q13 := mixc (v := .int .u64 a0.tr) (cell_of_row w3 b 13 _ _ _ r0)
  have q14 := mixc (v := .int .u64 a0.xo) (cell_of_row w3 b 14 _ _ _ r0)
  have q15 := mixc (v := .bool a0.od) (cell_of_row w3 b 15 _ _ _ r0)
  have u0 := mixc (v := .int .u64 g.ev.at_) (cell_of_row w3 h3 0 _ _ _ n3)
  have u1 := mixc (v := .int .u64 g.ev.pn) (cell_of_row w3 h3 1 _ _ _ n3)
  have u2 := mixc (v := .int .u64 g.ev.used) (cell_of_row w3 h3 2 _ _ _ n3)
  have u3 := mixc (v := .int .i64 g.ev.why) (cell_of_row w3 h3 3 _ _ _ n3)
  have u4 := mixc (v := .slice a2.A a2.sp.length a2.c) (cell_of_row w3 h3 4 _ _ _ n3)
  have u5 := mixc (v := .slice a2.B a2.mm.length a2.d) (cell_of_row w3 h3 5 _ _ _ n3)
  have u6 := mixc (v := .int .u64 a2.tr) (cell_of_row w3 h3 6 _ _ _ n3)
  have u7 := mixc (v := .int .u64 a2.xo) (cell_of_row w3 h3 7 _ _ _ n3)
  have u8 := mixc (v := .bool a2.od) (cell_of_row w3 h3 8 _ _ _ n3)
  clear r0 n3 t3 hR
  have KC := Lib.hid (fun u => gua_counts (mix w3 u) F1 E a g (K3.out u))
  have KS := Lib.hid (fun u => sameEv_yes (mix w3 u) g.ev a2 a0 (KE.out u).1 (KE.out u).2 IS.out I0.out)
  unfold ctsRow at KC
  unfold evRow at KS
  refine wp_region_below (by kernel_rfl) (by kernel_rfl) ?_
  repeat (first | go_big_quiet_step ((first | (go_at_call 17; exact Calls.mix_of (KC.out _)) | (go_at_call 24; exact Calls.mix_of (KS.out _)))) | quiet_step ((first | (go_at_call 17; exact Calls.mix_of (KC.out _)) | (go_at_call 24; exact Calls.mix_of (KS.out _)))))
  refine wpQuiet_nil ?_
  intro w4 b4
  go_wp2
  go_ret
  exact ⟨rfl, B3.out.trans (b4.mono B3.out.size)⟩

end Go.Proofs.YtelaimephejkkaaGreat

namespace Go.Proofs.YtelaimephejkkaaGreat
set_option linter.unusedSimpArgs false
set_option linter.unusedVariables false
set_option linter.unnecessarySimpa false
open Go.RowKit

/-- Both have taken a frame. -/
theorem BothC.took {w w1 w2 w3 w4 : World} {X E : Nat → Prop} {p r a b : Nat} {s s' : LS} {g g' : GS} {G H F1 F2 F1' E1' F2' E2' : Nat → Prop} (h : BothC w X E p r a b s g G H F1 F2) (s1 : w.heap.size ≤ w1.heap.size)
    (lp : LedP w2 G p s') (gp : GuaP w2 F1' E1' a g') (f1 : ∀ k, F1' k → Grow F1 w1 k) (e1 : ∀ k, E1' k → Grow E w1 k) (c2 : Chg (fun k => G k ∨ F1 k) w1 w2) (b3 : Below w2.heap.size w2 w3)
    (lr : LedR w4 H r s') (gr : GuRP w4 F2' E2' b g') (f2 : ∀ k, F2' k → Grow F2 w3 k) (e2 : ∀ k, E2' k → Grow E w3 k) (c4 : Chg (fun k => H k ∨ F2 k) w3 w4) :
    ∃ X' E', BothG w4 X' E' p r a b s' g' ∧ (∀ k, X' k → (X k ∧ k < w.heap.size) ∨ w1.heap.size ≤ k) ∧ (∀ k, E' k → (E k ∧ k < w.heap.size) ∨ w1.heap.size ≤ k) := by
  have hs2 := c2.size
  have hs3 := b3.size
  have hs4 := c4.size
  have xG : ∀ k, G k → k < w.heap.size ∧ X k := fun k hk => ⟨(h.sub k (.inl hk)).2, (h.sub k (.inl hk)).1⟩
  have xH : ∀ k, H k → k < w.heap.size ∧ X k := fun k hk => ⟨(h.sub k (.inr (.inl hk))).2, (h.sub k (.inr (.inl hk))).1⟩
  have x1 : ∀ k, F1 k → k < w.heap.size ∧ X k := fun k hk => ⟨(h.sub k (.inr (.inr (.inl hk)))).2, (h.sub k (.inr (.inr (.inl hk)))).1⟩
  have x2 : ∀ k, F2 k → k < w.heap.size ∧ X k := fun k hk => ⟨(h.sub k (.inr (.inr (.inr hk)))).2, (h.sub k (.inr (.inr (.inr hk)))).1⟩
  -- what the program's guard holds, cut to the world behind its call
  have gp2 : GuaP w2 (fun k => F1' k ∧ k < w2.heap.size) (fun k => E1' k ∧ k < w2.heap.size) a g' := gp.sub (fun k hk hf => ⟨hf, hk⟩) (fun k hk he => ⟨he, hk⟩) (fun k hk hf => gp.dj k hk.1 hf.1)
  have gr4 : GuRP w4 (fun k => F2' k ∧ k < w4.heap.size) (fun k => E2' k ∧ k < w4.heap.size) b g' := gr.sub (fun k hk hf => ⟨hf, hk⟩) (fun k hk he => ⟨he, hk⟩) (fun k hk hf => gr.dj k hk.1 hf.1)
  -- it stays through the other's call
  have c24 : Chg (fun k => H k ∨ F2 k) w2 w4 := (chg_below b3).step c4 (fun _ _ h => h)
  have nF : ∀ k, F1' k ∧ k < w2.heap.size → ¬ (H k ∨ F2 k) := fun k hk hh => by
    rcases f1 k hk.1 with hf | hf
    · exact hh.elim (fun hh => (h.d2 k hh).1 hf) (fun hh => h.d3 k hf hh)
    · exact hh.elim (fun hh => by have := (xH k hh).1; omega) (fun hh => by have := (x2 k hh).1; omega)
  have nE : ∀ k, E1' k ∧ k < w2.heap.size → ¬ (H k ∨ F2 k) := fun k hk hh => by
    rcases e1 k hk.1 with hf | hf
    · exact hh.elim (fun hh => (h.ev k hf).1 (xH k hh).2) (fun hh => (h.ev k hf).1 (x2 k hh).2)
    · exact hh.elim (fun hh => by have := (xH k hh).1; omega) (fun hh => by have := (x2 k hh).1; omega)
  have dj1 : ∀ k, (E1' k ∧ k < w2.heap.size) ∨ (E2' k ∧ k < w4.heap.size) → ¬ (F1' k ∧ k < w2.heap.size) := fun k hk hf => by
    rcases hk with hk | hk
    · exact gp.dj k hk.1 hf.1
    · rcases e2 k hk.1 with he | he
      · rcases f1 k hf.1 with hf' | hf'
        · exact (h.ev k he).1 (x1 k hf').2
        · have := (h.ev k he).2; omega
      · have := hf.2; omega
  have dj2 : ∀ k, (E1' k ∧ k < w2.heap.size) ∨ (E2' k ∧ k < w4.heap.size) → ¬ (F2' k ∧ k < w4.heap.size) := fun k hk hf => by
    rcases hk with hk | hk
    · rcases e1 k hk.1 with he | he
      · rcases f2 k hf.1 with hf' | hf'
        · exact (h.ev k he).1 (x2 k hf').2
        · have := (h.ev k he).2; omega
      · rcases f2 k hf.1 with hf' | hf'
        · have := (x2 k hf').1; omega
        · have := hk.2; omega
    · exact gr.dj k hk.1 hf.1
  have gp4 : GuaP w4 (fun k => F1' k ∧ k < w2.heap.size) (fun k => (E1' k ∧ k < w2.heap.size) ∨ (E2' k ∧ k < w4.heap.size)) a g' := gp2.chg c24 (fun k _ hk => hk.elim (nF k) (nE k)) (fun _ _ h => h) (fun _ _ h => .inl h) dj1
  have gr5 : GuRP w4 (fun k => F2' k ∧ k < w4.heap.size) (fun k => (E1' k ∧ k < w2.heap.size) ∨ (E2' k ∧ k < w4.heap.size)) b g' := gr4.sub (fun _ _ h => h) (fun _ _ h => .inr h) dj2
  have lp4 : LedP w4 G p s' := lp.chg c24 (fun k _ hg hh => hh.elim (h.d1 k hg).1 (h.d1 k hg).2.2) (fun _ _ h => h)
  refine ⟨fun k => G k ∨ H k ∨ (F1' k ∧ k < w2.heap.size) ∨ (F2' k ∧ k < w4.heap.size), fun k => (E1' k ∧ k < w2.heap.size) ∨ (E2' k ∧ k < w4.heap.size), ⟨G, H, _, _, lp4, lr, gp4, gr5, ?_, ?_, ?_, ?_, ?_⟩, ?_, ?_⟩
  · intro k hg
    have hx := (xG k hg).1
    exact ⟨(h.d1 k hg).1, fun hf => (f1 k hf.1).elim (h.d1 k hg).2.1 (fun e => by omega), fun hf => (f2 k hf.1).elim (h.d1 k hg).2.2 (fun e => by omega)⟩
  · intro k hh
    have hx := (xH k hh).1
    exact ⟨fun hf => (f1 k hf.1).elim (h.d2 k hh).1 (fun e => by omega), fun hf => (f2 k hf.1).elim (h.d2 k hh).2 (fun e => by omega)⟩
  · intro k hf hf2
    rcases f2 k hf2.1 with e | e
    · rcases f1 k hf.1 with e' | e'
      · exact h.d3 k e' e
      · have := (x2 k e).1; omega
    · have := hf.2; omega
  · intro k hk
    refine ⟨hk, ?_⟩
    rcases hk with hk | hk | hk | hk
    · have := (xG k hk).1; omega
    · have := (xH k hk).1; omega
    · have := hk.2; omega
    · exact hk.2
  · intro k hk
    refine ⟨fun hx => ?_, hk.elim (fun e => by have := e.2; omega) (fun e => e.2)⟩
    rcases hx with hx | hx | hx | hx
    · have h1 := xG k hx
      rcases hk with hk | hk
      · exact (e1 k hk.1).elim (fun e => (h.ev k e).1 h1.2) (fun e => by omega)
      · exact (e2 k hk.1).elim (fun e => (h.ev k e).1 h1.2) (fun e => by omega)
    · have h1 := xH k hx
      rcases hk with hk | hk
      · exact (e1 k hk.1).elim (fun e => (h.ev k e).1 h1.2) (fun e => by omega)
      · exact (e2 k hk.1).elim (fun e => (h.ev k e).1 h1.2) (fun e => by omega)
    · exact dj1 k hk hx
    · exact dj2 k hk hx
  · intro k hk
    rcases hk with hk | hk | hk | hk
    · exact .inl ⟨(xG k hk).2, (xG k hk).1⟩
    · exact .inl ⟨(xH k hk).2, (xH k hk).1⟩
    · exact (f1 k hk.1).elim (fun e => .inl ⟨(x1 k e).2, (x1 k e).1⟩) (fun e => .inr (by omega))
    · exact (f2 k hk.1).elim (fun e => .inl ⟨(x2 k e).2, (x2 k e).1⟩) (fun e => .inr (by omega))
  · intro k hk
    rcases hk with hk | hk
    · exact (e1 k hk.1).elim (fun e => .inl ⟨e, (h.ev k e).2⟩) (fun e => .inr (by omega))
    · exact (e2 k hk.1).elim (fun e => .inl ⟨e, (h.ev k e).2⟩) (fun e => .inr (by omega))

theorem boxes2 (w : World) (o1 o2 : Obj) : ((w.alloc o1).alloc o2).heap[w.heap.size]? = some o1 ∧ ((w.alloc o1).alloc o2).heap[w.heap.size + 1]? = some o2 ∧ Below w.heap.size w ((w.alloc o1).alloc o2) ∧ ((w.alloc o1).alloc o2).heap.size = w.heap.size + 2 := by
  have n2 := heap_alloc_new (w.alloc o1) o2
  rw [World.size_alloc] at n2
  have b2 := box_below (w.alloc o1) o2
  exact ⟨(b2.block _ (by simp)).trans (heap_alloc_new w o1), n2, (box_below w o1).trans (b2.mono (by simp)), by simp⟩
theorem boxes3 (w : World) (o1 o2 o3 : Obj) : (((w.alloc o1).alloc o2).alloc o3).heap[w.heap.size]? = some o1 ∧ (((w.alloc o1).alloc o2).alloc o3).heap[w.heap.size + 1]? = some o2 ∧ (((w.alloc o1).alloc o2).alloc o3).heap[w.heap.size + 2]? = some o3 ∧ Below w.heap.size w (((w.alloc o1).alloc o2).alloc o3) ∧ (((w.alloc o1).alloc o2).alloc o3).heap.size = w.heap.size + 3 := by
  obtain ⟨h1, h2, h3, h4⟩ := boxes2 w o1 o2
  have n3 := heap_alloc_new ((w.alloc o1).alloc o2) o3
  rw [h4] at n3
  have b3 := box_below ((w.alloc o1).alloc o2) o3
  exact ⟨(b3.block _ (by rw [h4]; omega)).trans h1, (b3.block _ (by rw [h4]; omega)).trans h2, n3, h3.trans (b3.mono (by rw [h4]; omega)), by simp⟩

set_option maxHeartbeats 16000000 in
set_option maxRecDepth 100000 in
theorem both_take (w : World) (X E : Nat → Prop) (p r a b : Nat) (s : LS) (g : GS) (A : Option Addr) (c : Nat) (l : List Int) (now : Int) (h : BothG w X E p r a b s g) (hr : Rd w 1 A l.length c (U8 l)) (hA : ∀ k off, A = some ⟨k, off, none⟩ → 0 < l.length → ¬ X k) (hb : ∀ x ∈ l, 0 ≤ x ∧ x ≤ 255) (hl : l.length ≤ 70368744177664) (hnow : isU64 now) (hga : g.b.all.length ≤ 1000000) :
    Calls Tryz.prog 13 #[.agg #[.pointer (some ⟨a, 0, none⟩), .pointer (some ⟨b, 0, none⟩)], .agg #[.pointer (some ⟨p, 0, none⟩), .pointer (some ⟨r, 0, none⟩)], .slice A l.length c, .int .u64 now] w fun e w' =>
      e = .returned (.tuple #[(g.take s l now).v.val, .bool true]) ∧ (∃ X' E', BothG w' X' E' p r a b (g.take s l now).s (g.take s l now).g ∧ (∀ k, X' k → Grow X w k) ∧ (∀ k, E' k → Grow E w k)) ∧ Chg X w w' := by
  obtain ⟨G, H, F1, F2, hC⟩ := h
  obtain ⟨n1, n2, n3, bb, s3⟩ := boxes3 w (.cells #[.pointer (some ⟨a, 0, none⟩), .pointer (some ⟨b, 0, none⟩)] 36) (.cells #[.pointer (some ⟨p, 0, none⟩), .pointer (some ⟨r, 0, none⟩)] 28) (.cells #[.int .i64 0, .int .i64 0, .int .u64 0, .bool false] 44)
  have C1 := Lib.hid (hC.below bb)
  have R1 := Lib.hid (hr.below bb)
  have BB := Lib.hid bb
  have HA := Lib.hid hA
  have HB := Lib.hid hb
  have N1 := Lib.hid n1
  have N2 := Lib.hid n2
  have N3 := Lib.hid n3
  have HC := Lib.hid hC
  clear hr bb hA hb n1 n2 n3 hC
  go_enter Tryz.func13, Tryz.ntmps13
  go_upto_region 1 with fail
  generalize ((w.alloc (.cells #[.pointer (some ⟨a, 0, none⟩), .pointer (some ⟨b, 0, none⟩)] 36)).alloc (.cells #[.pointer (some ⟨p, 0, none⟩), .pointer (some ⟨r, 0, none⟩)] 28)).alloc (.cells #[.int .i64 0, .int .i64 0, .int .u64 0, .bool false] 44) = w1 at *
  have K1 := Lib.hid (gua_take w1 G F1 E p a s g A c l now C1.out.lp C1.out.gp (fun k hk => by rcases hk with hk | hk | hk; have := (HC.out.sub k (.inl hk)).2; omega; have := (HC.out.sub k (.inr (.inr (.inl hk)))).2; omega; have := (HC.out.ev k hk).2; omega) (fun k hk => ⟨(HC.out.d1 k hk).2.1, fun he => (HC.out.ev k he).1 (HC.out.sub k (.inl hk)).1⟩) R1.out HB.out hl hnow)
  have x0 := cell_of_row w1 w.heap.size 0 _ _ _ N1.out
  have x1 := cell_of_row w1 w.heap.size 1 _ _ _ N1.out
  have y0 := cell_of_row w1 (w.heap.size + 1) 0 _ _ _ N2.out
  have y1 := cell_of_row w1 (w.heap.size + 1) 1 _ _ _ N2.out
  generalize ho : g.take s l now = o at *
  have HO := Lib.hid ho
  clear ho
  obtain ⟨g', s', ⟨vk, vw, vp, vc⟩, d⟩ := o
  go_wp2_with fail
  refine K1.out.mono ?_
  rintro e w2 ⟨a2, rfl, is2, hA2, lp2, ⟨F1', E1', gp2, f1, e1⟩, c2⟩
  have XG : Hid (∀ k, G k ∨ F1 k → X k ∧ k < w.heap.size) := Lib.hid (fun k hk => HC.out.sub k (hk.elim .inl (fun h => .inr (.inr (.inl h)))))
  have t0 := c2.blk N1.out (fun e => by have := (XG.out _ e).2; omega)
  have t1 := c2.blk N2.out (fun e => by have := (XG.out _ e).2; omega)
  have t2 := c2.blk N3.out (fun e => by have := (XG.out _ e).2; omega)
  have hs2 := c2.size
  have e3 := box_below w2 (.cells #[.int .i64 vk, .int .i64 vw, .int .u64 vp, .bool vc] 44)
  have q3 := heap_alloc_new w2 (.cells #[.int .i64 vk, .int .i64 vw, .int .u64 vp, .bool vc] 44)
  have e4 := box_below (w2.alloc (.cells #[.int .i64 vk, .int .i64 vw, .int .u64 vp, .bool vc] 44)) (.cells a2.cells 56)
  have q4 := heap_alloc_new (w2.alloc (.cells #[.int .i64 vk, .int .i64 vw, .int .u64 vp, .bool vc] 44)) (.cells a2.cells 56)
  rw [World.size_alloc] at q4
  have b34 := e3.trans (e4.mono (by simp))
  have LR2 := Lib.hid ((C1.out.lr.chg c2 (fun k _ hk hh => hh.elim (fun hg => (HC.out.d1 k hg).1 hk) (HC.out.d2 k hk).1) (fun _ _ h => h)).below b34)
  have GR2 := Lib.hid ((C1.out.gr.chg c2 (fun k _ hk hh => hk.elim (fun hf => hh.elim (fun hg => (HC.out.d1 k hg).2.2 hf) (fun h1 => HC.out.d3 k h1 hf)) (fun he => (HC.out.ev k he).1 (XG.out k hh).1)) (fun _ _ h => h) (fun _ _ h => h) C1.out.gr.dj).below b34)
  have R2 := Lib.hid ((R1.out.chg c2 (fun k off e hn hh => HA.out k off e hn (XG.out k hh).1)).below b34)
  have A2 := Lib.hid (hA2.below b34)
  have T0 := Lib.hid ((b34.block _ (by omega)).trans t0)
  have T1 := Lib.hid ((b34.block _ (by omega)).trans t1)
  have T2 := Lib.hid ((b34.block _ (by omega)).trans t2)
  have T3 := Lib.hid ((e4.block _ (by simp)).trans q3)
  have T4 := Lib.hid q4
  have LP2 := Lib.hid lp2
  have GP2 := Lib.hid gp2
  have KF1 := Lib.hid f1
  have KE1 := Lib.hid e1
  have C2 := Lib.hid c2
  have B34 := Lib.hid b34
  have IS2 := Lib.hid is2
  have s34 : ((w2.alloc (.cells #[.int .i64 vk, .int .i64 vw, .int .u64 vp, .bool vc] 44)).alloc (.cells a2.cells 56)).heap.size = w2.heap.size + 2 := by simp
  clear K1 C1 R1 t0 t1 t2 e3 q3 e4 q4 b34 hA2 is2 lp2 gp2 f1 e1 c2 x0 x1 y0 y1 N1 N2 N3
  unfold Ak.cells at *
  unfold Vd.val Ak.val Ak.cells
  simp only
  go_upto_region 2 with fail
  generalize ((w2.alloc (.cells #[.int .i64 vk, .int .i64 vw, .int .u64 vp, .bool vc] 44)).alloc (.cells #[.slice a2.A a2.sp.length a2.c, .slice a2.B a2.mm.length a2.d, .int .u64 a2.tr, .int .u64 a2.xo, .bool a2.od] 56)) = w3 at *
  generalize hh2 : w2.heap.size = h2 at *
  have HH2 := Lib.hid hh2
  clear hh2
  have hX : Hid (∀ k, H k ∨ F2 k → X k ∧ k < w.heap.size) := Lib.hid (fun k hk => HC.out.sub k (hk.elim (fun h => .inr (.inl h)) (fun h => .inr (.inr (.inr h)))))
  have K2 := Lib.hid (gur_take w3 H F2 E r b s g A c l now LR2.out GR2.out (fun k hk => by rcases hk with hk | hk | hk; have := (hX.out k (.inl hk)).2; omega; have := (hX.out k (.inr hk)).2; omega; have := (HC.out.ev k hk).2; omega) (fun k hk => ⟨(HC.out.d2 k hk).2, fun he => (HC.out.ev k he).1 (hX.out k (.inl hk)).1⟩) R2.out HB.out hl hnow hga)
  rw [HO.out] at K2
  have x0 := cell_of_row w3 w.heap.size 0 _ _ _ T0.out
  have x1 := cell_of_row w3 w.heap.size 1 _ _ _ T0.out
  have y0 := cell_of_row w3 (w.heap.size + 1) 0 _ _ _ T1.out
  have y1 := cell_of_row w3 (w.heap.size + 1) 1 _ _ _ T1.out
  go_wp2_with fail
  refine K2.out.mono ?_
  rintro e w4 ⟨a4, rfl, is4, hA4, lr4, ⟨F2', E2', gr4, f2, e2⟩, c4⟩
  obtain ⟨X', E', hBG, hX', hE'⟩ := HC.out.took (by omega) LP2.out GP2.out KF1.out KE1.out C2.out (by rw [HH2.out]; exact B34.out) lr4 gr4 f2 e2 c4
  have hlX : ∀ k, w.heap.size ≤ k → ¬ (H k ∨ F2 k) := fun k hk hh => by have := (hX.out k hh).2; omega
  have hs4 := c4.size
  obtain ⟨q3, q4, b56, s56⟩ := boxes2 w4 (.cells #[.int .i64 vk, .int .i64 vw, .int .u64 vp, .bool vc] 44) (.cells #[.slice a4.A a4.sp.length a4.c, .slice a4.B a4.mm.length a4.d, .int .u64 a4.tr, .int .u64 a4.xo, .bool a4.od] 56)
  have BG := Lib.hid (hBG.below b56)
  have U0 := Lib.hid ((b56.block _ (by omega)).trans (c4.blk T0.out (hlX _ (by omega))))
  have U1 := Lib.hid ((b56.block _ (by omega)).trans (c4.blk T1.out (hlX _ (by omega))))
  have U2 := Lib.hid ((b56.block _ (by omega)).trans (c4.blk T2.out (hlX _ (by omega))))
  have U3 := Lib.hid ((b56.block _ (by have := lt_of_block T3.out; omega)).trans (c4.blk T3.out (hlX _ (by omega))))
  have U4 := Lib.hid ((b56.block _ (by have := lt_of_block T4.out; omega)).trans (c4.blk T4.out (hlX _ (by omega))))
  have U5 := Lib.hid q3
  have U6 := Lib.hid q4
  have V2 := Lib.hid ((A2.out.chg c4 (fun k _ hk => hlX k (by omega)) (E' := fun _ => True) (fun _ _ _ => trivial)).below b56)
  have V4 := Lib.hid (hA4.below b56)
  have IS4 := Lib.hid is4
  have CX : Hid (Chg X w ((w4.alloc (.cells #[.int .i64 vk, .int .i64 vw, .int .u64 vp, .bool vc] 44)).alloc (.cells #[.slice a4.A a4.sp.length a4.c, .slice a4.B a4.mm.length a4.d, .int .u64 a4.tr, .int .u64 a4.xo, .bool a4.od] 56))) := Lib.hid
    ((((((chg_below BB.out).step (C2.out.mono fun k _ hk => (XG.out k hk).1) (fun _ _ h => h)).thenBelow B34.out (by omega)).step (c4.mono fun k _ hk => (hX.out k hk).1) (fun _ _ h => h)).thenBelow b56 (by omega)))
  have KX := Lib.hid (And.intro hX' hE')
  clear K2 x0 x1 y0 y1 is4 hA4 lr4 gr4 f2 e2 c4 hBG hX' hE' b56 q3 q4 LR2 GR2 R2 A2 T0 T1 T2 T3 T4 LP2 GP2 KF1 KE1 C2 B34 XG hX hlX BB
  unfold Vd.val Ak.val Ak.cells
  simp only
  go_upto_region 3 with fail
  generalize ((w4.alloc (.cells #[.int .i64 vk, .int .i64 vw, .int .u64 vp, .bool vc] 44)).alloc (.cells #[.slice a4.A a4.sp.length a4.c, .slice a4.B a4.mm.length a4.d, .int .u64 a4.tr, .int .u64 a4.xo, .bool a4.od] 56)) = w5 at *
  generalize w4.heap.size = h4 at *
  have nn : (w.heap.size ≠ w.heap.size + 2 ∧ w.heap.size + 1 ≠ w.heap.size + 2) ∧ (h2 ≠ w.heap.size + 2 ∧ h2 + 1 ≠ w.heap.size + 2) ∧ (h4 ≠ w.heap.size + 2 ∧ h4 + 1 ≠ w.heap.size + 2) := by omega
  have m0 := mixF_cell (F := fun j => j = w.heap.size + 2) (v := .pointer (some ⟨a, 0, none⟩)) (cell_of_row w5 w.heap.size 0 _ _ _ U0.out) nn.1.1
  have m1 := mixF_cell (F := fun j => j = w.heap.size + 2) (v := .pointer (some ⟨b, 0, none⟩)) (cell_of_row w5 w.heap.size 1 _ _ _ U0.out) nn.1.1
  have m2 := mixF_cell (F := fun j => j = w.heap.size + 2) (v := .pointer (some ⟨p, 0, none⟩)) (cell_of_row w5 (w.heap.size + 1) 0 _ _ _ U1.out) nn.1.2
  have m3 := mixF_cell (F := fun j => j = w.heap.size + 2) (v := .pointer (some ⟨r, 0, none⟩)) (cell_of_row w5 (w.heap.size + 1) 1 _ _ _ U1.out) nn.1.2
  have i0 := mixF_cell (F := fun j => j = w.heap.size + 2) (v := .int .i64 vk) (cell_of_row w5 h2 0 _ _ _ U3.out) nn.2.1.1
  have i1 := mixF_cell (F := fun j => j = w.heap.size + 2) (v := .int .i64 vw) (cell_of_row w5 h2 1 _ _ _ U3.out) nn.2.1.1
  have i2 := mixF_cell (F := fun j => j = w.heap.size + 2) (v := .int .u64 vp) (cell_of_row w5 h2 2 _ _ _ U3.out) nn.2.1.1
  have i3 := mixF_cell (F := fun j => j = w.heap.size + 2) (v := .bool vc) (cell_of_row w5 h2 3 _ _ _ U3.out) nn.2.1.1
  have j0 := mixF_cell (F := fun j => j = w.heap.size + 2) (v := .int .i64 vk) (cell_of_row w5 h4 0 _ _ _ U5.out) nn.2.2.1
  have j1 := mixF_cell (F := fun j => j = w.heap.size + 2) (v := .int .i64 vw) (cell_of_row w5 h4 1 _ _ _ U5.out) nn.2.2.1
  have j2 := mixF_cell (F := fun j => j = w.heap.size + 2) (v := .int .u64 vp) (cell_of_row w5 h4 2 _ _ _ U5.out) nn.2.2.1
  have j3 := mixF_cell (F := fun j => j = w.heap.size + 2) (v := .bool vc) (cell_of_row w5 h4 3 _ _ _ U5.out) nn.2.2.1
  have k0 := mixF_cell (F := fun j => j = w.heap.size + 2) (v := .slice a2.A a2.sp.length a2.c) (cell_of_row w5 (h2 + 1) 0 _ _ _ U4.out) nn.2.1.2
  have k1 := mixF_cell (F := fun j => j = w.heap.size + 2) (v := .slice a2.B a2.mm.length a2.d) (cell_of_row w5 (h2 + 1) 1 _ _ _ U4.out) nn.2.1.2
  have k2 := mixF_cell (F := fun j => j = w.heap.size + 2) (v := .int .u64 a2.tr) (cell_of_row w5 (h2 + 1) 2 _ _ _ U4.out) nn.2.1.2
  have k3 := mixF_cell (F := fun j => j = w.heap.size + 2) (v := .int .u64 a2.xo) (cell_of_row w5 (h2 + 1) 3 _ _ _ U4.out) nn.2.1.2
  have k4 := mixF_cell (F := fun j => j = w.heap.size + 2) (v := .bool a2.od) (cell_of_row w5 (h2 + 1) 4 _ _ _ U4.out) nn.2.1.2
  have l0 := mixF_cell (F := fun j => j = w.heap.size + 2) (v := .slice a4.A a4.sp.length a4.c) (cell_of_row w5 (h4 + 1) 0 _ _ _ U6.out) nn.2.2.2
  have l1 := mixF_cell (F := fun j => j = w.heap.size + 2) (v := .slice a4.B a4.mm.length a4.d) (cell_of_row w5 (h4 + 1) 1 _ _ _ U6.out) nn.2.2.2
  have l2 := mixF_cell (F := fun j => j = w.heap.size + 2) (v := .int .u64 a4.tr) (cell_of_row w5 (h4 + 1) 2 _ _ _ U6.out) nn.2.2.2
  have l3 := mixF_cell (F := fun j => j = w.heap.size + 2) (v := .int .u64 a4.xo) (cell_of_row w5 (h4 + 1) 3 _ _ _ U6.out) nn.2.2.2
  have l4 := mixF_cell (F := fun j => j = w.heap.size + 2) (v := .bool a4.od) (cell_of_row w5 (h4 + 1) 4 _ _ _ U6.out) nn.2.2.2
  have BG6 := Lib.hid (BG.out.below (Below.refl _ _).drew)
  have V26 := Lib.hid (V2.out.below (Below.refl _ _).drew)
  have V46 := Lib.hid (V4.out.below (Below.refl _ _).drew)
  have hls := lt_of_block U2.out
  have Z6 : Hid (w5.drew.heap[w.heap.size + 2]? = some (.cells #[.int .i64 0, .int .i64 0, .int .u64 0, .bool false] 44 (0, 0))) := U2
  clear nn
  refine wp_region_chg (fun j => j = w.heap.size + 2) (by kernel_rfl) (by kernel_rfl) ?_
  repeat (refine wpMix_seg 1 _ _ rfl ?_; simp only [List.take_succ_cons, List.take_zero, List.drop_succ_cons, List.drop_zero]; go_big_quiet_step (fail); refine wpQuiet_nil ?_)
  generalize hw6 : w5.drew = w6 at *
  have HQ : Hid (Below w5.heap.size w5 w6) := Lib.hid (by rw [← hw6]; exact (Below.refl _ _).drew)
  clear hw6
  have KA := Lib.hid (sameAck_yes w6 a2 a4 d V26.out.r V46.out.r IS2.out IS4.out)
  unfold Ak.val Ak.cells at KA
  refine wpMix_bar rfl (by rfl) ?_
  go_wp2_with fail
  refine KA.out.mono ?_
  rintro e w7 ⟨rfl, q7⟩
  have HQ7 := Lib.hid (HQ.out.trans (q7.mono HQ.out.size))
  have BG7 := Lib.hid (BG6.out.below q7)
  clear KA BG6 V26 V46 q7
  go_wp2
  refine ⟨chg_mixF (chg_below HQ7.out), ?_⟩
  repeat (refine wpMix_seg 1 _ _ rfl ?_; simp only [List.take_succ_cons, List.take_zero, List.drop_succ_cons, List.drop_zero]; go_big_quiet_step (fail); refine wpQuiet_nil ?_)
  have KB := Lib.hid (both_same w7 X' E' p r a b s' g' BG7.out)
  refine wpMix_bar rfl (by rfl) ?_
  go_wp2_with fail
  refine KB.out.mono ?_
  rintro e w8 ⟨rfl, q8⟩
  have HQ8 := Lib.hid (HQ7.out.trans (q8.mono HQ7.out.size))
  have BG8 := Lib.hid (BG7.out.below q8)
  clear KB BG7 q8
  go_wp2
  refine ⟨chg_mixF (chg_below HQ8.out), ?_⟩
  repeat (refine wpMix_seg 1 _ _ rfl ?_; simp only [List.take_succ_cons, List.take_zero, List.drop_succ_cons, List.drop_zero]; go_big_quiet_step (fail); refine wpQuiet_nil ?_)
  have KC := Lib.hid (two_same w8 X' p r s' BG8.out.two)
  refine wpMix_bar rfl (by rfl) ?_
  go_wp2_with fail
  refine KC.out.mono ?_
  rintro e w9 ⟨rfl, q9⟩
  have HQ9 := Lib.hid (HQ8.out.trans (q9.mono HQ8.out.size))
  have BG9 := Lib.hid (BG8.out.below q9)
  clear KC BG8 q9
  go_wp2
  refine ⟨chg_mixF (chg_below HQ9.out), ?_⟩
  repeat (refine wpMix_seg 1 _ _ rfl ?_; simp only [List.take_succ_cons, List.take_zero, List.drop_succ_cons, List.drop_zero]; go_big_quiet_step (fail); refine wpQuiet_nil ?_)
  have zr := (HQ9.out.block _ hls).trans U2.out
  have zz0 := cell_of_row w9 (w.heap.size + 2) 0 _ _ _ zr
  have fzz0 := frozen_of_row w9 (w.heap.size + 2) 0 _ _ zr
  have zz1 := cell_of_row w9 (w.heap.size + 2) 1 _ _ _ zr
  have fzz1 := frozen_of_row w9 (w.heap.size + 2) 1 _ _ zr
  have zz2 := cell_of_row w9 (w.heap.size + 2) 2 _ _ _ zr
  have fzz2 := frozen_of_row w9 (w.heap.size + 2) 2 _ _ zr
  have zz3 := cell_of_row w9 (w.heap.size + 2) 3 _ _ _ zr
  have fzz3 := frozen_of_row w9 (w.heap.size + 2) 3 _ _ zr
  have f1 := fill_all [.int .i64 vk, .int .i64 vw, .int .u64 vp, .bool vc] zr rfl
  have c1 := fill_chg (w.heap.size + 2) [.int .i64 vk, .int .i64 vw, .int .u64 vp, .bool vc] w9 0
  simp only [fillFrom] at f1 c1
  have FF := Lib.hid f1
  have CC := Lib.hid c1
  clear zr f1 c1
  refine wpMix_bar rfl (by rfl) ?_
  go_wp2
  refine ⟨chg_mixF ((chg_below HQ9.out).step CC.out (fun _ _ h => h)), ?_⟩
  repeat (refine wpMix_seg 1 _ _ rfl ?_; simp only [List.take_succ_cons, List.take_zero, List.drop_succ_cons, List.drop_zero]; go_big_quiet_step (fail); refine wpQuiet_nil ?_)
  refine wpMix_nil ?_
  go_wp2
  refine bodyPost_ret (results_cell_tmp_row rfl _ _ (w.heap.size + 2) _ _ _ _ rfl FF.out Tryz.underlying44 rfl infoVd) rfl ?_
  rw [HO.out]
  refine ⟨rfl, ⟨X', E', (BG9.out.chg CC.out (fun k hk hx e => ?_)), fun k hk => (KX.out.1 k hk).elim (fun e => .inl e.1) (fun e => .inr (by omega)), fun k hk => (KX.out.2 k hk).elim (fun e => .inl e.1) (fun e => .inr (by omega))⟩, ((CX.out.thenBelow HQ9.out CX.out.size)).trans (CC.out.mono fun k _ e => .inr (by have : k = w.heap.size + 2 := e; omega))⟩
  have : k = w.heap.size + 2 := e
  exact hx.elim (fun h => (KX.out.1 k h).elim (fun e => by omega) (fun e => by omega)) (fun h => (KX.out.2 k h).elim (fun e => by omega) (fun e => by omega))

end Go.Proofs.YtelaimephejkkaaGreat
