/-
  Walks of package ledger: Get, Use, Settle.
-/
import Derived.Test.YteigflkpopcjkaaLed2
import Derived.Laws.ResultCell
namespace Go.Proofs.Yteigflkpopcjkaa
set_option linter.unusedSimpArgs false
set_option linter.unusedVariables false
set_option linter.unnecessarySimpa false
open Go.RowKit

def Snt.val (s : Snt) : Value := .agg #[.int .u64 s.pn, .int .u64 s.off, .int .u64 s.len, .int .u64 s.nonce, .int .u64 s.at_, .bool s.coin, .bool s.used, .int .i64 s.state]

/-- The cells of the number that is asked for. -/
theorem LedAt.cells {w : World} {F : Nat → Prop} {b g c : Nat} {s : LS} (h : LedAt w F b g c s) {pn : Int} (hp : s.has pn) {i : Nat} (hi : pn.toNat - s.low = i) :
    w.cell? ⟨g, i * 8, none⟩ = some (.int .u64 (s.at' pn).pn) ∧ w.cell? ⟨g, i * 8 + 1, none⟩ = some (.int .u64 (s.at' pn).off) ∧
      w.cell? ⟨g, i * 8 + 2, none⟩ = some (.int .u64 (s.at' pn).len) ∧ w.cell? ⟨g, i * 8 + 3, none⟩ = some (.int .u64 (s.at' pn).nonce) ∧
      w.cell? ⟨g, i * 8 + 4, none⟩ = some (.int .u64 (s.at' pn).at_) ∧ w.cell? ⟨g, i * 8 + 5, none⟩ = some (.bool (s.at' pn).coin) ∧
      w.cell? ⟨g, i * 8 + 6, none⟩ = some (.bool (s.at' pn).used) ∧ w.cell? ⟨g, i * 8 + 7, none⟩ = some (.int .i64 (s.at' pn).state) := by
  subst hi
  obtain ⟨hk, e⟩ := s.kept_at hp
  obtain ⟨bb, off, ea, d⟩ := (Rd.of_own h.own).snt hk
  injection ea with ea
  injection ea with e1 e2 _
  subst e1
  subst e2
  rw [e] at d
  simpa using d

set_option maxHeartbeats 1600000 in
theorem led_get (w : World) (F : Nat → Prop) (b : Nat) (s : LS) (pn : Int) (h : LedP w F b s) (hu : isU64 pn) :
    Calls Try.prog 37 #[.pointer (some ⟨b, 0, none⟩), .int .u64 pn] w fun e w' => e = .returned (.tuple #[(s.get pn).1.val, .bool (s.get pn).2]) ∧ Below w.heap.size w w' := by
  by_cases hp : s.has pn
  · have hg : s.get pn = (s.at' pn, true) := by simp [LS.get, hp]
    have Hg := Lib.hid hg
    clear hg
    obtain ⟨g, c, ha⟩ := h.open_ (by have := (s.kept_at hp).1; omega)
    have gd := h.good
    generalize hi : pn.toNat - s.low = i
    obtain ⟨d0, d1, d2, d3, d4, d5, d6, d7⟩ := ha.cells hp hi
    have HA1 : Hid (LedAt (w.alloc (.cells #[.int .u64 0, .int .u64 0, .int .u64 0, .int .u64 0, .int .u64 0, .bool false, .bool false, .int .i64 0] 32)) F b g c s) := ⟨(Below.heap_alloc _ _ _ (Array.getElem?_eq_some_iff.1 ha.blk).1).trans ha.blk, ha.own.alloc _, ha.fb, ha.fg, ha.ne⟩
    have Gd := Lib.hid gd
    have Hi := Lib.hid hi
    have hlt : g < w.heap.size := block_lt_of_cell d0
    clear h ha gd hi
    generalize s.at' pn = x at *
    have eb : Below w.heap.size w (w.alloc (.cells #[.int .u64 0, .int .u64 0, .int .u64 0, .int .u64 0, .int .u64 0, .bool false, .bool false, .int .i64 0] 32)) := (Below.refl _ _).alloc (Nat.le_refl _) _
    go_enter Try.func37, Try.ntmps37
    go_wp2_with fail
    refine (led_find_yes _ F b g c s pn HA1.out Gd.out hu hp).mono ?_
    rw [Hi.out]
    rintro e w1 ⟨rfl, q1⟩
    have HB := q1.blk (heap_alloc_new w (.cells #[.int .u64 0, .int .u64 0, .int .u64 0, .int .u64 0, .int .u64 0, .bool false, .bool false, .int .i64 0] 32))
    have b0 := cell_of_row w1 w.heap.size 0 _ _ _ HB
    have f0 := frozen_of_row w1 w.heap.size 0 _ _ HB
    have b1 := cell_of_row w1 w.heap.size 1 _ _ _ HB
    have f1 := frozen_of_row w1 w.heap.size 1 _ _ HB
    have b2 := cell_of_row w1 w.heap.size 2 _ _ _ HB
    have f2 := frozen_of_row w1 w.heap.size 2 _ _ HB
    have b3 := cell_of_row w1 w.heap.size 3 _ _ _ HB
    have f3 := frozen_of_row w1 w.heap.size 3 _ _ HB
    have b4 := cell_of_row w1 w.heap.size 4 _ _ _ HB
    have f4 := frozen_of_row w1 w.heap.size 4 _ _ HB
    have b5 := cell_of_row w1 w.heap.size 5 _ _ _ HB
    have f5 := frozen_of_row w1 w.heap.size 5 _ _ HB
    have b6 := cell_of_row w1 w.heap.size 6 _ _ _ HB
    have f6 := frozen_of_row w1 w.heap.size 6 _ _ HB
    have b7 := cell_of_row w1 w.heap.size 7 _ _ _ HB
    have f7 := frozen_of_row w1 w.heap.size 7 _ _ HB
    have e0 := q1.cell ((World.cell?_alloc_lt w (.cells #[.int .u64 0, .int .u64 0, .int .u64 0, .int .u64 0, .int .u64 0, .bool false, .bool false, .int .i64 0] 32) _ hlt).trans d0)
    have e1 := q1.cell ((World.cell?_alloc_lt w (.cells #[.int .u64 0, .int .u64 0, .int .u64 0, .int .u64 0, .int .u64 0, .bool false, .bool false, .int .i64 0] 32) _ hlt).trans d1)
    have e2 := q1.cell ((World.cell?_alloc_lt w (.cells #[.int .u64 0, .int .u64 0, .int .u64 0, .int .u64 0, .int .u64 0, .bool false, .bool false, .int .i64 0] 32) _ hlt).trans d2)
    have e3 := q1.cell ((World.cell?_alloc_lt w (.cells #[.int .u64 0, .int .u64 0, .int .u64 0, .int .u64 0, .int .u64 0, .bool false, .bool false, .int .i64 0] 32) _ hlt).trans d3)
    have e4 := q1.cell ((World.cell?_alloc_lt w (.cells #[.int .u64 0, .int .u64 0, .int .u64 0, .int .u64 0, .int .u64 0, .bool false, .bool false, .int .i64 0] 32) _ hlt).trans d4)
    have e5 := q1.cell ((World.cell?_alloc_lt w (.cells #[.int .u64 0, .int .u64 0, .int .u64 0, .int .u64 0, .int .u64 0, .bool false, .bool false, .int .i64 0] 32) _ hlt).trans d5)
    have e6 := q1.cell ((World.cell?_alloc_lt w (.cells #[.int .u64 0, .int .u64 0, .int .u64 0, .int .u64 0, .int .u64 0, .bool false, .bool false, .int .i64 0] 32) _ hlt).trans d6)
    have e7 := q1.cell ((World.cell?_alloc_lt w (.cells #[.int .u64 0, .int .u64 0, .int .u64 0, .int .u64 0, .int .u64 0, .bool false, .bool false, .int .i64 0] 32) _ hlt).trans d7)
    have hb1 := eb.trans (q1.below (B := w.heap.size))
    clear HB q1 eb
    go_wp2
    (try simp only [Exit.inBlock, Exit.then])
    refine bodyPost_ret (v := .tuple #[x.val, .bool true]) ?_ rfl ⟨by rw [Hg.out], ?_⟩
    · rw [results_cell_tmp rfl]
      unfold Snt.val
      go_simp
    · iterate 8 (refine Below.setCell ?_ (by exact Nat.le_refl _) _)
      exact hb1
  · have Hg := Lib.hid (show s.get pn = (LS.zero, false) by simp [LS.get, hp])
    have eb : Below w.heap.size w (w.alloc (.cells #[.int .u64 0, .int .u64 0, .int .u64 0, .int .u64 0, .int .u64 0, .bool false, .bool false, .int .i64 0] 32)) := (Below.refl _ _).alloc (Nat.le_refl _) _
    have HP := Lib.hid (h.below eb)
    have Hp := Lib.hid hp
    clear h hp
    go_enter Try.func37, Try.ntmps37
    go_wp2_with fail
    refine (led_find_no _ F b s pn HP.out hu Hp.out).mono ?_
    rintro e w1 ⟨rfl, q1⟩
    have HB := q1.blk (heap_alloc_new w (.cells #[.int .u64 0, .int .u64 0, .int .u64 0, .int .u64 0, .int .u64 0, .bool false, .bool false, .int .i64 0] 32))
    have b0 := cell_of_row w1 w.heap.size 0 _ _ _ HB
    have f0 := frozen_of_row w1 w.heap.size 0 _ _ HB
    have b1 := cell_of_row w1 w.heap.size 1 _ _ _ HB
    have f1 := frozen_of_row w1 w.heap.size 1 _ _ HB
    have b2 := cell_of_row w1 w.heap.size 2 _ _ _ HB
    have f2 := frozen_of_row w1 w.heap.size 2 _ _ HB
    have b3 := cell_of_row w1 w.heap.size 3 _ _ _ HB
    have f3 := frozen_of_row w1 w.heap.size 3 _ _ HB
    have b4 := cell_of_row w1 w.heap.size 4 _ _ _ HB
    have f4 := frozen_of_row w1 w.heap.size 4 _ _ HB
    have b5 := cell_of_row w1 w.heap.size 5 _ _ _ HB
    have f5 := frozen_of_row w1 w.heap.size 5 _ _ HB
    have b6 := cell_of_row w1 w.heap.size 6 _ _ _ HB
    have f6 := frozen_of_row w1 w.heap.size 6 _ _ HB
    have b7 := cell_of_row w1 w.heap.size 7 _ _ _ HB
    have f7 := frozen_of_row w1 w.heap.size 7 _ _ HB
    have hb1 := eb.trans (q1.below (B := w.heap.size))
    clear HB q1 eb
    go_wp2
    (try simp only [Exit.inBlock, Exit.then])
    refine bodyPost_ret (v := .tuple #[LS.zero.val, .bool false]) ?_ rfl ⟨by rw [Hg.out], ?_⟩
    · rw [results_cell_tmp rfl]
      unfold Snt.val LS.zero
      go_simp
    · iterate 8 (refine Below.setCell ?_ (by exact Nat.le_refl _) _)
      exact hb1

end Go.Proofs.Yteigflkpopcjkaa
