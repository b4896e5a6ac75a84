/-
  Walks of the game: what a draw comes to. · Walks of the game: counts over all draws. · Walks of the game: alike verdicts; a sketch.
-/
import Derived.Test.YtpfmhkkglaghgaaGam5
namespace Go.Proofs.Ytpfmhkkglaghgaa
set_option linter.unusedSimpArgs false
set_option linter.unusedVariables false
set_option linter.unnecessarySimpa false
open Go.RowKit

structure TS where
  luck : Bool
  times : Nat
  seen : Nat
def freshX (g : Gm) (m : Mv) : Nat := (g.marked &&& m.claim) &&& (15 - m.mark)
def tstep (g : Gm) (s : TS) (x : Vd × Mv) : TS :=
  if x.1.kind = 2 then ⟨s.luck || !(x.2.claim &&& (15 - g.came) == 0), if freshX g x.2 &&& (15 - s.seen) = 0 then s.times else s.times + 1, s.seen ||| freshX g x.2⟩ else s
def tallyTo (g : Gm) (l : List (Vd × Mv)) (j : Nat) : TS := (l.take j).foldl (tstep g) ⟨false, 0, 0⟩
def tallyN (g : Gm) (k : Nat) : TS := tallyTo g (playedN g k 0) (playedN g k 0).length
theorem tally_step (g : Gm) (l : List (Vd × Mv)) {j : Nat} (hj : j < l.length) : tallyTo g l (j + 1) = tstep g (tallyTo g l j) l[j] := by
  unfold tallyTo
  rw [List.take_succ_eq_append_getElem hj, List.foldl_append]
  rfl
theorem and15 : ∀ a, a < 16 → ∀ b, b < 16 → a &&& (15 - b) < 16 := by decide +kernel
theorem tstep_lt {g : Gm} {s : TS} {x : Vd × Mv} (hs : s.seen < 16 ∧ s.times ≤ 1000) (hm : g.marked < 16) (hx : x.2.claim < 16 ∧ x.2.mark < 16) : (tstep g s x).seen < 16 ∧ (tstep g s x).times ≤ s.times + 1 := by
  unfold tstep
  split
  · refine ⟨or_lt16 _ hs.1 _ (and15 _ (and_lt16 _ hm _ hx.1) _ hx.2), ?_⟩
    show (if _ then s.times else s.times + 1) ≤ _
    by_cases h : freshX g x.2 &&& (15 - s.seen) = 0
    · rw [if_pos h]; omega
    · rw [if_neg h]; omega
  · exact ⟨hs.1, by omega⟩
theorem playN_mem (g : Gm) (k : Nat) : ∀ (ms : List Mv) (v : Int) (s : LS) (q : GS) (x : Vd × Mv), x ∈ playN g k ms v s q → x.2 ∈ ms := by
  intro ms
  induction ms with
  | nil => intro v s q x h; cases h
  | cons m ms ih =>
    intro v s q x h
    unfold playN at h
    split at h
    · exact List.mem_cons_of_mem _ (ih _ _ _ _ h)
    · rcases List.mem_cons.1 h with rfl | h
      · exact List.mem_cons_self
      · split at h
        · cases h
        · exact List.mem_cons_of_mem _ (ih _ _ _ _ h)
theorem playN_len (g : Gm) (k : Nat) : ∀ (ms : List Mv) (v : Int) (s : LS) (q : GS), (playN g k ms v s q).length ≤ ms.length := by
  intro ms
  induction ms with
  | nil => intro v s q; exact Nat.le_refl _
  | cons m ms ih =>
    intro v s q
    unfold playN
    split
    · have := ih v s q; simp only [List.length_cons]; omega
    · simp only [List.length_cons]
      split
      · simp
      · exact Nat.succ_le_succ (ih _ _ _)
theorem Rd.vd {w : World} {A : Option Addr} {n c : Nat} {l : List Vd} (h : Rd w 4 A n c (Vds l)) {i : Nat} (hi : i < l.length) :
    ∃ b off, A = some ⟨b, off, none⟩ ∧ w.cell? ⟨b, off + i * 4, none⟩ = some (.int .i64 l[i].kind) ∧ w.cell? ⟨b, off + i * 4 + 1, none⟩ = some (.int .i64 l[i].why) ∧
      w.cell? ⟨b, off + i * 4 + 2, none⟩ = some (.int .u64 l[i].pn) ∧ w.cell? ⟨b, off + i * 4 + 3, none⟩ = some (.bool l[i].ch) := by
  obtain ⟨b, off, e, hc⟩ := Rd.elem (f := Vd.vals) (k := 4) (fun _ => rfl) h (by omega) hi
  exact ⟨b, off, e, hc 0 _ rfl, hc 1 _ rfl, hc 2 _ rfl, hc 3 _ rfl⟩

set_option maxHeartbeats 4000000 in
set_option maxRecDepth 100000 in
theorem gam_tally (g : Gm) (k : Nat) (A : Option Addr) (c : Nat) (w : World) (hg : g.ok) (hk : k < 18446744073709551616) (hr : Rd w 6 A g.moves.length c (Mvs g.moves)) :
    Calls Try.prog 14 #[gmVal g A c, .int .u64 k] w fun e w' => e = .returned (.tuple #[.bool (tallyN g k).luck, .int .i64 (tallyN g k).times]) ∧ Below w.heap.size w w' := by
  have b0 := box_below w (.cells #[.int .i64 g.b, .int .i64 g.n, .int .i64 g.came, .int .i64 g.marked, .slice A g.moves.length c] 26)
  have n0 := heap_alloc_new w (.cells #[.int .i64 g.b, .int .i64 g.n, .int .i64 g.came, .int .i64 g.marked, .slice A g.moves.length c] 26)
  have B0 := Lib.hid b0
  have N0 := Lib.hid n0
  have HR := Lib.hid (hr.below b0)
  have s0 : (w.alloc (.cells #[.int .i64 g.b, .int .i64 g.n, .int .i64 g.came, .int .i64 g.marked, .slice A g.moves.length c] 26)).heap.size = w.heap.size + 1 := by simp
  have GO := Lib.hid hg
  have p16 : 2 ^ g.n ≤ 16 := Nat.pow_le_pow_right (n := 2) (by decide) (j := 4) hg.n4
  have hca : g.came < 16 := Nat.lt_of_lt_of_le hg.came p16
  have hma : g.marked < 16 := Nat.lt_of_le_of_lt (Nat.le_of_testBit hg.marked) hca
  have PL : Hid ((playedN g k 0).length ≤ 8) := Lib.hid (Nat.le_trans (playN_len _ _ _ _ _ _) hg.len)
  have PM : Hid (∀ x ∈ playedN g k 0, x.2.claim < 16 ∧ x.2.mark < 16) := Lib.hid (fun x hx => by
    have o := GO.out.moves _ (playN_mem _ _ _ _ _ _ _ hx)
    have h1 := Nat.lt_of_lt_of_le o.claim p16
    exact ⟨h1, Nat.lt_of_le_of_lt (Nat.le_of_testBit o.mark) h1⟩)
  clear hr b0 n0 hg p16
  unfold gmVal
  go_enter Try.func14, Try.ntmps14
  go_upto_region 1 with fail
  generalize (w.alloc (.cells #[.int .i64 g.b, .int .i64 g.n, .int .i64 g.came, .int .i64 g.marked, .slice A g.moves.length c] 26)) = w1 at *
  have y0 := cell_of_row w1 w.heap.size 0 _ _ _ N0.out
  have y1 := cell_of_row w1 w.heap.size 1 _ _ _ N0.out
  have y2 := cell_of_row w1 w.heap.size 2 _ _ _ N0.out
  have y3 := cell_of_row w1 w.heap.size 3 _ _ _ N0.out
  have y4 := cell_of_row w1 w.heap.size 4 _ _ _ N0.out
  have K := Lib.hid (gam_played g k A c w1 GO.out hk HR.out)
  unfold gmVal at K
  go_wp2_with fail
  (with_reducible refine K.out.mono ?_)
  rintro e w2 ⟨VA, vc, MA, mc, rfl, rv, rm, b2⟩
  have B2 := Lib.hid (B0.out.trans (b2.mono (by omega)))
  have N2 := Lib.hid ((b2.block _ (lt_of_block N0.out)).trans N0.out)
  have RV := Lib.hid rv
  have RM := Lib.hid rm
  have TN : Hid (tallyN g k = tallyTo g (playedN g k 0) (playedN g k 0).length) := Lib.hid rfl
  generalize playedN g k 0 = l at *
  have s2 := b2.size
  clear K b2 N0 y0 y1 y2 y3 y4 rv rm
  have y0 := cell_of_row w2 w.heap.size 0 _ _ _ N2.out
  have y1 := cell_of_row w2 w.heap.size 1 _ _ _ N2.out
  have y2 := cell_of_row w2 w.heap.size 2 _ _ _ N2.out
  have y3 := cell_of_row w2 w.heap.size 3 _ _ _ N2.out
  have y4 := cell_of_row w2 w.heap.size 4 _ _ _ N2.out
  go_wp2_with fail
  go_loopw [4, 5, 8, 20] (fun v4 v5 v8 iv wr => ∃ (j : Nat) (s : TS), j ≤ l.length ∧ iv = .int .i64 j ∧ v4 = .bool s.luck ∧ v5 = .int .i64 s.times ∧ v8 = .int .i64 s.seen ∧ Hid (s = tallyTo g l j) ∧ s.seen < 16 ∧ s.times ≤ j ∧ Hid (Below w2.heap.size w2 wr)) (fun _ _ _ iv _ => l.length - (intOf iv).toNat)
  case atStart => exact ⟨0, ⟨false, 0, 0⟩, Nat.zero_le _, rfl, rfl, rfl, rfl, Lib.hid rfl, by decide, Nat.le_refl _, Lib.hid (Below.refl _ _)⟩
  case round =>
    obtain ⟨j, s, hj, rfl, rfl, rfl, rfl, HS, h16, ht, B1⟩ := hrel
    by_cases hlt : j < l.length
    · obtain ⟨vb, vo, eV, a0, a1, a2, a3⟩ := (RV.out.below B1.out).vd (i := j) (by simpa using hlt)
      obtain ⟨mb, mo, eM, d0, d1, d2, d3, d4, d5⟩ := (RM.out.below B1.out).mv (i := j) (by simpa using hlt)
      have xv := RV.out.cap
      have xv2 := RV.out.max
      have xm := RM.out.cap
      have xm2 := RM.out.max
      unfold maxLen at xv2 xm2
      simp only [List.getElem_map] at a0 a1 a2 a3 d0 d1 d2 d3 d4 d5
      have hx := PM.out _ (List.getElem_mem hlt)
      have HT := Lib.hid (tally_step g l hlt)
      rw [← HS.out] at HT
      have y2 := (B1.out.cell (p := ⟨w.heap.size, 2, none⟩) (by show w.heap.size < w2.heap.size; omega)).trans y2
      have y3 := (B1.out.cell (p := ⟨w.heap.size, 3, none⟩) (by show w.heap.size < w2.heap.size; omega)).trans y3
      have hwl : w.heap.size < wr.heap.size := by have := B1.out.size; omega
      have l8 := PL.out
      subst eV
      subst eM
      generalize l[j] = x at *
      obtain ⟨⟨kd, why, pn, ch⟩, m⟩ := x
      simp only at a0 a1 a2 a3 d0 d1 d2 d3 d4 d5 hx HT
      have hw0 : Hid (Below wr.heap.size wr (wr.alloc (.cells #[.int .i64 kd, .int .i64 why, .int .u64 pn, .bool ch] 39))) := Lib.hid (box_below _ _)
      by_cases hk2 : kd = 2
      · subst hk2
        have HL := Lib.hid (tstep_lt (x := (⟨2, why, pn, ch⟩, m)) ⟨h16, by omega⟩ hma hx)
        have e1 := andNot_i64 m.claim hx.1 g.came hca
        have e2 := and_i64 g.marked hma m.claim hx.1
        have e3 : bits .andNot .i64 ((g.marked &&& m.claim : Nat) : Int) (m.mark : Int) = (freshX g m : Int) := andNot_i64 _ (and_lt16 _ hma _ hx.1) m.mark hx.2
        have f16 : freshX g m < 16 := and15 _ (and_lt16 _ hma _ hx.1) _ hx.2
        have e4 := andNot_i64 (freshX g m) f16 s.seen h16
        have e5 := or_i64 s.seen h16 (freshX g m) f16
        have wt : IntKind.i64.wrap ((s.times : Int) + 1) = (s.times : Int) + 1 := IntWalk.i64_in _ (by omega)
        by_cases hl : m.claim &&& (15 - g.came) = 0
        · rw [hl] at e1
          by_cases hf : freshX g m &&& (15 - s.seen) = 0
          · rw [hf] at e4
            have E0 : Hid (tstep g s (⟨2, why, pn, ch⟩, m) = ⟨s.luck, s.times, s.seen ||| freshX g m⟩) := Lib.hid (by unfold tstep; rw [if_pos rfl]; simp [hl, hf])
            go_upto_region 7 with fail
            have d0 := (hw0.out.cell (block_lt_of_cell d0)).trans d0
            have d1 := (hw0.out.cell (block_lt_of_cell d1)).trans d1
            have y2 := (hw0.out.cell (block_lt_of_cell y2)).trans y2
            have y3 := (hw0.out.cell (block_lt_of_cell y3)).trans y3
            have BX := Lib.hid (B1.out.trans (hw0.out.mono B1.out.size))
            clear hw0 a0 a1 a2 a3 d2 d3 d4 d5
            generalize (wr.alloc (.cells #[.int .i64 2, .int .i64 why, .int .u64 pn, .bool ch] 39)) = wx at *
            refine wp_region_qt (by kernel_rfl) (by kernel_rfl) ?_
            repeat (go_big_quiet_step (fail))
            refine wpQuiet_nil ?_
            intro w7 q7
            obtain ⟨n7, rfl⟩ := q7
            go_upto_region 9 with fail
            refine wp_region_qt (by kernel_rfl) (by kernel_rfl) ?_
            repeat (go_big_quiet_step (fail))
            refine wpQuiet_nil ?_
            intro w9 q9
            obtain ⟨n9, rfl⟩ := q9
            go_wp2
            go_roundw
            case rel => exact ⟨j + 1, _, by omega, by go_num, by rw [E0.out], by rw [E0.out] <;> first | rfl | go_num, by rw [E0.out], Lib.hid HT.out.symm, HL.out.1, by have := HL.out.2; omega, Lib.hid (BX.out.trans (by first | exact (Qt.below ⟨n7, rfl⟩).trans (Qt.below ⟨n9, rfl⟩) | exact Qt.below ⟨_, rfl⟩))⟩
            case measure => simp [intOf]; omega
          · have E0 : Hid (tstep g s (⟨2, why, pn, ch⟩, m) = ⟨s.luck, s.times + 1, s.seen ||| freshX g m⟩) := Lib.hid (by unfold tstep; rw [if_pos rfl]; simp [hl, hf])
            have k2 : (((freshX g m &&& (15 - s.seen) : Nat) : Int) != 0) = true := by simpa using hf
            clear hf
            go_upto_region 7 with fail
            have d0 := (hw0.out.cell (block_lt_of_cell d0)).trans d0
            have d1 := (hw0.out.cell (block_lt_of_cell d1)).trans d1
            have y2 := (hw0.out.cell (block_lt_of_cell y2)).trans y2
            have y3 := (hw0.out.cell (block_lt_of_cell y3)).trans y3
            have BX := Lib.hid (B1.out.trans (hw0.out.mono B1.out.size))
            clear hw0 a0 a1 a2 a3 d2 d3 d4 d5
            generalize (wr.alloc (.cells #[.int .i64 2, .int .i64 why, .int .u64 pn, .bool ch] 39)) = wx at *
            refine wp_region_qt (by kernel_rfl) (by kernel_rfl) ?_
            repeat (go_big_quiet_step (fail))
            refine wpQuiet_nil ?_
            intro w7 q7
            obtain ⟨n7, rfl⟩ := q7
            go_upto_region 9 with fail
            refine wp_region_qt (by kernel_rfl) (by kernel_rfl) ?_
            repeat (go_big_quiet_step (fail))
            refine wpQuiet_nil ?_
            intro w9 q9
            obtain ⟨n9, rfl⟩ := q9
            go_wp2
            go_roundw
            case rel => exact ⟨j + 1, _, by omega, by go_num, by rw [E0.out], by rw [E0.out] <;> first | rfl | go_num, by rw [E0.out], Lib.hid HT.out.symm, HL.out.1, by have := HL.out.2; omega, Lib.hid (BX.out.trans (by first | exact (Qt.below ⟨n7, rfl⟩).trans (Qt.below ⟨n9, rfl⟩) | exact Qt.below ⟨_, rfl⟩))⟩
            case measure => simp [intOf]; omega
        · by_cases hf : freshX g m &&& (15 - s.seen) = 0
          · rw [hf] at e4
            have E0 : Hid (tstep g s (⟨2, why, pn, ch⟩, m) = ⟨true, s.times, s.seen ||| freshX g m⟩) := Lib.hid (by unfold tstep; rw [if_pos rfl]; simp [hl, hf])
            have k1 : (((m.claim &&& (15 - g.came) : Nat) : Int) != 0) = true := by simpa using hl
            clear hl
            go_upto_region 7 with fail
            have d0 := (hw0.out.cell (block_lt_of_cell d0)).trans d0
            have d1 := (hw0.out.cell (block_lt_of_cell d1)).trans d1
            have y2 := (hw0.out.cell (block_lt_of_cell y2)).trans y2
            have y3 := (hw0.out.cell (block_lt_of_cell y3)).trans y3
            have BX := Lib.hid (B1.out.trans (hw0.out.mono B1.out.size))
            clear hw0 a0 a1 a2 a3 d2 d3 d4 d5
            generalize (wr.alloc (.cells #[.int .i64 2, .int .i64 why, .int .u64 pn, .bool ch] 39)) = wx at *
            refine wp_region_qt (by kernel_rfl) (by kernel_rfl) ?_
            repeat (go_big_quiet_step (fail))
            refine wpQuiet_nil ?_
            intro w7 q7
            obtain ⟨n7, rfl⟩ := q7
            go_upto_region 9 with fail
            refine wp_region_qt (by kernel_rfl) (by kernel_rfl) ?_
            repeat (go_big_quiet_step (fail))
            refine wpQuiet_nil ?_
            intro w9 q9
            obtain ⟨n9, rfl⟩ := q9
            go_wp2
            go_roundw
            case rel => exact ⟨j + 1, _, by omega, by go_num, by rw [E0.out], by rw [E0.out] <;> first | rfl | go_num, by rw [E0.out], Lib.hid HT.out.symm, HL.out.1, by have := HL.out.2; omega, Lib.hid (BX.out.trans (by first | exact (Qt.below ⟨n7, rfl⟩).trans (Qt.below ⟨n9, rfl⟩) | exact Qt.below ⟨_, rfl⟩))⟩
            case measure => simp [intOf]; omega
          · have E0 : Hid (tstep g s (⟨2, why, pn, ch⟩, m) = ⟨true, s.times + 1, s.seen ||| freshX g m⟩) := Lib.hid (by unfold tstep; rw [if_pos rfl]; simp [hl, hf])
            have k1 : (((m.claim &&& (15 - g.came) : Nat) : Int) != 0) = true := by simpa using hl
            have k2 : (((freshX g m &&& (15 - s.seen) : Nat) : Int) != 0) = true := by simpa using hf
            clear hl
            clear hf
            go_upto_region 7 with fail
            have d0 := (hw0.out.cell (block_lt_of_cell d0)).trans d0
            have d1 := (hw0.out.cell (block_lt_of_cell d1)).trans d1
            have y2 := (hw0.out.cell (block_lt_of_cell y2)).trans y2
            have y3 := (hw0.out.cell (block_lt_of_cell y3)).trans y3
            have BX := Lib.hid (B1.out.trans (hw0.out.mono B1.out.size))
            clear hw0 a0 a1 a2 a3 d2 d3 d4 d5
            generalize (wr.alloc (.cells #[.int .i64 2, .int .i64 why, .int .u64 pn, .bool ch] 39)) = wx at *
            refine wp_region_qt (by kernel_rfl) (by kernel_rfl) ?_
            repeat (go_big_quiet_step (fail))
            refine wpQuiet_nil ?_
            intro w7 q7
            obtain ⟨n7, rfl⟩ := q7
            go_upto_region 9 with fail
            refine wp_region_qt (by kernel_rfl) (by kernel_rfl) ?_
            repeat (go_big_quiet_step (fail))
            refine wpQuiet_nil ?_
            intro w9 q9
            obtain ⟨n9, rfl⟩ := q9
            go_wp2
            go_roundw
            case rel => exact ⟨j + 1, _, by omega, by go_num, by rw [E0.out], by rw [E0.out] <;> first | rfl | go_num, by rw [E0.out], Lib.hid HT.out.symm, HL.out.1, by have := HL.out.2; omega, Lib.hid (BX.out.trans (by first | exact (Qt.below ⟨n7, rfl⟩).trans (Qt.below ⟨n9, rfl⟩) | exact Qt.below ⟨_, rfl⟩))⟩
            case measure => simp [intOf]; omega
      · have hn : (kd != 2) = true := by simpa using hk2
        have E0 : Hid (tstep g s (⟨kd, why, pn, ch⟩, m) = s) := Lib.hid (by unfold tstep; rw [if_neg hk2])
        clear hk2
        go_wp2
        go_roundw
        case rel => exact ⟨j + 1, s, by omega, by go_num, rfl, rfl, rfl, Lib.hid (by rw [HT.out, E0.out]), h16, by omega, Lib.hid (by have := hw0.out; exact B1.out.trans (this.mono B1.out.size))⟩
        case measure => simp [intOf]; omega
    · obtain rfl : j = l.length := by omega
      go_wp2
      go_ret2
      exact ⟨by rw [TN.out, ← HS.out]; rfl, B2.out.trans (B1.out.mono (by omega))⟩

end Go.Proofs.Ytpfmhkkglaghgaa

namespace Go.Proofs.Ytpfmhkkglaghgaa
set_option linter.unusedSimpArgs false
set_option linter.unusedVariables false
set_option linter.unnecessarySimpa false
open Go.RowKit

def countTo (p : Nat → Bool) (d : Nat) : Nat := ((List.range d).filter p).length
theorem count_step (p : Nat → Bool) (d : Nat) : countTo p (d + 1) = if p d then countTo p d + 1 else countTo p d := by
  unfold countTo
  rw [List.range_succ, List.filter_append, List.length_append]
  cases h : p d <;> simp [h]
theorem count_le (p : Nat → Bool) (d : Nat) : countTo p d ≤ d := by
  unfold countTo
  have := List.length_filter_le p (List.range d)
  simpa using this
def luckyN (g : Gm) : Nat := countTo (fun k => (tallyN g k).luck) g.draws
def hiddenP (g : Gm) (n : Int) (k : Nat) : Bool := !(tallyN g k).luck && decide (((tallyN g k).times : Int) ≥ n)
def hiddenN (g : Gm) (n : Int) : Nat := countTo (hiddenP g n) g.draws

set_option maxHeartbeats 4000000 in
set_option maxRecDepth 100000 in
theorem gam_lucky (g : Gm) (A : Option Addr) (c : Nat) (w : World) (hg : g.ok) (hr : Rd w 6 A g.moves.length c (Mvs g.moves)) :
    Calls Try.prog 8 #[gmVal g A c] w fun e w' => e = .returned (.int .u64 (luckyN g)) ∧ Below w.heap.size w w' := by
  have b0 := box_below w (.cells #[.int .i64 g.b, .int .i64 g.n, .int .i64 g.came, .int .i64 g.marked, .slice A g.moves.length c] 26)
  have n0 := heap_alloc_new w (.cells #[.int .i64 g.b, .int .i64 g.n, .int .i64 g.came, .int .i64 g.marked, .slice A g.moves.length c] 26)
  have B0 := Lib.hid b0
  have N0 := Lib.hid n0
  have HR := Lib.hid (hr.below b0)
  have s0 : (w.alloc (.cells #[.int .i64 g.b, .int .i64 g.n, .int .i64 g.came, .int .i64 g.marked, .slice A g.moves.length c] 26)).heap.size = w.heap.size + 1 := by simp
  have hd := gm_draws_lt hg
  have GO := Lib.hid hg
  have LN : Hid (luckyN g = countTo (fun k => (tallyN g k).luck) g.draws) := Lib.hid rfl
  clear hr b0 n0 hg
  unfold gmVal
  go_enter Try.func8, Try.ntmps8
  go_upto_region 2 with fail
  generalize (w.alloc (.cells #[.int .i64 g.b, .int .i64 g.n, .int .i64 g.came, .int .i64 g.marked, .slice A g.moves.length c] 26)) = w1 at *
  have y0 := cell_of_row w1 w.heap.size 0 _ _ _ N0.out
  have y1 := cell_of_row w1 w.heap.size 1 _ _ _ N0.out
  have y2 := cell_of_row w1 w.heap.size 2 _ _ _ N0.out
  have y3 := cell_of_row w1 w.heap.size 3 _ _ _ N0.out
  have y4 := cell_of_row w1 w.heap.size 4 _ _ _ N0.out
  have K := Lib.hid (gam_drawsG g A c w1 GO.out HR.out)
  unfold gmVal at K
  go_wp2_with fail
  (with_reducible refine K.out.mono ?_)
  rintro e w2 ⟨rfl, b2⟩
  have B2 := Lib.hid b2
  have s2 := b2.size
  clear K b2 y0 y1 y2 y3 y4
  generalize g.draws = d at *
  go_wp2_with fail
  go_loopw [3, 9] (fun v3 iv wr => ∃ j : Nat, j ≤ d ∧ iv = .int .u64 j ∧ v3 = .int .u64 (countTo (fun k => (tallyN g k).luck) j) ∧ Hid (Below w1.heap.size w1 wr)) (fun _ iv _ => d - (intOf iv).toNat)
  case atStart => exact ⟨0, Nat.zero_le _, rfl, rfl, B2⟩
  case round =>
    obtain ⟨j, hj, rfl, rfl, B⟩ := hrel
    have sr := B.out.size
    by_cases hlt : j < d
    · have NR := Lib.hid ((B.out.block _ (lt_of_block N0.out)).trans N0.out)
      have y0 := cell_of_row wr w.heap.size 0 _ _ _ NR.out
      have y1 := cell_of_row wr w.heap.size 1 _ _ _ NR.out
      have y2 := cell_of_row wr w.heap.size 2 _ _ _ NR.out
      have y3 := cell_of_row wr w.heap.size 3 _ _ _ NR.out
      have y4 := cell_of_row wr w.heap.size 4 _ _ _ NR.out
      have hc := count_le (fun k => (tallyN g k).luck) j
      have CS := Lib.hid (count_step (fun k => (tallyN g k).luck) j)
      have K := Lib.hid (gam_tally g j A c wr GO.out (by omega) (HR.out.below B.out))
      unfold gmVal at K
      have wj : IntKind.u64.wrap ((j : Int) + 1) = (j : Int) + 1 := IntWalk.u64_in _ (by omega)
      generalize countTo (fun k => (tallyN g k).luck) j = ct at *
      have wc : IntKind.u64.wrap ((ct : Int) + 1) = (ct : Int) + 1 := IntWalk.u64_in _ (by omega)
      go_wp2_with fail
      (with_reducible refine K.out.mono ?_)
      rintro e w3 ⟨rfl, b3⟩
      have B3 := Lib.hid (B.out.trans (b3.mono sr))
      clear K b3 y0 y1 y2 y3 y4
      cases hL : (tallyN g j).luck with
      | true =>
        go_wp2
        go_roundw
        case rel => exact ⟨j + 1, by omega, by go_num, by rw [CS.out]; simp [hL], B3⟩
        case measure => simp [intOf]; omega
      | false =>
        go_wp2
        go_roundw
        case rel => exact ⟨j + 1, by omega, by go_num, by rw [CS.out]; simp [hL], B3⟩
        case measure => simp [intOf]; omega
    · obtain rfl : j = d := by omega
      go_wp2
      go_ret
      exact ⟨ret_int (by rw [LN.out]), B0.out.trans (B.out.mono (by omega))⟩

set_option maxHeartbeats 4000000 in
set_option maxRecDepth 100000 in
theorem gam_hidden (g : Gm) (n : Int) (A : Option Addr) (c : Nat) (w : World) (hg : g.ok) (hr : Rd w 6 A g.moves.length c (Mvs g.moves)) :
    Calls Try.prog 11 #[gmVal g A c, .int .i64 n] w fun e w' => e = .returned (.int .u64 (hiddenN g n)) ∧ Below w.heap.size w w' := by
  have b0 := box_below w (.cells #[.int .i64 g.b, .int .i64 g.n, .int .i64 g.came, .int .i64 g.marked, .slice A g.moves.length c] 26)
  have n0 := heap_alloc_new w (.cells #[.int .i64 g.b, .int .i64 g.n, .int .i64 g.came, .int .i64 g.marked, .slice A g.moves.length c] 26)
  have B0 := Lib.hid b0
  have N0 := Lib.hid n0
  have HR := Lib.hid (hr.below b0)
  have s0 : (w.alloc (.cells #[.int .i64 g.b, .int .i64 g.n, .int .i64 g.came, .int .i64 g.marked, .slice A g.moves.length c] 26)).heap.size = w.heap.size + 1 := by simp
  have hd := gm_draws_lt hg
  have GO := Lib.hid hg
  have LN : Hid (hiddenN g n = countTo (hiddenP g n) g.draws) := Lib.hid rfl
  clear hr b0 n0 hg
  unfold gmVal
  go_enter Try.func11, Try.ntmps11
  go_upto_region 2 with fail
  generalize (w.alloc (.cells #[.int .i64 g.b, .int .i64 g.n, .int .i64 g.came, .int .i64 g.marked, .slice A g.moves.length c] 26)) = w1 at *
  have y0 := cell_of_row w1 w.heap.size 0 _ _ _ N0.out
  have y1 := cell_of_row w1 w.heap.size 1 _ _ _ N0.out
  have y2 := cell_of_row w1 w.heap.size 2 _ _ _ N0.out
  have y3 := cell_of_row w1 w.heap.size 3 _ _ _ N0.out
  have y4 := cell_of_row w1 w.heap.size 4 _ _ _ N0.out
  have K := Lib.hid (gam_drawsG g A c w1 GO.out HR.out)
  unfold gmVal at K
  go_wp2_with fail
  (with_reducible refine K.out.mono ?_)
  rintro e w2 ⟨rfl, b2⟩
  have B2 := Lib.hid b2
  have s2 := b2.size
  clear K b2 y0 y1 y2 y3 y4
  generalize g.draws = d at *
  go_wp2_with fail
  go_loopw [5, 11] (fun v3 iv wr => ∃ j : Nat, j ≤ d ∧ iv = .int .u64 j ∧ v3 = .int .u64 (countTo (hiddenP g n) j) ∧ Hid (Below w1.heap.size w1 wr)) (fun _ iv _ => d - (intOf iv).toNat)
  case atStart => exact ⟨0, Nat.zero_le _, rfl, rfl, B2⟩
  case round =>
    obtain ⟨j, hj, rfl, rfl, B⟩ := hrel
    have sr := B.out.size
    by_cases hlt : j < d
    · have NR := Lib.hid ((B.out.block _ (lt_of_block N0.out)).trans N0.out)
      have y0 := cell_of_row wr w.heap.size 0 _ _ _ NR.out
      have y1 := cell_of_row wr w.heap.size 1 _ _ _ NR.out
      have y2 := cell_of_row wr w.heap.size 2 _ _ _ NR.out
      have y3 := cell_of_row wr w.heap.size 3 _ _ _ NR.out
      have y4 := cell_of_row wr w.heap.size 4 _ _ _ NR.out
      have hc := count_le (hiddenP g n) j
      have CS := Lib.hid (count_step (hiddenP g n) j)
      have K := Lib.hid (gam_tally g j A c wr GO.out (by omega) (HR.out.below B.out))
      unfold gmVal at K
      have wj : IntKind.u64.wrap ((j : Int) + 1) = (j : Int) + 1 := IntWalk.u64_in _ (by omega)
      generalize countTo (hiddenP g n) j = ct at *
      have wc : IntKind.u64.wrap ((ct : Int) + 1) = (ct : Int) + 1 := IntWalk.u64_in _ (by omega)
      go_wp2_with fail
      (with_reducible refine K.out.mono ?_)
      rintro e w3 ⟨rfl, b3⟩
      have B3 := Lib.hid (B.out.trans (b3.mono sr))
      clear K b3 y0 y1 y2 y3 y4
      cases hL : (tallyN g j).luck with
      | true =>
        go_wp2
        go_roundw
        case rel => exact ⟨j + 1, by omega, by go_num, by rw [CS.out]; simp [hiddenP, hL], B3⟩
        case measure => simp [intOf]; omega
      | false =>
        by_cases hT : ((tallyN g j).times : Int) ≥ n
        · have hk : decide (((tallyN g j).times : Int) ≥ n) = true := decide_eq_true hT
          have HH : Hid (hiddenP g n j = true) := Lib.hid (by simp [hiddenP, hL, hk])
          go_wp2
          go_roundw
          case rel => exact ⟨j + 1, by omega, by go_num, by rw [CS.out, HH.out]; simp, B3⟩
          case measure => simp [intOf]; omega
        · have hk : decide (((tallyN g j).times : Int) ≥ n) = false := decide_eq_false hT
          have HH : Hid (hiddenP g n j = false) := Lib.hid (by simp [hiddenP, hL, hk])
          go_wp2
          go_roundw
          case rel => exact ⟨j + 1, by omega, by go_num, by rw [CS.out, HH.out]; simp, B3⟩
          case measure => simp [intOf]; omega
    · obtain rfl : j = d := by omega
      go_wp2
      go_ret
      exact ⟨ret_int (by rw [LN.out]), B0.out.trans (B.out.mono (by omega))⟩

end Go.Proofs.Ytpfmhkkglaghgaa

namespace Go.Proofs.Ytpfmhkkglaghgaa
set_option linter.unusedSimpArgs false
set_option linter.unusedVariables false
set_option linter.unnecessarySimpa false
open Go.RowKit

set_option maxHeartbeats 1600000 in
theorem sameVd_yes (w : World) (A B : Option Addr) (c d : Nat) (l : List Vd) (ha : Rd w 4 A l.length c (Vds l)) (hb : Rd w 4 B l.length d (Vds l)) :
    Calls Try.prog 12 #[.slice A l.length c, .slice B l.length d] w fun e w' => e = .returned (.bool true) ∧ Qt w w' := by
  have h1 := ha.cap
  have h2 := ha.max
  unfold maxLen at h2
  go_enter Try.func12, Try.ntmps12
  go_wp2
  go_loopw [5] (fun i wr => ∃ k : Nat, k ≤ l.length ∧ i = .int .i64 k ∧ Qt w wr) (fun i _ => l.length - (intOf i).toNat)
  case atStart => exact ⟨0, Nat.zero_le _, rfl, Qt.refl _⟩
  case round =>
    obtain ⟨k, hk, rfl, n, rfl⟩ := hrel
    by_cases hlt : k < l.length
    · obtain ⟨b1, o1, rfl, d0, d1, d2, d3⟩ := ha.vd hlt
      obtain ⟨b2, o2, rfl, e0, e1, e2, e3⟩ := hb.vd hlt
      have i1 : (0 : Int) ≤ k := by omega
      have i2 : (k : Int) < l.length := by omega
      generalize l[k] = x at *
      go_wp2
      refine wp_region_qt (by kernel_rfl) (by kernel_rfl) ?_
      repeat (go_big_quiet_step (fail))
      refine wpQuiet_nil ?_
      intro w2 q2
      go_wp2
      exact ⟨⟨k + 1, by omega, by go_num, (show Qt w (w.drewN n) from ⟨n, rfl⟩).trans q2⟩, by simp [intOf]; omega⟩
    · go_wp2
      go_ret
      exact ⟨rfl, ⟨n, rfl⟩⟩

end Go.Proofs.Ytpfmhkkglaghgaa
