/-
  A deed on both ledgers. · Lists of deeds of drawn numbers in memory. · Two ledgers behind deeds of drawn numbers.
-/
import Derived.Test.YtelaimephejkkaaGreatTwo
import Derived.Deep.DeepCutAuto
import Derived.Laws.Closers25b
import Derived.Test.YtelaimephejkkaaGreatObj
namespace Go.Proofs.YtelaimephejkkaaGreat
set_option linter.unusedSimpArgs false
set_option linter.unusedVariables false
set_option linter.unnecessarySimpa false
open Go.RowKit

namespace LS
/-- States are states, times are small. -/
def Small (s : LS) : Prop := ∀ x ∈ s.all, (1 ≤ x.state ∧ x.state ≤ 4) ∧ x.at_ < 5000
def Next (raw : Bool) (s s' : LS) : Prop := s'.ring = s.ring ∧ s'.limit = s.limit ∧ s.all.length ≤ s'.all.length ∧ s'.all.length ≤ s.all.length + 1 ∧ (raw = false → s.Small → s'.Small)
theorem Next.refl (raw : Bool) (s : LS) : Next raw s s := ⟨rfl, rfl, Nat.le_refl _, Nat.le_succ _, fun _ h => h⟩
theorem next_give (raw : Bool) (s : LS) (x : Snt) (h : raw = false → (1 ≤ x.state ∧ x.state ≤ 4) ∧ x.at_ < 5000) : Next raw s (s.give x).1 := by
  unfold give
  split
  · exact Next.refl raw s
  · split
    · exact Next.refl raw s
    · refine ⟨rfl, rfl, by simp, by simp, fun hr hs y hy => ?_⟩
      simp only [List.mem_append, List.mem_singleton] at hy
      rcases hy with hy | rfl
      · exact hs y hy
      · exact h hr
theorem next_send (raw : Bool) (s : LS) (x : Snt) (h : raw = false → x.at_ < 5000) : Next raw s (s.send x).1 := by
  unfold send
  split
  · exact Next.refl raw s
  · exact next_give raw s _ (fun hr => ⟨⟨by simp, by simp⟩, h hr⟩)
theorem next_skip (raw : Bool) (s : LS) : Next raw s s.skip.1 := next_give raw s _ (fun _ => by simp [skipped])
theorem next_put (raw : Bool) (s : LS) (pn : Int) (x : Snt) (h : raw = false → s.Small → (1 ≤ x.state ∧ x.state ≤ 4) ∧ x.at_ < 5000) : Next raw s (s.put pn x) :=
  ⟨rfl, rfl, by simp [put], by simp [put], fun hr hs y hy => by
    rcases List.mem_or_eq_of_mem_set hy with hy | rfl
    · exact hs y hy
    · exact h hr hs⟩
theorem Small.at' {s : LS} (h : s.Small) {pn : Int} (hp : s.has pn) : (1 ≤ (s.at' pn).state ∧ (s.at' pn).state ≤ 4) ∧ (s.at' pn).at_ < 5000 := by
  rw [at'_eq hp]
  exact h _ (List.getElem_mem _)
theorem next_use (raw : Bool) (s : LS) (pn : Int) : Next raw s (s.use pn).1 := by
  unfold use
  split
  · rename_i hm
    exact next_put _ _ _ _ (fun _ hs => hs.at' hm.1)
  · exact Next.refl raw s
theorem next_settle (raw : Bool) (s : LS) (pn state : Int) : Next raw s (s.settle pn state).1 := by
  unfold settle
  split
  · rename_i hm
    exact next_put _ _ _ _ (fun _ hs => ⟨by rcases hm.2 with h | h <;> simp only [h.1] <;> omega, (hs.at' hm.1).2⟩)
  · exact Next.refl raw s
end LS

/-- A deed leaves both alike; what came of it. -/
def Did (raw : Bool) (w : World) (F : Nat → Prop) (p r : Nat) (s : LS) (w' : World) : Prop :=
  ∃ s' : LS, Two w' (Grow F w) p r s' ∧ Chg F w w' ∧ LS.Next raw s s'

/-- Ahead of the deed: the numbers are made. -/
structure DoMid (raw : Bool) (w : World) (F G H : Nat → Prop) (p r : Nat) (s : LS) (kind a b pn st : Int) (x : Snt) (wx : World) : Prop where
  upn : isU64 pn
  ist : isI64 st
  okx : Snt.ok x
  sm : raw = false → x.at_ < 5000
  two : Pair wx G H p r s s
  bx0 : wx.heap[w.heap.size]? = some (.cells #[.pointer (some ⟨p, 0, none⟩), .pointer (some ⟨r, 0, none⟩)] 28 (0, 0))
  bx1 : wx.heap[w.heap.size + 1]? = some (.cells #[.int .i64 kind, .int .u64 a, .int .u64 b] 90 (0, 0))
  bx2 : wx.heap[w.heap.size + 1 + 1]? = some (.cells #[.int .u64 x.pn, .int .u64 x.off, .int .u64 x.len, .int .u64 x.nonce, .int .u64 x.at_, .bool x.coin, .bool x.used, .int .i64 x.state] 76 (0, 0))
  bel : Below w.heap.size w wx

theorem three_boxes (w : World) (o1 o2 o3 : Obj) (n : Nat) : ((((w.alloc o1).alloc o2).alloc o3).drewN n).heap[w.heap.size]? = some o1 ∧ ((((w.alloc o1).alloc o2).alloc o3).drewN n).heap[w.heap.size + 1]? = some o2 ∧
    ((((w.alloc o1).alloc o2).alloc o3).drewN n).heap[w.heap.size + 1 + 1]? = some o3 ∧ Below w.heap.size w ((((w.alloc o1).alloc o2).alloc o3).drewN n) := by
  have e1 := heap_alloc_new w o1
  have e2 := heap_alloc_new (w.alloc o1) o2
  have e3 := heap_alloc_new ((w.alloc o1).alloc o2) o3
  have s1 : (w.alloc o1).heap.size = w.heap.size + 1 := by simp
  have s2 : ((w.alloc o1).alloc o2).heap.size = w.heap.size + 2 := by simp
  rw [s1] at e2
  rw [s2] at e3
  refine ⟨?_, ?_, e3, ?_⟩
  · exact (Below.heap_alloc _ _ _ (by omega)).trans ((Below.heap_alloc _ _ _ (by omega)).trans e1)
  · exact (Below.heap_alloc _ _ _ (by omega)).trans e2
  · exact below_drewN (((Below.refl _ _).alloc (Nat.le_refl _) _ |>.alloc (by omega) _).alloc (by omega) _) _

theorem ok_of {pn off len nonce at_ state : Int} {coin used : Bool} (h1 : isU64 pn) (h2 : isU64 off) (h3 : isU64 len) (h4 : isU64 nonce) (h5 : isU64 at_) (h6 : isI64 state) : Snt.ok ⟨pn, off, len, nonce, at_, coin, used, state⟩ := ⟨h1, h2, h3, h4, h5, h6⟩
theorem u64_bits (op : BinOp) (a b : Int) : isU64 (bits op .u64 a b) := ⟨bits_lo_u64 op a b, by have := bits_hi_u64 op a b; omega⟩
theorem i64_wrap (a : Int) : isI64 (wrap64 a) := by
  unfold isI64 wrap64
  omega

theorem did_of {raw : Bool} {w wx v1 v2 v3 : World} {F G H : Nat → Prop} {p r : Nat} {s s' : LS} (hF : ∀ k, G k ∨ H k → F k ∧ k < w.heap.size) (bel : Below w.heap.size w wx) (hp : Pair wx G H p r s s)
    (hL : LedP v1 (Grow G wx) p s') (hC : Chg G wx v1) (hR : LedR v2 (Grow (fun k => H k ∧ k < wx.heap.size) v1) r s') (hC2 : Chg (fun k => H k ∧ k < wx.heap.size) v1 v2) (hn : LS.Next raw s s') (hb : Below v2.heap.size v2 v3) : Did raw w F p r s v3 := by
  have h1 := hp.movP hL (fun k h => h) hC
  have h2 := h1.movR hR (fun k h => h) hC2
  refine ⟨s', (h2.shut (F := Grow F w) fun k _ hk => ?_).below hb, (((chg_below bel).step hC (fun k hk h => (hF k (.inl h)).1)).step hC2 (fun k hk h => (hF k (.inr h.1)).1)).thenBelow hb (Nat.le_trans (Nat.le_trans bel.size hC.size) hC2.size), hn⟩
  rcases hk with ⟨hk | hk, _⟩ | (hk | hk)
  · exact .inl (hF k (.inl hk)).1
  · exact .inr (Nat.le_trans bel.size hk)
  · exact .inl (hF k (.inr hk.1)).1
  · exact .inr (Nat.le_trans (Nat.le_trans bel.size hC.size) hk)

set_option maxHeartbeats 8000000 in
set_option maxRecDepth 100000 in
theorem two_do (w : World) (F : Nat → Prop) (p r : Nat) (s : LS) (kind a b : Int) (raw : Bool) (h : Two w F p r s) (ha : isU64 a) (hb : isU64 b) (hmax : s.all.length < 100000) :
    Calls Tryz.prog 36 #[.agg #[.pointer (some ⟨p, 0, none⟩), .pointer (some ⟨r, 0, none⟩)], .agg #[.int .i64 kind, .int .u64 a, .int .u64 b], .bool raw] w fun e w' => e = .returned (.bool true) ∧ Did raw w F p r s w' := by
  have UA := Lib.hid ha
  have UB := Lib.hid hb
  obtain ⟨a0, a1⟩ := ha
  obtain ⟨b0, b1⟩ := hb
  obtain ⟨G, H, hp, hF⟩ := h
  have HF := Lib.hid hF
  have HP := Lib.hid hp
  clear hp hF
  go_enter Tryz.func36, Tryz.ntmps36
  go_wp2
  refine wp_region_qt (by kernel_rfl) (by kernel_rfl) ?_
  repeat (go_big_quiet_step (fail))
  refine wpQuiet_nil ?_
  rintro w' ⟨n1, rfl⟩
  obtain ⟨e0, e1, e2, e3⟩ := three_boxes w (.cells #[.pointer (some ⟨p, 0, none⟩), .pointer (some ⟨r, 0, none⟩)] 28) (.cells #[.int .i64 kind, .int .u64 a, .int .u64 b] 90)
    (.cells #[.int .u64 7, .int .u64 b, .int .u64 a, .int .u64 (bits .xor .u64 a b), .int .u64 b, .bool (bits .and .u64 a 1 == 1), .bool (bits .and .u64 b 1 == 1), .int .i64 (wrap64 (bits .and .u64 a 7))] 76) n1
  generalize hW0 : ((((w.alloc (.cells #[.pointer (some ⟨p, 0, none⟩), .pointer (some ⟨r, 0, none⟩)] 28)).alloc (.cells #[.int .i64 kind, .int .u64 a, .int .u64 b] 90)).alloc
    (.cells #[.int .u64 7, .int .u64 b, .int .u64 a, .int .u64 (bits .xor .u64 a b), .int .u64 b, .bool (bits .and .u64 a 1 == 1), .bool (bits .and .u64 b 1 == 1), .int .i64 (wrap64 (bits .and .u64 a 7))] 76)).drewN n1) = W0 at *
  clear hW0
  have E0 := Lib.hid e0
  have E1 := Lib.hid e1
  have E2 := Lib.hid e2
  have E3 := Lib.hid e3
  clear e0 e1 e2 e3
  go_upto_if 52 with fail
  go_cut [8, 9] (fun s8 s9 wx => ∃ pn st x, s8 = .int .u64 pn ∧ s9 = .int .i64 st ∧ DoMid raw w F G H p r s kind a b pn st x wx)
  case first =>
    cases raw with
    | true =>
      go_wp2_with fail
      go_meet
      exact ⟨a, wrap64 b, ⟨7, b, a, bits .xor .u64 a b, b, bits .and .u64 a 1 == 1, bits .and .u64 b 1 == 1, wrap64 (bits .and .u64 a 7)⟩, rfl, rfl, UA.out, i64_wrap _, ok_of ⟨by omega, by omega⟩ UB.out UA.out (u64_bits _ _ _) UB.out (i64_wrap _), (fun h => by cases h), HP.out.below E3.out, E0.out, E1.out, E2.out, E3.out⟩
    | false =>
      have t0 := cell_of_row W0 w.heap.size 0 _ _ _ E0.out
      have t1 := cell_of_row W0 w.heap.size 1 _ _ _ E0.out
      have d0 := cell_of_row W0 (w.heap.size + 1) 0 _ _ _ E1.out
      have d1 := cell_of_row W0 (w.heap.size + 1) 1 _ _ _ E1.out
      have d2 := cell_of_row W0 (w.heap.size + 1) 2 _ _ _ E1.out
      have x0 := cell_of_row W0 (w.heap.size + 1 + 1) 0 _ _ _ E2.out
      have fx0 := frozen_of_row W0 (w.heap.size + 1 + 1) 0 _ _ E2.out
      have x1 := cell_of_row W0 (w.heap.size + 1 + 1) 1 _ _ _ E2.out
      have fx1 := frozen_of_row W0 (w.heap.size + 1 + 1) 1 _ _ E2.out
      have x2 := cell_of_row W0 (w.heap.size + 1 + 1) 2 _ _ _ E2.out
      have fx2 := frozen_of_row W0 (w.heap.size + 1 + 1) 2 _ _ E2.out
      have x3 := cell_of_row W0 (w.heap.size + 1 + 1) 3 _ _ _ E2.out
      have fx3 := frozen_of_row W0 (w.heap.size + 1 + 1) 3 _ _ E2.out
      have x4 := cell_of_row W0 (w.heap.size + 1 + 1) 4 _ _ _ E2.out
      have fx4 := frozen_of_row W0 (w.heap.size + 1 + 1) 4 _ _ E2.out
      have x5 := cell_of_row W0 (w.heap.size + 1 + 1) 5 _ _ _ E2.out
      have fx5 := frozen_of_row W0 (w.heap.size + 1 + 1) 5 _ _ E2.out
      have x6 := cell_of_row W0 (w.heap.size + 1 + 1) 6 _ _ _ E2.out
      have fx6 := frozen_of_row W0 (w.heap.size + 1 + 1) 6 _ _ E2.out
      have x7 := cell_of_row W0 (w.heap.size + 1 + 1) 7 _ _ _ E2.out
      have fx7 := frozen_of_row W0 (w.heap.size + 1 + 1) 7 _ _ E2.out
      have HL := Lib.hid HP.out.r.lt
      have g3 := HP.out.r.good.len
      have g4 := HP.out.r.good.lim1
      go_wp2
      have HC4 : Hid (Chg (fun k => k = w.heap.size + 1 + 1) W0 ((((W0.setCell ⟨w.heap.size + 1 + 1, 2, none⟩ (.int .u64 (1 + a % 40))).setCell ⟨w.heap.size + 1 + 1, 1, none⟩ (.int .u64 (b % 1000))).setCell ⟨w.heap.size + 1 + 1, 3, none⟩ (.int .u64 (bits .and .u64 (b / 1048576) 7))).setCell ⟨w.heap.size + 1 + 1, 4, none⟩ (.int .u64 (b % 5000)))) :=
        ((((Chg.refl (fun k => k = w.heap.size + 1 + 1) W0).setCell (p := ⟨w.heap.size + 1 + 1, 2, none⟩) (.inl rfl) _).setCell (p := ⟨w.heap.size + 1 + 1, 1, none⟩) (.inl rfl) _).setCell (p := ⟨w.heap.size + 1 + 1, 3, none⟩) (.inl rfl) _).setCell (p := ⟨w.heap.size + 1 + 1, 4, none⟩) (.inl rfl) _
      have EB2 := Lib.hid (heap_setCell_same _ (w.heap.size + 1 + 1) 4 _ _ (.int .u64 (b % 5000)) (heap_setCell_same _ (w.heap.size + 1 + 1) 3 _ _ (.int .u64 (bits .and .u64 (b / 1048576) 7)) (heap_setCell_same _ (w.heap.size + 1 + 1) 1 _ _ (.int .u64 (b % 1000)) (heap_setCell_same _ (w.heap.size + 1 + 1) 2 _ _ (.int .u64 (1 + a % 40)) E2.out))))
      clear t0 t1 d0 d1 d2 x0 x1 x2 x3 x4 x5 x6 x7 fx0 fx1 fx2 fx3 fx4 fx5 fx6 fx7
      generalize ((((W0.setCell ⟨w.heap.size + 1 + 1, 2, none⟩ (.int .u64 (1 + a % 40))).setCell ⟨w.heap.size + 1 + 1, 1, none⟩ (.int .u64 (b % 1000))).setCell ⟨w.heap.size + 1 + 1, 3, none⟩ (.int .u64 (bits .and .u64 (b / 1048576) 7))).setCell ⟨w.heap.size + 1 + 1, 4, none⟩ (.int .u64 (b % 5000))) = W4 at *
      have EB0 := Lib.hid (HC4.out.blk E0.out (by omega))
      have EB1 := Lib.hid (HC4.out.blk E1.out (by omega))
      have EB3 : Hid (Below w.heap.size w W4) := Chg.below (Chg.step (F := fun _ => False) (chg_below E3.out) HC4.out (fun i hi e => by omega)) (Nat.le_refl _) (fun _ _ h => h)
      have HP4 := Lib.hid (HP.out.below EB3.out)
      have t0 := cell_of_row W4 w.heap.size 0 _ _ _ EB0.out
      have t1 := cell_of_row W4 w.heap.size 1 _ _ _ EB0.out
      have d0 := cell_of_row W4 (w.heap.size + 1) 0 _ _ _ EB1.out
      have d1 := cell_of_row W4 (w.heap.size + 1) 1 _ _ _ EB1.out
      have d2 := cell_of_row W4 (w.heap.size + 1) 2 _ _ _ EB1.out
      refine wp_region_qt (by kernel_rfl) (by kernel_rfl) ?_
      repeat (first | go_big_quiet_step ((go_at_call 60; exact Qt.callN (ledR_next _ H r s HP4.out.r.dn))) | quiet_step ((go_at_call 60; exact Qt.callN (ledR_next _ H r s HP4.out.r.dn))))
      refine wpQuiet_nil ?_
      rintro w' ⟨n2, rfl⟩
      go_wp2_with fail
      go_meet
      refine ⟨_, _, ⟨7, b % 1000, 1 + a % 40, bits .and .u64 (b / 1048576) 7, b % 5000, bits .and .u64 a 1 == 1, bits .and .u64 b 1 == 1, wrap64 (bits .and .u64 a 7)⟩, rfl, rfl, ⟨?_, ?_⟩, ⟨?_, ?_⟩, ok_of ⟨by omega, by omega⟩ ⟨by omega, by omega⟩ ⟨by omega, by omega⟩ (u64_bits _ _ _) ⟨by omega, by omega⟩ (i64_wrap _), (fun _ => by show b % 5000 < 5000; omega), HP4.out.qt ⟨n2, rfl⟩, EB0.out, EB1.out, by simpa using EB2.out, below_drewN EB3.out _⟩
      all_goals first
        | exact Int.emod_nonneg _ (by omega)
        | (have := Int.emod_lt_of_pos a (show (0 : Int) < (s.all.length : Int) + 2 by omega); omega)
        | omega
  case rest =>
    obtain ⟨pn, st, x, rfl, rfl, hm⟩ := hcut
    obtain ⟨m1, m2, m3, msm, m4, m5, m6, m7, m8⟩ := hm
    have SM := Lib.hid msm
    clear msm
    have nG : Hid (∀ k, w.heap.size ≤ k → ¬ G k) := fun k hk h => by have := (HF.out k (.inl h)).2; omega
    have nH : Hid (∀ k, w.heap.size ≤ k → ¬ H k) := fun k hk h => by have := (HF.out k (.inr h)).2; omega
    have B0 := Lib.hid m5
    have B1 := Lib.hid m6
    have B2 := Lib.hid m7
    have BL := Lib.hid m8
    have PX := Lib.hid m4
    have OK := Lib.hid m3
    have UP := Lib.hid m1
    have NX : Hid (∀ (s' : LS) (v1 v2 v3 : World), LedP v1 (Grow G wc) p s' → Chg G wc v1 → LedR v2 (Grow (fun k => H k ∧ k < wc.heap.size) v1) r s' → Chg (fun k => H k ∧ k < wc.heap.size) v1 v2 → LS.Next raw s s' → Below v2.heap.size v2 v3 → Did raw w F p r s v3) :=
      fun s' v1 v2 v3 a b c d e f => did_of HF.out m8 m4 a b c d e f
    clear m1 m2 m3 m4 m5 m6 m7 m8 E0 E1 E2 E3 HP UA UB a0 a1 b0 b1
    have t0 := cell_of_row wc w.heap.size 0 _ _ _ B0.out
    have t1 := cell_of_row wc w.heap.size 1 _ _ _ B0.out
    have d0 := cell_of_row wc (w.heap.size + 1) 0 _ _ _ B1.out
    have x0 := cell_of_row wc (w.heap.size + 1 + 1) 0 _ _ _ B2.out
    have x1 := cell_of_row wc (w.heap.size + 1 + 1) 1 _ _ _ B2.out
    have x2 := cell_of_row wc (w.heap.size + 1 + 1) 2 _ _ _ B2.out
    have x3 := cell_of_row wc (w.heap.size + 1 + 1) 3 _ _ _ B2.out
    have x4 := cell_of_row wc (w.heap.size + 1 + 1) 4 _ _ _ B2.out
    have x5 := cell_of_row wc (w.heap.size + 1 + 1) 5 _ _ _ B2.out
    have x6 := cell_of_row wc (w.heap.size + 1 + 1) 6 _ _ _ B2.out
    have x7 := cell_of_row wc (w.heap.size + 1 + 1) 7 _ _ _ B2.out
    by_cases k123 : kind = 1 ∨ kind = 2 ∨ kind = 3
    · rcases k123 with rfl | rfl | rfl
      all_goals
        go_wp2_with fail
        refine (led_send wc G p s x PX.out.p OK.out).mono ?_
        rintro e v1 ⟨rfl, hL, hC⟩
        have HL := Lib.hid hL
        have HC := Lib.hid hC
        have P1 := Lib.hid (PX.out.movP hL (fun k h => h) hC)
        have T1 := Lib.hid (hC.blk B0.out (nG.out _ (Nat.le_refl _)))
        have X1 := Lib.hid (hC.blk B2.out (nG.out _ (by omega)))
        clear hL hC t0 t1 d0 x0 x1 x2 x3 x4 x5 x6 x7
        have t0 := cell_of_row v1 w.heap.size 0 _ _ _ T1.out
        have t1 := cell_of_row v1 w.heap.size 1 _ _ _ T1.out
        have x0 := cell_of_row v1 (w.heap.size + 1 + 1) 0 _ _ _ X1.out
        have x1 := cell_of_row v1 (w.heap.size + 1 + 1) 1 _ _ _ X1.out
        have x2 := cell_of_row v1 (w.heap.size + 1 + 1) 2 _ _ _ X1.out
        have x3 := cell_of_row v1 (w.heap.size + 1 + 1) 3 _ _ _ X1.out
        have x4 := cell_of_row v1 (w.heap.size + 1 + 1) 4 _ _ _ X1.out
        have x5 := cell_of_row v1 (w.heap.size + 1 + 1) 5 _ _ _ X1.out
        have x6 := cell_of_row v1 (w.heap.size + 1 + 1) 6 _ _ _ X1.out
        have x7 := cell_of_row v1 (w.heap.size + 1 + 1) 7 _ _ _ X1.out
        go_wp2_with fail
        refine (ledR_send v1 _ r s x P1.out.r OK.out (by omega)).mono ?_
        rintro e v2 ⟨rfl, hR, hC2⟩
        have ND := Lib.hid (NX.out _ _ _ _ HL.out HC.out hR hC2 (LS.next_send raw s x SM.out) (Below.refl _ _))
        clear hR hC2 t0 t1 x0 x1 x2 x3 x4 x5 x6 x7
        generalize s.send x = sx at *
        go_wp2
        go_ret
        exact ⟨rfl, ND.out⟩
    · have q1 : (kind == 1) = false := by simp; omega
      have q2 : (kind == 2) = false := by simp; omega
      have q3 : (kind == 3) = false := by simp; omega
      clear k123
      by_cases k4 : kind = 4
      · subst k4
        go_wp2_with fail
        refine (led_skip wc G p s PX.out.p).mono ?_
        rintro e v1 ⟨rfl, hL, hC⟩
        have HL := Lib.hid hL
        have HC := Lib.hid hC
        have P1 := Lib.hid (PX.out.movP hL (fun k h => h) hC)
        have T1 := Lib.hid (hC.blk B0.out (nG.out _ (Nat.le_refl _)))
        clear hL hC t0 t1 d0 x0 x1 x2 x3 x4 x5 x6 x7
        have t0 := cell_of_row v1 w.heap.size 0 _ _ _ T1.out
        have t1 := cell_of_row v1 w.heap.size 1 _ _ _ T1.out
        go_wp2_with fail
        refine (ledR_skip v1 _ r s P1.out.r (by omega)).mono ?_
        rintro e v2 ⟨rfl, hR, hC2⟩
        have ND := Lib.hid (NX.out _ _ _ _ HL.out HC.out hR hC2 (LS.next_skip raw s) (Below.refl _ _))
        clear hR hC2 t0 t1
        generalize s.skip = sx at *
        go_wp2
        go_ret
        exact ⟨rfl, ND.out⟩
      · have q4 : (kind == 4) = false := by simp; omega
        have M0 := mixF_cell (F := fun k => G k ∨ H k) t0 (fun h => h.elim (nG.out _ (Nat.le_refl _)) (nH.out _ (Nat.le_refl _)))
        have M1 := mixF_cell (F := fun k => G k ∨ H k) t1 (fun h => h.elim (nG.out _ (Nat.le_refl _)) (nH.out _ (Nat.le_refl _)))
        by_cases k56 : kind = 5 ∨ kind = 6
        · rcases k56 with rfl | rfl
          all_goals
            go_wp2
            have PX0 := Lib.hid (PX.out.qt ⟨1, rfl⟩ : Pair wc.drew G H p r s s)
            refine wp_region_chg (fun k => G k ∨ H k) (by kernel_rfl) (by kernel_rfl) ?_
            repeat (refine wpMix_seg 1 _ _ rfl ?_; simp only [List.take_succ_cons, List.take_zero, List.drop_succ_cons, List.drop_zero]; go_big_quiet_step (fail); refine wpQuiet_nil ?_)
            refine wpMix_bar rfl (by rfl) ?_
            go_wp2_with fail
            refine (led_settle wc.drew G p s pn st PX0.out.p UP.out).mono ?_
            rintro e v1 ⟨rfl, hL, hC⟩
            have hL := hL.sub (G := Grow G wc) (fun _ _ h => .inl h)
            have hC : Chg G wc v1 := (Chg.refl G wc).drew.step hC (fun _ _ h => h)
            have HL := Lib.hid hL
            have HC := Lib.hid hC
            have P1 := Lib.hid (PX.out.movP hL (fun k h => h) hC)
            clear hL hC
            go_wp2
            refine ⟨chg_mixF (HC.out.mono (fun _ _ h => .inl h)), ?_⟩
            repeat (refine wpMix_seg 1 _ _ rfl ?_; simp only [List.take_succ_cons, List.take_zero, List.drop_succ_cons, List.drop_zero]; go_big_quiet_step (fail); refine wpQuiet_nil ?_)
            refine wpMix_bar rfl (by rfl) ?_
            go_wp2_with fail
            refine (ledR_settle v1 _ r s pn st P1.out.r UP.out).mono ?_
            rintro e v2 ⟨rfl, hR, hC2⟩
            have HC3 : Hid (Chg (fun k => G k ∨ H k) wc v2) := (HC.out.mono (fun _ _ h => .inl h)).step hC2 (fun _ _ h => .inr h.1)
            have ND := Lib.hid (NX.out _ _ _ _ HL.out HC.out (hR.sub (fun _ _ h => .inl h)) hC2 (LS.next_settle raw s pn st) (Below.refl _ _))
            clear hR hC2
            generalize s.settle pn st = sx at *
            go_wp2
            refine ⟨chg_mixF HC3.out, ?_⟩
            repeat (refine wpMix_seg 1 _ _ rfl ?_; simp only [List.take_succ_cons, List.take_zero, List.drop_succ_cons, List.drop_zero]; go_big_quiet_step (fail); refine wpQuiet_nil ?_)
            refine wpMix_nil ?_
            go_wp2
            go_ret
            exact ⟨rfl, ND.out⟩
        · have q5 : (kind == 5) = false := by simp; omega
          have q6 : (kind == 6) = false := by simp; omega
          clear k56
          by_cases k7 : kind = 7
          · subst k7
            go_wp2
            have PX0 := Lib.hid (PX.out.qt ⟨1, rfl⟩ : Pair wc.drew G H p r s s)
            refine wp_region_chg (fun k => G k ∨ H k) (by kernel_rfl) (by kernel_rfl) ?_
            repeat (refine wpMix_seg 1 _ _ rfl ?_; simp only [List.take_succ_cons, List.take_zero, List.drop_succ_cons, List.drop_zero]; go_big_quiet_step (fail); refine wpQuiet_nil ?_)
            refine wpMix_bar rfl (by rfl) ?_
            go_wp2_with fail
            refine (led_use wc.drew G p s pn PX0.out.p UP.out).mono ?_
            rintro e v1 ⟨rfl, hL, hC⟩
            have hL := hL.sub (G := Grow G wc) (fun _ _ h => .inl h)
            have hC : Chg G wc v1 := (Chg.refl G wc).drew.step hC (fun _ _ h => h)
            have HL := Lib.hid hL
            have HC := Lib.hid hC
            have P1 := Lib.hid (PX.out.movP hL (fun k h => h) hC)
            clear hL hC
            go_wp2
            refine ⟨chg_mixF (HC.out.mono (fun _ _ h => .inl h)), ?_⟩
            repeat (refine wpMix_seg 1 _ _ rfl ?_; simp only [List.take_succ_cons, List.take_zero, List.drop_succ_cons, List.drop_zero]; go_big_quiet_step (fail); refine wpQuiet_nil ?_)
            refine wpMix_bar rfl (by rfl) ?_
            go_wp2_with fail
            refine (ledR_use v1 _ r s pn P1.out.r UP.out).mono ?_
            rintro e v2 ⟨rfl, hR, hC2⟩
            have HC3 : Hid (Chg (fun k => G k ∨ H k) wc v2) := (HC.out.mono (fun _ _ h => .inl h)).step hC2 (fun _ _ h => .inr h.1)
            have ND := Lib.hid (NX.out _ _ _ _ HL.out HC.out (hR.sub (fun _ _ h => .inl h)) hC2 (LS.next_use raw s pn) (Below.refl _ _))
            clear hR hC2
            generalize s.use pn = sx at *
            go_wp2
            refine ⟨chg_mixF HC3.out, ?_⟩
            repeat (refine wpMix_seg 1 _ _ rfl ?_; simp only [List.take_succ_cons, List.take_zero, List.drop_succ_cons, List.drop_zero]; go_big_quiet_step (fail); refine wpQuiet_nil ?_)
            refine wpMix_nil ?_
            go_wp2
            go_ret
            exact ⟨rfl, ND.out⟩
          · have q7 : (kind == 7) = false := by simp; omega
            have NB : Hid (∀ v, Below wc.heap.size wc v → Did raw w F p r s v) := fun v hb =>
              NX.out _ _ _ _ (PX.out.p.sub (fun _ _ h => .inl h)) (Chg.refl _ _) ((PX.out.r.sub (fun _ hk h => .inl ⟨h, hk⟩))) (Chg.refl _ _) (LS.Next.refl raw s) hb
            have hts : w.heap.size + 1 + 1 < wc.heap.size := lt_of_block B2.out
            by_cases hh : s.has pn
            · have c1 := led_get wc G p s pn PX.out.p UP.out
              rw [show s.get pn = (s.at' pn, true) from if_pos hh] at c1
              have HH := Lib.hid hh
              have C1 := Lib.hid c1
              clear c1 hh
              have C2 := fun v (h : LedR v H r s) => ledR_get_yes v H r s pn h HH.out
              have C2 := Lib.hid C2
              generalize s.at' pn = y at *
              go_wp2_with fail
              refine C1.out.mono ?_
              unfold Snt.val
              rintro e v1 ⟨rfl, hb⟩
              obtain ⟨hc1, hf1⟩ := bcell hb
              have hs1 := hb.size
              have l0 : w.heap.size < wc.heap.size := by omega
              have l1 : w.heap.size < v1.heap.size := by omega
              have PB := Lib.hid (PX.out.r.below (hb.trans ((box_below v1 (.cells #[.int .u64 y.pn, .int .u64 y.off, .int .u64 y.len, .int .u64 y.nonce, .int .u64 y.at_, .bool y.coin, .bool y.used, .int .i64 y.state] 76)).mono hb.size)))
              go_wp2_with fail
              refine (C2.out _ PB.out).mono ?_
              unfold Snt.val
              rintro e v2 ⟨rfl, hb2⟩
              obtain ⟨hc2, hf2⟩ := bcell hb2
              have hs2 := hb2.size
              have l2 : v1.heap.size < v2.heap.size := by simp at hs2; omega
              have hb3 := hb.trans (((box_below v1 (.cells #[.int .u64 y.pn, .int .u64 y.off, .int .u64 y.len, .int .u64 y.nonce, .int .u64 y.at_, .bool y.coin, .bool y.used, .int .i64 y.state] 76)).trans (hb2.mono (box_below v1 _).size)).mono hb.size)
              go_wp2
              go_ret
              exact ⟨rfl, NB.out _ (hb3.alloc (by omega) _)⟩
            · have c1 := led_get wc G p s pn PX.out.p UP.out
              rw [show s.get pn = (LS.zero, false) from if_neg hh] at c1
              have HH := Lib.hid hh
              have C1 := Lib.hid c1
              clear c1 hh
              go_wp2_with fail
              refine C1.out.mono ?_
              unfold Snt.val LS.zero
              rintro e v1 ⟨rfl, hb⟩
              obtain ⟨hc1, hf1⟩ := bcell hb
              have hs1 := hb.size
              have l0 : w.heap.size < wc.heap.size := by omega
              have l1 : w.heap.size < v1.heap.size := by omega
              have PB := Lib.hid (PX.out.r.below (hb.trans ((box_below v1 (.cells #[.int .u64 0, .int .u64 0, .int .u64 0, .int .u64 0, .int .u64 0, .bool false, .bool false, .int .i64 0] 76)).mono hb.size)))
              go_wp2_with fail
              refine (ledR_get_no _ H r s pn PB.out UP.out HH.out).mono ?_
              unfold Snt.val LS.zero
              rintro e v2 ⟨rfl, hb2⟩
              obtain ⟨hc2, hf2⟩ := bcell hb2
              have hs2 := hb2.size
              have l2 : v1.heap.size < v2.heap.size := by simp at hs2; omega
              have hb3 := hb.trans (((box_below v1 (.cells #[.int .u64 0, .int .u64 0, .int .u64 0, .int .u64 0, .int .u64 0, .bool false, .bool false, .int .i64 0] 76)).trans (hb2.mono (box_below v1 _).size)).mono hb.size)
              go_wp2
              go_ret
              exact ⟨rfl, NB.out _ (hb3.alloc (by omega) _)⟩

end Go.Proofs.YtelaimephejkkaaGreat

namespace Go.Proofs.YtelaimephejkkaaGreat
set_option linter.unusedSimpArgs false
set_option linter.unusedVariables false
set_option linter.unnecessarySimpa false
open Go.RowKit

structure Dd where
  kind : Int
  a : Int
  b : Int
def Dd.vals (d : Dd) : List Value := [.int .i64 d.kind, .int .u64 d.a, .int .u64 d.b]
def Ds (l : List Dd) : List Value := l.flatMap Dd.vals
def Dd.ok (d : Dd) : Prop := isU64 d.a ∧ isU64 d.b
theorem Rd.deed {w : World} {A : Option Addr} {n c : Nat} {l : List Dd} (h : Rd w 3 A n c (Ds l)) {i : Nat} (hi : i < l.length) :
    ∃ b off, A = some ⟨b, off, none⟩ ∧ w.cell? ⟨b, off + i * 3, none⟩ = some (.int .i64 l[i].kind) ∧ w.cell? ⟨b, off + i * 3 + 1, none⟩ = some (.int .u64 l[i].a) ∧ w.cell? ⟨b, off + i * 3 + 2, none⟩ = some (.int .u64 l[i].b) := by
  obtain ⟨b, off, e, hc⟩ := Rd.elem (f := Dd.vals) (k := 3) (fun _ => rfl) h (by omega) hi
  exact ⟨b, off, e, hc 0 _ rfl, hc 1 _ rfl, hc 2 _ rfl⟩
theorem Rd.deeds {w : World} {A : Option Addr} {n c : Nat} {l : List Dd} (h : Rd w 3 A n c (Ds l)) : l.length = n := Rd.count (f := Dd.vals) (k := 3) (fun _ => rfl) h (by omega)

/-- The blocks behind w's, but two. -/
def Own (w : World) (g : Nat) : Nat → Prop := fun j => w.heap.size ≤ j ∧ j ≠ w.heap.size ∧ j ≠ g
/-- The blocks behind w's. -/
def Beh (w : World) : Nat → Prop := fun j => w.heap.size ≤ j
theorem beh_step {w v v' : World} (hb : Below w.heap.size w v) (hc : Chg (Beh w) v v') : Below w.heap.size w v' := hb.trans (hc.below hb.size (fun k hk h => by unfold Beh at h; omega))
theorem beh_grow {w v : World} (hb : Below w.heap.size w v) {k : Nat} (h : Grow (Beh w) v k) : Beh w k := by
  rcases h with h | h
  · exact h
  · exact Nat.le_trans hb.size h
/-- The blocks behind w's, but one. -/
def But (w : World) (g : Nat) : Nat → Prop := fun j => w.heap.size ≤ j ∧ j ≠ g

end Go.Proofs.YtelaimephejkkaaGreat

namespace Go.Proofs.YtelaimephejkkaaGreat
set_option linter.unusedSimpArgs false
set_option linter.unusedVariables false
set_option linter.unnecessarySimpa false
open Go.RowKit

structure MakeRel (w : World) (p r g k : Nat) (ring limit : Int) (s : LS) (wr : World) : Prop where
  two : Two wr (Own w g) p r s
  z : wr.heap[w.heap.size]? = some (.cells #[.pointer none, .pointer none] 28 (0, 0))
  t : wr.heap[g]? = some (.cells #[.pointer (some ⟨p, 0, none⟩), .pointer (some ⟨r, 0, none⟩)] 28 (0, 0))
  bel : Below w.heap.size w wr
  rg : s.ring = (LS.new ring limit).ring
  lim : s.limit = (LS.new ring limit).limit
  len : s.all.length ≤ k
  sm : s.Small

set_option maxHeartbeats 4000000 in
set_option maxRecDepth 100000 in
theorem make_any (ring limit : Int) (A : Option Addr) (n c : Nat) (l : List Dd) (w : World) (hr : Rd w 3 A n c (Ds l)) (hok : ∀ d ∈ l, d.ok) (hlim : isU64 limit) :
    Calls Tryz.prog 9 #[.int .i64 ring, .int .u64 limit, .slice A n c] w fun e w' => ∃ p r s, e = .returned (.tuple #[.agg #[.pointer (some ⟨p, 0, none⟩), .pointer (some ⟨r, 0, none⟩)], .bool true]) ∧
      Two w' (fun j => w.heap.size ≤ j) p r s ∧ Below w.heap.size w w' ∧ s.ring = (LS.new ring limit).ring ∧ s.limit = (LS.new ring limit).limit ∧ s.all.length ≤ 80 ∧ s.Small ∧ s.all.length ≤ l.length := by
  have hcap := hr.cap
  have hmax := hr.max
  unfold maxLen at hmax
  have hln := hr.deeds
  subst hln
  have HR := Lib.hid hr
  have OK := Lib.hid hok
  have HL := Lib.hid hlim
  have e1 := box_below w (.cells #[.pointer none, .pointer none] 28)
  have z1 := heap_alloc_new w (.cells #[.pointer none, .pointer none] 28)
  have E1 := Lib.hid e1
  have Z1 := Lib.hid z1
  clear e1 z1 hr hok hlim
  go_enter Tryz.func9, Tryz.ntmps9
  go_wp2_with fail
  refine (led_new ring limit _ HL.out).mono ?_
  rintro e w1 ⟨rfl, hL, b1⟩
  have s1 := hL.lt
  have L1 := Lib.hid hL
  have E2 := Lib.hid (E1.out.trans (b1.mono E1.out.size))
  have Z2 := Lib.hid ((b1.block _ (lt_of_block Z1.out)).trans Z1.out)
  clear hL b1 Z1
  go_wp2_with fail
  refine (ledR_new ring limit _ HL.out).mono ?_
  rintro e w2 ⟨rfl, hL, b2⟩
  have s2 := hL.lt
  have PR := Lib.hid (Pair.mk (L1.out.below b2) hL (fun k h1 h2 => by omega) : Pair w2 _ _ _ _ _ _)
  have E3 := Lib.hid (E2.out.trans (b2.mono E2.out.size))
  have Z3 := Lib.hid ((b2.block _ (lt_of_block Z2.out)).trans Z2.out)
  have hs : (w.alloc (.cells #[.pointer none, .pointer none] 28)).heap.size = w.heap.size + 1 := by simp
  clear hL b2 Z2 L1 E2 E1
  simp only [hs] at *
  generalize hp : w.heap.size + 1 = p at *
  generalize w1.heap.size = r at *
  have HP := Lib.hid hp
  clear hs
  have BX := Lib.hid (heap_alloc_new w2 (.cells #[.pointer (some ⟨p, 0, none⟩), .pointer (some ⟨r, 0, none⟩)] 28))
  have hb3 := box_below w2 (.cells #[.pointer (some ⟨p, 0, none⟩), .pointer (some ⟨r, 0, none⟩)] 28)
  have st : Hid (MakeRel w p r w2.heap.size 0 ring limit (LS.new ring limit) (w2.alloc (.cells #[.pointer (some ⟨p, 0, none⟩), .pointer (some ⟨r, 0, none⟩)] 28))) := by
    refine ⟨((PR.out.below hb3).shut fun k _ hk => ?_), (hb3.block _ (lt_of_block Z3.out)).trans Z3.out, BX.out, E3.out.trans (hb3.mono E3.out.size), rfl, rfl, by simp [LS.new], fun x hx => by simp [LS.new] at hx⟩
    have := HP.out
    unfold Own
    rcases hk with hk | hk <;> omega
  have hg : w.heap.size < w2.heap.size := lt_of_block Z3.out
  clear E3 Z3 PR hp hb3 s1 s2
  go_wp2
  have hw3 : w2.heap.size < (w2.alloc (.cells #[.pointer (some ⟨p, 0, none⟩), .pointer (some ⟨r, 0, none⟩)] 28)).heap.size := by simp
  generalize hW3 : w2.alloc (.cells #[.pointer (some ⟨p, 0, none⟩), .pointer (some ⟨r, 0, none⟩)] 28) = w3 at *
  clear hW3
  generalize w2.heap.size = g at *
  go_loopw [9] (fun i wr => ∃ (k : Nat) (s : LS), k ≤ l.length ∧ k ≤ 80 ∧ i = .int .i64 k ∧ MakeRel w p r g k ring limit s wr) (fun i _ => l.length - (intOf i).toNat)
  case atStart => exact ⟨0, _, Nat.zero_le _, Nat.zero_le _, rfl, st.out⟩
  case round =>
    obtain ⟨k, s, hk1, hk2, rfl, hM⟩ := hrel
    have HM := Lib.hid hM
    have hsk := hM.len
    have hgs := lt_of_block hM.t
    have t0 := cell_of_row wr g 0 _ _ _ HM.out.t
    have t1 := cell_of_row wr g 1 _ _ _ HM.out.t
    clear hM
    by_cases hlt : k < l.length ∧ k < 80
    · obtain ⟨h1, h2⟩ := hlt
      obtain ⟨bb, off, rfl, d0, d1, d2⟩ := (HR.out.below (HM.out.bel)).deed h1
      have od := OK.out l[k] (List.getElem_mem _)
      generalize l[k] = d at *
      go_wp2_with fail
      refine (two_do _ (Own w g) p r s _ d.a d.b false (HM.out.two.below (box_below wr _)) od.1 od.2 (by omega)).mono ?_
      rintro e w4 ⟨rfl, s', hT, hC, hn⟩
      have hC1 : Hid (Chg (Own w g) wr w4) := ((chg_below (box_below wr _)).step hC (fun _ _ h => h))
      have HT := Lib.hid hT
      have HN := Lib.hid hn
      clear hT hC hn t0 t1 d0 d1 d2
      go_wp2
      go_roundw
      case rel =>
        refine ⟨k + 1, s', by omega, by omega, by go_num, ?_⟩
        have hN := HN.out
        have hM := HM.out
        have hz := lt_of_block hM.z
        refine ⟨HT.out.sub (fun j _ hj => ?_), hC1.out.blk hM.z (fun h => h.2.1 rfl), hC1.out.blk hM.t (fun h => h.2.2 rfl), hM.bel.trans (hC1.out.below hM.bel.size (fun j hj h => by have := h.1; omega)), hN.1.trans hM.rg, hN.2.1.trans hM.lim, by have := hN.2.2.2.1; omega, hN.2.2.2.2 rfl hM.sm⟩
        rcases hj with hj | hj
        · exact hj
        · have := hM.bel.size
          simp only [World.alloc, Array.size_push] at hj
          exact ⟨by omega, by omega, by omega⟩
      case measure => simp [intOf]; omega
    · have hM := HM.out
      have fz0 := frozen_of_row wr w.heap.size 0 _ _ hM.z
      have fz1 := frozen_of_row wr w.heap.size 1 _ _ hM.z
      have z0 := cell_of_row wr w.heap.size 0 _ _ _ hM.z
      have z1 := cell_of_row wr w.heap.size 1 _ _ _ hM.z
      have M0 := mixF_cell (F := fun j => j = w.heap.size) t0 (by show ¬ g = w.heap.size; omega)
      have M1 := mixF_cell (F := fun j => j = w.heap.size) t1 (by show ¬ g = w.heap.size; omega)
      have TS := Lib.hid (hM.two.below (Below.refl _ _).drew)
      have MB := Lib.hid hM.bel
      have MT := Lib.hid hM.two
      have MZ := Lib.hid hM.z
      have hzs := lt_of_block hM.z
      clear hM
      by_cases h1 : k < l.length
      all_goals
        go_wp2
        refine wp_region_chg (fun j => j = w.heap.size) (by kernel_rfl) (by kernel_rfl) ?_
        repeat (refine wpMix_seg 1 _ _ rfl ?_; simp only [List.take_succ_cons, List.take_zero, List.drop_succ_cons, List.drop_zero]; go_big_quiet_step (fail); refine wpQuiet_nil ?_)
        refine wpMix_bar rfl (by rfl) ?_
        go_wp2_with fail
        refine (two_same _ _ p r s TS.out).mono ?_
        rintro e w5 ⟨rfl, b5⟩
        have b6 : Below wr.heap.size wr w5 := ((Below.refl _ _).drew).trans b5
        have B6 := Lib.hid b6
        have fy0 := frozen_of_row w5 w.heap.size 0 _ _ ((b6.block _ hzs).trans MZ.out)
        have fy1 := frozen_of_row w5 w.heap.size 1 _ _ ((b6.block _ hzs).trans MZ.out)
        have y0 := cell_of_row w5 w.heap.size 0 _ _ _ ((b6.block _ hzs).trans MZ.out)
        have y1 := cell_of_row w5 w.heap.size 1 _ _ _ ((b6.block _ hzs).trans MZ.out)
        clear b5 b6
        go_wp2
        refine ⟨chg_mixF (chg_below B6.out), ?_⟩
        repeat (refine wpMix_seg 1 _ _ rfl ?_; simp only [List.take_succ_cons, List.take_zero, List.drop_succ_cons, List.drop_zero]; go_big_quiet_step (fail); refine wpQuiet_nil ?_)
        refine wpMix_bar rfl (by rfl) ?_
        go_wp2
        have hC : Chg (fun j => j = w.heap.size) w5 ((w5.setCell ⟨w.heap.size, 0, none⟩ (.pointer (some ⟨p, 0, none⟩))).setCell ⟨w.heap.size, 1, none⟩ (.pointer (some ⟨r, 0, none⟩))) :=
          ((Chg.refl (fun j => j = w.heap.size) w5).setCell (p := ⟨w.heap.size, 0, none⟩) (.inl rfl) _).setCell (p := ⟨w.heap.size, 1, none⟩) (.inl rfl) _
        have HC := Lib.hid hC
        refine ⟨chg_mixF ((chg_below B6.out).step hC (fun _ _ h => h)), ?_⟩
        repeat (refine wpMix_seg 1 _ _ rfl ?_; simp only [List.take_succ_cons, List.take_zero, List.drop_succ_cons, List.drop_zero]; go_big_quiet_step (fail); refine wpQuiet_nil ?_)
        refine wpMix_nil ?_
        go_wp2
        (try simp only [Exit.inBlock, Exit.then])
        refine bodyPost_ret (v := .tuple #[.agg #[.pointer (some ⟨p, 0, none⟩), .pointer (some ⟨r, 0, none⟩)], .bool true]) ?_ rfl ⟨p, r, s, rfl, ?_, ?_, HM.out.rg, HM.out.lim, by omega, HM.out.sm, by omega⟩
        · rw [results_cell_tmp rfl]
          go_simp
        · exact ((MT.out.below B6.out).chg HC.out (fun j _ h e => h.2.1 e)).sub (fun j _ h => h.1)
        · exact (MB.out.trans (B6.out.mono MB.out.size)).trans (HC.out.below (Nat.le_trans MB.out.size B6.out.size) (fun j hj e => by omega))

end Go.Proofs.YtelaimephejkkaaGreat
