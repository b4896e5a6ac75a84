/-
  A deed on both queues.
-/
import Derived.Test.YtilgekmpkoohaaaTwoQ
import Derived.Deep.DeepCutAuto
import Derived.Laws.Closers25b
import Derived.Laws.MakeOwn
namespace Go.Proofs.Ytilgekmpkoohaaa
set_option linter.unusedSimpArgs false
set_option linter.unusedVariables false
set_option linter.unnecessarySimpa false
open Go.RowKit
attribute [local go_sem ↓] run_min_int run_max_int

namespace QS
def Near (s s' : QS) : Prop := s'.room = s.room ∧ s'.b.length ≤ s.b.length + 20
theorem Near.refl (s : QS) : Near s s := ⟨rfl, Nat.le_add_right _ _⟩
theorem near_sent (s : QS) (off n : Int) : Near s (s.sent off n).1 := by
  unfold sent
  split
  · exact ⟨rfl, Nat.le_add_right _ _⟩
  · exact Near.refl s
theorem near_acked (s : QS) (off n : Int) : Near s (s.acked off n).1 := by
  unfold acked
  split
  · exact ⟨rfl, Nat.le_add_right _ _⟩
  · exact Near.refl s
theorem near_lost (s : QS) (off n : Int) : Near s (s.lost off n).1 := by
  unfold lost
  split
  · exact ⟨rfl, Nat.le_add_right _ _⟩
  · exact Near.refl s
theorem near_write (s : QS) (l : List Int) (h : l.length ≤ 20) : Near s (s.write l).1 := by
  refine ⟨rfl, ?_⟩
  simp only [write, List.length_append, List.length_take]
  omega
/-- What is told next may be sent. -/
theorem next_sent {s : QS} (g : s.Good) {most : Int} (h : s.nOk most = true) : within (s.nOff most) (s.nBody most).length s.b.length ∧ (s.nOff most : Int) ≤ s.fresh ∧ s.nOff most + (s.nBody most).length ≤ s.b.length ∧ ((s.nBody most).length : Int) ≤ most := by
  unfold nOk at h
  unfold nOff nBody
  rw [next_eq] at h ⊢
  split at h
  · cases h
  · rename_i h1
    rw [if_neg h1]
    split at h
    · cases h
    · rename_i h2
      rw [if_neg h2]
      obtain ⟨e1, e2, e3⟩ := ends_in g
      have hfr : s.ends.1 ≤ s.fresh := by
        unfold ends
        split
        · exact Nat.le_refl _
        · rename_i h3
          have h4 := firstOf_le s.ow
          have := (g.ob _ (firstOf_at (l := s.ow) (by omega))).1
          simp only
          omega
      simp only [List.length_take, List.length_drop]
      unfold within
      omega
end QS

/-- A deed leaves both alike; what came of it. -/
def DidQ (w : World) (F : Nat → Prop) (p r : Nat) (s : QS) (w' : World) : Prop :=
  ∃ s' : QS, TwoQ w' (Grow F w) p r s' ∧ Chg F w w' ∧ QS.Near s s'

structure DoMidQ (w : World) (G H : Nat → Prop) (p r : Nat) (s : QS) (kind a b off n : Int) (wx : World) : Prop where
  uo : isU64 off
  un : isU64 n
  two : PairQ wx G H p r s s
  bx0 : wx.heap[w.heap.size]? = some (.cells #[.pointer (some ⟨p, 0, none⟩), .pointer (some ⟨r, 0, none⟩)] 26 (0, 0))
  bx1 : wx.heap[w.heap.size + 1]? = some (.cells #[.int .i64 kind, .int .u64 a, .int .u64 b] 56 (0, 0))
  bel : Below w.heap.size w wx

theorem two_boxes (w : World) (o1 o2 : Obj) (n : Nat) : (((w.alloc o1).alloc o2).drewN n).heap[w.heap.size]? = some o1 ∧ (((w.alloc o1).alloc o2).drewN n).heap[w.heap.size + 1]? = some o2 ∧ Below w.heap.size w (((w.alloc o1).alloc o2).drewN n) := by
  have e1 := heap_alloc_new w o1
  have e2 := heap_alloc_new (w.alloc o1) o2
  have s1 : (w.alloc o1).heap.size = w.heap.size + 1 := by simp
  rw [s1] at e2
  refine ⟨?_, e2, ?_⟩
  · exact (Below.heap_alloc _ _ _ (by omega)).trans e1
  · exact below_drewN ((Below.refl _ _).alloc (Nat.le_refl _) _ |>.alloc (by omega) _) _

/-- The bytes that are made for a write. -/
structure Fill (w : World) (g m k : Nat) (wr : World) : Prop where
  bel : Below w.heap.size w wr
  lt : w.heap.size ≤ g
  row : ∃ xs : List Int, xs.length = m ∧ (∀ x ∈ xs, 0 ≤ x ∧ x ≤ 255) ∧ wr.ownsRow w.heap.size 5 1 (.slice (some ⟨g, 0, none⟩) m m) m (U8 xs)
theorem Fill.made (w : World) (m : Nat) (hm : m ≤ maxLen) : Fill w w.heap.size m 0 (w.alloc (.cells (madeCells #[.int .u8 0] m) 5)) := by
  have h1 := World.ownsRow_lit (base := w.heap.size) (e := 5) (size := 1) w (madeCells #[.int .u8 0] m) m (Nat.le_refl _) hm (by rw [size_madeCells]; omega)
  rw [toList_madeCells_one] at h1
  refine ⟨box_below w _, Nat.le_refl _, List.replicate m 0, by simp, fun x hx => by rw [(List.mem_replicate.1 hx).2]; omega, ?_⟩
  simpa [U8] using h1
theorem Fill.cell {w : World} {g m k : Nat} {wr : World} (h : Fill w g m k wr) (hk : k < m) : (∃ u, wr.cell? ⟨g, k, none⟩ = some u) ∧ wr.frozen? ⟨g, k, none⟩ = false ∧ g < wr.heap.size := by
  obtain ⟨xs, hl, -, ho⟩ := h.row
  subst hl
  have hg := (ho.lt g (by simp [Value.ownBlock])).2
  obtain ⟨b, off, eb, hc⟩ := (Rd.of_own ho).u8 (k := k) (by omega) (by omega)
  injection eb with eb
  injection eb with eb1 eb2
  subst eb1 eb2
  refine ⟨⟨_, by simpa using hc⟩, ?_, hg⟩
  rcases ho.2 with ⟨h2, -⟩ | ⟨g', cap', cur, hv, hb, hg', -⟩
  · cases h2
  · injection hv with e1
    injection e1 with e1
    injection e1 with e1
    subst e1
    exact frozen_of_row wr g k _ _ hg'
theorem Fill.put {w : World} {g m k : Nat} {wr : World} (h : Fill w g m k wr) (hk : k < m) {x : Int} (hx : 0 ≤ x ∧ x ≤ 255) : Fill w g m (k + 1) (wr.setCell ⟨g, k, none⟩ (.int .u8 x)) := by
  obtain ⟨xs, hl, hb, ho⟩ := h.row
  refine ⟨h.bel.setCell h.lt _, h.lt, xs.set k x, by simpa using hl, fun y hy => ?_, ?_⟩
  · rcases List.mem_or_eq_of_mem_set hy with hy | rfl
    · exact hb y hy
    · exact hx
  · have := own_put ho hk (.int .u8 x)
    simpa [U8, List.map_set] using this

set_option maxHeartbeats 8000000 in
set_option maxRecDepth 100000 in
theorem two_doQ (w : World) (F : Nat → Prop) (p r : Nat) (s : QS) (kind a b : Int) (h : TwoQ w F p r s) (ha : isU64 a) (hb : isU64 b) (hmax : s.b.length ≤ 900000) :
    Calls Try.prog 23 #[.agg #[.pointer (some ⟨p, 0, none⟩), .pointer (some ⟨r, 0, none⟩)], .agg #[.int .i64 kind, .int .u64 a, .int .u64 b]] w fun e w' => e = .returned (.bool true) ∧ DidQ w F p r s w' := by
  have UA := Lib.hid ha
  have UB := Lib.hid hb
  obtain ⟨a0, a1⟩ := ha
  obtain ⟨b0, b1⟩ := hb
  obtain ⟨G, H, hp, hF⟩ := h
  have HF := Lib.hid hF
  have HP := Lib.hid hp
  have GD := Lib.hid hp.p.good
  clear hp hF
  go_enter Try.func23, Try.ntmps23
  go_wp2
  refine wp_region_qt (by kernel_rfl) (by kernel_rfl) ?_
  repeat (go_big_quiet_step (fail))
  refine wpQuiet_nil ?_
  rintro w' ⟨n1, rfl⟩
  obtain ⟨e0, e1, e3⟩ := two_boxes w (.cells #[.pointer (some ⟨p, 0, none⟩), .pointer (some ⟨r, 0, none⟩)] 26) (.cells #[.int .i64 kind, .int .u64 a, .int .u64 b] 56) n1
  generalize hW0 : (((w.alloc (.cells #[.pointer (some ⟨p, 0, none⟩), .pointer (some ⟨r, 0, none⟩)] 26)).alloc (.cells #[.int .i64 kind, .int .u64 a, .int .u64 b] 56)).drewN n1) = W0 at *
  clear hW0
  have E0 := Lib.hid e0
  have E1 := Lib.hid e1
  have E3 := Lib.hid e3
  clear e0 e1 e3
  have d0 := cell_of_row W0 (w.heap.size + 1) 0 _ _ _ E1.out
  have d1 := cell_of_row W0 (w.heap.size + 1) 1 _ _ _ E1.out
  have d2 := cell_of_row W0 (w.heap.size + 1) 2 _ _ _ E1.out
  go_upto_if 18 with fail
  go_cut [5, 6] (fun s5 s6 wx => ∃ off n, s5 = .int .u64 off ∧ s6 = .int .u64 n ∧ DoMidQ w G H p r s kind a b off n wx)
  case first =>
    have HP0 := Lib.hid (HP.out.below QP.stays QR.stays E3.out)
    obtain ⟨RA, Rc, RA1, Rc1, RA2, Rc2, hRC⟩ := HP0.out.r.ex
    have RT := Lib.hid hRC.t
    clear hRC
    have t0 := cell_of_row W0 w.heap.size 0 _ _ _ E0.out
    have t1 := cell_of_row W0 w.heap.size 1 _ _ _ E0.out
    have x1 := cell_of_row W0 r 1 _ _ _ RT.out
    have wl : IntKind.u64.wrap (s.b.length : Int) = (s.b.length : Int) := IntWalk.u64_in _ (by omega)
    have wl2 : IntKind.u64.wrap ((s.b.length : Int) + 2) = (s.b.length : Int) + 2 := IntWalk.u64_in _ (by omega)
    have hnz : ((s.b.length : Int) + 2) ≠ 0 := by omega
    by_cases h7 : a % 7 > 0
    · have d7 : decide (a % 7 > 0) = true := decide_eq_true h7
      have d7' : decide (0 < a % 7) = true := decide_eq_true h7
      go_upto_region 3 with fail
      refine wp_region_qt (by kernel_rfl) (by kernel_rfl) ?_
      repeat (go_big_quiet_step (fail))
      refine wpQuiet_nil ?_
      rintro w' ⟨n2, rfl⟩
      go_wp2_with fail
      go_meet
      refine ⟨_, _, rfl, rfl, ⟨?_, ?_⟩, ⟨?_, ?_⟩, HP0.out.below QP.stays QR.stays (Qt.below ⟨n2, rfl⟩), E0.out, E1.out, below_drewN E3.out _⟩
      all_goals first
        | exact Int.emod_nonneg _ (by omega)
        | (have := Int.emod_lt_of_pos a (show (0 : Int) < (s.b.length : Int) + 2 by omega); omega)
        | omega
    · have d7 : decide (a % 7 > 0) = false := decide_eq_false h7
      have d7' : decide (0 < a % 7) = false := decide_eq_false h7
      go_wp2_with fail
      go_meet
      exact ⟨_, _, rfl, rfl, UA.out, UB.out, HP0.out, E0.out, E1.out, E3.out⟩
  case rest =>
    obtain ⟨off, n, rfl, rfl, hm⟩ := hcut
    obtain ⟨m1, m2, m3, m4, m5, m6⟩ := hm
    have nG : Hid (∀ k, w.heap.size ≤ k → ¬ G k) := fun k hk h => by have := (HF.out k (.inl h)).2; omega
    have nH : Hid (∀ k, w.heap.size ≤ k → ¬ H k) := fun k hk h => by have := (HF.out k (.inr h)).2; omega
    have B0 := Lib.hid m4
    have B1 := Lib.hid m5
    have BL := Lib.hid m6
    have PX := Lib.hid m3
    have UO := Lib.hid m1
    have UN := Lib.hid m2
    have NX : Hid (∀ (s' : QS) (v1 v2 v3 : World), QueP v1 (Grow G wc) p s' → Chg G wc v1 → QuRP v2 (Grow (fun k => H k ∧ k < wc.heap.size) v1) r s' → Chg (fun k => H k ∧ k < wc.heap.size) v1 v2 → QS.Near s s' → Below v2.heap.size v2 v3 → DidQ w F p r s v3) :=
      fun s' v1 v2 v3 a b c d e f => by
        obtain ⟨d1, d2⟩ := Prs.did (P := QP p s) (R := QR r s) (P' := QP p s') (R' := QR r s') QR.stays QP.stays QR.stays HF.out m6 m3 a b c d f
        exact ⟨s', d1, d2, e⟩
    clear m1 m2 m3 m4 m5 m6 E0 E1 E3 HP d0 d1 d2
    have hts : w.heap.size + 1 < wc.heap.size := lt_of_block B1.out
    have t0 := cell_of_row wc w.heap.size 0 _ _ _ B0.out
    have t1 := cell_of_row wc w.heap.size 1 _ _ _ B0.out
    have d0 := cell_of_row wc (w.heap.size + 1) 0 _ _ _ B1.out
    have d1 := cell_of_row wc (w.heap.size + 1) 1 _ _ _ B1.out
    have d2 := cell_of_row wc (w.heap.size + 1) 2 _ _ _ B1.out
    have M0 := mixF_cell (F := fun k => G k ∨ H k) t0 (fun h => h.elim (nG.out _ (Nat.le_refl _)) (nH.out _ (Nat.le_refl _)))
    have M1 := mixF_cell (F := fun k => G k ∨ H k) t1 (fun h => h.elim (nG.out _ (Nat.le_refl _)) (nH.out _ (Nat.le_refl _)))
    by_cases k01 : kind = 0 ∨ kind = 1
    · have T0 := Lib.hid t0
      have T1 := Lib.hid t1
      obtain ⟨iB, hiB, bz0, bz1, bz2⟩ := info_parts infoByte
      obtain ⟨m, hm⟩ : ∃ m : Nat, (m : Int) = a % 20 := ⟨(a % 20).toNat, by omega⟩
      have hm20 : m < 20 := by omega
      have wa : IntKind.i64.wrap (a % 20) = (m : Int) := by rw [hm]; exact IntWalk.i64_in _ (by omega)
      have MK := run_make (P := Try.prog) wc 38 5 iB _ Try.underlying38 hiB bz0 .i64 .i64 m m (by omega) (Int.le_refl _) (by rw [bz2]; omega) (by omega)
      simp only [Int.toNat_natCast, bz1, Nat.mul_one] at MK
      have HM := Lib.hid hm
      clear hm
      have F0 := Lib.hid (Fill.made wc m (by unfold maxLen; omega))
      have wb : IntKind.i64.wrap (b % 251) = b % 251 := IntWalk.i64_in _ (by omega)
      have hb251 : 0 ≤ b % 251 ∧ b % 251 ≤ 250 := by omega
      rcases k01 with rfl | rfl
      all_goals
        go_wp2_with fail
        go_loopw [45] (fun i wr => ∃ k : Nat, k ≤ m ∧ i = .int .i64 k ∧ Hid (Fill wc wc.heap.size m k wr)) (fun i _ => m - (intOf i).toNat)
        case atStart => exact ⟨0, Nat.zero_le _, rfl, F0⟩
        case round =>
          obtain ⟨k, hk, rfl, FL⟩ := hrel
          have BX1 := Lib.hid ((FL.out.bel.block _ hts).trans B1.out)
          have z0 := cell_of_row wr (w.heap.size + 1) 0 _ _ _ BX1.out
          have z1 := cell_of_row wr (w.heap.size + 1) 1 _ _ _ BX1.out
          have z2 := cell_of_row wr (w.heap.size + 1) 2 _ _ _ BX1.out
          by_cases hlt : k < m
          · obtain ⟨⟨u, hu⟩, hfz, hgl⟩ := FL.out.cell hlt
            obtain ⟨x, hx⟩ : ∃ x : Int, x = IntKind.u8.wrap (b % 251 + 3 * (k : Int)) := ⟨_, rfl⟩
            have xr : 0 ≤ x ∧ x ≤ 255 := by rw [hx, IntKind.wrap_u8]; omega
            have FN := Lib.hid (FL.out.put hlt xr)
            have w3 : IntKind.i64.wrap (3 * (k : Int)) = 3 * (k : Int) := IntWalk.i64_in _ (by omega)
            have w4 : IntKind.i64.wrap (b % 251 + 3 * (k : Int)) = b % 251 + 3 * (k : Int) := IntWalk.i64_in _ (by omega)
            have i1 : (0 : Int) ≤ k := by omega
            have i2 : (k : Int) < m := by omega
            have hx' := hx.symm
            clear hx
            go_wp2
            go_roundw
            case rel => exact ⟨k + 1, by omega, by go_num, FN⟩
            case measure => simp [intOf]; omega
          · obtain rfl : k = m := by omega
            have BX0 := Lib.hid ((FL.out.bel.block _ (show w.heap.size < wc.heap.size by omega)).trans B0.out)
            have PX1 := Lib.hid (PX.out.below QP.stays QR.stays FL.out.bel)
            obtain ⟨xs, hxl, hxb, hxo⟩ := FL.out.row
            have FB := Lib.hid FL.out.bel
            have XR := Lib.hid (Rd.of_own hxo)
            have XB := Lib.hid hxb
            have M0 := mixF_cell (F := fun k => G k ∨ H k) (cell_of_row wr w.heap.size 0 _ _ _ BX0.out) (fun h => h.elim (nG.out _ (Nat.le_refl _)) (nH.out _ (Nat.le_refl _)))
            have M1 := mixF_cell (F := fun k => G k ∨ H k) (cell_of_row wr w.heap.size 1 _ _ _ BX0.out) (fun h => h.elim (nG.out _ (Nat.le_refl _)) (nH.out _ (Nat.le_refl _)))
            simp only [List.getElem_toArray, List.getElem_cons_zero, List.getElem_cons_succ] at M0 M1
            subst hxl
            clear hxo hxb FL z0 z1 z2
            go_upto_region 13 with fail
            have PX0 := Lib.hid (PX1.out.below QP.stays QR.stays (Below.refl _ _).drew)
            refine wp_region_chg (fun k => G k ∨ H k) (by kernel_rfl) (by kernel_rfl) ?_
            repeat (refine wpMix_seg 1 _ _ rfl ?_; simp only [List.take_succ_cons, List.take_zero, List.drop_succ_cons, List.drop_zero]; go_big_quiet_step (fail); refine wpQuiet_nil ?_)
            refine wpMix_bar rfl (by rfl) ?_
            go_wp2_with fail
            refine (que_write wr.drew G p s xs _ _ PX0.out.p XR.out.drew XB.out (by omega)).mono ?_
            rintro e v1 ⟨rfl, hL, hC0⟩
            have hCr : Chg G wr v1 := (Chg.refl G wr).drew.step hC0 (fun _ _ h => h)
            have hC : Chg G wc v1 := (chg_below FB.out).step hCr (fun _ _ h => h)
            have HL : Hid (QueP v1 (Grow G wc) p (s.write xs).1) := QP.stays.sub (P := QP p (s.write xs).1) hL (fun j _ hj => Grow.mono (fun _ h => h) (show wc.heap.size ≤ wr.drew.heap.size from FB.out.size) hj)
            have HC := Lib.hid hC
            have HCr := Lib.hid hCr
            have P1 := Lib.hid (PX.out.movP (P' := QP p (s.write xs).1) QR.stays HL.out (fun k h => h) hC)
            have XR1 := Lib.hid (XR.out.chg hCr (fun b' off' e' hn => by injection e' with e'; injection e' with e1 e2; subst e1; exact nG.out _ (by omega)))
            clear hL hC0 hC hCr PX0
            go_wp2
            refine ⟨chg_mixF (HCr.out.mono (fun _ _ h => .inl h)), ?_⟩
            repeat (refine wpMix_seg 1 _ _ rfl ?_; simp only [List.take_succ_cons, List.take_zero, List.drop_succ_cons, List.drop_zero]; go_big_quiet_step (fail); refine wpQuiet_nil ?_)
            refine wpMix_bar rfl (by rfl) ?_
            go_wp2_with fail
            refine (quR_write v1 _ r s xs _ _ P1.out.r XR1.out (fun b' off' e' hn hf => by injection e' with e'; injection e' with e1 e2; subst e1; exact absurd hf.2 (Nat.lt_irrefl _)) XB.out (by omega)).mono ?_
            rintro e v2 ⟨rfl, hR, hC2⟩
            have HC3 : Hid (Chg (fun k => G k ∨ H k) wr v2) := (HCr.out.mono (fun _ _ h => .inl h)).step hC2 (fun _ _ h => .inr h.1)
            have ND := Lib.hid (NX.out _ _ _ _ HL.out HC.out hR hC2 (QS.near_write s xs (by omega)) (Below.refl _ _))
            clear hR hC2
            generalize s.write xs = sx at *
            go_wp2
            refine ⟨chg_mixF HC3.out, ?_⟩
            repeat (refine wpMix_seg 1 _ _ rfl ?_; simp only [List.take_succ_cons, List.take_zero, List.drop_succ_cons, List.drop_zero]; go_big_quiet_step (fail); refine wpQuiet_nil ?_)
            refine wpMix_nil ?_
            go_wp2
            go_ret
            exact ⟨rfl, ND.out⟩
    · have q0 : (kind == 0) = false := by simp; omega
      have q1 : (kind == 1) = false := by simp; omega
      clear k01
      by_cases k23 : kind = 2 ∨ kind = 3
      · have hm1 : 1 + b % 12 < 9223372036854775808 := by omega
        have w12 : IntKind.i64.wrap (b % 12) = b % 12 := IntWalk.i64_in _ (by omega)
        have w13 : IntKind.i64.wrap (1 + b % 12) = 1 + b % 12 := IntWalk.i64_in _ (by omega)
        have SN := Lib.hid (fun h => QS.next_sent GD.out (most := 1 + b % 12) h)
        rcases k23 with rfl | rfl
        all_goals
          go_wp2_with fail
          refine (quR_next wc H r s (1 + b % 12) PX.out.r hm1).mono ?_
          rintro e w4 ⟨hv, b4⟩
          obtain ⟨A4, c4, rfl, hr4, -⟩ := hv.open_
          have hof : ((s.nOff (1 + b % 12) : Nat) : Int) < 18446744073709551616 ∧ (((s.nBody (1 + b % 12)).length : Nat) : Int) < 18446744073709551616 := by
            have h1 := hr4.cap
            have h2 := hr4.max
            unfold maxLen at h2
            refine ⟨?_, by omega⟩
            cases hk : s.nOk (1 + b % 12) with
            | true => have := (SN.out hk).2.2.1; omega
            | false =>
              unfold QS.nOk at hk
              unfold QS.nOff
              cases hq : s.next (1 + b % 12) with
              | none => simp
              | some v => rw [hq] at hk; cases hk
          have PX4 := Lib.hid (PX.out.below QP.stays QR.stays b4)
          have BL4 : Hid (Below wc.heap.size wc w4) := b4
          have B04 := Lib.hid ((b4.block _ (show w.heap.size < wc.heap.size by omega)).trans B0.out)
          clear hv b4 hr4 t0 t1 d0 d1 d2 M0 M1
          generalize hMO : s.nOff (1 + b % 12) = off' at *
          generalize hMB : (s.nBody (1 + b % 12)).length = n' at *
          cases hk : s.nOk (1 + b % 12) with
          | false =>
            clear hk
            go_upto_region 17 with fail
            have e5 := box_below w4 (.cells #[.int .u64 off', .slice A4 n' c4] 43)
            generalize hW5 : (w4.alloc (.cells #[.int .u64 off', .slice A4 n' c4] 43)) = w5 at *
            clear hW5
            have b5 : Below wc.heap.size wc w5 := BL4.out.trans (e5.mono BL4.out.size)
            have PX5 := Lib.hid (PX4.out.below QP.stays QR.stays e5)
            have B05 := Lib.hid ((e5.block _ (lt_of_block B04.out)).trans B04.out)
            have BL5 := Lib.hid b5
            clear e5 b5
            have M0 := mixF_cell (F := fun k => G k ∨ H k) (cell_of_row w5 w.heap.size 0 _ _ _ B05.out) (fun h => h.elim (nG.out _ (Nat.le_refl _)) (nH.out _ (Nat.le_refl _)))
            have M1 := mixF_cell (F := fun k => G k ∨ H k) (cell_of_row w5 w.heap.size 1 _ _ _ B05.out) (fun h => h.elim (nG.out _ (Nat.le_refl _)) (nH.out _ (Nat.le_refl _)))
            simp only [List.getElem_toArray, List.getElem_cons_zero, List.getElem_cons_succ] at M0 M1
            go_wp2
            have PX0 := Lib.hid (PX5.out.below QP.stays QR.stays (Below.refl _ _).drew)
            refine wp_region_chg (fun k => G k ∨ H k) (by kernel_rfl) (by kernel_rfl) ?_
            repeat (refine wpMix_seg 1 _ _ rfl ?_; simp only [List.take_succ_cons, List.take_zero, List.drop_succ_cons, List.drop_zero]; go_big_quiet_step (fail); refine wpQuiet_nil ?_)
            refine wpMix_bar rfl (by rfl) ?_
            go_wp2_with fail
            refine (que_sent w5.drew G p s off n PX0.out.p UO.out UN.out).mono ?_
            rintro e v1 ⟨rfl, hL, hC0⟩
            have hCr : Chg G w5 v1 := (Chg.refl G w5).drew.step hC0 (fun _ _ h => h)
            have hC : Chg G wc v1 := (chg_below BL5.out).step hCr (fun _ _ h => h)
            have HL : Hid (QueP v1 (Grow G wc) p (s.sent off n).1) := QP.stays.sub (P := QP p (s.sent off n).1) hL (fun j _ hj => Grow.mono (fun _ h => h) (show wc.heap.size ≤ w5.drew.heap.size from BL5.out.size) hj)
            have HC := Lib.hid hC
            have HCr := Lib.hid hCr
            have P1 := Lib.hid (PX.out.movP (P' := QP p (s.sent off n).1) QR.stays HL.out (fun k h => h) hC)
            clear hL hC0 hC hCr PX0
            go_wp2
            refine ⟨chg_mixF (HCr.out.mono (fun _ _ h => .inl h)), ?_⟩
            repeat (refine wpMix_seg 1 _ _ rfl ?_; simp only [List.take_succ_cons, List.take_zero, List.drop_succ_cons, List.drop_zero]; go_big_quiet_step (fail); refine wpQuiet_nil ?_)
            refine wpMix_bar rfl (by rfl) ?_
            go_wp2_with fail
            refine (quR_sent v1 _ r s off n P1.out.r UO.out UN.out).mono ?_
            rintro e v2 ⟨rfl, hR, hC2⟩
            have HC3 : Hid (Chg (fun k => G k ∨ H k) w5 v2) := (HCr.out.mono (fun _ _ h => .inl h)).step hC2 (fun _ _ h => .inr h.1)
            have ND := Lib.hid (NX.out _ _ _ _ HL.out HC.out (QR.stays.sub (P := QR r (s.sent off n).1) hR (fun _ _ h => .inl h)) hC2 (QS.near_sent s off n) (Below.refl _ _))
            clear hR hC2
            generalize s.sent off n = sx at *
            go_wp2
            refine ⟨chg_mixF HC3.out, ?_⟩
            repeat (refine wpMix_seg 1 _ _ rfl ?_; simp only [List.take_succ_cons, List.take_zero, List.drop_succ_cons, List.drop_zero]; go_big_quiet_step (fail); refine wpQuiet_nil ?_)
            refine wpMix_nil ?_
            go_wp2
            go_ret
            exact ⟨rfl, ND.out⟩
          | true =>
            obtain ⟨sn1, sn2, -, -⟩ := SN.out hk
            have HS := Lib.hid (show (s.sent off' n').2 = true by unfold QS.sent; rw [if_pos ⟨sn1, sn2⟩])
            clear hk sn1 sn2
            go_upto_region 17 with fail
            have e5 := box_below w4 (.cells #[.int .u64 off', .slice A4 n' c4] 43)
            have Y5 := Lib.hid (heap_alloc_new w4 (.cells #[.int .u64 off', .slice A4 n' c4] 43))
            generalize hW5 : (w4.alloc (.cells #[.int .u64 off', .slice A4 n' c4] 43)) = w5 at *
            clear hW5
            have b5 : Below wc.heap.size wc w5 := BL4.out.trans (e5.mono BL4.out.size)
            have PX5 := Lib.hid (PX4.out.below QP.stays QR.stays e5)
            have B05 := Lib.hid ((e5.block _ (lt_of_block B04.out)).trans B04.out)
            have BL5 := Lib.hid b5
            have hg4 : w.heap.size ≤ w4.heap.size := Nat.le_trans BL.out.size BL4.out.size
            clear e5 b5
            generalize w4.heap.size = g4 at *
            have t0 := cell_of_row w5 w.heap.size 0 _ _ _ B05.out
            have t1 := cell_of_row w5 w.heap.size 1 _ _ _ B05.out
            have y0 := cell_of_row w5 g4 0 _ _ _ Y5.out
            have y1 := cell_of_row w5 g4 1 _ _ _ Y5.out
            have wn : IntKind.u64.wrap (n' : Int) = (n' : Int) := IntWalk.u64_in _ (by omega)
            go_wp2_with fail
            refine (que_sent w5 G p s off' n' PX5.out.p ⟨by omega, hof.1⟩ ⟨by omega, hof.2⟩).mono ?_
            rw [HS.out]
            rintro e v1 ⟨rfl, hL, hC0⟩
            have hC : Chg G wc v1 := (chg_below BL5.out).step hC0 (fun _ _ h => h)
            have HL : Hid (QueP v1 (Grow G wc) p (s.sent off' n').1) := QP.stays.sub (P := QP p (s.sent off' n').1) hL (fun j _ hj => Grow.mono (fun _ h => h) BL5.out.size hj)
            have HC := Lib.hid hC
            have P1 := Lib.hid (PX.out.movP (P' := QP p (s.sent off' n').1) QR.stays HL.out (fun k h => h) hC)
            have T1 := Lib.hid (hC0.blk B05.out (nG.out _ (Nat.le_refl _)))
            have Y1 := Lib.hid (hC0.blk Y5.out (nG.out _ hg4))
            clear hL hC0 hC t0 t1 y0 y1
            have t0 := cell_of_row v1 w.heap.size 0 _ _ _ T1.out
            have t1 := cell_of_row v1 w.heap.size 1 _ _ _ T1.out
            have y0 := cell_of_row v1 g4 0 _ _ _ Y1.out
            have y1 := cell_of_row v1 g4 1 _ _ _ Y1.out
            go_wp2_with fail
            refine (quR_sent v1 _ r s off' n' P1.out.r ⟨by omega, hof.1⟩ ⟨by omega, hof.2⟩).mono ?_
            rw [HS.out]
            rintro e v2 ⟨rfl, hR, hC2⟩
            have ND := Lib.hid (NX.out _ _ _ _ HL.out HC.out (QR.stays.sub (P := QR r (s.sent off' n').1) hR (fun _ _ h => .inl h)) hC2 (QS.near_sent s off' n') (Below.refl _ _))
            clear hR hC2
            go_wp2
            go_ret
            exact ⟨rfl, ND.out⟩
      · have q2 : (kind == 2) = false := by simp; omega
        have q3 : (kind == 3) = false := by simp; omega
        clear k23
        by_cases k4 : kind = 4
        · subst k4
          go_wp2
          have PX0 := Lib.hid (PX.out.below QP.stays QR.stays (Below.refl _ _).drew)
          refine wp_region_chg (fun k => G k ∨ H k) (by kernel_rfl) (by kernel_rfl) ?_
          repeat (refine wpMix_seg 1 _ _ rfl ?_; simp only [List.take_succ_cons, List.take_zero, List.drop_succ_cons, List.drop_zero]; go_big_quiet_step (fail); refine wpQuiet_nil ?_)
          refine wpMix_bar rfl (by rfl) ?_
          go_wp2_with fail
          refine (que_sent wc.drew G p s off n PX0.out.p UO.out UN.out).mono ?_
          rintro e v1 ⟨rfl, hL, hC0⟩
          have hC : Chg G wc v1 := (Chg.refl G wc).drew.step hC0 (fun _ _ h => h)
          have HL : Hid (QueP v1 (Grow G wc) p (s.sent off n).1) := hL
          have HC := Lib.hid hC
          have P1 := Lib.hid (PX.out.movP (P' := QP p (s.sent off n).1) QR.stays HL.out (fun k h => h) hC)
          clear hL hC0 hC PX0
          go_wp2
          refine ⟨chg_mixF (HC.out.mono (fun _ _ h => .inl h)), ?_⟩
          repeat (refine wpMix_seg 1 _ _ rfl ?_; simp only [List.take_succ_cons, List.take_zero, List.drop_succ_cons, List.drop_zero]; go_big_quiet_step (fail); refine wpQuiet_nil ?_)
          refine wpMix_bar rfl (by rfl) ?_
          go_wp2_with fail
          refine (quR_sent v1 _ r s off n P1.out.r UO.out UN.out).mono ?_
          rintro e v2 ⟨rfl, hR, hC2⟩
          have HC3 : Hid (Chg (fun k => G k ∨ H k) wc v2) := (HC.out.mono (fun _ _ h => .inl h)).step hC2 (fun _ _ h => .inr h.1)
          have ND := Lib.hid (NX.out _ _ _ _ HL.out HC.out (QR.stays.sub (P := QR r (s.sent off n).1) hR (fun _ _ h => .inl h)) hC2 (QS.near_sent s off n) (Below.refl _ _))
          clear hR hC2
          generalize s.sent off n = sx at *
          go_wp2
          refine ⟨chg_mixF HC3.out, ?_⟩
          repeat (refine wpMix_seg 1 _ _ rfl ?_; simp only [List.take_succ_cons, List.take_zero, List.drop_succ_cons, List.drop_zero]; go_big_quiet_step (fail); refine wpQuiet_nil ?_)
          refine wpMix_nil ?_
          go_wp2
          go_ret
          exact ⟨rfl, ND.out⟩
        · have q4 : (kind == 4) = false := by simp; omega
          clear k4
          by_cases k5 : kind = 5
          · subst k5
            go_wp2
            have PX0 := Lib.hid (PX.out.below QP.stays QR.stays (Below.refl _ _).drew)
            refine wp_region_chg (fun k => G k ∨ H k) (by kernel_rfl) (by kernel_rfl) ?_
            repeat (refine wpMix_seg 1 _ _ rfl ?_; simp only [List.take_succ_cons, List.take_zero, List.drop_succ_cons, List.drop_zero]; go_big_quiet_step (fail); refine wpQuiet_nil ?_)
            refine wpMix_bar rfl (by rfl) ?_
            go_wp2_with fail
            refine (que_acked wc.drew G p s off n PX0.out.p UO.out UN.out).mono ?_
            rintro e v1 ⟨rfl, hL, hC0⟩
            have hC : Chg G wc v1 := (Chg.refl G wc).drew.step hC0 (fun _ _ h => h)
            have HL : Hid (QueP v1 (Grow G wc) p (s.acked off n).1) := hL
            have HC := Lib.hid hC
            have P1 := Lib.hid (PX.out.movP (P' := QP p (s.acked off n).1) QR.stays HL.out (fun k h => h) hC)
            clear hL hC0 hC PX0
            go_wp2
            refine ⟨chg_mixF (HC.out.mono (fun _ _ h => .inl h)), ?_⟩
            repeat (refine wpMix_seg 1 _ _ rfl ?_; simp only [List.take_succ_cons, List.take_zero, List.drop_succ_cons, List.drop_zero]; go_big_quiet_step (fail); refine wpQuiet_nil ?_)
            refine wpMix_bar rfl (by rfl) ?_
            go_wp2_with fail
            refine (quR_acked v1 _ r s off n P1.out.r UO.out UN.out).mono ?_
            rintro e v2 ⟨rfl, hR, hC2⟩
            have HC3 : Hid (Chg (fun k => G k ∨ H k) wc v2) := (HC.out.mono (fun _ _ h => .inl h)).step hC2 (fun _ _ h => .inr h.1)
            have ND := Lib.hid (NX.out _ _ _ _ HL.out HC.out (QR.stays.sub (P := QR r (s.acked off n).1) hR (fun _ _ h => .inl h)) hC2 (QS.near_acked s off n) (Below.refl _ _))
            clear hR hC2
            generalize s.acked off n = sx at *
            go_wp2
            refine ⟨chg_mixF HC3.out, ?_⟩
            repeat (refine wpMix_seg 1 _ _ rfl ?_; simp only [List.take_succ_cons, List.take_zero, List.drop_succ_cons, List.drop_zero]; go_big_quiet_step (fail); refine wpQuiet_nil ?_)
            refine wpMix_nil ?_
            go_wp2
            go_ret
            exact ⟨rfl, ND.out⟩
          · have q5 : (kind == 5) = false := by simp; omega
            clear k5
            go_wp2
            have PX0 := Lib.hid (PX.out.below QP.stays QR.stays (Below.refl _ _).drew)
            refine wp_region_chg (fun k => G k ∨ H k) (by kernel_rfl) (by kernel_rfl) ?_
            repeat (refine wpMix_seg 1 _ _ rfl ?_; simp only [List.take_succ_cons, List.take_zero, List.drop_succ_cons, List.drop_zero]; go_big_quiet_step (fail); refine wpQuiet_nil ?_)
            refine wpMix_bar rfl (by rfl) ?_
            go_wp2_with fail
            refine (que_lost wc.drew G p s off n PX0.out.p UO.out UN.out).mono ?_
            rintro e v1 ⟨rfl, hL, hC0⟩
            have hC : Chg G wc v1 := (Chg.refl G wc).drew.step hC0 (fun _ _ h => h)
            have HL : Hid (QueP v1 (Grow G wc) p (s.lost off n).1) := hL
            have HC := Lib.hid hC
            have P1 := Lib.hid (PX.out.movP (P' := QP p (s.lost off n).1) QR.stays HL.out (fun k h => h) hC)
            clear hL hC0 hC PX0
            go_wp2
            refine ⟨chg_mixF (HC.out.mono (fun _ _ h => .inl h)), ?_⟩
            repeat (refine wpMix_seg 1 _ _ rfl ?_; simp only [List.take_succ_cons, List.take_zero, List.drop_succ_cons, List.drop_zero]; go_big_quiet_step (fail); refine wpQuiet_nil ?_)
            refine wpMix_bar rfl (by rfl) ?_
            go_wp2_with fail
            refine (quR_lost v1 _ r s off n P1.out.r UO.out UN.out).mono ?_
            rintro e v2 ⟨rfl, hR, hC2⟩
            have HC3 : Hid (Chg (fun k => G k ∨ H k) wc v2) := (HC.out.mono (fun _ _ h => .inl h)).step hC2 (fun _ _ h => .inr h.1)
            have ND := Lib.hid (NX.out _ _ _ _ HL.out HC.out (QR.stays.sub (P := QR r (s.lost off n).1) hR (fun _ _ h => .inl h)) hC2 (QS.near_lost s off n) (Below.refl _ _))
            clear hR hC2
            generalize s.lost off n = sx at *
            go_wp2
            refine ⟨chg_mixF HC3.out, ?_⟩
            repeat (refine wpMix_seg 1 _ _ rfl ?_; simp only [List.take_succ_cons, List.take_zero, List.drop_succ_cons, List.drop_zero]; go_big_quiet_step (fail); refine wpQuiet_nil ?_)
            refine wpMix_nil ?_
            go_wp2
            go_ret
            exact ⟨rfl, ND.out⟩

end Go.Proofs.Ytilgekmpkoohaaa
