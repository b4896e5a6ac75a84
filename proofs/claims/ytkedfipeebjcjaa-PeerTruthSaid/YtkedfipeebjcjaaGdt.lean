/-
  A packet read from bytes: the reference's GetData.
-/
import Derived.Test.YtkedfipeebjcjaaHdr
import Derived.Test.YtkedfipeebjcjaaOct4
namespace Go.Proofs.Ytkedfipeebjcjaa
set_option linter.unusedSimpArgs false
set_option linter.unusedVariables false
set_option linter.unnecessarySimpa false
open Go.RowKit

/-- Where the walk stands. -/
structure DhS (w : World) (g0 g7 : Nat) (A : Option Addr) (c : Nat) (L : List Int) (d : DatD) (W : World) : Prop where
  rd : Rd W 1 A L.length c (U8 L)
  lb : ∀ b off, A = some ⟨b, off, none⟩ → 0 < L.length → b < w.heap.size
  z : W.heap[g0]? = some (.cells #[.int .u64 0, .int .u64 0, .int .u64 0, .int .u64 0, .int .i64 0, .slice none 0 0] 30 (0, 0))
  t : W.heap[g7]? = some (.cells #[.int .u64 d.pn, .int .u64 d.least, .int .u64 d.off, .int .u64 d.nonce, .int .i64 d.ecn, .slice none 0 0] 30 (0, 0))
  bel : Below w.heap.size w W
  l0 : w.heap.size ≤ g0
  l1 : g0 < g7
theorem DhS.put {w W : World} {g0 g7 c i : Nat} {A : Option Addr} {L : List Int} {a a' : DatD} (v : Value) (h : DhS w g0 g7 A c L a W) (hc : a'.cells none 0 0 = (a.cells none 0 0).setIfInBounds i v) :
    DhS w g0 g7 A c L a' (W.setCell ⟨g7, i, none⟩ v) := by
  have e1 := h.l0; have e2 := h.l1
  have hC : Chg (fun j => j = g7) W (W.setCell ⟨g7, i, none⟩ v) := (Chg.refl (fun j => j = g7) W).setCell (p := ⟨g7, i, none⟩) (.inl rfl) _
  refine ⟨h.rd.chg hC (fun b off e hn hb => by have := h.lb b off e hn; omega), h.lb, hC.blk h.z (fun e => by omega), ?_, h.bel.trans (hC.below h.bel.size (fun k hk e => by omega)), e1, e2⟩
  show _ = some (Obj.cells (a'.cells none 0 0) _ _)
  rw [hc]
  exact heap_setCell_same W g7 i _ _ v h.t
theorem DhS.err {w W : World} {g0 g7 c : Nat} {A : Option Addr} {L : List Int} {a : DatD} (h : DhS w g0 g7 A c L a W) (i : Nat) (v : Value) :
    (W.setCell ⟨g7, i, none⟩ v).heap[g0]? = some (.cells #[.int .u64 0, .int .u64 0, .int .u64 0, .int .u64 0, .int .i64 0, .slice none 0 0] 30 (0, 0)) ∧ Below w.heap.size w (W.setCell ⟨g7, i, none⟩ v) := by
  have h1 := h.l0; have h2 := h.l1
  have hC2 : Chg (fun j => j = g7) W (W.setCell ⟨g7, i, none⟩ v) := (Chg.refl (fun j => j = g7) W).setCell (p := ⟨g7, i, none⟩) (.inl rfl) _
  exact ⟨hC2.blk h.z (fun e => by omega), h.bel.trans (hC2.below h.bel.size (fun k hk e => by omega))⟩
theorem DhS.lt {w W : World} {g0 g7 c : Nat} {A : Option Addr} {L : List Int} {a : DatD} (h : DhS w g0 g7 A c L a W) : g0 ≠ g7 ∧ g7 ≠ g0 ∧ g0 < W.heap.size ∧ g7 < W.heap.size := by
  have h2 := h.l1
  have := lt_of_block h.z
  have := lt_of_block h.t
  exact ⟨by omega, by omega, by omega, by omega⟩

set_option maxHeartbeats 8000000 in
set_option maxRecDepth 100000 in
theorem ref_getData (w : World) (A : Option Addr) (c : Nat) (l : List Int) (h : Rd w 1 A l.length c (U8 l)) (hb : ∀ x ∈ l, 0 ≤ x ∧ x ≤ 255) (hl : l.length ≤ 70368744177664) :
    Calls Try.prog 51 #[.slice A l.length c] w fun e w' => DatVal l w w' e := by
  obtain ⟨iB, hiB, bz0, bz1, bz2⟩ := info_parts infoByte
  have HB := Lib.hid hb
  have e0 := box_below w (.cells zDat 30)
  have e1 := box_below (w.alloc (.cells zDat 30)) (.cells zDat 30)
  have S0 : Hid (DhS w w.heap.size (w.heap.size + 1) A c l ⟨0, 0, 0, 0, 0, []⟩ ((w.alloc (.cells zDat 30)).alloc (.cells zDat 30))) :=
    Lib.hid ⟨(h.below e0).below e1, fun b off e hn => h.lt (by omega) hn b off e, (e1.block _ (lt_of_block (heap_alloc_new w (.cells zDat 30)))).trans (heap_alloc_new w (.cells zDat 30)), by have := heap_alloc_new (w.alloc (.cells zDat 30)) (.cells zDat 30); rw [World.size_alloc] at this; exact this, e0.trans (e1.mono e0.size), Nat.le_refl _, Nat.lt_succ_self _⟩
  clear e0 e1 h hb
  go_enter Try.func51, Try.ntmps51
  have hW : (w.alloc (.cells #[.int .u64 0, .int .u64 0, .int .u64 0, .int .u64 0, .int .i64 0, .slice none 0 0] 30)).alloc (.cells #[.int .u64 0, .int .u64 0, .int .u64 0, .int .u64 0, .int .i64 0, .slice none 0 0] 30) = (w.alloc (.cells zDat 30)).alloc (.cells zDat 30) := rfl
  go_upto_region 2 with fail
  clear hW
  generalize ((w.alloc (.cells zDat 30)).alloc (.cells zDat 30)) = w3 at *
  generalize hg7 : w.heap.size + 1 = g7 at *
  clear hg7
  have hne := S0.out.lt
  by_cases hnil : l = []
  · subst hnil
    have HV := Lib.hid datP_nil
    have bb := Lib.hid S0.out.bel
    have zz := S0.out.z
    obtain ⟨s0, s1, s2, s3, s4, s5⟩ := zidD (W := w3) zz
    have z0 := cell_of_row (w3) (w.heap.size) 0 _ _ _ zz
    have fz0 := frozen_of_row (w3) (w.heap.size) 0 _ _ zz
    have z1 := cell_of_row (w3) (w.heap.size) 1 _ _ _ zz
    have fz1 := frozen_of_row (w3) (w.heap.size) 1 _ _ zz
    have z2 := cell_of_row (w3) (w.heap.size) 2 _ _ _ zz
    have fz2 := frozen_of_row (w3) (w.heap.size) 2 _ _ zz
    have z3 := cell_of_row (w3) (w.heap.size) 3 _ _ _ zz
    have fz3 := frozen_of_row (w3) (w.heap.size) 3 _ _ zz
    have z4 := cell_of_row (w3) (w.heap.size) 4 _ _ _ zz
    have fz4 := frozen_of_row (w3) (w.heap.size) 4 _ _ zz
    have z5 := cell_of_row (w3) (w.heap.size) 5 _ _ _ zz
    have fz5 := frozen_of_row (w3) (w.heap.size) 5 _ _ zz
    go_wp2
    refine bodyPost_ret (results_cell_tmp_row rfl _ _ (w.heap.size) _ _ _ _ rfl zz Try.underlying30 rfl infoData) rfl ?_
    unfold DatVal
    rw [HV.out]
    exact ⟨rfl, bb.out⟩
  · obtain ⟨c0, r0, hL⟩ := List.exists_cons_of_ne_nil hnil
    have hl1 : 1 ≤ l.length := by rw [hL]; simp
    have HL := Lib.hid hL
    obtain ⟨bk, off, eA, d0⟩ := S0.out.rd.u8 (k := 0) hl1 hl1
    have hx0 : l[0]'hl1 = c0 := by simp [hL]
    rw [hx0] at d0
    simp only [Nat.add_zero] at d0
    subst eA
    have hq0 : decide ((l.length : Int) = 0) = false := decide_eq_false (by omega)
    have hq1 : ((l.length : Int) == 0) = false := hq0
    have hq2 : (l.length == 0) = false := beq_eq_false_iff_ne.2 (by omega)
    have hcl := S0.out.rd.cap
    clear hx0 hL
    by_cases hk : c0 ≠ 1
    · have HV : Hid (datP l = .error 4) := Lib.hid (by rw [HL.out]; exact datP_kind hk)
      have hk1 : (c0 != 1) = true := by simp; exact hk
      have bb := Lib.hid S0.out.bel
      have zz := S0.out.z
      obtain ⟨s0, s1, s2, s3, s4, s5⟩ := zidD (W := w3) zz
      have z0 := cell_of_row (w3) (w.heap.size) 0 _ _ _ zz
      have fz0 := frozen_of_row (w3) (w.heap.size) 0 _ _ zz
      have z1 := cell_of_row (w3) (w.heap.size) 1 _ _ _ zz
      have fz1 := frozen_of_row (w3) (w.heap.size) 1 _ _ zz
      have z2 := cell_of_row (w3) (w.heap.size) 2 _ _ _ zz
      have fz2 := frozen_of_row (w3) (w.heap.size) 2 _ _ zz
      have z3 := cell_of_row (w3) (w.heap.size) 3 _ _ _ zz
      have fz3 := frozen_of_row (w3) (w.heap.size) 3 _ _ zz
      have z4 := cell_of_row (w3) (w.heap.size) 4 _ _ _ zz
      have fz4 := frozen_of_row (w3) (w.heap.size) 4 _ _ zz
      have z5 := cell_of_row (w3) (w.heap.size) 5 _ _ _ zz
      have fz5 := frozen_of_row (w3) (w.heap.size) 5 _ _ zz
      go_wp2
      refine bodyPost_ret (results_cell_tmp_row rfl _ _ (w.heap.size) _ _ _ _ rfl zz Try.underlying30 rfl infoData) rfl ?_
      unfold DatVal
      rw [HV.out]
      exact ⟨rfl, bb.out⟩
    · obtain rfl : c0 = 1 := by omega
      by_cases h2 : l.length = 1
      · have HV : Hid (datP l = .error 2) := Lib.hid (by rw [HL.out]; have h3 : r0 = [] := List.eq_nil_of_length_eq_zero (by have := congrArg List.length HL.out; simp at this; omega); rw [h3]; exact datP_one)
        have hq3 : decide ((l.length : Int) = 1) = true := decide_eq_true (by omega)
        have hq4 : ((l.length : Int) == 1) = true := hq3
        have hq5 : (l.length == 1) = true := beq_iff_eq.2 h2
        have bb := Lib.hid S0.out.bel
        have zz := S0.out.z
        clear h2
        obtain ⟨s0, s1, s2, s3, s4, s5⟩ := zidD (W := w3) zz
        have z0 := cell_of_row (w3) (w.heap.size) 0 _ _ _ zz
        have fz0 := frozen_of_row (w3) (w.heap.size) 0 _ _ zz
        have z1 := cell_of_row (w3) (w.heap.size) 1 _ _ _ zz
        have fz1 := frozen_of_row (w3) (w.heap.size) 1 _ _ zz
        have z2 := cell_of_row (w3) (w.heap.size) 2 _ _ _ zz
        have fz2 := frozen_of_row (w3) (w.heap.size) 2 _ _ zz
        have z3 := cell_of_row (w3) (w.heap.size) 3 _ _ _ zz
        have fz3 := frozen_of_row (w3) (w.heap.size) 3 _ _ zz
        have z4 := cell_of_row (w3) (w.heap.size) 4 _ _ _ zz
        have fz4 := frozen_of_row (w3) (w.heap.size) 4 _ _ zz
        have z5 := cell_of_row (w3) (w.heap.size) 5 _ _ _ zz
        have fz5 := frozen_of_row (w3) (w.heap.size) 5 _ _ zz
        go_wp2
        refine bodyPost_ret (results_cell_tmp_row rfl _ _ (w.heap.size) _ _ _ _ rfl zz Try.underlying30 rfl infoData) rfl ?_
        unfold DatVal
        rw [HV.out]
        exact ⟨rfl, bb.out⟩
      · have hq3 : decide ((l.length : Int) = 1) = false := decide_eq_false (by omega)
        have hq4 : ((l.length : Int) == 1) = false := hq3
        have hq5 : (l.length == 1) = false := beq_eq_false_iff_ne.2 h2
        have hl2 : 2 ≤ l.length := by omega
        obtain ⟨cc, r1, rfl⟩ : ∃ cc r1, r0 = cc :: r1 := by
          cases r0 with
          | nil => exact absurd (congrArg List.length HL.out) (by simp; omega)
          | cons x y => exact ⟨x, y, rfl⟩
        obtain ⟨bk2, off2, eA2, d1⟩ := S0.out.rd.u8 (k := 1) hl2 hl2
        have hx1 : l[1]'hl2 = cc := by simp [HL.out]
        have hb8 : 0 ≤ cc ∧ cc ≤ 255 := HB.out cc (by rw [HL.out]; simp)
        rw [hx1] at d1
        injection eA2 with eA2
        injection eA2 with ea1 ea2
        subst ea1 ea2
        have HR : Hid (l.drop 2 = r1) := Lib.hid (by rw [HL.out]; rfl)
        have wcc : IntKind.i64.wrap cc = cc := by simp [IntKind.wrap, IntKind.bits, IntKind.signed]; omega
        have S1 : Hid (DhS w w.heap.size g7 (some ⟨bk, off, none⟩) c l ⟨0, 0, 0, 0, cc, []⟩ (w3.setCell ⟨g7, 4, none⟩ (.int .i64 cc))) := Lib.hid (S0.out.put _ rfl)
        have tt := S0.out.t
        have y4 := cell_of_row w3 g7 4 _ _ _ tt
        have fy4 := frozen_of_row w3 g7 4 _ _ tt
        have tt := S1.out.t
        have x4 := cell_of_row _ g7 4 _ _ _ tt
        clear tt hk h2 hx1 S0
        by_cases hec : cc < 1 ∨ 3 < cc
        · have HV : Hid (datP l = .error 5) := Lib.hid (by rw [HL.out]; exact datP_ecn hec)
          have bb := Lib.hid S1.out.bel
          have zz := S1.out.z
          obtain ⟨s0, s1, s2, s3, s4, s5⟩ := zidD (W := w3.setCell ⟨g7, 4, none⟩ (.int .i64 cc)) zz
          have z0 := cell_of_row (w3.setCell ⟨g7, 4, none⟩ (.int .i64 cc)) (w.heap.size) 0 _ _ _ zz
          have fz0 := frozen_of_row (w3.setCell ⟨g7, 4, none⟩ (.int .i64 cc)) (w.heap.size) 0 _ _ zz
          have z1 := cell_of_row (w3.setCell ⟨g7, 4, none⟩ (.int .i64 cc)) (w.heap.size) 1 _ _ _ zz
          have fz1 := frozen_of_row (w3.setCell ⟨g7, 4, none⟩ (.int .i64 cc)) (w.heap.size) 1 _ _ zz
          have z2 := cell_of_row (w3.setCell ⟨g7, 4, none⟩ (.int .i64 cc)) (w.heap.size) 2 _ _ _ zz
          have fz2 := frozen_of_row (w3.setCell ⟨g7, 4, none⟩ (.int .i64 cc)) (w.heap.size) 2 _ _ zz
          have z3 := cell_of_row (w3.setCell ⟨g7, 4, none⟩ (.int .i64 cc)) (w.heap.size) 3 _ _ _ zz
          have fz3 := frozen_of_row (w3.setCell ⟨g7, 4, none⟩ (.int .i64 cc)) (w.heap.size) 3 _ _ zz
          have z4 := cell_of_row (w3.setCell ⟨g7, 4, none⟩ (.int .i64 cc)) (w.heap.size) 4 _ _ _ zz
          have fz4 := frozen_of_row (w3.setCell ⟨g7, 4, none⟩ (.int .i64 cc)) (w.heap.size) 4 _ _ zz
          have z5 := cell_of_row (w3.setCell ⟨g7, 4, none⟩ (.int .i64 cc)) (w.heap.size) 5 _ _ _ zz
          have fz5 := frozen_of_row (w3.setCell ⟨g7, 4, none⟩ (.int .i64 cc)) (w.heap.size) 5 _ _ zz
          by_cases b1 : cc < 1
          · have h1 : decide (cc < 1) = true := decide_eq_true b1
            go_wp2
            refine bodyPost_ret (results_cell_tmp_row rfl _ _ (w.heap.size) _ _ _ _ rfl zz Try.underlying30 rfl infoData) rfl ?_
            unfold DatVal
            rw [HV.out]
            exact ⟨rfl, bb.out⟩
          · have h1 : decide (cc < 1) = false := decide_eq_false b1
            have h2 : decide (3 < cc) = true := decide_eq_true (by omega)
            have h3 : decide (cc > 3) = true := h2
            go_wp2
            refine bodyPost_ret (results_cell_tmp_row rfl _ _ (w.heap.size) _ _ _ _ rfl zz Try.underlying30 rfl infoData) rfl ?_
            unfold DatVal
            rw [HV.out]
            exact ⟨rfl, bb.out⟩
        · have HP0 : Hid (datP l = datRest cc (l.drop 2)) := Lib.hid (by rw [HR.out, HL.out]; exact datP_rest hec)
          have HEC : Hid (1 ≤ cc ∧ cc ≤ 3) := Lib.hid (by omega)
          have h1 : decide (cc < 1) = false := decide_eq_false (by omega)
          have h2 : decide (3 < cc) = false := decide_eq_false (by omega)
          have h3 : decide (cc > 3) = false := h2
          have hp : (2 : Nat) ≤ l.length := hl2
          clear hec HR HL hl1 hl2
          have D1 := Lib.hid (refNum_any (w3.setCell ⟨g7, 4, none⟩ (.int .i64 cc)) (some ⟨bk, off, none⟩) c l 2 S1.out.rd HB.out hp hl)
          rw [show ((2 : Nat) : Int) = 2 from rfl] at D1
          go_wp2_with fail
          refine D1.out.mono ?_
          rintro e u1 ⟨rfl, rfl⟩
          clear D1
          clear d0 d1 y4 fy4 x4 h1 h2 h3 wcc hq0 hq1 hq2 hq3 hq4 hq5
          generalize hu1 : (w3.setCell ⟨g7, 4, none⟩ (.int .i64 cc)) = u1 at *
          clear hu1
          cases hp1 : numP (l.drop 2) with
          | error er =>
            rw [numAt_err hp1]
            have HV := Lib.hid (HP0.out.trans (dat1_e hp1))
            have he : (er != 0) = true := by rcases numP_err hp1 with h | h <;> subst h <;> rfl
            obtain ⟨zz, b6⟩ := S1.out.err 0 (.int .u64 0)
            have t5 := S1.out.t
            have y0 := cell_of_row u1 g7 0 _ _ _ t5
            have fy0 := frozen_of_row u1 g7 0 _ _ t5
            have bb := Lib.hid b6
            clear hp1 t5 b6
            obtain ⟨s0, s1, s2, s3, s4, s5⟩ := zidD (W := u1.setCell ⟨g7, 0, none⟩ (.int .u64 0)) zz
            have z0 := cell_of_row (u1.setCell ⟨g7, 0, none⟩ (.int .u64 0)) (w.heap.size) 0 _ _ _ zz
            have fz0 := frozen_of_row (u1.setCell ⟨g7, 0, none⟩ (.int .u64 0)) (w.heap.size) 0 _ _ zz
            have z1 := cell_of_row (u1.setCell ⟨g7, 0, none⟩ (.int .u64 0)) (w.heap.size) 1 _ _ _ zz
            have fz1 := frozen_of_row (u1.setCell ⟨g7, 0, none⟩ (.int .u64 0)) (w.heap.size) 1 _ _ zz
            have z2 := cell_of_row (u1.setCell ⟨g7, 0, none⟩ (.int .u64 0)) (w.heap.size) 2 _ _ _ zz
            have fz2 := frozen_of_row (u1.setCell ⟨g7, 0, none⟩ (.int .u64 0)) (w.heap.size) 2 _ _ zz
            have z3 := cell_of_row (u1.setCell ⟨g7, 0, none⟩ (.int .u64 0)) (w.heap.size) 3 _ _ _ zz
            have fz3 := frozen_of_row (u1.setCell ⟨g7, 0, none⟩ (.int .u64 0)) (w.heap.size) 3 _ _ zz
            have z4 := cell_of_row (u1.setCell ⟨g7, 0, none⟩ (.int .u64 0)) (w.heap.size) 4 _ _ _ zz
            have fz4 := frozen_of_row (u1.setCell ⟨g7, 0, none⟩ (.int .u64 0)) (w.heap.size) 4 _ _ zz
            have z5 := cell_of_row (u1.setCell ⟨g7, 0, none⟩ (.int .u64 0)) (w.heap.size) 5 _ _ _ zz
            have fz5 := frozen_of_row (u1.setCell ⟨g7, 0, none⟩ (.int .u64 0)) (w.heap.size) 5 _ _ zz
            go_wp2
            refine bodyPost_ret (results_cell_tmp_row rfl _ _ (w.heap.size) _ _ _ _ rfl zz Try.underlying30 rfl infoData) rfl ?_
            unfold DatVal
            rw [HV.out]
            exact ⟨rfl, bb.out⟩
          | ok pr =>
            obtain ⟨pn, j1⟩ := pr
            rw [numAt_ok hp1]
            have N1 := Lib.hid (numP_ok hp1 (U8b_drop HB.out _))
            have HP1 := Lib.hid (HP0.out.trans (dat1_k hp1))
            rw [List.drop_drop] at HP1
            have hpn : 2 + j1 ≤ l.length := by have := N1.out.2.1; rw [List.length_drop] at this; omega
            obtain ⟨p1, hpe⟩ : ∃ x, x = 2 + j1 := ⟨_, rfl⟩
            have hpi : ((2 : Nat) : Int) + (j1 : Int) = (p1 : Int) := by omega
            rw [← hpe] at HP1 hpn
            rw [hpi]
            clear hpe hpi
            have S2 : Hid (DhS w w.heap.size g7 (some ⟨bk, off, none⟩) c l ⟨pn, 0, 0, 0, cc, []⟩ (u1.setCell ⟨g7, 0, none⟩ (.int .u64 pn))) := Lib.hid (S1.out.put _ rfl)
            have tt := S1.out.t
            have y0 := cell_of_row u1 g7 0 _ _ _ tt
            have fy0 := frozen_of_row u1 g7 0 _ _ tt
            replace hp := hpn
            clear hp1 tt S1 hpn
            have D2 := Lib.hid (refNum_any (u1.setCell ⟨g7, 0, none⟩ (.int .u64 pn)) (some ⟨bk, off, none⟩) c l p1 S2.out.rd HB.out hp hl)
            go_wp2_with fail
            refine D2.out.mono ?_
            rintro e u2 ⟨rfl, rfl⟩
            clear D2
            clear y0 fy0
            generalize hu2 : (u1.setCell ⟨g7, 0, none⟩ (.int .u64 pn)) = u2 at *
            clear hu2
            cases hp2 : numP (l.drop p1) with
            | error er =>
              rw [numAt_err hp2]
              have HV := Lib.hid (HP1.out.trans (dat2_e hp2))
              have he : (er != 0) = true := by rcases numP_err hp2 with h | h <;> subst h <;> rfl
              obtain ⟨zz, b6⟩ := S2.out.err 1 (.int .u64 0)
              have t5 := S2.out.t
              have y0 := cell_of_row u2 g7 1 _ _ _ t5
              have fy0 := frozen_of_row u2 g7 1 _ _ t5
              have bb := Lib.hid b6
              clear hp2 t5 b6
              obtain ⟨s0, s1, s2, s3, s4, s5⟩ := zidD (W := u2.setCell ⟨g7, 1, none⟩ (.int .u64 0)) zz
              have z0 := cell_of_row (u2.setCell ⟨g7, 1, none⟩ (.int .u64 0)) (w.heap.size) 0 _ _ _ zz
              have fz0 := frozen_of_row (u2.setCell ⟨g7, 1, none⟩ (.int .u64 0)) (w.heap.size) 0 _ _ zz
              have z1 := cell_of_row (u2.setCell ⟨g7, 1, none⟩ (.int .u64 0)) (w.heap.size) 1 _ _ _ zz
              have fz1 := frozen_of_row (u2.setCell ⟨g7, 1, none⟩ (.int .u64 0)) (w.heap.size) 1 _ _ zz
              have z2 := cell_of_row (u2.setCell ⟨g7, 1, none⟩ (.int .u64 0)) (w.heap.size) 2 _ _ _ zz
              have fz2 := frozen_of_row (u2.setCell ⟨g7, 1, none⟩ (.int .u64 0)) (w.heap.size) 2 _ _ zz
              have z3 := cell_of_row (u2.setCell ⟨g7, 1, none⟩ (.int .u64 0)) (w.heap.size) 3 _ _ _ zz
              have fz3 := frozen_of_row (u2.setCell ⟨g7, 1, none⟩ (.int .u64 0)) (w.heap.size) 3 _ _ zz
              have z4 := cell_of_row (u2.setCell ⟨g7, 1, none⟩ (.int .u64 0)) (w.heap.size) 4 _ _ _ zz
              have fz4 := frozen_of_row (u2.setCell ⟨g7, 1, none⟩ (.int .u64 0)) (w.heap.size) 4 _ _ zz
              have z5 := cell_of_row (u2.setCell ⟨g7, 1, none⟩ (.int .u64 0)) (w.heap.size) 5 _ _ _ zz
              have fz5 := frozen_of_row (u2.setCell ⟨g7, 1, none⟩ (.int .u64 0)) (w.heap.size) 5 _ _ zz
              go_wp2
              refine bodyPost_ret (results_cell_tmp_row rfl _ _ (w.heap.size) _ _ _ _ rfl zz Try.underlying30 rfl infoData) rfl ?_
              unfold DatVal
              rw [HV.out]
              exact ⟨rfl, bb.out⟩
            | ok pr =>
              obtain ⟨least, j2⟩ := pr
              rw [numAt_ok hp2]
              have N2 := Lib.hid (numP_ok hp2 (U8b_drop HB.out _))
              have HP2 := Lib.hid (HP1.out.trans (dat2_k hp2))
              rw [List.drop_drop] at HP2
              have hpn : p1 + j2 ≤ l.length := by have := N2.out.2.1; rw [List.length_drop] at this; omega
              obtain ⟨p2, hpe⟩ : ∃ x, x = p1 + j2 := ⟨_, rfl⟩
              have hpi : ((p1 : Nat) : Int) + (j2 : Int) = (p2 : Int) := by omega
              rw [← hpe] at HP2 hpn
              rw [hpi]
              clear hpe hpi
              have S3 : Hid (DhS w w.heap.size g7 (some ⟨bk, off, none⟩) c l ⟨pn, least, 0, 0, cc, []⟩ (u2.setCell ⟨g7, 1, none⟩ (.int .u64 least))) := Lib.hid (S2.out.put _ rfl)
              have tt := S2.out.t
              have y0 := cell_of_row u2 g7 1 _ _ _ tt
              have fy0 := frozen_of_row u2 g7 1 _ _ tt
              replace hp := hpn
              clear hp2 tt S2 hpn
              have tt := S3.out.t
              have x0 := cell_of_row _ g7 0 _ _ _ tt
              have x1 := cell_of_row _ g7 1 _ _ _ tt
              clear tt
              by_cases hlt : pn < least
              · have HV := Lib.hid (HP2.out.trans (if_pos hlt))
                have h1 : decide (pn < least) = true := decide_eq_true hlt
                have h2 : decide (least > pn) = true := decide_eq_true hlt
                have bb := Lib.hid S3.out.bel
                have zz := S3.out.z
                obtain ⟨s0, s1, s2, s3, s4, s5⟩ := zidD (W := (u2.setCell ⟨g7, 1, none⟩ (.int .u64 least))) zz
                have z0 := cell_of_row ((u2.setCell ⟨g7, 1, none⟩ (.int .u64 least))) (w.heap.size) 0 _ _ _ zz
                have fz0 := frozen_of_row ((u2.setCell ⟨g7, 1, none⟩ (.int .u64 least))) (w.heap.size) 0 _ _ zz
                have z1 := cell_of_row ((u2.setCell ⟨g7, 1, none⟩ (.int .u64 least))) (w.heap.size) 1 _ _ _ zz
                have fz1 := frozen_of_row ((u2.setCell ⟨g7, 1, none⟩ (.int .u64 least))) (w.heap.size) 1 _ _ zz
                have z2 := cell_of_row ((u2.setCell ⟨g7, 1, none⟩ (.int .u64 least))) (w.heap.size) 2 _ _ _ zz
                have fz2 := frozen_of_row ((u2.setCell ⟨g7, 1, none⟩ (.int .u64 least))) (w.heap.size) 2 _ _ zz
                have z3 := cell_of_row ((u2.setCell ⟨g7, 1, none⟩ (.int .u64 least))) (w.heap.size) 3 _ _ _ zz
                have fz3 := frozen_of_row ((u2.setCell ⟨g7, 1, none⟩ (.int .u64 least))) (w.heap.size) 3 _ _ zz
                have z4 := cell_of_row ((u2.setCell ⟨g7, 1, none⟩ (.int .u64 least))) (w.heap.size) 4 _ _ _ zz
                have fz4 := frozen_of_row ((u2.setCell ⟨g7, 1, none⟩ (.int .u64 least))) (w.heap.size) 4 _ _ zz
                have z5 := cell_of_row ((u2.setCell ⟨g7, 1, none⟩ (.int .u64 least))) (w.heap.size) 5 _ _ _ zz
                have fz5 := frozen_of_row ((u2.setCell ⟨g7, 1, none⟩ (.int .u64 least))) (w.heap.size) 5 _ _ zz
                go_wp2
                refine bodyPost_ret (results_cell_tmp_row rfl _ _ (w.heap.size) _ _ _ _ rfl zz Try.underlying30 rfl infoData) rfl ?_
                unfold DatVal
                rw [HV.out]
                exact ⟨rfl, bb.out⟩
              · have HPb := Lib.hid (HP2.out.trans (if_neg hlt))
                have h1 : decide (pn < least) = false := decide_eq_false hlt
                have h2 : decide (least > pn) = false := decide_eq_false hlt
                clear HP2 hlt
                have D3 := Lib.hid (refNum_any (u2.setCell ⟨g7, 1, none⟩ (.int .u64 least)) (some ⟨bk, off, none⟩) c l p2 S3.out.rd HB.out hp hl)
                go_wp2_with fail
                refine D3.out.mono ?_
                rintro e u3 ⟨rfl, rfl⟩
                clear D3
                clear y0 fy0 x0 x1 h1 h2
                generalize hu3 : (u2.setCell ⟨g7, 1, none⟩ (.int .u64 least)) = u3 at *
                clear hu3
                cases hp3 : numP (l.drop p2) with
                | error er =>
                  rw [numAt_err hp3]
                  have HV := Lib.hid (HPb.out.trans (dat3_e hp3))
                  have he : (er != 0) = true := by rcases numP_err hp3 with h | h <;> subst h <;> rfl
                  obtain ⟨zz, b6⟩ := S3.out.err 2 (.int .u64 0)
                  have t5 := S3.out.t
                  have y0 := cell_of_row u3 g7 2 _ _ _ t5
                  have fy0 := frozen_of_row u3 g7 2 _ _ t5
                  have bb := Lib.hid b6
                  clear hp3 t5 b6
                  obtain ⟨s0, s1, s2, s3, s4, s5⟩ := zidD (W := u3.setCell ⟨g7, 2, none⟩ (.int .u64 0)) zz
                  have z0 := cell_of_row (u3.setCell ⟨g7, 2, none⟩ (.int .u64 0)) (w.heap.size) 0 _ _ _ zz
                  have fz0 := frozen_of_row (u3.setCell ⟨g7, 2, none⟩ (.int .u64 0)) (w.heap.size) 0 _ _ zz
                  have z1 := cell_of_row (u3.setCell ⟨g7, 2, none⟩ (.int .u64 0)) (w.heap.size) 1 _ _ _ zz
                  have fz1 := frozen_of_row (u3.setCell ⟨g7, 2, none⟩ (.int .u64 0)) (w.heap.size) 1 _ _ zz
                  have z2 := cell_of_row (u3.setCell ⟨g7, 2, none⟩ (.int .u64 0)) (w.heap.size) 2 _ _ _ zz
                  have fz2 := frozen_of_row (u3.setCell ⟨g7, 2, none⟩ (.int .u64 0)) (w.heap.size) 2 _ _ zz
                  have z3 := cell_of_row (u3.setCell ⟨g7, 2, none⟩ (.int .u64 0)) (w.heap.size) 3 _ _ _ zz
                  have fz3 := frozen_of_row (u3.setCell ⟨g7, 2, none⟩ (.int .u64 0)) (w.heap.size) 3 _ _ zz
                  have z4 := cell_of_row (u3.setCell ⟨g7, 2, none⟩ (.int .u64 0)) (w.heap.size) 4 _ _ _ zz
                  have fz4 := frozen_of_row (u3.setCell ⟨g7, 2, none⟩ (.int .u64 0)) (w.heap.size) 4 _ _ zz
                  have z5 := cell_of_row (u3.setCell ⟨g7, 2, none⟩ (.int .u64 0)) (w.heap.size) 5 _ _ _ zz
                  have fz5 := frozen_of_row (u3.setCell ⟨g7, 2, none⟩ (.int .u64 0)) (w.heap.size) 5 _ _ zz
                  go_wp2
                  refine bodyPost_ret (results_cell_tmp_row rfl _ _ (w.heap.size) _ _ _ _ rfl zz Try.underlying30 rfl infoData) rfl ?_
                  unfold DatVal
                  rw [HV.out]
                  exact ⟨rfl, bb.out⟩
                | ok pr =>
                  obtain ⟨off_, j3⟩ := pr
                  rw [numAt_ok hp3]
                  have N3 := Lib.hid (numP_ok hp3 (U8b_drop HB.out _))
                  have HP3 := Lib.hid (HPb.out.trans (dat3_k hp3))
                  rw [List.drop_drop] at HP3
                  have hpn : p2 + j3 ≤ l.length := by have := N3.out.2.1; rw [List.length_drop] at this; omega
                  obtain ⟨p3, hpe⟩ : ∃ x, x = p2 + j3 := ⟨_, rfl⟩
                  have hpi : ((p2 : Nat) : Int) + (j3 : Int) = (p3 : Int) := by omega
                  rw [← hpe] at HP3 hpn
                  rw [hpi]
                  clear hpe hpi
                  have S4 : Hid (DhS w w.heap.size g7 (some ⟨bk, off, none⟩) c l ⟨pn, least, off_, 0, cc, []⟩ (u3.setCell ⟨g7, 2, none⟩ (.int .u64 off_))) := Lib.hid (S3.out.put _ rfl)
                  have tt := S3.out.t
                  have y0 := cell_of_row u3 g7 2 _ _ _ tt
                  have fy0 := frozen_of_row u3 g7 2 _ _ tt
                  replace hp := hpn
                  clear hp3 tt S3 hpn
                  have D4 := Lib.hid (refWord_any (u3.setCell ⟨g7, 2, none⟩ (.int .u64 off_)) (some ⟨bk, off, none⟩) c l p3 S4.out.rd HB.out hp hl)
                  go_wp2_with fail
                  refine D4.out.mono ?_
                  rintro e u4 ⟨rfl, rfl⟩
                  clear D4
                  clear y0 fy0
                  generalize hu4 : (u3.setCell ⟨g7, 2, none⟩ (.int .u64 off_)) = u4 at *
                  clear hu4
                  cases hp4 : wordP (l.drop p3) with
                  | error er =>
                    rw [wordAt_err hp4]
                    have HV := Lib.hid (HP3.out.trans (dat4_e hp4))
                    have he : (er != 0) = true := by rw [wordP_err hp4]; rfl
                    obtain ⟨zz, b6⟩ := S4.out.err 3 (.int .u64 0)
                    have t5 := S4.out.t
                    have y0 := cell_of_row u4 g7 3 _ _ _ t5
                    have fy0 := frozen_of_row u4 g7 3 _ _ t5
                    have bb := Lib.hid b6
                    clear hp4 t5 b6
                    obtain ⟨s0, s1, s2, s3, s4, s5⟩ := zidD (W := u4.setCell ⟨g7, 3, none⟩ (.int .u64 0)) zz
                    have z0 := cell_of_row (u4.setCell ⟨g7, 3, none⟩ (.int .u64 0)) (w.heap.size) 0 _ _ _ zz
                    have fz0 := frozen_of_row (u4.setCell ⟨g7, 3, none⟩ (.int .u64 0)) (w.heap.size) 0 _ _ zz
                    have z1 := cell_of_row (u4.setCell ⟨g7, 3, none⟩ (.int .u64 0)) (w.heap.size) 1 _ _ _ zz
                    have fz1 := frozen_of_row (u4.setCell ⟨g7, 3, none⟩ (.int .u64 0)) (w.heap.size) 1 _ _ zz
                    have z2 := cell_of_row (u4.setCell ⟨g7, 3, none⟩ (.int .u64 0)) (w.heap.size) 2 _ _ _ zz
                    have fz2 := frozen_of_row (u4.setCell ⟨g7, 3, none⟩ (.int .u64 0)) (w.heap.size) 2 _ _ zz
                    have z3 := cell_of_row (u4.setCell ⟨g7, 3, none⟩ (.int .u64 0)) (w.heap.size) 3 _ _ _ zz
                    have fz3 := frozen_of_row (u4.setCell ⟨g7, 3, none⟩ (.int .u64 0)) (w.heap.size) 3 _ _ zz
                    have z4 := cell_of_row (u4.setCell ⟨g7, 3, none⟩ (.int .u64 0)) (w.heap.size) 4 _ _ _ zz
                    have fz4 := frozen_of_row (u4.setCell ⟨g7, 3, none⟩ (.int .u64 0)) (w.heap.size) 4 _ _ zz
                    have z5 := cell_of_row (u4.setCell ⟨g7, 3, none⟩ (.int .u64 0)) (w.heap.size) 5 _ _ _ zz
                    have fz5 := frozen_of_row (u4.setCell ⟨g7, 3, none⟩ (.int .u64 0)) (w.heap.size) 5 _ _ zz
                    go_wp2
                    refine bodyPost_ret (results_cell_tmp_row rfl _ _ (w.heap.size) _ _ _ _ rfl zz Try.underlying30 rfl infoData) rfl ?_
                    unfold DatVal
                    rw [HV.out]
                    exact ⟨rfl, bb.out⟩
                  | ok nonce =>
                    rw [wordAt_ok hp4]
                    have N4 := Lib.hid (wordP_ok hp4 (U8b_drop HB.out _))
                    have HP4 := Lib.hid (HP3.out.trans (dat4_k hp4))
                    rw [List.drop_drop] at HP4
                    have hpn : p3 + 8 ≤ l.length := by have := wordP_len hp4; rw [List.length_drop] at this; omega
                    obtain ⟨p4, hpe⟩ : ∃ x, x = p3 + 8 := ⟨_, rfl⟩
                    have hpi : ((p3 : Nat) : Int) + 8 = (p4 : Int) := by omega
                    rw [← hpe] at HP4 hpn
                    rw [hpi]
                    clear hpe hpi
                    have S5 : Hid (DhS w w.heap.size g7 (some ⟨bk, off, none⟩) c l ⟨pn, least, off_, nonce, cc, []⟩ (u4.setCell ⟨g7, 3, none⟩ (.int .u64 nonce))) := Lib.hid (S4.out.put _ rfl)
                    have tt := S4.out.t
                    have y0 := cell_of_row u4 g7 3 _ _ _ tt
                    have fy0 := frozen_of_row u4 g7 3 _ _ tt
                    replace hp := hpn
                    clear hp4 tt S4 hpn
                    have D5 := Lib.hid (refNum_any (u4.setCell ⟨g7, 3, none⟩ (.int .u64 nonce)) (some ⟨bk, off, none⟩) c l p4 S5.out.rd HB.out hp hl)
                    go_wp2_with fail
                    refine D5.out.mono ?_
                    rintro e u5 ⟨rfl, rfl⟩
                    clear D5 y0 fy0
                    generalize hu5 : (u4.setCell ⟨g7, 3, none⟩ (.int .u64 nonce)) = v5 at *
                    clear hu5
                    cases hp5 : numP (l.drop p4) with
                    | error er =>
                      rw [numAt_err hp5]
                      have HV := Lib.hid (HP4.out.trans (dat5_e hp5))
                      have he : (er != 0) = true := by rcases numP_err hp5 with h | h <;> subst h <;> rfl
                      have bb := Lib.hid S5.out.bel
                      have zz := S5.out.z
                      clear hp5
                      obtain ⟨s0, s1, s2, s3, s4, s5⟩ := zidD (W := v5) zz
                      have z0 := cell_of_row (v5) (w.heap.size) 0 _ _ _ zz
                      have fz0 := frozen_of_row (v5) (w.heap.size) 0 _ _ zz
                      have z1 := cell_of_row (v5) (w.heap.size) 1 _ _ _ zz
                      have fz1 := frozen_of_row (v5) (w.heap.size) 1 _ _ zz
                      have z2 := cell_of_row (v5) (w.heap.size) 2 _ _ _ zz
                      have fz2 := frozen_of_row (v5) (w.heap.size) 2 _ _ zz
                      have z3 := cell_of_row (v5) (w.heap.size) 3 _ _ _ zz
                      have fz3 := frozen_of_row (v5) (w.heap.size) 3 _ _ zz
                      have z4 := cell_of_row (v5) (w.heap.size) 4 _ _ _ zz
                      have fz4 := frozen_of_row (v5) (w.heap.size) 4 _ _ zz
                      have z5 := cell_of_row (v5) (w.heap.size) 5 _ _ _ zz
                      have fz5 := frozen_of_row (v5) (w.heap.size) 5 _ _ zz
                      go_wp2
                      refine bodyPost_ret (results_cell_tmp_row rfl _ _ (w.heap.size) _ _ _ _ rfl zz Try.underlying30 rfl infoData) rfl ?_
                      unfold DatVal
                      rw [HV.out]
                      exact ⟨rfl, bb.out⟩
                    | ok pr =>
                      obtain ⟨n, j5⟩ := pr
                      rw [numAt_ok hp5]
                      have N5 := Lib.hid (numP_ok hp5 (U8b_drop HB.out _))
                      have HP5 := Lib.hid (HP4.out.trans (dat5_k hp5))
                      rw [List.drop_drop] at HP5
                      have hpn : p4 + j5 ≤ l.length := by have := N5.out.2.1; rw [List.length_drop] at this; omega
                      obtain ⟨p5, hpe⟩ : ∃ x, x = p4 + j5 := ⟨_, rfl⟩
                      have hpi : ((p4 : Nat) : Int) + (j5 : Int) = (p5 : Int) := by omega
                      rw [← hpe] at HP5 hpn
                      rw [hpi]
                      replace hp := hpn
                      clear hpe hpi hp5 hpn
                      have tt := S5.out.t
                      have x0 := cell_of_row v5 g7 0 _ _ _ tt
                      have fx0 := frozen_of_row v5 g7 0 _ _ tt
                      have x1 := cell_of_row v5 g7 1 _ _ _ tt
                      have fx1 := frozen_of_row v5 g7 1 _ _ tt
                      have x2 := cell_of_row v5 g7 2 _ _ _ tt
                      have fx2 := frozen_of_row v5 g7 2 _ _ tt
                      have x3 := cell_of_row v5 g7 3 _ _ _ tt
                      have fx3 := frozen_of_row v5 g7 3 _ _ tt
                      have x4 := cell_of_row v5 g7 4 _ _ _ tt
                      have fx4 := frozen_of_row v5 g7 4 _ _ tt
                      have x5 := cell_of_row v5 g7 5 _ _ _ tt
                      have fx5 := frozen_of_row v5 g7 5 _ _ tt
                      clear tt
                      have hn0 := N5.out.2.2.1
                      have hn1 := N5.out.2.2.2
                      have ho0 := N3.out.2.2.1
                      have ho1 := N3.out.2.2.2
                      have wsub : IntKind.u64.wrap (4611686018427387903 - n) = 4611686018427387903 - n := IntWalk.u64_in _ (by omega)
                      by_cases hbad : n < 1 ∨ 1500 < n ∨ 4611686018427387903 - n < off_
                      · have HV := Lib.hid (HP5.out.trans (if_pos hbad))
                        have bb := Lib.hid S5.out.bel
                        have zz := S5.out.z
                        obtain ⟨s0, s1, s2, s3, s4, s5⟩ := zidD (W := v5) zz
                        have z0 := cell_of_row v5 (w.heap.size) 0 _ _ _ zz
                        have fz0 := frozen_of_row v5 (w.heap.size) 0 _ _ zz
                        have z1 := cell_of_row v5 (w.heap.size) 1 _ _ _ zz
                        have fz1 := frozen_of_row v5 (w.heap.size) 1 _ _ zz
                        have z2 := cell_of_row v5 (w.heap.size) 2 _ _ _ zz
                        have fz2 := frozen_of_row v5 (w.heap.size) 2 _ _ zz
                        have z3 := cell_of_row v5 (w.heap.size) 3 _ _ _ zz
                        have fz3 := frozen_of_row v5 (w.heap.size) 3 _ _ zz
                        have z4 := cell_of_row v5 (w.heap.size) 4 _ _ _ zz
                        have fz4 := frozen_of_row v5 (w.heap.size) 4 _ _ zz
                        have z5 := cell_of_row v5 (w.heap.size) 5 _ _ _ zz
                        have fz5 := frozen_of_row v5 (w.heap.size) 5 _ _ zz
                        by_cases b1 : n < 1
                        · have h1 : decide (n < 1) = true := decide_eq_true b1
                          go_wp2
                          refine bodyPost_ret (results_cell_tmp_row rfl _ _ (w.heap.size) _ _ _ _ rfl zz Try.underlying30 rfl infoData) rfl ?_
                          unfold DatVal
                          rw [HV.out]
                          exact ⟨rfl, bb.out⟩
                        · have h1 : decide (n < 1) = false := decide_eq_false b1
                          by_cases b2 : 1500 < n
                          · have h2 : decide (1500 < n) = true := decide_eq_true b2
                            have h3 : decide (n > 1500) = true := decide_eq_true b2
                            go_wp2
                            refine bodyPost_ret (results_cell_tmp_row rfl _ _ (w.heap.size) _ _ _ _ rfl zz Try.underlying30 rfl infoData) rfl ?_
                            unfold DatVal
                            rw [HV.out]
                            exact ⟨rfl, bb.out⟩
                          · have h2 : decide (1500 < n) = false := decide_eq_false b2
                            have h3 : decide (n > 1500) = false := decide_eq_false b2
                            have b3 : 4611686018427387903 - n < off_ := by omega
                            have h4 : decide (4611686018427387903 - n < off_) = true := decide_eq_true b3
                            have h5 : decide (off_ > 4611686018427387903 - n) = true := decide_eq_true b3
                            go_wp2
                            refine bodyPost_ret (results_cell_tmp_row rfl _ _ (w.heap.size) _ _ _ _ rfl zz Try.underlying30 rfl infoData) rfl ?_
                            unfold DatVal
                            rw [HV.out]
                            exact ⟨rfl, bb.out⟩
                      · have HP6 := Lib.hid (HP5.out.trans (if_neg hbad))
                        have b1 : 1 ≤ n := by omega
                        have b2 : n ≤ 1500 := by omega
                        have h1 : decide (n < 1) = false := decide_eq_false (by omega)
                        have h2 : decide (1500 < n) = false := decide_eq_false (by omega)
                        have h3 : decide (n > 1500) = false := decide_eq_false (by omega)
                        have h4 : decide (4611686018427387903 - n < off_) = false := decide_eq_false (by omega)
                        have h5 : decide (off_ > 4611686018427387903 - n) = false := decide_eq_false (by omega)
                        clear hbad HP5
                        obtain ⟨m, rfl⟩ : ∃ m : Nat, n = (m : Int) := ⟨n.toNat, by omega⟩
                        have wm : IntKind.i64.wrap (m : Int) = m := by simp [IntKind.wrap, IntKind.bits, IntKind.signed]; omega
                        have wlen : IntKind.i64.wrap ((l.length : Int) - (p5 : Int)) = (l.length : Int) - (p5 : Int) := by simp [IntKind.wrap, IntKind.bits, IntKind.signed]; omega
                        rw [List.length_drop] at HP6
                        have hdl : ((l.length - p5 : Nat) : Int) = (l.length : Int) - p5 := by omega
                        rw [hdl] at HP6
                        by_cases hsh : (l.length : Int) - p5 < (m : Int)
                        · have HV := Lib.hid (HP6.out.trans (if_pos hsh))
                          have h6 : decide ((l.length : Int) - p5 < (m : Int)) = true := decide_eq_true hsh
                          have bb := Lib.hid S5.out.bel
                          have zz := S5.out.z
                          clear hdl hsh
                          obtain ⟨s0, s1, s2, s3, s4, s5⟩ := zidD (W := v5) zz
                          have z0 := cell_of_row (v5) (w.heap.size) 0 _ _ _ zz
                          have fz0 := frozen_of_row (v5) (w.heap.size) 0 _ _ zz
                          have z1 := cell_of_row (v5) (w.heap.size) 1 _ _ _ zz
                          have fz1 := frozen_of_row (v5) (w.heap.size) 1 _ _ zz
                          have z2 := cell_of_row (v5) (w.heap.size) 2 _ _ _ zz
                          have fz2 := frozen_of_row (v5) (w.heap.size) 2 _ _ zz
                          have z3 := cell_of_row (v5) (w.heap.size) 3 _ _ _ zz
                          have fz3 := frozen_of_row (v5) (w.heap.size) 3 _ _ zz
                          have z4 := cell_of_row (v5) (w.heap.size) 4 _ _ _ zz
                          have fz4 := frozen_of_row (v5) (w.heap.size) 4 _ _ zz
                          have z5 := cell_of_row (v5) (w.heap.size) 5 _ _ _ zz
                          have fz5 := frozen_of_row (v5) (w.heap.size) 5 _ _ zz
                          go_wp2
                          refine bodyPost_ret (results_cell_tmp_row rfl _ _ (w.heap.size) _ _ _ _ rfl zz Try.underlying30 rfl infoData) rfl ?_
                          unfold DatVal
                          rw [HV.out]
                          exact ⟨rfl, bb.out⟩
                        · have HP7 := Lib.hid (HP6.out.trans (if_neg hsh))
                          have h6 : decide ((l.length : Int) - p5 < (m : Int)) = false := decide_eq_false hsh
                          by_cases hlg : (m : Int) < (l.length : Int) - p5
                          · have HV := Lib.hid (HP7.out.trans (if_pos hlg))
                            have h7 : decide ((m : Int) < (l.length : Int) - p5) = true := decide_eq_true hlg
                            have h8 : decide ((l.length : Int) - p5 > (m : Int)) = true := decide_eq_true hlg
                            have bb := Lib.hid S5.out.bel
                            have zz := S5.out.z
                            clear hdl hsh hlg
                            obtain ⟨s0, s1, s2, s3, s4, s5⟩ := zidD (W := v5) zz
                            have z0 := cell_of_row (v5) (w.heap.size) 0 _ _ _ zz
                            have fz0 := frozen_of_row (v5) (w.heap.size) 0 _ _ zz
                            have z1 := cell_of_row (v5) (w.heap.size) 1 _ _ _ zz
                            have fz1 := frozen_of_row (v5) (w.heap.size) 1 _ _ zz
                            have z2 := cell_of_row (v5) (w.heap.size) 2 _ _ _ zz
                            have fz2 := frozen_of_row (v5) (w.heap.size) 2 _ _ zz
                            have z3 := cell_of_row (v5) (w.heap.size) 3 _ _ _ zz
                            have fz3 := frozen_of_row (v5) (w.heap.size) 3 _ _ zz
                            have z4 := cell_of_row (v5) (w.heap.size) 4 _ _ _ zz
                            have fz4 := frozen_of_row (v5) (w.heap.size) 4 _ _ zz
                            have z5 := cell_of_row (v5) (w.heap.size) 5 _ _ _ zz
                            have fz5 := frozen_of_row (v5) (w.heap.size) 5 _ _ zz
                            go_wp2
                            refine bodyPost_ret (results_cell_tmp_row rfl _ _ (w.heap.size) _ _ _ _ rfl zz Try.underlying30 rfl infoData) rfl ?_
                            unfold DatVal
                            rw [HV.out]
                            exact ⟨rfl, bb.out⟩
                          · have HV := Lib.hid (HP7.out.trans (if_neg hlg))
                            have h7 : decide ((m : Int) < (l.length : Int) - p5) = false := decide_eq_false hlg
                            have h8 : decide ((l.length : Int) - p5 > (m : Int)) = false := decide_eq_false hlg
                            have hme : l.length - p5 = m := by omega
                            have ME := Lib.hid hme
                            obtain ⟨A', hrunC, hA'⟩ := S5.out.rd.cut_run (P := Try.prog) (t := 22) Try.underlying22 hiB bz1 hp
                            have RC := Lib.hid (hA' v5 (U8 l) S5.out.rd)
                            rw [Nat.mul_one] at RC
                            have hcp5 := S5.out.rd.cap
                            clear hA' hdl hsh hlg HP6 HP7
                            rw [hme] at hrunC RC
                            clear hme
                            have zz := S5.out.z
                            have z0 := cell_of_row v5 (w.heap.size) 0 _ _ _ zz
                            have fz0 := frozen_of_row v5 (w.heap.size) 0 _ _ zz
                            have z1 := cell_of_row v5 (w.heap.size) 1 _ _ _ zz
                            have fz1 := frozen_of_row v5 (w.heap.size) 1 _ _ zz
                            have z2 := cell_of_row v5 (w.heap.size) 2 _ _ _ zz
                            have fz2 := frozen_of_row v5 (w.heap.size) 2 _ _ zz
                            have z3 := cell_of_row v5 (w.heap.size) 3 _ _ _ zz
                            have fz3 := frozen_of_row v5 (w.heap.size) 3 _ _ zz
                            have z4 := cell_of_row v5 (w.heap.size) 4 _ _ _ zz
                            have fz4 := frozen_of_row v5 (w.heap.size) 4 _ _ zz
                            have z5 := cell_of_row v5 (w.heap.size) 5 _ _ _ zz
                            have fz5 := frozen_of_row v5 (w.heap.size) 5 _ _ zz
                            go_upto_region 37 with (
                              at_builtin
                              refine wpList_append_rd _ rfl (.const (.slice none 0 0)) (.tmp 132) 22 rfl w.heap.size 5 iB _ 1 1 Try.underlying22 hiB bz0 bz1 bz2 rfl (by decide) (.slice none 0 0) 0 [] rfl (World.ownsRow_nil _ _ _ _) A' m (c - p5) ((U8 l).drop p5) rfl RC.out (fun u hu => U8_one l u (List.mem_of_mem_drop hu)) (by unfold maxLen; omega) (by omega) S5.out.bel.size ?_
                              intro v2 w2 hown2 hg2 hloc
                              rw [Nat.zero_add, List.nil_append] at hown2
                              obtain ⟨A9, c9, hv, hA9⟩ := own_slice hown2
                              subst hv
                              have HO := Lib.hid hown2
                              have HN : Hid (∀ b off, A9 = some ⟨b, off, none⟩ → 0 < m → v5.heap.size ≤ b) := Lib.hid (fun b off e hn => by
                                obtain ⟨g, hg, -⟩ := hA9 hn
                                rw [e] at hg
                                injection hg with hg
                                injection hg with hg1 hg2
                                rcases hloc with h | h
                                · rw [e] at h; simp [Value.ownBlock] at h
                                · rw [e] at h; simp [Value.ownBlock] at h; omega)
                              have HG : Hid (Below v5.heap.size v5 w2) := Lib.hid ((Below.refl _ _).grown hg2 (Nat.le_refl _) (fun g hg => by simp [Value.ownBlock] at hg))
                              have Z2 := Lib.hid ((HG.out.block _ (lt_of_block S5.out.z)).trans S5.out.z)
                              have T2 := Lib.hid ((HG.out.block _ (lt_of_block S5.out.t)).trans S5.out.t)
                              have tt := T2.out
                              have yy5 := cell_of_row w2 g7 5 _ _ _ tt
                              have fyy5 := frozen_of_row w2 g7 5 _ _ tt
                              clear tt hown2 hg2 hA9 hloc)
                            clear yy5 fyy5 hrunC h1 h2 h3 h4 h5 h6 h7 h8 wsub wm wlen x0 x1 x2 x3 x4 x5 fx0 fx1 fx2 fx3 fx4 fx5
                            have hC7 : Chg (fun j => j = g7) w2 (w2.setCell ⟨g7, 5, none⟩ (.slice A9 m c9)) := (Chg.refl (fun j => j = g7) w2).setCell (p := ⟨g7, 5, none⟩) (.inl rfl) _
                            have qT := heap_setCell_same w2 g7 5 _ _ (.slice A9 m c9) T2.out
                            have l1 := S5.out.l1
                            have l0 := S5.out.l0
                            have zz : (w2.setCell ⟨g7, 5, none⟩ (.slice A9 m c9)).heap[w.heap.size]? = some (.cells #[.int .u64 0, .int .u64 0, .int .u64 0, .int .u64 0, .int .i64 0, .slice none 0 0] 30 (0, 0)) := hC7.blk Z2.out (fun e => by omega)
                            have b2 := S5.out.bel.trans (HG.out.mono S5.out.bel.size)
                            have bb := Lib.hid (b2.trans (hC7.below b2.size (fun k hk e => by omega)))
                            have RB : Hid (Rd (w2.setCell ⟨g7, 5, none⟩ (.slice A9 m c9)) 1 A9 m c9 ((U8 l).drop p5)) := Lib.hid ((Rd.of_own HO.out).chg hC7 (fun b off e hn hb => by have := HN.out b off e hn; have := S5.out.lt; omega))
                            have tt : (w2.setCell ⟨g7, 5, none⟩ (.slice A9 m c9)).heap[g7]? = some (.cells #[.int .u64 pn, .int .u64 least, .int .u64 off_, .int .u64 nonce, .int .i64 cc, .slice A9 m c9] 30 (0, 0)) := qT.trans (by simp)
                            generalize (w2.setCell ⟨g7, 5, none⟩ (.slice A9 m c9)) = v7 at *
                            have y0 := cell_of_row v7 g7 0 _ _ _ tt
                            have fy0 := frozen_of_row v7 g7 0 _ _ tt
                            have y1 := cell_of_row v7 g7 1 _ _ _ tt
                            have fy1 := frozen_of_row v7 g7 1 _ _ tt
                            have y2 := cell_of_row v7 g7 2 _ _ _ tt
                            have fy2 := frozen_of_row v7 g7 2 _ _ tt
                            have y3 := cell_of_row v7 g7 3 _ _ _ tt
                            have fy3 := frozen_of_row v7 g7 3 _ _ tt
                            have y4 := cell_of_row v7 g7 4 _ _ _ tt
                            have fy4 := frozen_of_row v7 g7 4 _ _ tt
                            have y5 := cell_of_row v7 g7 5 _ _ _ tt
                            have fy5 := frozen_of_row v7 g7 5 _ _ tt
                            have z0 := cell_of_row v7 (w.heap.size) 0 _ _ _ zz
                            have fz0 := frozen_of_row v7 (w.heap.size) 0 _ _ zz
                            have z1 := cell_of_row v7 (w.heap.size) 1 _ _ _ zz
                            have fz1 := frozen_of_row v7 (w.heap.size) 1 _ _ zz
                            have z2 := cell_of_row v7 (w.heap.size) 2 _ _ _ zz
                            have fz2 := frozen_of_row v7 (w.heap.size) 2 _ _ zz
                            have z3 := cell_of_row v7 (w.heap.size) 3 _ _ _ zz
                            have fz3 := frozen_of_row v7 (w.heap.size) 3 _ _ zz
                            have z4 := cell_of_row v7 (w.heap.size) 4 _ _ _ zz
                            have fz4 := frozen_of_row v7 (w.heap.size) 4 _ _ zz
                            have z5 := cell_of_row v7 (w.heap.size) 5 _ _ _ zz
                            have fz5 := frozen_of_row v7 (w.heap.size) 5 _ _ zz
                            have HS := Lib.hid S5.out.lt.2.2.1
                            have HS2 := Lib.hid S5.out.bel.size
                            have lg : w.heap.size ≠ g7 := by omega
                            have lg2 : g7 ≠ w.heap.size := by omega
                            clear tt qT hC7 b2
                            go_wp2
                            have q1 := heap_setCell_same v7 w.heap.size 0 _ _ (.int .u64 pn) zz
                            have q2 := heap_setCell_same _ w.heap.size 1 _ _ (.int .u64 least) q1
                            have q3 := heap_setCell_same _ w.heap.size 2 _ _ (.int .u64 off_) q2
                            have q4 := heap_setCell_same _ w.heap.size 3 _ _ (.int .u64 nonce) q3
                            have q5 := heap_setCell_same _ w.heap.size 4 _ _ (.int .i64 cc) q4
                            have q6 := heap_setCell_same _ w.heap.size 5 _ _ (.slice A9 m c9) q5
                            have hC : Chg (fun j => j = w.heap.size) v7 ((((((v7.setCell ⟨w.heap.size, 0, none⟩ (.int .u64 pn)).setCell ⟨w.heap.size, 1, none⟩ (.int .u64 least)).setCell ⟨w.heap.size, 2, none⟩ (.int .u64 off_)).setCell ⟨w.heap.size, 3, none⟩ (.int .u64 nonce)).setCell ⟨w.heap.size, 4, none⟩ (.int .i64 cc)).setCell ⟨w.heap.size, 5, none⟩ (.slice A9 m c9)) :=
                              ((((((Chg.refl (fun j => j = w.heap.size) v7).setCell (p := ⟨w.heap.size, 0, none⟩) (.inl rfl) _).setCell (p := ⟨w.heap.size, 1, none⟩) (.inl rfl) _).setCell (p := ⟨w.heap.size, 2, none⟩) (.inl rfl) _).setCell (p := ⟨w.heap.size, 3, none⟩) (.inl rfl) _).setCell (p := ⟨w.heap.size, 4, none⟩) (.inl rfl) _).setCell (p := ⟨w.heap.size, 5, none⟩) (.inl rfl) _
                            have q7 : _ = some (Obj.cells #[.int .u64 pn, .int .u64 least, .int .u64 off_, .int .u64 nonce, .int .i64 cc, .slice A9 m c9] 30 (0, 0)) := q6.trans (by simp)
                            refine bodyPost_ret (results_cell_tmp_row rfl _ _ (w.heap.size) _ _ _ _ rfl q7 Try.underlying30 rfl infoData) rfl ?_
                            unfold DatVal
                            rw [HV.out]
                            have hm := ME.out
                            have hu : (U8 l).drop p5 = U8 (l.drop p5) := by simp [U8, List.map_drop]
                            have hlen : (l.drop p5).length = m := by rw [List.length_drop]; exact hm
                            have hs := HS.out
                            have hs2 := HS2.out
                            have hR := RB.out.chg hC (fun b off e hn hb => by have := HN.out b off e hn; omega)
                            rw [hu] at hR
                            refine ⟨A9, c9, ?_, ?_, bb.out.trans (hC.below bb.out.size (fun k hk e => by omega)), fun b off e hn => by have := HN.out b off e (by rw [← hlen]; exact hn); omega⟩
                            · show _ = Ending.returned (.tuple #[.agg #[_, _, _, _, _, .slice A9 (l.drop p5).length c9], _])
                              rw [hlen]
                              rfl
                            · show Rd _ 1 A9 (l.drop p5).length c9 _
                              rw [hlen]; exact hR
end Go.Proofs.Ytkedfipeebjcjaa
