/-
  Part of the proof of EngineNumbers.
-/
import Derived.Test.YtpkbimmhimgamaaGreatPAM
namespace Go.Proofs.YtpkbimmhimgamaaGreat
set_option linter.unusedSimpArgs false
set_option linter.unusedVariables false
set_option linter.unnecessarySimpa false
open Go.RowKit
attribute [local go_sem ↓] run_min_int run_max_int
theorem infoCfg : (Tryz.prog.info? 26).map (·.size) = some 17 := by kernel_rfl
theorem Cfg.open_ (c : Cfg) : ∃ C : Array Value, c.val = .agg C ∧ (Tryz.prog.info? 26).map (·.size) = some C.size ∧ C[5]? = some (.int .u64 c.mss) ∧ C[6]? = some (.int .u64 c.ini) ∧ C[7]? = some (.int .u64 c.lea) ∧ C[8]? = some (.int .u64 c.mo) ∧ C[9]? = some (.int .i64 c.algo) :=
  ⟨_, rfl, infoCfg, rfl, rfl, rfl, rfl, rfl⟩
theorem infoCc : (Tryz.prog.info? 75).map (·.size) = some 9 := by kernel_rfl
/-- A control's numbers as a value. -/
def ccv (s : Wn) (re rc : Int) : Value := .agg #[.int .u64 s.cw, .int .u64 s.th, .int .u64 s.ac, .int .u64 s.pk, .int .u64 s.ep, .int .u64 s.kk, .int .u64 s.fr, .int .u64 re, .int .u64 rc]
/-- What a cut of a new round comes to. -/
def begunW (c : Cfg) (s : Wn) (re rc pn next num den cn cd : Int) : Wn × Int × Int × Bool :=
  if re ≤ pn then (cutW c s num den cn cd, (beginS re rc pn next).1, (beginS re rc pn next).2.1, true) else (s, re, rc, false)
theorem Cfg.Ok.u {c : Cfg} (h : c.Ok) : isU64 c.one ∧ isU64 c.lim ∧ isU64 c.mss ∧ isU64 c.ini ∧ isU64 c.lea ∧ isU64 c.mo ∧ isU64 c.fst ∧ isU64 c.gr ∧ isU64 c.cap ∧ isU64 c.bur ∧ isU64 c.slo ∧ isU64 c.evy := by
  obtain ⟨h1, h2, h3, h4, h5, h6, h7, h8, h9, h10, h11, h12, h13, h14, h15, h16, h17⟩ := h
  unfold isU64 at *
  omega
theorem max_u {x y : Int} (hx : isU64 x) (hy : isU64 y) : isU64 (max x y) := by
  unfold isU64 at *
  omega
theorem cutW_good {c : Cfg} {s : Wn} {num den cn cd : Int} (h : c.Ok) (g : s.Good) (h1 : isU64 num) (h2 : isU64 den) (h3 : isU64 cn) (h4 : isU64 cd) : (cutW c s num den cn cd).Good := by
  obtain ⟨u1, u2, u3, u4, u5, u6, u7, u8, u9, u10, u11, u12⟩ := h.u
  have z : isU64 (0 : Int) := ⟨by omega, by omega⟩
  have t : isU64 (18446744073709551615 : Int) := ⟨by omega, by omega⟩
  unfold cutW
  split
  · exact ⟨clampS_u (downS_u g.cw h3 h4) u5 u6, max_u (downS_u g.cw h3 h4) u5, z, peakS_u g.cw, t, z, z⟩
  · exact ⟨clampS_u (downS_u g.cw h1 h2) u5 u6, max_u (downS_u g.cw h1 h2) u5, z, g.pk, g.ep, g.kk, g.fr⟩
set_option maxHeartbeats 4000000 in
set_option maxRecDepth 100000 in
theorem ctl_cut (c : Cfg) (s : Wn) (num den cn cd : Int) (w : World) (h : c.Ok) (g : s.Good) (h1 : isU64 num) (h2 : isU64 den) (h3 : isU64 cn) (h4 : isU64 cd) :
    Calls Tryz.prog 124 #[c.val, s.val, .int .u64 num, .int .u64 den, .int .u64 cn, .int .u64 cd] w fun e w' => e = .returned (cutW c s num den cn cd).val ∧ Below w.heap.size w w' := by
  obtain ⟨C, hC, hi, cs⟩ := c.open_
  have S := Bx.three w C #[.int .u64 s.cw, .int .u64 s.th, .int .u64 s.ac, .int .u64 s.pk, .int .u64 s.ep, .int .u64 s.kk, .int .u64 s.fr] #[.int .u64 0, .int .u64 0, .int .u64 0, .int .u64 0, .int .u64 0, .int .u64 0, .int .u64 0] 26 71 71

  by_cases ha : c.algo = 2
  · have HV : Hid ((cutW c s num den cn cd).val = .agg #[.int .u64 (clampS (downS s.cw cn cd) c.lea c.mo), .int .u64 (max (downS s.cw cn cd) c.lea), .int .u64 0, .int .u64 (peakS s.cw s.pk), .int .u64 18446744073709551615, .int .u64 0, .int .u64 0]) := Lib.hid (by unfold cutW; rw [if_pos ha]; rfl)
    have f1 : (c.algo == 2) = true := by simp [ha]
    have K1 := Lib.hid (fun w => cubic_cut s.cw s.th s.ac s.pk s.ep s.kk s.fr cn cd w g.cw h3 h4)
    have K2 := Lib.hid (fun y w => sat_clamp y c.lea c.mo w)

    rw [hC]
    try rw [hC] at KM
    try rw [hC] at K1
    clear hC
    dsimp only [Wn.val, wnv] at *
    generalize (downS s.cw cn cd) = y at *
    clear h g ha h1 h2 h3 h4
    go_enter Tryz.func124, Tryz.ntmps124
    go_upto_region 1 with fail
    generalize ((w.alloc (.cells C 26)).alloc (.cells #[.int .u64 s.cw, .int .u64 s.th, .int .u64 s.ac, .int .u64 s.pk, .int .u64 s.ep, .int .u64 s.kk, .int .u64 s.fr] 71)).alloc (.cells #[.int .u64 0, .int .u64 0, .int .u64 0, .int .u64 0, .int .u64 0, .int .u64 0, .int .u64 0] 71) = w0 at *
    have a := And.intro (cells_of (S.get 0 rfl)) (And.intro (cells_of (S.get 1 rfl)) (cells_of (S.get 2 rfl)))
    go_wp2_with fail
    refine (K1.out _).mono ?_
    rintro e w1 ⟨rfl, q⟩
    replace S := S.step q
    clear q a
    have a := And.intro (cells_of (S.get 0 rfl)) (And.intro (cells_of (S.get 1 rfl)) (cells_of (S.get 2 rfl)))
    replace S := S.fill 1 0 [.int .u64 y, .int .u64 y, .int .u64 0, .int .u64 (peakS s.cw s.pk), .int .u64 18446744073709551615, .int .u64 0, .int .u64 0] rfl
    simp only [putAll, setAll, Nat.reduceAdd, List.setIfInBounds_toArray, List.set_cons_succ, List.set_cons_zero] at S
    go_upto_region 4 with fail
    generalize (((((((w1.setCell ⟨w.heap.size + 1, 0, none⟩ (.int .u64 y)).setCell ⟨w.heap.size + 1, 1, none⟩ (.int .u64 y)).setCell ⟨w.heap.size + 1, 2, none⟩ (.int .u64 0)).setCell ⟨w.heap.size + 1, 3, none⟩ (.int .u64 (peakS s.cw s.pk))).setCell ⟨w.heap.size + 1, 4, none⟩ (.int .u64 18446744073709551615)).setCell ⟨w.heap.size + 1, 5, none⟩ (.int .u64 0)).setCell ⟨w.heap.size + 1, 6, none⟩ (.int .u64 0)) = w2 at *
    clear a
    have a := And.intro (cells_of (S.get 0 rfl)) (And.intro (cells_of (S.get 1 rfl)) (cells_of (S.get 2 rfl)))
    go_wp2_with fail
    refine (K2.out _ _).mono ?_
    rintro e w3 ⟨rfl, q⟩
    replace S := S.stepQ q
    clear q a
    have a := And.intro (cells_of (S.get 0 rfl)) (And.intro (cells_of (S.get 1 rfl)) (cells_of (S.get 2 rfl)))
    replace S := S.set 1 0 (.int .u64 (clampS y c.lea c.mo)) rfl
    simp only [List.setIfInBounds_toArray, List.set_cons_succ, List.set_cons_zero] at S
    go_upto_region 5 with fail
    generalize (w3.setCell ⟨w.heap.size + 1, 0, none⟩ (.int .u64 (clampS y c.lea c.mo))) = w4 at *
    clear a
    have a := And.intro (cells_of (S.get 0 rfl)) (And.intro (cells_of (S.get 1 rfl)) (cells_of (S.get 2 rfl)))
    replace S := S.set 1 1 (.int .u64 (max y c.lea)) rfl
    simp only [List.setIfInBounds_toArray, List.set_cons_succ, List.set_cons_zero] at S
    go_upto_region 6 with fail
    generalize (w4.setCell ⟨w.heap.size + 1, 1, none⟩ (.int .u64 (max y c.lea))) = w5 at *
    clear a
    have a := And.intro (cells_of (S.get 0 rfl)) (And.intro (cells_of (S.get 1 rfl)) (cells_of (S.get 2 rfl)))
    replace S := S.fill 2 0 [.int .u64 (clampS y c.lea c.mo), .int .u64 (max y c.lea), .int .u64 0, .int .u64 (peakS s.cw s.pk), .int .u64 18446744073709551615, .int .u64 0, .int .u64 0] rfl
    simp only [putAll, setAll, Nat.reduceAdd, List.setIfInBounds_toArray, List.set_cons_succ, List.set_cons_zero] at S
    have E := Lib.hid S
    clear S
    go_wp2
    (try simp only [Exit.inBlock, Exit.then])
    exact bodyPost_ret (results_cell_row rfl _ _ (w.heap.size + 2) _ _ _ _ rfl (E.out.get 2 rfl) Tryz.underlying71 rfl infoWn) rfl ⟨congrArg Ending.returned HV.out.symm, E.out.bel⟩
  · have HV : Hid ((cutW c s num den cn cd).val = .agg #[.int .u64 (clampS (downS s.cw num den) c.lea c.mo), .int .u64 (max (downS s.cw num den) c.lea), .int .u64 0, .int .u64 s.pk, .int .u64 s.ep, .int .u64 s.kk, .int .u64 s.fr]) := Lib.hid (by unfold cutW; rw [if_neg ha]; rfl)
    have f1 : (c.algo == 2) = false := by simp [ha]
    have K1 := Lib.hid (fun w => reno_cut s.cw s.th s.ac s.pk s.ep s.kk s.fr num den w g.cw h1 h2)
    have K2 := Lib.hid (fun y w => sat_clamp y c.lea c.mo w)

    rw [hC]
    try rw [hC] at KM
    try rw [hC] at K1
    clear hC
    dsimp only [Wn.val, wnv] at *
    generalize (downS s.cw num den) = y at *
    clear h g ha h1 h2 h3 h4
    go_enter Tryz.func124, Tryz.ntmps124
    go_upto_region 1 with fail
    generalize ((w.alloc (.cells C 26)).alloc (.cells #[.int .u64 s.cw, .int .u64 s.th, .int .u64 s.ac, .int .u64 s.pk, .int .u64 s.ep, .int .u64 s.kk, .int .u64 s.fr] 71)).alloc (.cells #[.int .u64 0, .int .u64 0, .int .u64 0, .int .u64 0, .int .u64 0, .int .u64 0, .int .u64 0] 71) = w0 at *
    have a := And.intro (cells_of (S.get 0 rfl)) (And.intro (cells_of (S.get 1 rfl)) (cells_of (S.get 2 rfl)))
    go_wp2_with fail
    refine (K1.out _).mono ?_
    rintro e w1 ⟨rfl, q⟩
    replace S := S.step q
    clear q a
    have a := And.intro (cells_of (S.get 0 rfl)) (And.intro (cells_of (S.get 1 rfl)) (cells_of (S.get 2 rfl)))
    replace S := S.fill 1 0 [.int .u64 y, .int .u64 y, .int .u64 0, .int .u64 s.pk, .int .u64 s.ep, .int .u64 s.kk, .int .u64 s.fr] rfl
    simp only [putAll, setAll, Nat.reduceAdd, List.setIfInBounds_toArray, List.set_cons_succ, List.set_cons_zero] at S
    go_upto_region 4 with fail
    generalize (((((((w1.setCell ⟨w.heap.size + 1, 0, none⟩ (.int .u64 y)).setCell ⟨w.heap.size + 1, 1, none⟩ (.int .u64 y)).setCell ⟨w.heap.size + 1, 2, none⟩ (.int .u64 0)).setCell ⟨w.heap.size + 1, 3, none⟩ (.int .u64 s.pk)).setCell ⟨w.heap.size + 1, 4, none⟩ (.int .u64 s.ep)).setCell ⟨w.heap.size + 1, 5, none⟩ (.int .u64 s.kk)).setCell ⟨w.heap.size + 1, 6, none⟩ (.int .u64 s.fr)) = w2 at *
    clear a
    have a := And.intro (cells_of (S.get 0 rfl)) (And.intro (cells_of (S.get 1 rfl)) (cells_of (S.get 2 rfl)))
    go_wp2_with fail
    refine (K2.out _ _).mono ?_
    rintro e w3 ⟨rfl, q⟩
    replace S := S.stepQ q
    clear q a
    have a := And.intro (cells_of (S.get 0 rfl)) (And.intro (cells_of (S.get 1 rfl)) (cells_of (S.get 2 rfl)))
    replace S := S.set 1 0 (.int .u64 (clampS y c.lea c.mo)) rfl
    simp only [List.setIfInBounds_toArray, List.set_cons_succ, List.set_cons_zero] at S
    go_upto_region 5 with fail
    generalize (w3.setCell ⟨w.heap.size + 1, 0, none⟩ (.int .u64 (clampS y c.lea c.mo))) = w4 at *
    clear a
    have a := And.intro (cells_of (S.get 0 rfl)) (And.intro (cells_of (S.get 1 rfl)) (cells_of (S.get 2 rfl)))
    replace S := S.set 1 1 (.int .u64 (max y c.lea)) rfl
    simp only [List.setIfInBounds_toArray, List.set_cons_succ, List.set_cons_zero] at S
    go_upto_region 6 with fail
    generalize (w4.setCell ⟨w.heap.size + 1, 1, none⟩ (.int .u64 (max y c.lea))) = w5 at *
    clear a
    have a := And.intro (cells_of (S.get 0 rfl)) (And.intro (cells_of (S.get 1 rfl)) (cells_of (S.get 2 rfl)))
    replace S := S.fill 2 0 [.int .u64 (clampS y c.lea c.mo), .int .u64 (max y c.lea), .int .u64 0, .int .u64 s.pk, .int .u64 s.ep, .int .u64 s.kk, .int .u64 s.fr] rfl
    simp only [putAll, setAll, Nat.reduceAdd, List.setIfInBounds_toArray, List.set_cons_succ, List.set_cons_zero] at S
    have E := Lib.hid S
    clear S
    go_wp2
    (try simp only [Exit.inBlock, Exit.then])
    exact bodyPost_ret (results_cell_row rfl _ _ (w.heap.size + 2) _ _ _ _ rfl (E.out.get 2 rfl) Tryz.underlying71 rfl infoWn) rfl ⟨congrArg Ending.returned HV.out.symm, E.out.bel⟩
set_option maxHeartbeats 4000000 in
set_option maxRecDepth 100000 in
theorem ctl_collapse (c : Cfg) (s : Wn) (re rc : Int) (w : World) (h : c.Ok) (g : s.Good) :
    Calls Tryz.prog 65 #[c.val, ccv s re rc] w fun e w' => e = .returned (ccv { cutW c s 1 2 7 10 with cw := c.lea } re rc) ∧ Below w.heap.size w w' := by
  obtain ⟨C, hC, hi, cs⟩ := c.open_
  have S := Bx.three w C #[.int .u64 s.cw, .int .u64 s.th, .int .u64 s.ac, .int .u64 s.pk, .int .u64 s.ep, .int .u64 s.kk, .int .u64 s.fr, .int .u64 re, .int .u64 rc] #[.int .u64 0, .int .u64 0, .int .u64 0, .int .u64 0, .int .u64 0, .int .u64 0, .int .u64 0, .int .u64 0, .int .u64 0] 26 75 75
  have KM := Lib.hid (fun w => conf_may c w h)
  have K1 := Lib.hid (fun w => ctl_cut c s 1 2 7 10 w h g ⟨by omega, by omega⟩ ⟨by omega, by omega⟩ ⟨by omega, by omega⟩ ⟨by omega, by omega⟩)
  obtain ⟨t, ht⟩ : ∃ t, t = cutW c s 1 2 7 10 := ⟨_, rfl⟩
  rw [← ht] at K1
  rw [← ht]
  rw [hC]
  try rw [hC] at KM
  try rw [hC] at K1
  clear hC
  dsimp only [ccv, Wn.val, wnv] at *
  clear h g ht
  go_enter Tryz.func65, Tryz.ntmps65
  go_upto_region 1 with fail
  generalize ((w.alloc (.cells C 26)).alloc (.cells #[.int .u64 s.cw, .int .u64 s.th, .int .u64 s.ac, .int .u64 s.pk, .int .u64 s.ep, .int .u64 s.kk, .int .u64 s.fr, .int .u64 re, .int .u64 rc] 75)).alloc (.cells #[.int .u64 0, .int .u64 0, .int .u64 0, .int .u64 0, .int .u64 0, .int .u64 0, .int .u64 0, .int .u64 0, .int .u64 0] 75) = w0 at *
  have a := And.intro (cells_of (S.get 0 rfl)) (And.intro (cells_of (S.get 1 rfl)) (cells_of (S.get 2 rfl)))
  go_wp2_with (refine wpList_load_row rfl 26 _ rfl _ rfl _ _ _ _ (S.get 0 rfl) Tryz.underlying26 rfl hi ?_)
  refine (KM.out _).mono ?_
  rintro e wm ⟨rfl, q⟩
  replace S := S.step q
  clear q a
  have a := And.intro (cells_of (S.get 0 rfl)) (And.intro (cells_of (S.get 1 rfl)) (cells_of (S.get 2 rfl)))
  go_wp2_with (refine wpList_load_row rfl 26 _ rfl _ rfl _ _ _ _ (S.get 0 rfl) Tryz.underlying26 rfl hi ?_)
  refine (K1.out _).mono ?_
  rintro e w1 ⟨rfl, q⟩
  replace S := S.step q
  clear q a
  have a := And.intro (cells_of (S.get 0 rfl)) (And.intro (cells_of (S.get 1 rfl)) (cells_of (S.get 2 rfl)))
  replace S := S.fill 1 0 [.int .u64 t.cw, .int .u64 t.th, .int .u64 t.ac, .int .u64 t.pk, .int .u64 t.ep, .int .u64 t.kk, .int .u64 t.fr] rfl
  simp only [putAll, setAll, Nat.reduceAdd, List.setIfInBounds_toArray, List.set_cons_succ, List.set_cons_zero] at S
  go_upto_region 4 with fail
  generalize (((((((w1.setCell ⟨w.heap.size + 1, 0, none⟩ (.int .u64 t.cw)).setCell ⟨w.heap.size + 1, 1, none⟩ (.int .u64 t.th)).setCell ⟨w.heap.size + 1, 2, none⟩ (.int .u64 t.ac)).setCell ⟨w.heap.size + 1, 3, none⟩ (.int .u64 t.pk)).setCell ⟨w.heap.size + 1, 4, none⟩ (.int .u64 t.ep)).setCell ⟨w.heap.size + 1, 5, none⟩ (.int .u64 t.kk)).setCell ⟨w.heap.size + 1, 6, none⟩ (.int .u64 t.fr)) = w2 at *
  clear a
  have a := And.intro (cells_of (S.get 0 rfl)) (And.intro (cells_of (S.get 1 rfl)) (cells_of (S.get 2 rfl)))
  replace S := S.set 1 0 (.int .u64 c.lea) rfl
  simp only [List.setIfInBounds_toArray, List.set_cons_succ, List.set_cons_zero] at S
  go_upto_region 5 with fail
  generalize (w2.setCell ⟨w.heap.size + 1, 0, none⟩ (.int .u64 c.lea)) = w4 at *
  clear a
  have a := And.intro (cells_of (S.get 0 rfl)) (And.intro (cells_of (S.get 1 rfl)) (cells_of (S.get 2 rfl)))
  replace S := S.fill 2 0 [.int .u64 c.lea, .int .u64 t.th, .int .u64 t.ac, .int .u64 t.pk, .int .u64 t.ep, .int .u64 t.kk, .int .u64 t.fr, .int .u64 re, .int .u64 rc] rfl
  simp only [putAll, setAll, Nat.reduceAdd, List.setIfInBounds_toArray, List.set_cons_succ, List.set_cons_zero] at S
  have E := Lib.hid S
  clear S
  go_wp2
  (try simp only [Exit.inBlock, Exit.then])
  exact bodyPost_ret (results_cell_row rfl _ _ (w.heap.size + 2) _ _ _ _ rfl (E.out.get 2 rfl) Tryz.underlying75 rfl infoCc) rfl ⟨rfl, E.out.bel⟩
set_option maxHeartbeats 4000000 in
set_option maxRecDepth 100000 in
theorem ctl_begun (c : Cfg) (s : Wn) (re rc pn next num den cn cd : Int) (w : World) (h : c.Ok) (g : s.Good) (ha : isU64 re) (hb : isU64 rc) (hp : isU64 pn) (h1 : isU64 num) (h2 : isU64 den) (h3 : isU64 cn) (h4 : isU64 cd) :
    Calls Tryz.prog 119 #[c.val, ccv s re rc, .int .u64 pn, .int .u64 next, .int .u64 num, .int .u64 den, .int .u64 cn, .int .u64 cd] w fun e w' => e = .returned (.tuple #[ccv (begunW c s re rc pn next num den cn cd).1 (begunW c s re rc pn next num den cn cd).2.1 (begunW c s re rc pn next num den cn cd).2.2.1, .bool (begunW c s re rc pn next num den cn cd).2.2.2]) ∧ Below w.heap.size w w' := by
  obtain ⟨C, hC, hi, cs⟩ := c.open_
  have S := Bx.three w C #[.int .u64 s.cw, .int .u64 s.th, .int .u64 s.ac, .int .u64 s.pk, .int .u64 s.ep, .int .u64 s.kk, .int .u64 s.fr, .int .u64 re, .int .u64 rc] #[.int .u64 0, .int .u64 0, .int .u64 0, .int .u64 0, .int .u64 0, .int .u64 0, .int .u64 0, .int .u64 0, .int .u64 0] 26 75 75
  have KM := Lib.hid (fun w => conf_may c w h)
  have KB := Lib.hid (fun w => round_begin re rc pn next w ha hb hp)
  have K1 := Lib.hid (fun w => ctl_cut c s num den cn cd w h g h1 h2 h3 h4)
  obtain ⟨t, ht⟩ : ∃ t, t = cutW c s num den cn cd := ⟨_, rfl⟩
  have HB : Hid (begunW c s re rc pn next num den cn cd = if re ≤ pn then (t, (beginS re rc pn next).1, (beginS re rc pn next).2.1, true) else (s, re, rc, false)) := Lib.hid (by rw [ht]; rfl)
  rw [← ht] at K1
  by_cases hc : re ≤ pn
  · have e2 : (beginS re rc pn next).2.2 = true := by unfold beginS; rw [if_pos hc]
    rw [e2] at KB
    rw [HB.out, if_pos hc]
    generalize (beginS re rc pn next).1 = re' at *
    generalize (beginS re rc pn next).2.1 = rc' at *
    rw [hC]
    try rw [hC] at KM
    try rw [hC] at K1
    clear hC
    dsimp only [ccv, Wn.val, wnv] at *
    clear h g ht HB hc ha hb hp h1 h2 h3 h4 e2
    go_enter Tryz.func119, Tryz.ntmps119
    go_upto_region 1 with fail
    generalize ((w.alloc (.cells C 26)).alloc (.cells #[.int .u64 s.cw, .int .u64 s.th, .int .u64 s.ac, .int .u64 s.pk, .int .u64 s.ep, .int .u64 s.kk, .int .u64 s.fr, .int .u64 re, .int .u64 rc] 75)).alloc (.cells #[.int .u64 0, .int .u64 0, .int .u64 0, .int .u64 0, .int .u64 0, .int .u64 0, .int .u64 0, .int .u64 0, .int .u64 0] 75) = w0 at *
    have a := And.intro (cells_of (S.get 0 rfl)) (And.intro (cells_of (S.get 1 rfl)) (cells_of (S.get 2 rfl)))
    go_wp2_with (refine wpList_load_row rfl 26 _ rfl _ rfl _ _ _ _ (S.get 0 rfl) Tryz.underlying26 rfl hi ?_)
    refine (KM.out _).mono ?_
    rintro e wm ⟨rfl, q⟩
    replace S := S.step q
    clear q a
    have a := And.intro (cells_of (S.get 0 rfl)) (And.intro (cells_of (S.get 1 rfl)) (cells_of (S.get 2 rfl)))
    go_wp2_with fail
    refine (KB.out _).mono ?_
    rintro e w1 ⟨rfl, q⟩
    replace S := S.step q
    clear q a
    have a := And.intro (cells_of (S.get 0 rfl)) (And.intro (cells_of (S.get 1 rfl)) (cells_of (S.get 2 rfl)))
    go_upto_region 6 with fail
    replace S := S.alloc #[.int .u64 re', .int .u64 rc'] 73
    generalize w1.alloc (.cells #[.int .u64 re', .int .u64 rc'] 73) = w2 at *
    clear a
    have a := And.intro (cells_of (S.get 0 rfl)) (And.intro (cells_of (S.get 1 rfl)) (And.intro (cells_of (S.get 2 rfl)) (cells_of (S.get 3 rfl))))
    have am := And.intro (cells_ofM (S.get 0 rfl)) (And.intro (cells_ofM (S.get 1 rfl)) (And.intro (cells_ofM (S.get 2 rfl)) (cells_ofM (S.get 3 rfl))))
    refine wp_region_bt 10 (by kernel_rfl) (by kernel_rfl) ?_
    simp only [List.take_succ_cons, List.take_zero, List.drop_succ_cons, List.drop_zero]
    repeat (first | (refine wpQuiet_load_row rfl 26 _ rfl _ rfl _ _ _ _ (mix_row (S.get 1 rfl)) rfl Tryz.underlying26 hi ?_) | go_big_quiet_step ((go_at_call 124; with_reducible exact Calls.mix_of (K1.out _))) | quiet_step ((go_at_call 124; with_reducible exact Calls.mix_of (K1.out _))))
    refine wpQuiet_nil ?_
    intro w3 q
    replace S := S.step q
    clear q a am
    have a := And.intro (cells_of (S.get 0 rfl)) (And.intro (cells_of (S.get 1 rfl)) (And.intro (cells_of (S.get 2 rfl)) (cells_of (S.get 3 rfl))))
    replace S := S.fill 3 0 [.int .u64 t.cw, .int .u64 t.th, .int .u64 t.ac, .int .u64 t.pk, .int .u64 t.ep, .int .u64 t.kk, .int .u64 t.fr, .int .u64 re', .int .u64 rc'] rfl
    simp only [putAll, setAll, Nat.reduceAdd, List.setIfInBounds_toArray, List.set_cons_succ, List.set_cons_zero] at S
    have E := Lib.hid S
    clear S
    go_wp2
    (try simp only [Exit.inBlock, Exit.then])
    exact bodyPost_ret (results_cell_tmp_row rfl _ _ (w.heap.size + 2) _ _ _ _ rfl (E.out.get 3 rfl) Tryz.underlying75 rfl infoCc) rfl ⟨rfl, E.out.bel⟩
  · have e2 : beginS re rc pn next = (re, rc, false) := by unfold beginS; rw [if_neg hc]
    rw [e2] at KB
    rw [HB.out, if_neg hc]
    rw [hC]
    try rw [hC] at KM
    try rw [hC] at K1
    clear hC
    dsimp only [ccv, Wn.val, wnv] at *
    clear h g ht HB hc ha hb hp h1 h2 h3 h4 e2 K1
    go_enter Tryz.func119, Tryz.ntmps119
    go_upto_region 1 with fail
    generalize ((w.alloc (.cells C 26)).alloc (.cells #[.int .u64 s.cw, .int .u64 s.th, .int .u64 s.ac, .int .u64 s.pk, .int .u64 s.ep, .int .u64 s.kk, .int .u64 s.fr, .int .u64 re, .int .u64 rc] 75)).alloc (.cells #[.int .u64 0, .int .u64 0, .int .u64 0, .int .u64 0, .int .u64 0, .int .u64 0, .int .u64 0, .int .u64 0, .int .u64 0] 75) = w0 at *
    have a := And.intro (cells_of (S.get 0 rfl)) (And.intro (cells_of (S.get 1 rfl)) (cells_of (S.get 2 rfl)))
    go_wp2_with (refine wpList_load_row rfl 26 _ rfl _ rfl _ _ _ _ (S.get 0 rfl) Tryz.underlying26 rfl hi ?_)
    refine (KM.out _).mono ?_
    rintro e wm ⟨rfl, q⟩
    replace S := S.step q
    clear q a
    have a := And.intro (cells_of (S.get 0 rfl)) (And.intro (cells_of (S.get 1 rfl)) (cells_of (S.get 2 rfl)))
    go_wp2_with fail
    refine (KB.out _).mono ?_
    rintro e w1 ⟨rfl, q⟩
    replace S := S.step q
    clear q a
    have a := And.intro (cells_of (S.get 0 rfl)) (And.intro (cells_of (S.get 1 rfl)) (cells_of (S.get 2 rfl)))
    go_upto_region 5 with fail
    replace S := S.alloc #[.int .u64 re, .int .u64 rc] 73
    generalize w1.alloc (.cells #[.int .u64 re, .int .u64 rc] 73) = w2 at *
    clear a
    have a := And.intro (cells_of (S.get 0 rfl)) (And.intro (cells_of (S.get 1 rfl)) (And.intro (cells_of (S.get 2 rfl)) (cells_of (S.get 3 rfl))))
    replace S := S.fill 3 0 [.int .u64 s.cw, .int .u64 s.th, .int .u64 s.ac, .int .u64 s.pk, .int .u64 s.ep, .int .u64 s.kk, .int .u64 s.fr, .int .u64 re, .int .u64 rc] rfl
    simp only [putAll, setAll, Nat.reduceAdd, List.setIfInBounds_toArray, List.set_cons_succ, List.set_cons_zero] at S
    have E := Lib.hid S
    clear S
    go_wp2
    (try simp only [Exit.inBlock, Exit.then])
    exact bodyPost_ret (results_cell_tmp_row rfl _ _ (w.heap.size + 2) _ _ _ _ rfl (E.out.get 3 rfl) Tryz.underlying75 rfl infoCc) rfl ⟨rfl, E.out.bel⟩
set_option maxHeartbeats 4000000 in
set_option maxRecDepth 100000 in
theorem ctl_loss (c : Cfg) (s : Wn) (re rc pn next : Int) (w : World) (h : c.Ok) (g : s.Good) (ha : isU64 re) (hb : isU64 rc) (hp : isU64 pn) :
    Calls Tryz.prog 60 #[c.val, ccv s re rc, .int .u64 pn, .int .u64 next] w fun e w' => e = .returned (.tuple #[ccv (begunW c s re rc pn next 1 2 7 10).1 (begunW c s re rc pn next 1 2 7 10).2.1 (begunW c s re rc pn next 1 2 7 10).2.2.1, .bool (begunW c s re rc pn next 1 2 7 10).2.2.2]) ∧ Below w.heap.size w w' := by
  obtain ⟨C, hC, hi, cs⟩ := c.open_
  have S := Bx.three w C #[.int .u64 s.cw, .int .u64 s.th, .int .u64 s.ac, .int .u64 s.pk, .int .u64 s.ep, .int .u64 s.kk, .int .u64 s.fr, .int .u64 re, .int .u64 rc] #[.int .u64 0, .int .u64 0, .int .u64 0, .int .u64 0, .int .u64 0, .int .u64 0, .int .u64 0, .int .u64 0, .int .u64 0] 26 75 75
  have K1 := Lib.hid (fun w => ctl_begun c s re rc pn next 1 2 7 10 w h g ha hb hp ⟨by omega, by omega⟩ ⟨by omega, by omega⟩ ⟨by omega, by omega⟩ ⟨by omega, by omega⟩)
  generalize begunW c s re rc pn next 1 2 7 10 = x at *
  obtain ⟨t, re', rc', b⟩ := x
  rw [hC]
  try rw [hC] at KM
  try rw [hC] at K1
  clear hC
  dsimp only [ccv, Wn.val, wnv] at *
  clear h g ha hb hp
  go_enter Tryz.func60, Tryz.ntmps60
  go_upto_region 1 with fail
  generalize ((w.alloc (.cells C 26)).alloc (.cells #[.int .u64 s.cw, .int .u64 s.th, .int .u64 s.ac, .int .u64 s.pk, .int .u64 s.ep, .int .u64 s.kk, .int .u64 s.fr, .int .u64 re, .int .u64 rc] 75)).alloc (.cells #[.int .u64 0, .int .u64 0, .int .u64 0, .int .u64 0, .int .u64 0, .int .u64 0, .int .u64 0, .int .u64 0, .int .u64 0] 75) = w0 at *
  have a := And.intro (cells_of (S.get 0 rfl)) (And.intro (cells_of (S.get 1 rfl)) (cells_of (S.get 2 rfl)))
  go_wp2_with (refine wpList_load_row rfl 26 _ rfl _ rfl _ _ _ _ (S.get 0 rfl) Tryz.underlying26 rfl hi ?_)
  refine (K1.out _).mono ?_
  rintro e w1 ⟨rfl, q⟩
  replace S := S.step q
  clear q a
  have a := And.intro (cells_of (S.get 0 rfl)) (And.intro (cells_of (S.get 1 rfl)) (cells_of (S.get 2 rfl)))
  replace S := S.fill 2 0 [.int .u64 t.cw, .int .u64 t.th, .int .u64 t.ac, .int .u64 t.pk, .int .u64 t.ep, .int .u64 t.kk, .int .u64 t.fr, .int .u64 re', .int .u64 rc'] rfl
  simp only [putAll, setAll, Nat.reduceAdd, List.setIfInBounds_toArray, List.set_cons_succ, List.set_cons_zero] at S
  have E := Lib.hid S
  clear S
  go_wp2
  (try simp only [Exit.inBlock, Exit.then])
  exact bodyPost_ret (results_cell_tmp_row rfl _ _ (w.heap.size + 2) _ _ _ _ rfl (E.out.get 2 rfl) Tryz.underlying75 rfl infoCc) rfl ⟨rfl, E.out.bel⟩
end Go.Proofs.YtpkbimmhimgamaaGreat
