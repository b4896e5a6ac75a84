/-
  Walks of the game's references: counts over all draws. · Walks of the game's references: Play, Lucky, Hidden. · Walks of the game's references: Play, of whatever numbers.
-/
import Derived.Test.YtpfmhkkglaghgaaGreatGrf7
import Derived.Test.YtpfmhkkglaghgaaGreatGamK
namespace Go.Proofs.YtpfmhkkglaghgaaGreat
set_option linter.unusedSimpArgs false
set_option linter.unusedVariables false
set_option linter.unnecessarySimpa false
open Go.RowKit

def badMv (g : Gm) (x : Vd × Mv) : Bool := decide (x.1.kind = 2) && !(x.2.claim &&& (15 - g.came) == 0)
theorem fold_luck (g : Gm) : ∀ (l : List (Vd × Mv)) (s : TS), (l.foldl (tstep g) s).luck = (s.luck || l.any (badMv g)) := by
  intro l
  induction l with
  | nil => intro s; simp
  | cons x l ih =>
    intro s
    rw [List.foldl_cons, ih, List.any_cons]
    unfold tstep badMv
    by_cases h : x.1.kind = 2
    · rw [if_pos h, decide_eq_true h, Bool.true_and, Bool.or_assoc]
    · rw [if_neg h, decide_eq_false h, Bool.false_and, Bool.false_or]
theorem tally_luck (g : Gm) (k : Nat) : (tallyN g k).luck = (playedN g k 0).any (badMv g) := by
  unfold tallyN tallyTo
  rw [List.take_length, fold_luck, Bool.false_or]
theorem Rd.ix {w : World} {A : Option Addr} {n c : Nat} {l : List Nat} (h : Rd w 1 A n c (Ixs l)) {i : Nat} (hi : i < l.length) :
    ∃ b off, A = some ⟨b, off, none⟩ ∧ w.cell? ⟨b, off + i, none⟩ = some (.int .i64 (l[i] : Nat)) := by
  have h' : Rd w 1 A n c (l.flatMap (fun (j : Nat) => [Value.int .i64 (j : Int)])) := by
    have e : Ixs l = l.flatMap (fun (j : Nat) => [Value.int .i64 (j : Int)]) := List.map_eq_flatMap ..
    rw [← e]; exact h
  obtain ⟨b, off, e, hc⟩ := Rd.elem (f := fun (j : Nat) => [Value.int .i64 (j : Int)]) (k := 1) (fun _ => rfl) h' (by omega) hi
  have := hc 0 _ rfl
  rw [Nat.mul_one, Nat.add_zero] at this
  exact ⟨b, off, e, this⟩

/-- A play that lies in memory. -/
structure PlR (g : Gm) (l : List (Vd × Nat)) (VA : Option Addr) (vc : Nat) (IA : Option Addr) (ic : Nat) (W : World) : Prop where
  v : Rd W 4 VA l.length vc (Vds (l.map (·.1)))
  i : Rd W 1 IA l.length ic (Ixs (l.map (·.2)))
theorem PlR.below {g : Gm} {l : List (Vd × Nat)} {VA : Option Addr} {vc : Nat} {IA : Option Addr} {ic : Nat} {W W' : World} (h : PlR g l VA vc IA ic W) (b : Below W.heap.size W W') : PlR g l VA vc IA ic W' := ⟨h.v.below b, h.i.below b⟩

set_option maxHeartbeats 4000000 in
set_option maxRecDepth 100000 in
theorem grf_luck (g : Gm) (l : List (Vd × Nat)) (VA : Option Addr) (vc : Nat) (IA : Option Addr) (ic : Nat) (A : Option Addr) (c : Nat) (w : World) (hg : g.ok) (hl : ∀ x ∈ l, x.2 < g.moves.length) (hr : Rd w 6 A g.moves.length c (Mvs g.moves)) (hp : PlR g l VA vc IA ic w) :
    Calls Tryz.prog 21 #[gmVal g A c, .agg #[.slice VA l.length vc, .slice IA l.length ic]] w fun e w' => e = .returned (.bool ((l.map (fun x => (x.1, g.moves.getD x.2 mv0))).any (badMv g))) ∧ Below w.heap.size w w' := by
  have g2 := gbox2 w (.cells #[.int .i64 g.b, .int .i64 g.n, .int .i64 g.came, .int .i64 g.marked, .slice A g.moves.length c] 24) (.cells #[.slice VA l.length vc, .slice IA l.length ic] 49)
  have B2 := Lib.hid g2.2.2.1
  have N1 := Lib.hid g2.1
  have N2 := Lib.hid g2.2.1
  have HR := Lib.hid (hr.below g2.2.2.1)
  have HP := Lib.hid (hp.below g2.2.2.1)
  have n4 := hg.n4
  have p16 : 2 ^ g.n ≤ 16 := Nat.pow_le_pow_right (n := 2) (by decide) (j := 4) n4
  have hca : g.came < 16 := Nat.lt_of_lt_of_le hg.came p16
  have GO := Lib.hid hg
  have HL := Lib.hid hl
  have v1 := hp.v.cap
  have v2 := hp.v.max
  have i1 := hp.i.cap
  have i2 := hp.i.max
  have a1 := hr.cap
  have a2 := hr.max
  unfold maxLen at v2 i2 a2
  clear hr hp hl hg g2 p16
  unfold gmVal
  go_enter Tryz.func21, Tryz.ntmps21
  go_upto_region 1 with fail
  generalize (w.alloc (.cells #[.int .i64 g.b, .int .i64 g.n, .int .i64 g.came, .int .i64 g.marked, .slice A g.moves.length c] 24)).alloc (.cells #[.slice VA l.length vc, .slice IA l.length ic] 49) = w2 at *
  have y2 : w2.cell? ⟨w.heap.size, 2, none⟩ = some (.int .i64 g.came) := cell_of_row w2 w.heap.size 2 _ _ _ N1.out
  have y4 : w2.cell? ⟨w.heap.size, 4, none⟩ = some (.slice A g.moves.length c) := cell_of_row w2 w.heap.size 4 _ _ _ N1.out
  have x0 : w2.cell? ⟨w.heap.size + 1, 0, none⟩ = some (.slice VA l.length vc) := cell_of_row w2 (w.heap.size + 1) 0 _ _ _ N2.out
  have x1 : w2.cell? ⟨w.heap.size + 1, 1, none⟩ = some (.slice IA l.length ic) := cell_of_row w2 (w.heap.size + 1) 1 _ _ _ N2.out
  go_wp2_with fail
  go_loopw [5] (fun iv wr => ∃ j : Nat, j ≤ l.length ∧ iv = .int .i64 j ∧ Hid (((l.take j).map (fun x => (x.1, g.moves.getD x.2 mv0))).any (badMv g) = false) ∧ Hid (Qt w2 wr)) (fun iv _ => l.length - (intOf iv).toNat)
  case atStart => exact ⟨0, Nat.zero_le _, rfl, Lib.hid rfl, Lib.hid (Qt.refl _)⟩
  case round =>
    obtain ⟨j, hj, rfl, HF, Q⟩ := hrel
    obtain ⟨n, rfl⟩ := Q.out
    by_cases hlt : j < l.length
    · obtain ⟨vb, vo, eV, b0, -, -, -⟩ := HP.out.v.vd (i := j) (by simpa using hlt)
      obtain ⟨ib, io, eI, d0⟩ := HP.out.i.ix (i := j) (by simpa using hlt)
      simp only [List.getElem_map] at b0 d0
      have hx := HL.out _ (List.getElem_mem hlt)
      have HT := Lib.hid (List.take_succ_eq_append_getElem hlt)
      have HM : Hid (∃ r, l = l.take j ++ l[j] :: r) := Lib.hid ⟨l.drop (j + 1), by conv => lhs; rw [← List.take_append_drop j l, List.drop_eq_getElem_cons hlt]⟩
      obtain ⟨ab, ao, eA, c0, -, -, -, -, -⟩ := HR.out.mv hx
      have f1 : (0 : Int) ≤ j := by omega
      have f2 : (j : Int) < l.length := by omega
      subst eV
      subst eI
      subst eA
      have HG : Hid (g.moves.getD (l[j].2) mv0 = g.moves[l[j].2]) := Lib.hid (by simp [hx])
      have hmk := (GO.out.moves _ (List.getElem_mem hx))
      have hcl := (hmk.lt GO.out).1
      clear hmk
      generalize g.moves[l[j].2] = m at *
      generalize l[j] = x at *
      obtain ⟨⟨kd, why, pn, ch⟩, ix⟩ := x
      simp only at b0 d0 c0 hx HG
      have f3 : (0 : Int) ≤ ix := by omega
      have f4 : (ix : Int) < g.moves.length := by omega
      by_cases hk2 : kd = 2
      · subst hk2
        have e1 := andNot_i64 m.claim hcl g.came hca
        obtain ⟨nt, hnt⟩ : ∃ nt, nt = m.claim &&& (15 - g.came) := ⟨_, rfl⟩
        have HB : Hid (badMv g (⟨2, why, pn, ch⟩, g.moves.getD ix mv0) = !(nt == 0)) := Lib.hid (by unfold badMv; rw [HG.out, hnt]; rfl)
        rw [← hnt] at e1
        clear hnt
        by_cases hn : nt = 0
        · subst hn
          have e2 : bits .andNot .i64 (m.claim : Int) (g.came : Int) = 0 := e1
          clear e1
          go_wp2
          refine wp_region_qt (by kernel_rfl) (by kernel_rfl) ?_
          repeat (go_big_quiet_step (fail))
          refine wpQuiet_nil ?_
          intro w7 q7
          go_wp2
          go_roundw
          case rel => exact ⟨j + 1, by omega, by go_num, Lib.hid (by rw [HT.out, List.map_append, List.any_append, HF.out, Bool.false_or]; show (badMv g _ || false) = false; rw [HB.out]; rfl), Lib.hid ((show Qt w2 (w2.drewN n) from ⟨n, rfl⟩).trans q7)⟩
          case measure => simp [intOf]; omega
        · have hn2 : ((nt : Int) != 0) = true := by simpa using hn
          go_wp2
          refine wp_region_qt (by kernel_rfl) (by kernel_rfl) ?_
          repeat (go_big_quiet_step (fail))
          refine wpQuiet_nil ?_
          intro w7 q7
          go_wp2
          go_ret
          refine ⟨ret_bool ?_, B2.out.trans (((show Qt w2 (w2.drewN n) from ⟨n, rfl⟩).trans q7).below.mono B2.out.size)⟩
          obtain ⟨r, hr⟩ := HM.out
          rw [hr, List.map_append, List.any_append, List.map_cons, List.any_cons, HB.out]
          simp [hn]
      · have hk3 : (kd == 2) = false := by simpa using hk2
        have HB : Hid (badMv g (⟨kd, why, pn, ch⟩, g.moves.getD ix mv0) = false) := Lib.hid (by unfold badMv; rw [decide_eq_false hk2]; rfl)
        go_wp2
        refine wp_region_qt (by kernel_rfl) (by kernel_rfl) ?_
        repeat (go_big_quiet_step (fail))
        refine wpQuiet_nil ?_
        intro w7 q7
        go_wp2
        go_roundw
        case rel => exact ⟨j + 1, by omega, by go_num, Lib.hid (by rw [HT.out, List.map_append, List.any_append, HF.out, Bool.false_or]; show (badMv g _ || false) = false; rw [HB.out]; rfl), Lib.hid ((show Qt w2 (w2.drewN n) from ⟨n, rfl⟩).trans q7)⟩
        case measure => simp [intOf]; omega
    · obtain rfl : j = l.length := by omega
      go_wp2
      go_ret
      exact ⟨ret_bool (by have h := HF.out; rw [List.take_length] at h; exact h.symm), B2.out.trans ((Qt.below ⟨n, rfl⟩ : Below w2.heap.size w2 _).mono B2.out.size)⟩

end Go.Proofs.YtpfmhkkglaghgaaGreat

namespace Go.Proofs.YtpfmhkkglaghgaaGreat
set_option linter.unusedSimpArgs false
set_option linter.unusedVariables false
set_option linter.unnecessarySimpa false
open Go.RowKit

set_option maxHeartbeats 4000000 in
set_option maxRecDepth 100000 in
theorem grf_lucky (g : Gm) (A : Option Addr) (c : Nat) (w : World) (hg : g.ok) (hr : Rd w 6 A g.moves.length c (Mvs g.moves)) :
    Calls Tryz.prog 15 #[gmVal g A c] w fun e w' => e = .returned (.int .u64 (luckyN g)) ∧ Below w.heap.size w w' := by
  have b0 := box_below w (.cells #[.int .i64 g.b, .int .i64 g.n, .int .i64 g.came, .int .i64 g.marked, .slice A g.moves.length c] 24)
  have G0 : Hid (GmB w.heap.size g A c (w.alloc (.cells #[.int .i64 g.b, .int .i64 g.n, .int .i64 g.came, .int .i64 g.marked, .slice A g.moves.length c] 24))) := Lib.hid ⟨heap_alloc_new _ _, hr.below b0⟩
  have B0 := Lib.hid b0
  have hd := gm_draws_lt hg
  have GO := Lib.hid hg
  have LN : Hid (luckyN g = countTo (fun k => (tallyN g k).luck) g.draws) := Lib.hid rfl
  have KD := Lib.hid (fun W (h : GmB w.heap.size g A c W) => grf_drawsG g A c W hg h.r)
  unfold gmVal at KD
  clear hr b0 hg
  unfold gmVal
  go_enter Tryz.func15, Tryz.ntmps15
  go_upto_region 2 with fail
  generalize (w.alloc (.cells #[.int .i64 g.b, .int .i64 g.n, .int .i64 g.came, .int .i64 g.marked, .slice A g.moves.length c] 24)) = w1 at *
  generalize hzz : w.heap.size = z at *
  have HZZ := Lib.hid hzz
  clear hzz
  generalize g.draws = d at *
  go_wp2_with fail
  go_loopw [3, 4] (fun v3 iv wr => ∃ j : Nat, j ≤ d ∧ iv = .int .u64 j ∧ v3 = .int .u64 (countTo (fun k => (tallyN g k).luck) j) ∧ Hid (GmB z g A c wr ∧ Below z w wr ∧ z ≤ wr.heap.size)) (fun _ iv _ => d - (intOf iv).toNat)
  case atStart => exact ⟨0, Nat.zero_le _, rfl, rfl, Lib.hid ⟨G0.out, B0.out, Nat.le_of_lt (lt_of_block G0.out.t)⟩⟩
  case round =>
    obtain ⟨j, hj, rfl, rfl, GB⟩ := hrel
    clear G0 B0
    have GR := Lib.hid GB.out.1
    have BR := Lib.hid GB.out.2.1
    have hz := GB.out.2.2
    clear GB
    have y0 := cell_of_row wr z 0 _ _ _ GR.out.t
    have y1 := cell_of_row wr z 1 _ _ _ GR.out.t
    have y2 := cell_of_row wr z 2 _ _ _ GR.out.t
    have y3 := cell_of_row wr z 3 _ _ _ GR.out.t
    have y4 := cell_of_row wr z 4 _ _ _ GR.out.t
    have K := Lib.hid (KD.out wr GR.out)
    go_wp2_with fail
    (with_reducible refine K.out.mono ?_)
    rintro e wd ⟨rfl, bd⟩
    have GD := Lib.hid (GR.out.below bd)
    have BD := Lib.hid (BR.out.trans (bd.mono hz))
    have hzd := bd.size
    clear K bd GR BR y0 y1 y2 y3 y4
    by_cases hlt : j < d
    · have hlt' : (j : Int) < d := by omega
      have hc := count_le (fun k => (tallyN g k).luck) j
      have CS := Lib.hid (count_step (fun k => (tallyN g k).luck) j)
      generalize countTo (fun k => (tallyN g k).luck) j = ct at *
      have wc : IntKind.u64.wrap ((ct : Int) + 1) = (ct : Int) + 1 := IntWalk.u64_in _ (by omega)
      have wj : IntKind.u64.wrap ((j : Int) + 1) = (j : Int) + 1 := IntWalk.u64_in _ (by omega)
      have TL : Hid ((tallyN g j).luck = ((playedJ g j).map (fun x => (x.1, g.moves.getD x.2 mv0))).any (badMv g)) := Lib.hid (by rw [tally_luck, (playedJ_N GO.out j).1])
      have HLJ := Lib.hid (playedJ_N GO.out j).2.1
      have K7 := Lib.hid (grf_play g j A c wd.drew GO.out (by omega) (GD.out.below (Below.refl _ _).drew).r)
      unfold gmVal at K7
      generalize playedJ g j = l at *
      obtain ⟨lb, hlb⟩ : ∃ lb, lb = (l.map (fun x => (x.1, g.moves.getD x.2 mv0))).any (badMv g) := ⟨_, rfl⟩
      rw [← hlb] at TL
      have HLB := Lib.hid hlb
      clear hlb
      have y0 := cell_of_row wd z 0 _ _ _ GD.out.t
      have y1 := cell_of_row wd z 1 _ _ _ GD.out.t
      have y2 := cell_of_row wd z 2 _ _ _ GD.out.t
      have y3 := cell_of_row wd z 3 _ _ _ GD.out.t
      have y4 := cell_of_row wd z 4 _ _ _ GD.out.t
      have y0 : wd.cell? ⟨z, 0, none⟩ = some (.int .i64 g.b) := y0
      have y1 : wd.cell? ⟨z, 1, none⟩ = some (.int .i64 g.n) := y1
      have y2 : wd.cell? ⟨z, 2, none⟩ = some (.int .i64 g.came) := y2
      have y3 : wd.cell? ⟨z, 3, none⟩ = some (.int .i64 g.marked) := y3
      have y4 : wd.cell? ⟨z, 4, none⟩ = some (.slice A g.moves.length c) := y4
      have gB := Lib.hid (fun (W : World) (b : Below wd.heap.size wd W) => (⟨(b.cell (block_lt_of_cell y0)).trans y0, (b.cell (block_lt_of_cell y1)).trans y1, (b.cell (block_lt_of_cell y2)).trans y2, (b.cell (block_lt_of_cell y3)).trans y3, (b.cell (block_lt_of_cell y4)).trans y4⟩ : W.cell? ⟨z, 0, none⟩ = some (.int .i64 g.b) ∧ W.cell? ⟨z, 1, none⟩ = some (.int .i64 g.n) ∧ W.cell? ⟨z, 2, none⟩ = some (.int .i64 g.came) ∧ W.cell? ⟨z, 3, none⟩ = some (.int .i64 g.marked) ∧ W.cell? ⟨z, 4, none⟩ = some (.slice A g.moves.length c)))
      go_upto_region 5 with fail
      go_cut [15] (fun s15 wx => s15 = .bool lb ∧ Hid (Below wd.heap.size wd wx))
      case first =>
        go_region_held3 (fun W => W.cell? ⟨z, 0, none⟩ = some (.int .i64 g.b) ∧ W.cell? ⟨z, 1, none⟩ = some (.int .i64 g.n) ∧ W.cell? ⟨z, 2, none⟩ = some (.int .i64 g.came) ∧ W.cell? ⟨z, 3, none⟩ = some (.int .i64 g.marked) ∧ W.cell? ⟨z, 4, none⟩ = some (.slice A g.moves.length c))
          (first | exact gB.out _ ((Below.refl _ _).drew.trans (b8.trans (b9.mono b8.size))) | exact gB.out _ ((Below.refl _ _).drew.trans b8) | exact gB.out _ (Below.refl _ _).drew | exact gB.out _ (Below.refl _ _))
          (first
            | (go_at_call 19; (with_reducible refine Calls.mono K7.out ?_); rintro e w8 ⟨VA, vc, IA, ic, rfl, rv, ri, b8⟩; have K8 := Lib.hid (grf_luck g l VA vc IA ic A c w8 GO.out HLJ.out ((GD.out.below (Below.refl _ _).drew).below b8).r ⟨rv, ri⟩); unfold gmVal at K8; rw [← HLB.out] at K8)
            | (go_at_call 21; (with_reducible refine Calls.mono K8.out ?_); rintro e w9 ⟨rfl, b9⟩))
        all_goals
          go_wp2_with fail
          go_meet
          exact ⟨rfl, Lib.hid ((Below.refl _ _).drew.trans (b8.trans (b9.mono b8.size)))⟩
      case rest =>
      obtain ⟨rfl, BX⟩ := hcut
      have GX := Lib.hid (GD.out.below BX.out)
      have BX2 := Lib.hid (BD.out.trans (BX.out.mono (by omega)))
      have hzx : z ≤ _ := Nat.le_trans (by omega : z ≤ wd.heap.size) BX.out.size
      clear K7 gB y0 y1 y2 y3 y4 GD BD BX HLB HLJ
      cases lb with
      | true =>
        go_wp2_with fail
        go_roundw
        case rel => exact ⟨j + 1, by omega, by go_num, by rw [CS.out]; simp [TL.out], Lib.hid ⟨GX.out, BX2.out, hzx⟩⟩
        case measure => simp [intOf]; omega
      | false =>
        go_wp2_with fail
        go_roundw
        case rel => exact ⟨j + 1, by omega, by go_num, by rw [CS.out]; simp [TL.out], Lib.hid ⟨GX.out, BX2.out, hzx⟩⟩
        case measure => simp [intOf]; omega
    · obtain rfl : j = d := by omega
      go_wp2_with fail
      go_ret
      exact ⟨ret_int (by rw [LN.out]), by have h := BD.out; rw [← HZZ.out] at h; exact h⟩

set_option maxHeartbeats 8000000 in
set_option maxRecDepth 100000 in
theorem grf_hidden (g : Gm) (least : Int) (A : Option Addr) (c : Nat) (w : World) (hg : g.ok) (hr : Rd w 6 A g.moves.length c (Mvs g.moves)) :
    Calls Tryz.prog 17 #[gmVal g A c, .int .i64 least] w fun e w' => e = .returned (.int .u64 (hiddenN g least)) ∧ Below w.heap.size w w' := by
  have b0 := box_below w (.cells #[.int .i64 g.b, .int .i64 g.n, .int .i64 g.came, .int .i64 g.marked, .slice A g.moves.length c] 24)
  have G0 : Hid (GmB w.heap.size g A c (w.alloc (.cells #[.int .i64 g.b, .int .i64 g.n, .int .i64 g.came, .int .i64 g.marked, .slice A g.moves.length c] 24))) := Lib.hid ⟨heap_alloc_new _ _, hr.below b0⟩
  have B0 := Lib.hid b0
  have hd := gm_draws_lt hg
  have GO := Lib.hid hg
  have LN : Hid (hiddenN g least = countTo (hiddenP g least) g.draws) := Lib.hid rfl
  have KD := Lib.hid (fun W (h : GmB w.heap.size g A c W) => grf_drawsG g A c W hg h.r)
  have p16 : 2 ^ g.n ≤ 16 := Nat.pow_le_pow_right (n := 2) (by decide) (j := 4) hg.n4
  have hca : g.came < 16 := Nat.lt_of_lt_of_le hg.came p16
  have hma : g.marked < 16 := Nat.lt_of_le_of_lt (Nat.le_of_testBit hg.marked) hca
  have h8 := hg.len
  have a1 := hr.cap
  have a2 := hr.max
  unfold maxLen at a2
  unfold gmVal at KD
  clear hr b0 hg p16
  unfold gmVal
  go_enter Tryz.func17, Tryz.ntmps17
  go_upto_region 2 with fail
  generalize (w.alloc (.cells #[.int .i64 g.b, .int .i64 g.n, .int .i64 g.came, .int .i64 g.marked, .slice A g.moves.length c] 24)) = w1 at *
  generalize hzz : w.heap.size = z at *
  have HZZ := Lib.hid hzz
  clear hzz
  generalize g.draws = d at *
  go_wp2_with fail
  go_loopw [5, 6] (fun v3 iv wr => ∃ j : Nat, j ≤ d ∧ iv = .int .u64 j ∧ v3 = .int .u64 (countTo (hiddenP g least) j) ∧ Hid (GmB z g A c wr ∧ Below z w wr ∧ z ≤ wr.heap.size)) (fun _ iv _ => d - (intOf iv).toNat)
  case atStart => exact ⟨0, Nat.zero_le _, rfl, rfl, Lib.hid ⟨G0.out, B0.out, Nat.le_of_lt (lt_of_block G0.out.t)⟩⟩
  case round =>
    obtain ⟨j, hj, rfl, rfl, GB⟩ := hrel
    clear G0 B0
    have GR := Lib.hid GB.out.1
    have BR := Lib.hid GB.out.2.1
    have hz := GB.out.2.2
    clear GB
    have y0 := cell_of_row wr z 0 _ _ _ GR.out.t
    have y1 := cell_of_row wr z 1 _ _ _ GR.out.t
    have y2 := cell_of_row wr z 2 _ _ _ GR.out.t
    have y3 := cell_of_row wr z 3 _ _ _ GR.out.t
    have y4 := cell_of_row wr z 4 _ _ _ GR.out.t
    have K := Lib.hid (KD.out wr GR.out)
    go_wp2_with fail
    (with_reducible refine K.out.mono ?_)
    rintro e wd ⟨rfl, bd⟩
    have GD := Lib.hid (GR.out.below bd)
    have BD := Lib.hid (BR.out.trans (bd.mono hz))
    have hzd := bd.size
    clear K bd GR BR y0 y1 y2 y3 y4
    by_cases hlt : j < d
    · have hlt' : (j : Int) < d := by omega
      have hc := count_le (hiddenP g least) j
      have CS := Lib.hid (count_step (hiddenP g least) j)
      generalize countTo (hiddenP g least) j = ct at *
      have wc : IntKind.u64.wrap ((ct : Int) + 1) = (ct : Int) + 1 := IntWalk.u64_in _ (by omega)
      have wj : IntKind.u64.wrap ((j : Int) + 1) = (j : Int) + 1 := IntWalk.u64_in _ (by omega)
      have TL : Hid ((tallyN g j).luck = ((playedJ g j).map (fun x => (x.1, g.moves.getD x.2 mv0))).any (badMv g)) := Lib.hid (by rw [tally_luck, (playedJ_N GO.out j).1])
      have HLJ := Lib.hid (playedJ_N GO.out j).2.1
      have HLN := Lib.hid (playedJ_N GO.out j).1
      have TN : Hid (tallyN g j = tallyTo g ((playedJ g j).map (fun x => (x.1, g.moves.getD x.2 mv0))) (playedJ g j).length) := Lib.hid (by unfold tallyN; rw [(playedJ_N GO.out j).1, (playedJ_N GO.out j).2.2.1])
      have hl8 : (playedJ g j).length ≤ 8 := by rw [(playedJ_N GO.out j).2.2.1]; exact Nat.le_trans (playN_len _ _ _ _ _ _) h8
      have K7 := Lib.hid (grf_play g j A c wd GO.out (by omega) GD.out.r)
      unfold gmVal at K7
      generalize playedJ g j = l at *
      obtain ⟨lb, hlb⟩ : ∃ lb, lb = (l.map (fun x => (x.1, g.moves.getD x.2 mv0))).any (badMv g) := ⟨_, rfl⟩
      rw [← hlb] at TL
      have HLB := Lib.hid hlb
      clear hlb
      have y0 := cell_of_row wd z 0 _ _ _ GD.out.t
      have y1 := cell_of_row wd z 1 _ _ _ GD.out.t
      have y2 := cell_of_row wd z 2 _ _ _ GD.out.t
      have y3 := cell_of_row wd z 3 _ _ _ GD.out.t
      have y4 := cell_of_row wd z 4 _ _ _ GD.out.t
      go_wp2_with fail
      (with_reducible refine K7.out.mono ?_)
      rintro e w8 ⟨VA, vc, IA, ic, rfl, rv, ri, b8⟩
      have G8 := Lib.hid (GD.out.below (b8.trans ((box_below w8 (.cells #[.slice VA l.length vc, .slice IA l.length ic] 49)).mono b8.size)))
      have B8 := Lib.hid (BD.out.trans ((b8.trans ((box_below w8 (.cells #[.slice VA l.length vc, .slice IA l.length ic] 49)).mono b8.size)).mono (by omega)))
      have T8 := Lib.hid (heap_alloc_new w8 (.cells #[.slice VA l.length vc, .slice IA l.length ic] 49))
      have RV := Lib.hid (rv.below (box_below w8 (.cells #[.slice VA l.length vc, .slice IA l.length ic] 49)))
      have RI := Lib.hid (ri.below (box_below w8 (.cells #[.slice VA l.length vc, .slice IA l.length ic] 49)))
      have hz8 : z ≤ w8.heap.size := by have := b8.size; omega
      clear rv ri b8 K7 GD BD y0 y1 y2 y3 y4
      go_upto_region 6 with fail
      generalize (w8.alloc (.cells #[.slice VA l.length vc, .slice IA l.length ic] 49)) = w9 at *
      have lt9 := lt_of_block T8.out
      generalize w8.heap.size = y at *
      have y0 := cell_of_row w9 z 0 _ _ _ G8.out.t
      have y1 := cell_of_row w9 z 1 _ _ _ G8.out.t
      have y2 := cell_of_row w9 z 2 _ _ _ G8.out.t
      have y3 := cell_of_row w9 z 3 _ _ _ G8.out.t
      have y4 := cell_of_row w9 z 4 _ _ _ G8.out.t
      have x0 := cell_of_row w9 y 0 _ _ _ T8.out
      have x1 := cell_of_row w9 y 1 _ _ _ T8.out
      have K9 := Lib.hid (grf_luck g l VA vc IA ic A c w9 GO.out HLJ.out G8.out.r ⟨RV.out, RI.out⟩)
      unfold gmVal at K9
      rw [← HLB.out] at K9
      go_wp2_with fail
      (with_reducible refine K9.out.mono ?_)
      rintro e wa ⟨rfl, ba⟩
      have GA := Lib.hid (G8.out.below ba)
      have BA := Lib.hid (B8.out.trans (ba.mono (by omega)))
      have TA := Lib.hid ((ba.block _ lt9).trans T8.out)
      have RVA := Lib.hid (RV.out.below ba)
      have RIA := Lib.hid (RI.out.below ba)
      have hza : y < wa.heap.size := lt_of_block TA.out
      clear K9 G8 B8 T8 RV RI ba y0 y1 y2 y3 y4 x0 x1
      cases lb with
      | true =>
        have HP : Hid (hiddenP g least j = false) := Lib.hid (by unfold hiddenP; rw [TL.out]; rfl)
        go_wp2_with fail
        go_roundw
        case rel => exact ⟨j + 1, by omega, by go_num, by rw [CS.out, HP.out]; simp, Lib.hid ⟨GA.out, BA.out, by omega⟩⟩
        case measure => simp [intOf]; omega
      | false =>
        have HP : Hid (hiddenP g least j = decide (((tallyN g j).times : Int) ≥ least)) := Lib.hid (by unfold hiddenP; rw [TL.out]; simp)
        have v1 := RVA.out.cap
        have v2 := RVA.out.max
        have i1 := RIA.out.cap
        have i2 := RIA.out.max
        unfold maxLen at v2 i2
        have HLL : Hid (∀ i, (hi : i < l.length) → tallyTo g (l.map (fun x => (x.1, g.moves.getD x.2 mv0))) (i + 1) = tstep g (tallyTo g (l.map (fun x => (x.1, g.moves.getD x.2 mv0))) i) ((l.map (fun x => (x.1, g.moves.getD x.2 mv0)))[i]'(by rw [List.length_map]; exact hi))) := Lib.hid (fun i hi => tally_step g _ (by simpa using hi))
        have x0 : wa.cell? ⟨y, 0, none⟩ = some (.slice VA l.length vc) := cell_of_row wa y 0 _ _ _ TA.out
        go_wp2_with fail
        clear x0
        go_loopw [8, 9, 10] (fun v8 v9 v10 wx => ∃ (i : Nat) (s : TS), i ≤ l.length ∧ v10 = .int .i64 i ∧ v8 = .int .i64 s.seen ∧ v9 = .int .i64 s.times ∧ Hid (s = tallyTo g (l.map (fun x => (x.1, g.moves.getD x.2 mv0))) i) ∧ s.seen < 16 ∧ s.times ≤ i ∧ Hid (Below wa.heap.size wa wx)) (fun _ _ v10 _ => l.length - (intOf v10).toNat)
        case atStart => exact ⟨0, ⟨false, 0, 0⟩, Nat.zero_le _, rfl, rfl, rfl, Lib.hid rfl, by decide, Nat.le_refl _, Lib.hid (Below.refl _ _)⟩
        case round =>
          obtain ⟨i, s, hi, rfl, rfl, rfl, HS, h16, ht, BI⟩ := hrel
          generalize wr = wi at *
          have si := BI.out.size
          have GI := Lib.hid (GA.out.below BI.out)
          have TI := Lib.hid ((BI.out.block _ hza).trans TA.out)
          have x0 : wi.cell? ⟨y, 0, none⟩ = some (.slice VA l.length vc) := cell_of_row wi y 0 _ _ _ TI.out
          by_cases hil : i < l.length
          · have x1 : wi.cell? ⟨y, 1, none⟩ = some (.slice IA l.length ic) := cell_of_row wi y 1 _ _ _ TI.out
            obtain ⟨vb, vo, eV, b0, -, -, -⟩ := (RVA.out.below BI.out).vd (i := i) (by simpa using hil)
            obtain ⟨ib, io, eI, d0⟩ := (RIA.out.below BI.out).ix (i := i) (by simpa using hil)
            simp only [List.getElem_map] at b0 d0
            have hx := HLJ.out _ (List.getElem_mem hil)
            have HT := Lib.hid (HLL.out i hil)
            rw [List.getElem_map] at HT
            obtain ⟨ab, ao, eA, c0, c1, c2, c3, c4, c5⟩ := GI.out.r.mv hx
            have f1 : (0 : Int) ≤ i := by omega
            have f2 : (i : Int) < l.length := by omega
            have y4 : wi.cell? ⟨z, 4, none⟩ = some (.slice A g.moves.length c) := cell_of_row wi z 4 _ _ _ GI.out.t
            subst eV
            subst eI
            subst eA
            have HG : Hid (g.moves.getD (l[i].2) mv0 = g.moves[l[i].2]) := Lib.hid (by simp [hx])
            have hmk := (GO.out.moves _ (List.getElem_mem hx))
            obtain ⟨hcl, hmkl⟩ := (hmk.lt GO.out)
            clear hmk
            generalize g.moves[l[i].2] = m at *
            rw [HG.out, ← HS.out] at HT
            clear HG
            generalize l[i] = x at *
            obtain ⟨⟨kd, why, pn, ch⟩, ix⟩ := x
            simp only at b0 d0 c0 c1 c2 c3 c4 c5 hx HT
            have f3 : (0 : Int) ≤ ix := by omega
            have f4 : (ix : Int) < g.moves.length := by omega
            have gB := Lib.hid (fun (W : World) (b : Below wi.heap.size wi W) => (⟨(b.cell (block_lt_of_cell y4)).trans y4, (b.cell (block_lt_of_cell x1)).trans x1, (b.cell (block_lt_of_cell d0)).trans d0, (b.cell (block_lt_of_cell c0)).trans c0, (b.cell (block_lt_of_cell c1)).trans c1, (b.cell (block_lt_of_cell c2)).trans c2, (b.cell (block_lt_of_cell c3)).trans c3, (b.cell (block_lt_of_cell c4)).trans c4, (b.cell (block_lt_of_cell c5)).trans c5⟩ : W.cell? ⟨z, 4, none⟩ = some (.slice (some ⟨ab, ao, none⟩) g.moves.length c) ∧ W.cell? ⟨y, 1, none⟩ = some (.slice (some ⟨ib, io, none⟩) l.length ic) ∧ W.cell? ⟨ib, io + i, none⟩ = some (.int .i64 (ix : Nat)) ∧ W.cell? ⟨ab, ao + ix * 6, none⟩ = some (.int .i64 m.claim) ∧ W.cell? ⟨ab, ao + ix * 6 + 1, none⟩ = some (.int .i64 m.mark) ∧ W.cell? ⟨ab, ao + ix * 6 + 2, none⟩ = some (.int .i64 m.fr) ∧ W.cell? ⟨ab, ao + ix * 6 + 3, none⟩ = some (.bool m.guess) ∧ W.cell? ⟨ab, ao + ix * 6 + 4, none⟩ = some (.bool m.flip) ∧ W.cell? ⟨ab, ao + ix * 6 + 5, none⟩ = some (.int .u64 m.salt)))
            go_upto_region 11 with fail
            go_cut [11] (fun s11 wx => ∃ b, s11 = .pointer (some ⟨b, 0, none⟩) ∧ Hid (MvAt wx b m ∧ Below wi.heap.size wi wx))
            case first =>
              go_region_held3 (fun W => W.cell? ⟨z, 4, none⟩ = some (.slice (some ⟨ab, ao, none⟩) g.moves.length c) ∧ W.cell? ⟨y, 1, none⟩ = some (.slice (some ⟨ib, io, none⟩) l.length ic) ∧ W.cell? ⟨ib, io + i, none⟩ = some (.int .i64 (ix : Nat)) ∧ W.cell? ⟨ab, ao + ix * 6, none⟩ = some (.int .i64 m.claim) ∧ W.cell? ⟨ab, ao + ix * 6 + 1, none⟩ = some (.int .i64 m.mark) ∧ W.cell? ⟨ab, ao + ix * 6 + 2, none⟩ = some (.int .i64 m.fr) ∧ W.cell? ⟨ab, ao + ix * 6 + 3, none⟩ = some (.bool m.guess) ∧ W.cell? ⟨ab, ao + ix * 6 + 4, none⟩ = some (.bool m.flip) ∧ W.cell? ⟨ab, ao + ix * 6 + 5, none⟩ = some (.int .u64 m.salt))
                (first | exact gB.out _ (Below.refl _ _) | exact gB.out _ (Below.refl _ _).drew | exact gB.out _ (bel_box (by simp) (Below.refl _ _).drew))
                (fail)
              all_goals
                go_wp2_with fail
                go_meet
                exact ⟨_, rfl, Lib.hid ⟨heap_alloc_new wi _, (box_below wi _).drew⟩⟩
            case rest =>
            obtain ⟨mb, rfl, MX⟩ := hcut
            have BX := Lib.hid (BI.out.trans (MX.out.2.mono si))
            have GX := Lib.hid (GI.out.below MX.out.2)
            have b0 := (MX.out.2.cell (block_lt_of_cell b0)).trans b0
            have x0 := (MX.out.2.cell (block_lt_of_cell x0)).trans x0
            have M1 := Lib.hid MX.out.1
            clear gB c0 c1 c2 c3 c4 c5 d0 y4 x1 BI GI TI MX si
            generalize wc = wx at *
            have y3 : wx.cell? ⟨z, 3, none⟩ = some (.int .i64 g.marked) := cell_of_row wx z 3 _ _ _ GX.out.t
            have p0 : wx.cell? ⟨mb, 0, none⟩ = some (.int .i64 m.claim) := cell_of_row wx mb 0 _ _ _ M1.out
            have p1 : wx.cell? ⟨mb, 1, none⟩ = some (.int .i64 m.mark) := cell_of_row wx mb 1 _ _ _ M1.out
            have e2 := and_i64 g.marked hma m.claim hcl
            have e3 : bits .andNot .i64 ((g.marked &&& m.claim : Nat) : Int) (m.mark : Int) = (freshX g m : Int) := andNot_i64 _ (and_lt16 _ hma _ hcl) m.mark hmkl
            have fr16 : freshX g m < 16 := and15 _ (and_lt16 _ hma _ hcl) _ hmkl
            have e4 := andNot_i64 (freshX g m) fr16 s.seen h16
            have e5 := or_i64 s.seen h16 (freshX g m) fr16
            have hs16 := or_lt16 s.seen h16 (freshX g m) fr16
            have wt : IntKind.i64.wrap ((s.times : Int) + 1) = (s.times : Int) + 1 := IntWalk.i64_in _ (by omega)
            obtain ⟨fx, hfx⟩ : ∃ fx, fx = freshX g m := ⟨_, rfl⟩
            obtain ⟨an, han⟩ : ∃ an, an = g.marked &&& m.claim := ⟨_, rfl⟩
            rw [← hfx, ← han] at e3
            rw [← han] at e2
            rw [← hfx] at e4 e5 hs16
            have ES : Hid (tstep g s (⟨kd, why, pn, ch⟩, m) = if kd = 2 then ⟨s.luck || !(m.claim &&& (15 - g.came) == 0), if fx &&& (15 - s.seen) = 0 then s.times else s.times + 1, s.seen ||| fx⟩ else s) := Lib.hid (by rw [hfx]; rfl)
            clear hfx han fr16
            obtain ⟨st, hst⟩ : ∃ st, st = tstep g s (⟨kd, why, pn, ch⟩, m) := ⟨_, rfl⟩
            rw [← hst] at HT ES
            clear hst
            by_cases hk2 : kd = 2
            · subst hk2
              by_cases hf : fx &&& (15 - s.seen) = 0
              · rw [hf] at e4
                have e4' : bits .andNot .i64 (fx : Int) (s.seen : Int) = 0 := e4
                have E1 : Hid (st.seen = s.seen ||| fx ∧ st.times = s.times) := Lib.hid (by rw [ES.out, if_pos rfl]; simp [hf])
                clear e4 ES hf
                go_wp2_with fail
                go_roundw
                case rel => exact ⟨i + 1, st, by omega, by go_num, by rw [E1.out.1], by rw [E1.out.2], Lib.hid HT.out.symm, by rw [E1.out.1]; exact hs16, by rw [E1.out.2]; omega, BX⟩
                case measure => simp [intOf]; omega
              · have hf2 : (((fx &&& (15 - s.seen) : Nat) : Int) != 0) = true := by simpa using hf
                have E1 : Hid (st.seen = s.seen ||| fx ∧ st.times = s.times + 1) := Lib.hid (by rw [ES.out, if_pos rfl]; simp [hf])
                clear ES hf
                go_wp2_with fail
                go_roundw
                case rel => exact ⟨i + 1, st, by omega, by go_num, by rw [E1.out.1], by rw [E1.out.2]; go_num, Lib.hid HT.out.symm, by rw [E1.out.1]; exact hs16, by rw [E1.out.2]; omega, BX⟩
                case measure => simp [intOf]; omega
            · have hk3 : (kd == 2) = false := by simpa using hk2
              have E1 : Hid (st = s) := Lib.hid (by rw [ES.out, if_neg hk2])
              clear hk2 ES
              go_wp2_with fail
              go_roundw
              case rel => exact ⟨i + 1, st, by omega, by go_num, by rw [E1.out], by rw [E1.out], Lib.hid HT.out.symm, by rw [E1.out]; exact h16, by rw [E1.out]; omega, BX⟩
              case measure => simp [intOf]; omega
          · obtain rfl : i = l.length := by omega
            have TT : Hid (s = tallyN g j) := Lib.hid (by rw [HS.out, TN.out])
            have BJ := Lib.hid (BA.out.trans (BI.out.mono (by omega)))
            by_cases hge : (s.times : Int) ≥ least
            · have hg1 : decide ((s.times : Int) ≥ least) = true := decide_eq_true hge
              have HP2 : Hid (hiddenP g least j = true) := Lib.hid (by rw [HP.out, ← TT.out]; exact hg1)
              go_wp2_with fail
              go_roundw
              case rel => exact ⟨j + 1, by omega, by go_num, by rw [CS.out, HP2.out]; simp, Lib.hid ⟨GI.out, BJ.out, by omega⟩⟩
              case measure => simp [intOf]; omega
            · have hg1 : decide ((s.times : Int) ≥ least) = false := decide_eq_false hge
              have HP2 : Hid (hiddenP g least j = false) := Lib.hid (by rw [HP.out, ← TT.out]; exact hg1)
              go_wp2_with fail
              go_roundw
              case rel => exact ⟨j + 1, by omega, by go_num, by rw [CS.out, HP2.out]; simp, Lib.hid ⟨GI.out, BJ.out, by omega⟩⟩
              case measure => simp [intOf]; omega
    · obtain rfl : j = d := by omega
      go_wp2_with fail
      go_ret
      exact ⟨ret_int (by rw [LN.out]), by have h := BD.out; rw [← HZZ.out] at h; exact h⟩

end Go.Proofs.YtpfmhkkglaghgaaGreat

namespace Go.Proofs.YtpfmhkkglaghgaaGreat
set_option linter.unusedSimpArgs false
set_option linter.unusedVariables false
set_option linter.unnecessarySimpa false
open Go.RowKit

theorem fld0 (a b : Value) (w : World) : Sem.run Tryz.prog (Instr.field 49 (.agg #[a, b]) 0) w = .ok a w := by kernel_rfl
set_option maxHeartbeats 4000000 in
set_option maxRecDepth 100000 in
theorem grf_playG (g : Gm) (k : Nat) (A : Option Addr) (c : Nat) (w : World) (hg : g.ok) (hk : k < 18446744073709551616) (hr : Rd w 6 A g.moves.length c (Mvs g.moves)) :
    Calls Tryz.prog 9 #[gmVal g A c, .int .u64 k] w fun e w' => ∃ VA vc, e = .returned (.tuple #[.slice VA (if k < g.draws then (playedN g k 0).length else 0) vc, .bool (decide (k < g.draws))]) ∧ Rd w' 4 VA (if k < g.draws then (playedN g k 0).length else 0) vc (Vds (if k < g.draws then (playedN g k 0).map (·.1) else [])) ∧ Below w.heap.size w w' := by
  have b0 := box_below w (.cells #[.int .i64 g.b, .int .i64 g.n, .int .i64 g.came, .int .i64 g.marked, .slice A g.moves.length c] 24)
  have n0 := heap_alloc_new w (.cells #[.int .i64 g.b, .int .i64 g.n, .int .i64 g.came, .int .i64 g.marked, .slice A g.moves.length c] 24)
  have B0 := Lib.hid b0
  have N0 := Lib.hid n0
  have HR := Lib.hid (hr.below b0)
  have s0 : (w.alloc (.cells #[.int .i64 g.b, .int .i64 g.n, .int .i64 g.came, .int .i64 g.marked, .slice A g.moves.length c] 24)).heap.size = w.heap.size + 1 := by simp
  have hd := gm_draws_lt hg
  have GO := Lib.hid hg
  clear hr b0 n0 hg
  unfold gmVal
  go_enter Tryz.func9, Tryz.ntmps9
  go_upto_region 1 with fail
  generalize (w.alloc (.cells #[.int .i64 g.b, .int .i64 g.n, .int .i64 g.came, .int .i64 g.marked, .slice A g.moves.length c] 24)) = w1 at *
  have y0 := cell_of_row w1 w.heap.size 0 _ _ _ N0.out
  have y1 := cell_of_row w1 w.heap.size 1 _ _ _ N0.out
  have y2 := cell_of_row w1 w.heap.size 2 _ _ _ N0.out
  have y3 := cell_of_row w1 w.heap.size 3 _ _ _ N0.out
  have y4 := cell_of_row w1 w.heap.size 4 _ _ _ N0.out
  have K := Lib.hid (grf_drawsG g A c w1 GO.out HR.out)
  unfold gmVal at K
  go_wp2_with fail
  (with_reducible refine K.out.mono ?_)
  rintro e w2 ⟨rfl, b2⟩
  have B2 := Lib.hid (B0.out.trans (b2.mono (by omega)))
  have N2 := Lib.hid ((b2.block _ (lt_of_block N0.out)).trans N0.out)
  have H2 := Lib.hid (HR.out.below b2)
  clear K b2 N0 y0 y1 y2 y3 y4
  have y0 := cell_of_row w2 w.heap.size 0 _ _ _ N2.out
  have y1 := cell_of_row w2 w.heap.size 1 _ _ _ N2.out
  have y2 := cell_of_row w2 w.heap.size 2 _ _ _ N2.out
  have y3 := cell_of_row w2 w.heap.size 3 _ _ _ N2.out
  have y4 := cell_of_row w2 w.heap.size 4 _ _ _ N2.out
  by_cases hlt : k < g.draws
  · have hd1 : decide ((k : Int) ≥ g.draws) = false := decide_eq_false (by omega)
    have hd2 : decide (k < g.draws) = true := decide_eq_true hlt
    have K2 := Lib.hid (grf_play g k A c w2 GO.out hk H2.out)
    unfold gmVal at K2
    obtain ⟨-, -, pl1, pl2⟩ := playedJ_N GO.out k
    rw [pl1, pl2] at K2
    clear pl1 pl2
    go_wp2_with fail
    (with_reducible refine K2.out.mono ?_)
    rintro e w3 ⟨VA, vc, IA, ic, rfl, rv, -, b3⟩
    have R3 := Lib.hid rv
    have B3 := Lib.hid (B2.out.trans (b3.mono B2.out.size))
    clear K2 rv b3 y0 y1 y2 y3 y4
    have F0 := fld0 (.slice VA (playedN g k 0).length vc) (.slice IA (playedN g k 0).length ic)
    go_wp2
    go_ret2
    exact ⟨VA, vc, by first | rfl | rw [hd2], R3.out, B3.out⟩
  · have hd1 : decide ((k : Int) ≥ g.draws) = true := decide_eq_true (by omega)
    have hd2 : decide (k < g.draws) = false := decide_eq_false hlt
    go_wp2
    go_ret2
    exact ⟨none, 0, by first | rfl | rw [hd2], Rd.nil_ _ _, B2.out⟩

/-- The game that the numbers are, where they are one. -/
def rawGm (b n came marked : Int) (l : List MvR) : Gm := ⟨b.toNat, n.toNat, came.toNat, marked.toNat, l.map (fun m => ⟨m.claim.toNat, m.mark.toNat, m.fr.toNat, m.guess, m.flip, m.salt⟩)⟩
theorem rawGm_eq {g : Gm} {b n came marked : Int} {l : List MvR} (h : GmIs g b n came marked l) : rawGm b n came marked l = g := by
  obtain ⟨-, rfl, rfl, rfl, rfl, rfl⟩ := h
  obtain ⟨gb, gn, gc, gm, mv⟩ := g
  unfold rawGm
  simp only [Int.toNat_natCast, Gm.mk.injEq, true_and, List.map_map]
  have e : ((fun m : MvR => (⟨m.claim.toNat, m.mark.toNat, m.fr.toNat, m.guess, m.flip, m.salt⟩ : Mv)) ∘ Mv.raw) = id := by
    funext x
    obtain ⟨a, b, c, d, e, f⟩ := x
    simp [Mv.raw]
  rw [e, List.map_id]
def rawL (b n came marked : Int) (l : List MvR) (k : Nat) : List Vd :=
  if rawB b n came marked l = true then (if k < (rawGm b n came marked l).draws then (playedN (rawGm b n came marked l) k 0).map (·.1) else []) else []

set_option maxHeartbeats 4000000 in
set_option maxRecDepth 100000 in
theorem gam_play0 (b n came marked : Int) (l : List MvR) (k : Nat) (A : Option Addr) (c : Nat) (w : World) (hb : isI64 b) (hn : isI64 n) (hr : Rd w 6 A l.length c (MvsR l)) (h0 : rawDraws b n came marked l = 0) :
    Calls Tryz.prog 8 #[rawVal b n came marked A l.length c, .int .u64 k] w fun e w' => e = .returned (.tuple #[.slice none 0 0, .bool false]) ∧ Below w.heap.size w w' := by
  have b0 := box_below w (.cells #[.int .i64 b, .int .i64 n, .int .i64 came, .int .i64 marked, .slice A l.length c] 24)
  have n0 := heap_alloc_new w (.cells #[.int .i64 b, .int .i64 n, .int .i64 came, .int .i64 marked, .slice A l.length c] 24)
  have B0 := Lib.hid b0
  have N0 := Lib.hid n0
  have HR := Lib.hid (hr.below b0)
  have H0 := Lib.hid h0
  clear hr b0 n0 h0
  unfold rawVal
  go_enter Tryz.func8, Tryz.ntmps8
  go_upto_region 1 with fail
  generalize (w.alloc (.cells #[.int .i64 b, .int .i64 n, .int .i64 came, .int .i64 marked, .slice A l.length c] 24)) = w1 at *
  have y0 := cell_of_row w1 w.heap.size 0 _ _ _ N0.out
  have y1 := cell_of_row w1 w.heap.size 1 _ _ _ N0.out
  have y2 := cell_of_row w1 w.heap.size 2 _ _ _ N0.out
  have y3 := cell_of_row w1 w.heap.size 3 _ _ _ N0.out
  have y4 := cell_of_row w1 w.heap.size 4 _ _ _ N0.out
  have K := Lib.hid (gam_draws b n came marked l A c w1 hb hn HR.out)
  unfold rawVal at K
  rw [H0.out] at K
  go_wp2_with fail
  (with_reducible refine K.out.mono ?_)
  rintro e w2 ⟨rfl, b2⟩
  have B2 := Lib.hid (B0.out.trans (b2.mono B0.out.size))
  have hd1 : decide ((k : Int) ≥ 0) = true := decide_eq_true (by omega)
  clear K b2 N0 y0 y1 y2 y3 y4
  go_wp2
  go_ret2
  exact ⟨rfl, B2.out⟩

set_option maxHeartbeats 4000000 in
set_option maxRecDepth 100000 in
theorem grf_play0 (b n came marked : Int) (l : List MvR) (k : Nat) (A : Option Addr) (c : Nat) (w : World) (hb : isI64 b) (hn : isI64 n) (hr : Rd w 6 A l.length c (MvsR l)) (h0 : rawDraws b n came marked l = 0) :
    Calls Tryz.prog 9 #[rawVal b n came marked A l.length c, .int .u64 k] w fun e w' => e = .returned (.tuple #[.slice none 0 0, .bool false]) ∧ Below w.heap.size w w' := by
  have b0 := box_below w (.cells #[.int .i64 b, .int .i64 n, .int .i64 came, .int .i64 marked, .slice A l.length c] 24)
  have n0 := heap_alloc_new w (.cells #[.int .i64 b, .int .i64 n, .int .i64 came, .int .i64 marked, .slice A l.length c] 24)
  have B0 := Lib.hid b0
  have N0 := Lib.hid n0
  have HR := Lib.hid (hr.below b0)
  have H0 := Lib.hid h0
  clear hr b0 n0 h0
  unfold rawVal
  go_enter Tryz.func9, Tryz.ntmps9
  go_upto_region 1 with fail
  generalize (w.alloc (.cells #[.int .i64 b, .int .i64 n, .int .i64 came, .int .i64 marked, .slice A l.length c] 24)) = w1 at *
  have y0 := cell_of_row w1 w.heap.size 0 _ _ _ N0.out
  have y1 := cell_of_row w1 w.heap.size 1 _ _ _ N0.out
  have y2 := cell_of_row w1 w.heap.size 2 _ _ _ N0.out
  have y3 := cell_of_row w1 w.heap.size 3 _ _ _ N0.out
  have y4 := cell_of_row w1 w.heap.size 4 _ _ _ N0.out
  have K := Lib.hid (grf_draws b n came marked l A c w1 hb hn HR.out)
  unfold rawVal at K
  rw [H0.out] at K
  go_wp2_with fail
  (with_reducible refine K.out.mono ?_)
  rintro e w2 ⟨rfl, b2⟩
  have B2 := Lib.hid (B0.out.trans (b2.mono B0.out.size))
  have hd1 : decide ((k : Int) ≥ 0) = true := decide_eq_true (by omega)
  clear K b2 N0 y0 y1 y2 y3 y4
  go_wp2
  go_ret2
  exact ⟨rfl, B2.out⟩

theorem gam_playR (b n came marked : Int) (l : List MvR) (k : Nat) (A : Option Addr) (c : Nat) (w : World) (hb : isI64 b) (hn : isI64 n) (hc : isI64 came) (hm : isI64 marked) (hf : ∀ m ∈ l, m.fit) (hk : k < 18446744073709551616) (hr : Rd w 6 A l.length c (MvsR l)) :
    Calls Tryz.prog 8 #[rawVal b n came marked A l.length c, .int .u64 k] w fun e w' => ∃ VA vc, e = .returned (.tuple #[.slice VA (rawL b n came marked l k).length vc, .bool (decide ((k : Int) < rawDraws b n came marked l))]) ∧ Rd w' 4 VA (rawL b n came marked l k).length vc (Vds (rawL b n came marked l k)) ∧ Below w.heap.size w w' := by
  cases hB : rawB b n came marked l with
  | false =>
    have h0 : rawDraws b n came marked l = 0 := by unfold rawDraws; rw [hB]; rfl
    have e : rawL b n came marked l k = [] := by unfold rawL; rw [hB]; rfl
    rw [e, h0]
    refine (gam_play0 b n came marked l k A c w hb hn hr h0).mono ?_
    rintro e w' ⟨rfl, b⟩
    exact ⟨none, 0, by rw [decide_eq_false (by omega)]; rfl, Rd.nil_ _ _, b⟩
  | true =>
    obtain ⟨g, hg⟩ := (raw_may hc hm hf).1 (of_decide_eq_true hB)
    have e := rawGm_eq hg
    have eL : rawL b n came marked l k = if k < g.draws then (playedN g k 0).map (·.1) else [] := by unfold rawL; rw [hB, if_pos rfl, e]
    obtain ⟨ok, rfl, rfl, rfl, rfl, rfl⟩ := hg
    have hr' : Rd w 6 A g.moves.length c (Mvs g.moves) := by rw [Mvs_raw]; rw [List.length_map] at hr; exact hr
    have h := gam_playG g k A c w ok hk hr'
    rw [eL, gm_draws ok]
    unfold rawVal
    rw [List.length_map]
    unfold gmVal at h
    refine h.mono ?_
    rintro e w' ⟨VA, vc, rfl, rv, bb⟩
    have el : (if k < g.draws then (playedN g k 0).map (·.1) else []).length = (if k < g.draws then (playedN g k 0).length else 0) := by split <;> simp
    rw [el]
    have ed : decide ((k : Int) < (g.draws : Nat)) = decide (k < g.draws) := by
      by_cases hx : k < g.draws
      · rw [decide_eq_true hx, decide_eq_true (by omega)]
      · rw [decide_eq_false hx, decide_eq_false (by omega)]
    exact ⟨VA, vc, by rw [ed], rv, bb⟩

theorem grf_playR (b n came marked : Int) (l : List MvR) (k : Nat) (A : Option Addr) (c : Nat) (w : World) (hb : isI64 b) (hn : isI64 n) (hc : isI64 came) (hm : isI64 marked) (hf : ∀ m ∈ l, m.fit) (hk : k < 18446744073709551616) (hr : Rd w 6 A l.length c (MvsR l)) :
    Calls Tryz.prog 9 #[rawVal b n came marked A l.length c, .int .u64 k] w fun e w' => ∃ VA vc, e = .returned (.tuple #[.slice VA (rawL b n came marked l k).length vc, .bool (decide ((k : Int) < rawDraws b n came marked l))]) ∧ Rd w' 4 VA (rawL b n came marked l k).length vc (Vds (rawL b n came marked l k)) ∧ Below w.heap.size w w' := by
  cases hB : rawB b n came marked l with
  | false =>
    have h0 : rawDraws b n came marked l = 0 := by unfold rawDraws; rw [hB]; rfl
    have e : rawL b n came marked l k = [] := by unfold rawL; rw [hB]; rfl
    rw [e, h0]
    refine (grf_play0 b n came marked l k A c w hb hn hr h0).mono ?_
    rintro e w' ⟨rfl, b⟩
    exact ⟨none, 0, by rw [decide_eq_false (by omega)]; rfl, Rd.nil_ _ _, b⟩
  | true =>
    obtain ⟨g, hg⟩ := (raw_may hc hm hf).1 (of_decide_eq_true hB)
    have e := rawGm_eq hg
    have eL : rawL b n came marked l k = if k < g.draws then (playedN g k 0).map (·.1) else [] := by unfold rawL; rw [hB, if_pos rfl, e]
    obtain ⟨ok, rfl, rfl, rfl, rfl, rfl⟩ := hg
    have hr' : Rd w 6 A g.moves.length c (Mvs g.moves) := by rw [Mvs_raw]; rw [List.length_map] at hr; exact hr
    have h := grf_playG g k A c w ok hk hr'
    rw [eL, gm_draws ok]
    unfold rawVal
    rw [List.length_map]
    unfold gmVal at h
    refine h.mono ?_
    rintro e w' ⟨VA, vc, rfl, rv, bb⟩
    have el : (if k < g.draws then (playedN g k 0).map (·.1) else []).length = (if k < g.draws then (playedN g k 0).length else 0) := by split <;> simp
    rw [el]
    have ed : decide ((k : Int) < (g.draws : Nat)) = decide (k < g.draws) := by
      by_cases hx : k < g.draws
      · rw [decide_eq_true hx, decide_eq_true (by omega)]
      · rw [decide_eq_false hx, decide_eq_false (by omega)]
    exact ⟨VA, vc, by rw [ed], rv, bb⟩

theorem rawDraws_le (b n came marked : Int) (l : List MvR) (hc : isI64 came) (hm : isI64 marked) (hf : ∀ m ∈ l, m.fit) : ∃ D : Nat, rawDraws b n came marked l = D ∧ D ≤ 65536 := by
  cases hB : rawB b n came marked l with
  | false => exact ⟨0, by unfold rawDraws; rw [hB]; rfl, by omega⟩
  | true =>
    obtain ⟨g, hg⟩ := (raw_may hc hm hf).1 (of_decide_eq_true hB)
    obtain ⟨ok, rfl, rfl, rfl, rfl, rfl⟩ := hg
    exact ⟨g.draws, gm_draws ok, gm_draws_lt ok⟩
theorem Mv.raw_fit {n : Nat} (hn : n ≤ 4) {x : Mv} (h : x.ok n) : x.raw.fit := by
  have p16 : 2 ^ n ≤ 16 := Nat.pow_le_pow_right (n := 2) (by decide) (j := 4) hn
  have c1 := h.claim
  have c2 := Nat.le_of_testBit h.mark
  have c3 := h.fr
  exact ⟨show isI64 (x.claim : Int) from ⟨by omega, by omega⟩, show isI64 (x.mark : Int) from ⟨by omega, by omega⟩, show isI64 (x.fr : Int) from ⟨by omega, by omega⟩, h.salt⟩
structure RawOk (b n came marked : Int) (l : List MvR) : Prop where
  b : isI64 b
  n : isI64 n
  c : isI64 came
  m : isI64 marked
  f : ∀ x ∈ l, x.fit
theorem sk_gameR (s : Sk) (most moves : Nat) (A : Option Addr) (c : Nat) (w : World) (hs : s.fit) (hm : most ≤ 12) (hv : moves ≤ 8) (hr : Rd w 6 A s.moves.length c (MvsR s.moves)) :
    Calls Tryz.prog 6 #[skVal s A c, .int .i64 most, .int .i64 moves] w fun e w' => ∃ b n cm mk l B d, e = .returned (rawVal b n cm mk B l.length d) ∧ RawOk b n cm mk l ∧ Rd w' 6 B l.length d (MvsR l) ∧ Below w.heap.size w w' := by
  refine (sk_game s most moves A c w hs hm hv hr).mono ?_
  rintro e w' ⟨B, d, rfl, rd, bb⟩
  have ok := Sk.ok hs hm hv
  have p16 : 2 ^ (s.game most moves).n ≤ 16 := Nat.pow_le_pow_right (n := 2) (by decide) (j := 4) ok.n4
  have q1 := ok.came
  have q2 := Nat.le_of_testBit ok.marked
  have q3 := ok.b6
  have q4 := ok.n4
  refine ⟨_, _, _, _, (s.game most moves).moves.map Mv.raw, B, d, by unfold rawVal gmVal; rw [List.length_map], ⟨show isI64 (((s.game most moves).b : Nat) : Int) from ⟨by omega, by omega⟩, show isI64 (((s.game most moves).n : Nat) : Int) from ⟨by omega, by omega⟩, show isI64 (((s.game most moves).came : Nat) : Int) from ⟨by omega, by omega⟩, show isI64 (((s.game most moves).marked : Nat) : Int) from ⟨by omega, by omega⟩, fun x hx => ?_⟩, by rw [List.length_map, ← Mvs_raw]; exact rd, bb⟩
  obtain ⟨y, hy, rfl⟩ := List.mem_map.1 hx
  exact Mv.raw_fit ok.n4 (ok.moves y hy)

end Go.Proofs.YtpfmhkkglaghgaaGreat
