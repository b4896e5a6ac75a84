/-
  Walks of the game's references: counts over all draws. · Walks of the game's references: Play, Lucky, Hidden. · Walks of the game's references: Play, of whatever numbers.
-/
import Derived.Test.YtpfmhkkglaghgaaGreatGrf7
import Derived.Test.YtpfmhkkglaghgaaGreatGamK

namespace Go.Proofs.YtpfmhkkglaghgaaGreat
set_option linter.unusedSimpArgs false
set_option linter.unusedVariables false
set_option linter.unnecessarySimpa false
open Go.RowKit

theorem fld0 (a b : Value) (w : World) : Sem.run Tryz.prog (Instr.field 49 (.agg #[a, b]) 0) w = .ok a w := by kernel_rfl
set_option maxHeartbeats 4000000 in
set_option maxRecDepth 100000 in
theorem grf_playG (g : Gm) (k : Nat) (A : Option Addr) (c : Nat) (w : World) (hg : g.ok) (hk : k < 18446744073709551616) (hr : Rd w 6 A g.moves.length c (Mvs g.moves)) :
    Calls Tryz.prog 9 #[gmVal g A c, .int .u64 k] w fun e w' => ∃ VA vc, e = .returned (.tuple #[.slice VA (if k < g.draws then (playedN g k 0).length else 0) vc, .bool (decide (k < g.draws))]) ∧ Rd w' 4 VA (if k < g.draws then (playedN g k 0).length else 0) vc (Vds (if k < g.draws then (playedN g k 0).map (·.1) else [])) ∧ Below w.heap.size w w' := by
  have b0 := box_below w (.cells #[.int .i64 g.b, .int .i64 g.n, .int .i64 g.came, .int .i64 g.marked, .slice A g.moves.length c] 24)
  have n0 := heap_alloc_new w (.cells #[.int .i64 g.b, .int .i64 g.n, .int .i64 g.came, .int .i64 g.marked, .slice A g.moves.length c] 24)
  have B0 := Lib.hid b0
  have N0 := Lib.hid n0
  have HR := Lib.hid (hr.below b0)
  have s0 : (w.alloc (.cells #[.int .i64 g.b, .int .i64 g.n, .int .i64 g.came, .int .i64 g.marked, .slice A g.moves.length c] 24)).heap.size = w.heap.size + 1 := by simp
  have hd := gm_draws_lt hg
  have GO := Lib.hid hg
  clear hr b0 n0 hg
  unfold gmVal
  go_enter Tryz.func9, Tryz.ntmps9
  go_upto_region 1 with fail
  generalize (w.alloc (.cells #[.int .i64 g.b, .int .i64 g.n, .int .i64 g.came, .int .i64 g.marked, .slice A g.moves.length c] 24)) = w1 at *
  have y0 := cell_of_row w1 w.heap.size 0 _ _ _ N0.out
  have y1 := cell_of_row w1 w.heap.size 1 _ _ _ N0.out
  have y2 := cell_of_row w1 w.heap.size 2 _ _ _ N0.out
  have y3 := cell_of_row w1 w.heap.size 3 _ _ _ N0.out
  have y4 := cell_of_row w1 w.heap.size 4 _ _ _ N0.out
  have K := Lib.hid (grf_drawsG g A c w1 GO.out HR.out)
  unfold gmVal at K
  go_wp2_with fail
  (with_reducible refine K.out.mono ?_)
  rintro e w2 ⟨rfl, b2⟩
  have B2 := Lib.hid (B0.out.trans (b2.mono (by omega)))
  have N2 := Lib.hid ((b2.block _ (lt_of_block N0.out)).trans N0.out)
  have H2 := Lib.hid (HR.out.below b2)
  clear K b2 N0 y0 y1 y2 y3 y4
  have y0 := cell_of_row w2 w.heap.size 0 _ _ _ N2.out
  have y1 := cell_of_row w2 w.heap.size 1 _ _ _ N2.out
  have y2 := cell_of_row w2 w.heap.size 2 _ _ _ N2.out
  have y3 := cell_of_row w2 w.heap.size 3 _ _ _ N2.out
  have y4 := cell_of_row w2 w.heap.size 4 _ _ _ N2.out
  by_cases hlt : k < g.draws
  · have hd1 : decide ((k : Int) ≥ g.draws) = false := decide_eq_false (by omega)
    have hd2 : decide (k < g.draws) = true := decide_eq_true hlt
    have K2 := Lib.hid (grf_play g k A c w2 GO.out hk H2.out)
    unfold gmVal at K2
    obtain ⟨-, -, pl1, pl2⟩ := playedJ_N GO.out k
    rw [pl1, pl2] at K2
    clear pl1 pl2
    go_wp2_with fail
    (with_reducible refine K2.out.mono ?_)
    rintro e w3 ⟨VA, vc, IA, ic, rfl, rv, -, b3⟩
    have R3 := Lib.hid rv
    have B3 := Lib.hid (B2.out.trans (b3.mono B2.out.size))
    clear K2 rv b3 y0 y1 y2 y3 y4
    have F0 := fld0 (.slice VA (playedN g k 0).length vc) (.slice IA (playedN g k 0).length ic)
    go_wp2
    go_ret2
    exact ⟨VA, vc, by first | rfl | rw [hd2], R3.out, B3.out⟩
  · have hd1 : decide ((k : Int) ≥ g.draws) = true := decide_eq_true (by omega)
    have hd2 : decide (k < g.draws) = false := decide_eq_false hlt
    go_wp2
    go_ret2
    exact ⟨none, 0, by first | rfl | rw [hd2], Rd.nil_ _ _, B2.out⟩

/-- The game that the numbers are, where they are one. -/
def rawGm (b n came marked : Int) (l : List MvR) : Gm := ⟨b.toNat, n.toNat, came.toNat, marked.toNat, l.map (fun m => ⟨m.claim.toNat, m.mark.toNat, m.fr.toNat, m.guess, m.flip, m.salt⟩)⟩
theorem rawGm_eq {g : Gm} {b n came marked : Int} {l : List MvR} (h : GmIs g b n came marked l) : rawGm b n came marked l = g := by
  obtain ⟨-, rfl, rfl, rfl, rfl, rfl⟩ := h
  obtain ⟨gb, gn, gc, gm, mv⟩ := g
  unfold rawGm
  simp only [Int.toNat_natCast, Gm.mk.injEq, true_and, List.map_map]
  have e : ((fun m : MvR => (⟨m.claim.toNat, m.mark.toNat, m.fr.toNat, m.guess, m.flip, m.salt⟩ : Mv)) ∘ Mv.raw) = id := by
    funext x
    obtain ⟨a, b, c, d, e, f⟩ := x
    simp [Mv.raw]
  rw [e, List.map_id]
def rawL (b n came marked : Int) (l : List MvR) (k : Nat) : List Vd :=
  if rawB b n came marked l = true then (if k < (rawGm b n came marked l).draws then (playedN (rawGm b n came marked l) k 0).map (·.1) else []) else []

set_option maxHeartbeats 4000000 in
set_option maxRecDepth 100000 in
theorem gam_play0 (b n came marked : Int) (l : List MvR) (k : Nat) (A : Option Addr) (c : Nat) (w : World) (hb : isI64 b) (hn : isI64 n) (hr : Rd w 6 A l.length c (MvsR l)) (h0 : rawDraws b n came marked l = 0) :
    Calls Tryz.prog 8 #[rawVal b n came marked A l.length c, .int .u64 k] w fun e w' => e = .returned (.tuple #[.slice none 0 0, .bool false]) ∧ Below w.heap.size w w' := by
  have b0 := box_below w (.cells #[.int .i64 b, .int .i64 n, .int .i64 came, .int .i64 marked, .slice A l.length c] 24)
  have n0 := heap_alloc_new w (.cells #[.int .i64 b, .int .i64 n, .int .i64 came, .int .i64 marked, .slice A l.length c] 24)
  have B0 := Lib.hid b0
  have N0 := Lib.hid n0
  have HR := Lib.hid (hr.below b0)
  have H0 := Lib.hid h0
  clear hr b0 n0 h0
  unfold rawVal
  go_enter Tryz.func8, Tryz.ntmps8
  go_upto_region 1 with fail
  generalize (w.alloc (.cells #[.int .i64 b, .int .i64 n, .int .i64 came, .int .i64 marked, .slice A l.length c] 24)) = w1 at *
  have y0 := cell_of_row w1 w.heap.size 0 _ _ _ N0.out
  have y1 := cell_of_row w1 w.heap.size 1 _ _ _ N0.out
  have y2 := cell_of_row w1 w.heap.size 2 _ _ _ N0.out
  have y3 := cell_of_row w1 w.heap.size 3 _ _ _ N0.out
  have y4 := cell_of_row w1 w.heap.size 4 _ _ _ N0.out
  have K := Lib.hid (gam_draws b n came marked l A c w1 hb hn HR.out)
  unfold rawVal at K
  rw [H0.out] at K
  go_wp2_with fail
  (with_reducible refine K.out.mono ?_)
  rintro e w2 ⟨rfl, b2⟩
  have B2 := Lib.hid (B0.out.trans (b2.mono B0.out.size))
  have hd1 : decide ((k : Int) ≥ 0) = true := decide_eq_true (by omega)
  clear K b2 N0 y0 y1 y2 y3 y4
  go_wp2
  go_ret2
  exact ⟨rfl, B2.out⟩

set_option maxHeartbeats 4000000 in
set_option maxRecDepth 100000 in
theorem grf_play0 (b n came marked : Int) (l : List MvR) (k : Nat) (A : Option Addr) (c : Nat) (w : World) (hb : isI64 b) (hn : isI64 n) (hr : Rd w 6 A l.length c (MvsR l)) (h0 : rawDraws b n came marked l = 0) :
    Calls Tryz.prog 9 #[rawVal b n came marked A l.length c, .int .u64 k] w fun e w' => e = .returned (.tuple #[.slice none 0 0, .bool false]) ∧ Below w.heap.size w w' := by
  have b0 := box_below w (.cells #[.int .i64 b, .int .i64 n, .int .i64 came, .int .i64 marked, .slice A l.length c] 24)
  have n0 := heap_alloc_new w (.cells #[.int .i64 b, .int .i64 n, .int .i64 came, .int .i64 marked, .slice A l.length c] 24)
  have B0 := Lib.hid b0
  have N0 := Lib.hid n0
  have HR := Lib.hid (hr.below b0)
  have H0 := Lib.hid h0
  clear hr b0 n0 h0
  unfold rawVal
  go_enter Tryz.func9, Tryz.ntmps9
  go_upto_region 1 with fail
  generalize (w.alloc (.cells #[.int .i64 b, .int .i64 n, .int .i64 came, .int .i64 marked, .slice A l.length c] 24)) = w1 at *
  have y0 := cell_of_row w1 w.heap.size 0 _ _ _ N0.out
  have y1 := cell_of_row w1 w.heap.size 1 _ _ _ N0.out
  have y2 := cell_of_row w1 w.heap.size 2 _ _ _ N0.out
  have y3 := cell_of_row w1 w.heap.size 3 _ _ _ N0.out
  have y4 := cell_of_row w1 w.heap.size 4 _ _ _ N0.out
  have K := Lib.hid (grf_draws b n came marked l A c w1 hb hn HR.out)
  unfold rawVal at K
  rw [H0.out] at K
  go_wp2_with fail
  (with_reducible refine K.out.mono ?_)
  rintro e w2 ⟨rfl, b2⟩
  have B2 := Lib.hid (B0.out.trans (b2.mono B0.out.size))
  have hd1 : decide ((k : Int) ≥ 0) = true := decide_eq_true (by omega)
  clear K b2 N0 y0 y1 y2 y3 y4
  go_wp2
  go_ret2
  exact ⟨rfl, B2.out⟩

theorem gam_playR (b n came marked : Int) (l : List MvR) (k : Nat) (A : Option Addr) (c : Nat) (w : World) (hb : isI64 b) (hn : isI64 n) (hc : isI64 came) (hm : isI64 marked) (hf : ∀ m ∈ l, m.fit) (hk : k < 18446744073709551616) (hr : Rd w 6 A l.length c (MvsR l)) :
    Calls Tryz.prog 8 #[rawVal b n came marked A l.length c, .int .u64 k] w fun e w' => ∃ VA vc, e = .returned (.tuple #[.slice VA (rawL b n came marked l k).length vc, .bool (decide ((k : Int) < rawDraws b n came marked l))]) ∧ Rd w' 4 VA (rawL b n came marked l k).length vc (Vds (rawL b n came marked l k)) ∧ Below w.heap.size w w' := by
  cases hB : rawB b n came marked l with
  | false =>
    have h0 : rawDraws b n came marked l = 0 := by unfold rawDraws; rw [hB]; rfl
    have e : rawL b n came marked l k = [] := by unfold rawL; rw [hB]; rfl
    rw [e, h0]
    refine (gam_play0 b n came marked l k A c w hb hn hr h0).mono ?_
    rintro e w' ⟨rfl, b⟩
    exact ⟨none, 0, by rw [decide_eq_false (by omega)]; rfl, Rd.nil_ _ _, b⟩
  | true =>
    obtain ⟨g, hg⟩ := (raw_may hc hm hf).1 (of_decide_eq_true hB)
    have e := rawGm_eq hg
    have eL : rawL b n came marked l k = if k < g.draws then (playedN g k 0).map (·.1) else [] := by unfold rawL; rw [hB, if_pos rfl, e]
    obtain ⟨ok, rfl, rfl, rfl, rfl, rfl⟩ := hg
    have hr' : Rd w 6 A g.moves.length c (Mvs g.moves) := by rw [Mvs_raw]; rw [List.length_map] at hr; exact hr
    have h := gam_playG g k A c w ok hk hr'
    rw [eL, gm_draws ok]
    unfold rawVal
    rw [List.length_map]
    unfold gmVal at h
    refine h.mono ?_
    rintro e w' ⟨VA, vc, rfl, rv, bb⟩
    have el : (if k < g.draws then (playedN g k 0).map (·.1) else []).length = (if k < g.draws then (playedN g k 0).length else 0) := by split <;> simp
    rw [el]
    have ed : decide ((k : Int) < (g.draws : Nat)) = decide (k < g.draws) := by
      by_cases hx : k < g.draws
      · rw [decide_eq_true hx, decide_eq_true (by omega)]
      · rw [decide_eq_false hx, decide_eq_false (by omega)]
    exact ⟨VA, vc, by rw [ed], rv, bb⟩

theorem grf_playR (b n came marked : Int) (l : List MvR) (k : Nat) (A : Option Addr) (c : Nat) (w : World) (hb : isI64 b) (hn : isI64 n) (hc : isI64 came) (hm : isI64 marked) (hf : ∀ m ∈ l, m.fit) (hk : k < 18446744073709551616) (hr : Rd w 6 A l.length c (MvsR l)) :
    Calls Tryz.prog 9 #[rawVal b n came marked A l.length c, .int .u64 k] w fun e w' => ∃ VA vc, e = .returned (.tuple #[.slice VA (rawL b n came marked l k).length vc, .bool (decide ((k : Int) < rawDraws b n came marked l))]) ∧ Rd w' 4 VA (rawL b n came marked l k).length vc (Vds (rawL b n came marked l k)) ∧ Below w.heap.size w w' := by
  cases hB : rawB b n came marked l with
  | false =>
    have h0 : rawDraws b n came marked l = 0 := by unfold rawDraws; rw [hB]; rfl
    have e : rawL b n came marked l k = [] := by unfold rawL; rw [hB]; rfl
    rw [e, h0]
    refine (grf_play0 b n came marked l k A c w hb hn hr h0).mono ?_
    rintro e w' ⟨rfl, b⟩
    exact ⟨none, 0, by rw [decide_eq_false (by omega)]; rfl, Rd.nil_ _ _, b⟩
  | true =>
    obtain ⟨g, hg⟩ := (raw_may hc hm hf).1 (of_decide_eq_true hB)
    have e := rawGm_eq hg
    have eL : rawL b n came marked l k = if k < g.draws then (playedN g k 0).map (·.1) else [] := by unfold rawL; rw [hB, if_pos rfl, e]
    obtain ⟨ok, rfl, rfl, rfl, rfl, rfl⟩ := hg
    have hr' : Rd w 6 A g.moves.length c (Mvs g.moves) := by rw [Mvs_raw]; rw [List.length_map] at hr; exact hr
    have h := grf_playG g k A c w ok hk hr'
    rw [eL, gm_draws ok]
    unfold rawVal
    rw [List.length_map]
    unfold gmVal at h
    refine h.mono ?_
    rintro e w' ⟨VA, vc, rfl, rv, bb⟩
    have el : (if k < g.draws then (playedN g k 0).map (·.1) else []).length = (if k < g.draws then (playedN g k 0).length else 0) := by split <;> simp
    rw [el]
    have ed : decide ((k : Int) < (g.draws : Nat)) = decide (k < g.draws) := by
      by_cases hx : k < g.draws
      · rw [decide_eq_true hx, decide_eq_true (by omega)]
      · rw [decide_eq_false hx, decide_eq_false (by omega)]
    exact ⟨VA, vc, by rw [ed], rv, bb⟩

theorem rawDraws_le (b n came marked : Int) (l : List MvR) (hc : isI64 came) (hm : isI64 marked) (hf : ∀ m ∈ l, m.fit) : ∃ D : Nat, rawDraws b n came marked l = D ∧ D ≤ 65536 := by
  cases hB : rawB b n came marked l with
  | false => exact ⟨0, by unfold rawDraws; rw [hB]; rfl, by omega⟩
  | true =>
    obtain ⟨g, hg⟩ := (raw_may hc hm hf).1 (of_decide_eq_true hB)
    obtain ⟨ok, rfl, rfl, rfl, rfl, rfl⟩ := hg
    exact ⟨g.draws, gm_draws ok, gm_draws_lt ok⟩
theorem Mv.raw_fit {n : Nat} (hn : n ≤ 4) {x : Mv} (h : x.ok n) : x.raw.fit := by
  have p16 : 2 ^ n ≤ 16 := Nat.pow_le_pow_right (n := 2) (by decide) (j := 4) hn
  have c1 := h.claim
  have c2 := Nat.le_of_testBit h.mark
  have c3 := h.fr
  exact ⟨show isI64 (x.claim : Int) from ⟨by omega, by omega⟩, show isI64 (x.mark : Int) from ⟨by omega, by omega⟩, show isI64 (x.fr : Int) from ⟨by omega, by omega⟩, h.salt⟩
structure RawOk (b n came marked : Int) (l : List MvR) : Prop where
  b : isI64 b
  n : isI64 n
  c : isI64 came
  m : isI64 marked
  f : ∀ x ∈ l, x.fit
theorem sk_gameR (s : Sk) (most moves : Nat) (A : Option Addr) (c : Nat) (w : World) (hs : s.fit) (hm : most ≤ 12) (hv : moves ≤ 8) (hr : Rd w 6 A s.moves.length c (MvsR s.moves)) :
    Calls Tryz.prog 6 #[skVal s A c, .int .i64 most, .int .i64 moves] w fun e w' => ∃ b n cm mk l B d, e = .returned (rawVal b n cm mk B l.length d) ∧ RawOk b n cm mk l ∧ Rd w' 6 B l.length d (MvsR l) ∧ Below w.heap.size w w' := by
  refine (sk_game s most moves A c w hs hm hv hr).mono ?_
  rintro e w' ⟨B, d, rfl, rd, bb⟩
  have ok := Sk.ok hs hm hv
  have p16 : 2 ^ (s.game most moves).n ≤ 16 := Nat.pow_le_pow_right (n := 2) (by decide) (j := 4) ok.n4
  have q1 := ok.came
  have q2 := Nat.le_of_testBit ok.marked
  have q3 := ok.b6
  have q4 := ok.n4
  refine ⟨_, _, _, _, (s.game most moves).moves.map Mv.raw, B, d, by unfold rawVal gmVal; rw [List.length_map], ⟨show isI64 (((s.game most moves).b : Nat) : Int) from ⟨by omega, by omega⟩, show isI64 (((s.game most moves).n : Nat) : Int) from ⟨by omega, by omega⟩, show isI64 (((s.game most moves).came : Nat) : Int) from ⟨by omega, by omega⟩, show isI64 (((s.game most moves).marked : Nat) : Int) from ⟨by omega, by omega⟩, fun x hx => ?_⟩, by rw [List.length_map, ← Mvs_raw]; exact rd, bb⟩
  obtain ⟨y, hy, rfl⟩ := List.mem_map.1 hx
  exact Mv.raw_fit ok.n4 (ok.moves y hy)

end Go.Proofs.YtpfmhkkglaghgaaGreat
