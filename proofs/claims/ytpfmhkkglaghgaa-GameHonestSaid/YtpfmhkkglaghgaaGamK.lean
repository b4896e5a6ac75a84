/-
  The game: the laws' examples.
-/
import Derived.Test.YtpfmhkkglaghgaaGamQ
import Derived.Test.YtpfmhkkglaghgaaGamS
import Derived.Test.YtpfmhkkglaghgaaGam8
namespace Go.Proofs.Ytpfmhkkglaghgaa
set_option linter.unusedSimpArgs false
set_option linter.unusedVariables false
set_option linter.unnecessarySimpa false
open Go.RowKit

def mvA : Mv := ⟨1, 0, 0, false, false, 0⟩
def gmA : Gm := ⟨1, 1, 1, 0, [mvA]⟩
def gmB : Gm := ⟨1, 1, 0, 0, [mvA]⟩
theorem mvA_ok : mvA.ok 1 := ⟨by decide, fun i h => by simp [mvA] at h, by decide, ⟨by decide, by decide⟩⟩
theorem gmA_ok : gmA.ok := ⟨by decide, by decide, by decide, by decide, by decide, by decide, fun i h => by simp [gmA] at h, fun m hm => by rw [List.mem_singleton.1 hm]; exact mvA_ok, by decide⟩
theorem gmB_ok : gmB.ok := ⟨by decide, by decide, by decide, by decide, by decide, by decide, fun i h => by simp [gmB] at h, fun m hm => by rw [List.mem_singleton.1 hm]; exact mvA_ok, by decide⟩
theorem playA : playedN gmA 3 0 = [(⟨2, 0, 0, false⟩, mvA)] := by
  rw [playedS _ _ _ gmA_ok]
  rfl
theorem luckyA : luckyN gmA = 0 := by
  unfold luckyN
  refine count_none (fun k => ?_) _
  rw [(tally_run gmA_ok k).1]
  cases h : lkN gmA k with
  | none => rfl
  | some j =>
    obtain ⟨hj, hc⟩ := lk_at _ _ _ _ _ _ h
    have : j = 0 := by have : j < 1 := hj; omega
    subst this
    exact absurd (by simp [gmA, mvA]) hc
theorem luckyB : luckyN gmB ≤ 2 := by
  have h := lucky_le gmB_ok
  have e1 : 2 ^ gmB.b = 2 := rfl
  have e2 : gmB.draws = 4 := rfl
  have e3 : gmB.moves.length = 1 := rfl
  rw [e1, e2, e3] at h
  omega
theorem mayZ : rawB 0 0 0 0 [] = false := decide_eq_false (fun h => by have := h.1.1; omega)
theorem drawsZ : rawDraws 0 0 0 0 [] = 0 := by unfold rawDraws; rw [mayZ]; rfl
structure AlvG (a b c d : Nat) (W : World) : Prop where
  r1 : Rd W 6 (some ⟨a, 0, none⟩) 1 1 (Mvs [mvA])
  t1 : W.heap[b]? = some (.cells #[.int .i64 1, .int .i64 1, .int .i64 1, .int .i64 0, .slice (some ⟨a, 0, none⟩) 1 1] 26 (0, 0))
  r2 : Rd W 6 (some ⟨c, 0, none⟩) 1 1 (Mvs [mvA])
  t2 : W.heap[d]? = some (.cells #[.int .i64 1, .int .i64 1, .int .i64 0, .int .i64 0, .slice (some ⟨c, 0, none⟩) 1 1] 26 (0, 0))
theorem AlvG.below {a b c d : Nat} {W W' : World} (h : AlvG a b c d W) (q : Below W.heap.size W W') : AlvG a b c d W' :=
  ⟨h.r1.below q, (q.block _ (lt_of_block h.t1)).trans h.t1, h.r2.below q, (q.block _ (lt_of_block h.t2)).trans h.t2⟩
theorem gbox4 (w : World) (o1 o2 o3 o4 : Obj) : ((((w.alloc o1).alloc o2).alloc o3).alloc o4).heap[w.heap.size]? = some o1 ∧ ((((w.alloc o1).alloc o2).alloc o3).alloc o4).heap[w.heap.size + 1]? = some o2 ∧ ((((w.alloc o1).alloc o2).alloc o3).alloc o4).heap[w.heap.size + 2]? = some o3 ∧ ((((w.alloc o1).alloc o2).alloc o3).alloc o4).heap[w.heap.size + 3]? = some o4 ∧ Below w.heap.size w ((((w.alloc o1).alloc o2).alloc o3).alloc o4) ∧ ((((w.alloc o1).alloc o2).alloc o3).alloc o4).heap.size = w.heap.size + 4 := by
  obtain ⟨h1, h2, h3, h4, h5⟩ := gbox3 w o1 o2 o3
  have e := box_below (((w.alloc o1).alloc o2).alloc o3) o4
  have n := heap_alloc_new (((w.alloc o1).alloc o2).alloc o3) o4
  rw [h5] at n
  exact ⟨(e.block _ (by omega)).trans h1, (e.block _ (by omega)).trans h2, (e.block _ (by omega)).trans h3, n, h4.trans (e.mono (by omega)), by simp [h5]⟩

theorem gamA_play (A : Option Addr) (c : Nat) (w : World) (h : Rd w 6 A 1 c (Mvs [mvA])) :
    Calls Try.prog 10 #[.agg #[.int .i64 1, .int .i64 1, .int .i64 1, .int .i64 0, .slice A 1 c], .int .u64 3] w fun e w' => ∃ VA vc, e = .returned (.tuple #[.slice VA 1 vc, .bool true]) ∧ Rd w' 4 VA 1 vc (Vds [⟨2, 0, 0, false⟩]) ∧ Below w.heap.size w w' := by
  have k := gam_playG gmA 3 A c w gmA_ok (by decide) h
  rw [playA] at k
  exact k
theorem gamA_draws (A : Option Addr) (c : Nat) (w : World) (h : Rd w 6 A 1 c (Mvs [mvA])) :
    Calls Try.prog 9 #[.agg #[.int .i64 1, .int .i64 1, .int .i64 1, .int .i64 0, .slice A 1 c]] w fun e w' => e = .returned (.int .u64 4) ∧ Below w.heap.size w w' := gam_drawsG gmA A c w gmA_ok h
theorem gamA_lucky (A : Option Addr) (c : Nat) (w : World) (h : Rd w 6 A 1 c (Mvs [mvA])) :
    Calls Try.prog 8 #[.agg #[.int .i64 1, .int .i64 1, .int .i64 1, .int .i64 0, .slice A 1 c]] w fun e w' => e = .returned (.int .u64 0) ∧ Below w.heap.size w w' := by
  have k := gam_lucky gmA A c w gmA_ok h
  rw [luckyA] at k
  exact k
def SmallU (w : World) (e : Ending) (w' : World) : Prop := ∃ x : Nat, x ≤ 2 ∧ e = .returned (.int .u64 x) ∧ Below w.heap.size w w'
theorem gamB_lucky (A : Option Addr) (c : Nat) (w : World) (h : Rd w 6 A 1 c (Mvs [mvA])) :
    Calls Try.prog 8 #[.agg #[.int .i64 1, .int .i64 1, .int .i64 0, .int .i64 0, .slice A 1 c]] w (SmallU w) :=
  (gam_lucky gmB A c w gmB_ok h).mono fun _ _ ⟨he, hb⟩ => ⟨_, luckyB, he, hb⟩
theorem gamZ_draws (w : World) :
    Calls Try.prog 9 #[.agg #[.int .i64 0, .int .i64 0, .int .i64 0, .int .i64 0, .slice none 0 0]] w fun e w' => e = .returned (.int .u64 0) ∧ Below w.heap.size w w' := by
  have k := gam_draws 0 0 0 0 [] none 0 w ⟨by decide, by decide⟩ ⟨by decide, by decide⟩ (Rd.nil_ _ _)
  rw [drawsZ] at k
  exact k
theorem gamZ_may (w : World) :
    Calls Try.prog 13 #[.agg #[.int .i64 0, .int .i64 0, .int .i64 0, .int .i64 0, .slice none 0 0]] w fun e w' => e = .returned (.bool false) ∧ Below w.heap.size w w' := by
  have k := gam_may 0 0 0 0 [] none 0 w ⟨by decide, by decide⟩ ⟨by decide, by decide⟩ (Rd.nil_ _ _)
  rw [mayZ] at k
  exact k

set_option maxHeartbeats 8000000 in
set_option maxRecDepth 100000 in
theorem gamAlive (w : World) : Calls Try.prog 7 #[] w fun e w' => e = .returned (.bool true) ∧ Below w.heap.size w w' := by
  have A4 : Hid (AlvG w.heap.size (w.heap.size + 1) (w.heap.size + 1 + 1) (w.heap.size + 1 + 1 + 1) ((((w.alloc (.cells #[.int .i64 1, .int .i64 0, .int .i64 0, .bool false, .bool false, .int .u64 0] 34)).alloc (.cells #[.int .i64 1, .int .i64 1, .int .i64 1, .int .i64 0, .slice (some ⟨w.heap.size, 0, none⟩) 1 1] 26)).alloc (.cells #[.int .i64 1, .int .i64 0, .int .i64 0, .bool false, .bool false, .int .u64 0] 34)).alloc (.cells #[.int .i64 1, .int .i64 1, .int .i64 0, .int .i64 0, .slice (some ⟨w.heap.size + 1 + 1, 0, none⟩) 1 1] 26)) ∧ Below w.heap.size w ((((w.alloc (.cells #[.int .i64 1, .int .i64 0, .int .i64 0, .bool false, .bool false, .int .u64 0] 34)).alloc (.cells #[.int .i64 1, .int .i64 1, .int .i64 1, .int .i64 0, .slice (some ⟨w.heap.size, 0, none⟩) 1 1] 26)).alloc (.cells #[.int .i64 1, .int .i64 0, .int .i64 0, .bool false, .bool false, .int .u64 0] 34)).alloc (.cells #[.int .i64 1, .int .i64 1, .int .i64 0, .int .i64 0, .slice (some ⟨w.heap.size + 1 + 1, 0, none⟩) 1 1] 26))) := Lib.hid (by
    obtain ⟨n1, n2, n3, n4, bb, sz⟩ := gbox4 w (.cells #[.int .i64 1, .int .i64 0, .int .i64 0, .bool false, .bool false, .int .u64 0] 34) (.cells #[.int .i64 1, .int .i64 1, .int .i64 1, .int .i64 0, .slice (some ⟨w.heap.size, 0, none⟩) 1 1] 26) (.cells #[.int .i64 1, .int .i64 0, .int .i64 0, .bool false, .bool false, .int .u64 0] 34) (.cells #[.int .i64 1, .int .i64 1, .int .i64 0, .int .i64 0, .slice (some ⟨w.heap.size + 1 + 1, 0, none⟩) 1 1] 26)
    exact ⟨⟨rd_lit n1 rfl rfl, n2, rd_lit n3 rfl rfl, n4⟩, bb⟩)
  go_enter Try.func7, Try.ntmps7
  go_upto_region 3 with fail
  generalize ((((w.alloc (.cells #[.int .i64 1, .int .i64 0, .int .i64 0, .bool false, .bool false, .int .u64 0] 34)).alloc (.cells #[.int .i64 1, .int .i64 1, .int .i64 1, .int .i64 0, .slice (some ⟨w.heap.size, 0, none⟩) 1 1] 26)).alloc (.cells #[.int .i64 1, .int .i64 0, .int .i64 0, .bool false, .bool false, .int .u64 0] 34)).alloc (.cells #[.int .i64 1, .int .i64 1, .int .i64 0, .int .i64 0, .slice (some ⟨w.heap.size + 1 + 1, 0, none⟩) 1 1] 26)) = w4 at *
  have B4 := Lib.hid A4.out.2
  have A4 := Lib.hid A4.out.1
  generalize w.heap.size + 1 + 1 + 1 = d at *
  generalize w.heap.size + 1 + 1 = c at *
  generalize w.heap.size + 1 = b at *
  generalize ha : w.heap.size = a at A4 ⊢
  clear ha
  have y0 := cell_of_row w4 b 0 _ _ _ A4.out.t1
  have y1 := cell_of_row w4 b 1 _ _ _ A4.out.t1
  have y2 := cell_of_row w4 b 2 _ _ _ A4.out.t1
  have y3 := cell_of_row w4 b 3 _ _ _ A4.out.t1
  have y4 := cell_of_row w4 b 4 _ _ _ A4.out.t1
  have K := Lib.hid (gamA_play (some ⟨a, 0, none⟩) 1 w4 A4.out.r1)
  go_wp2_with fail
  (with_reducible refine K.out.mono ?_)
  rintro e w5 ⟨VA, vc, rfl, rv, b5⟩
  have A5 := Lib.hid (A4.out.below b5)
  have B5 := Lib.hid (B4.out.trans (b5.mono B4.out.size))
  have RV := Lib.hid rv
  clear K A4 B4 b5 rv y0 y1 y2 y3 y4
  have K := Lib.hid (gamZ_draws w5)
  go_wp2_with fail
  (with_reducible refine K.out.mono ?_)
  rintro e w6 ⟨rfl, b6⟩
  have A6 := Lib.hid (A5.out.below b6)
  have B6 := Lib.hid (B5.out.trans (b6.mono B5.out.size))
  have RV6 := Lib.hid (RV.out.below b6)
  clear K A5 B5 b6 RV
  have y0 := cell_of_row w6 b 0 _ _ _ A6.out.t1
  have y1 := cell_of_row w6 b 1 _ _ _ A6.out.t1
  have y2 := cell_of_row w6 b 2 _ _ _ A6.out.t1
  have y3 := cell_of_row w6 b 3 _ _ _ A6.out.t1
  have y4 := cell_of_row w6 b 4 _ _ _ A6.out.t1
  have K := Lib.hid (gamA_draws (some ⟨a, 0, none⟩) 1 w6 A6.out.r1)
  go_wp2_with fail
  (with_reducible refine K.out.mono ?_)
  rintro e w7 ⟨rfl, b7⟩
  have A7 := Lib.hid (A6.out.below b7)
  have B7 := Lib.hid (B6.out.trans (b7.mono B6.out.size))
  have RV7 := Lib.hid (RV6.out.below b7)
  clear K A6 B6 b7 RV6 y0 y1 y2 y3 y4
  have bx := box_below w7 (.cells #[.int .i64 2, .int .i64 0, .int .u64 0, .bool false] 39)
  have RL : Hid (Rd (w7.alloc (.cells #[.int .i64 2, .int .i64 0, .int .u64 0, .bool false] 39)) 4 (some ⟨w7.heap.size, 0, none⟩) 1 1 (Vds [⟨2, 0, 0, false⟩])) := Lib.hid (rd_lit (heap_alloc_new w7 _) rfl rfl)
  have A8 := Lib.hid (A7.out.below bx)
  have B8 := Lib.hid (B7.out.trans (bx.mono B7.out.size))
  have RV8 := Lib.hid (RV7.out.below bx)
  clear bx A7 B7 RV7
  have K := Lib.hid (sameVd_yes (w7.alloc (.cells #[.int .i64 2, .int .i64 0, .int .u64 0, .bool false] 39)) VA (some ⟨w7.heap.size, 0, none⟩) vc 1 [⟨2, 0, 0, false⟩] RV8.out RL.out)
  simp only [List.length_singleton] at K
  go_wp2_with fail
  generalize (w7.alloc (.cells #[.int .i64 2, .int .i64 0, .int .u64 0, .bool false] 39)) = w8 at *
  generalize w7.heap.size = z7 at *
  (with_reducible refine K.out.mono ?_)
  rintro e w9 ⟨rfl, n, rfl⟩
  have A9 : Hid (AlvG a b c d (w8.drewN n)) := Lib.hid (A8.out.below (Qt.below ⟨n, rfl⟩))
  have B9 : Hid (Below w.heap.size w (w8.drewN n)) := Lib.hid (B8.out.trans ((Qt.below ⟨n, rfl⟩ : Below w8.heap.size w8 _).mono B8.out.size))
  clear K A8 B8 RV8 RL
  generalize w8.drewN n = w9 at *
  have y0 := cell_of_row w9 b 0 _ _ _ A9.out.t1
  have y1 := cell_of_row w9 b 1 _ _ _ A9.out.t1
  have y2 := cell_of_row w9 b 2 _ _ _ A9.out.t1
  have y3 := cell_of_row w9 b 3 _ _ _ A9.out.t1
  have y4 := cell_of_row w9 b 4 _ _ _ A9.out.t1
  have K := Lib.hid (gamA_lucky (some ⟨a, 0, none⟩) 1 w9 A9.out.r1)
  go_wp2_with fail
  (with_reducible refine K.out.mono ?_)
  rintro e w10 ⟨rfl, b10⟩
  have A10 := Lib.hid (A9.out.below b10)
  have B10 := Lib.hid (B9.out.trans (b10.mono B9.out.size))
  clear K A9 B9 b10 y0 y1 y2 y3 y4
  have y0 := cell_of_row w10 d 0 _ _ _ A10.out.t2
  have y1 := cell_of_row w10 d 1 _ _ _ A10.out.t2
  have y2 := cell_of_row w10 d 2 _ _ _ A10.out.t2
  have y3 := cell_of_row w10 d 3 _ _ _ A10.out.t2
  have y4 := cell_of_row w10 d 4 _ _ _ A10.out.t2
  have K := Lib.hid (gamB_lucky (some ⟨c, 0, none⟩) 1 w10 A10.out.r2)
  go_wp2_with fail
  (with_reducible refine K.out.mono ?_)
  rintro e w11 ⟨x, hx, rfl, b11⟩
  have B11 := Lib.hid (B10.out.trans (b11.mono B10.out.size))
  clear K A10 B10 b11 y0 y1 y2 y3 y4
  have hx2 : (x : Int) ≤ 2 := by omega
  have K := Lib.hid (gamZ_may w11)
  go_wp2_with fail
  (with_reducible refine K.out.mono ?_)
  rintro e w12 ⟨rfl, b12⟩
  have B12 := Lib.hid (B11.out.trans (b12.mono B11.out.size))
  clear K B11 b12
  go_wp2_with fail
  go_ret
  exact ⟨rfl, B12.out⟩

end Go.Proofs.Ytpfmhkkglaghgaa
