/-
  Walks of the game: a draw that is dealt.
-/
import Derived.Test.YtpfmhkkglaghgaaGreatGam1
import Derived.Test.YtpfmhkkglaghgaaGreatSeqE
import Derived.Deep.RegionHeld3
import Derived.Deep.DeepCutAuto
namespace Go.Proofs.YtpfmhkkglaghgaaGreat
set_option linter.unusedSimpArgs false
set_option linter.unusedVariables false
set_option linter.unnecessarySimpa false
open Go.RowKit

theorem gbox2 (w : World) (o1 o2 : Obj) : ((w.alloc o1).alloc o2).heap[w.heap.size]? = some o1 ∧ ((w.alloc o1).alloc o2).heap[w.heap.size + 1]? = some o2 ∧ Below w.heap.size w ((w.alloc o1).alloc o2) ∧ ((w.alloc o1).alloc o2).heap.size = w.heap.size + 2 := by
  have h1 := heap_alloc_new w o1
  have h2 := heap_alloc_new (w.alloc o1) o2
  have b1 := box_below w o1
  have b2 := box_below (w.alloc o1) o2
  have s1 : (w.alloc o1).heap.size = w.heap.size + 1 := by simp
  rw [s1] at h2
  exact ⟨(b2.block _ (by omega)).trans h1, h2, b1.trans (b2.mono (by omega)), by simp⟩
def tabRow (g : Gm) (A : Option Addr) (c : Nat) (N : Option Addr) (n nc : Nat) (C : Option Addr) (m cc : Nat) (v : Int) : Array Value :=
  #[.int .i64 g.b, .int .i64 g.n, .int .i64 g.came, .int .i64 g.marked, .slice A g.moves.length c, .slice N n nc, .slice C m cc, .int .u64 v]
structure TabC (b B : Nat) (g : Gm) (A : Option Addr) (c : Nat) (ns : List Int) (cs : List Bool) (v : Int) (N : Option Addr) (nc : Nat) (C : Option Addr) (cc : Nat) (W1 W : World) : Prop where
  t : W.heap[b]? = some (.cells (tabRow g A c N ns.length nc C cs.length cc v) 64 (0, 0))
  on : W.ownsRow B 27 1 (.slice N ns.length nc) ns.length (Us ns)
  oc : W.ownsRow B 4 1 (.slice C cs.length cc) cs.length (Bs cs)
  ne : ∀ k, (Value.slice N ns.length nc).ownBlock = some k → (Value.slice C cs.length cc).ownBlock ≠ some k
  lb : b < B
  chg : Chg (fun k => k = b ∨ B ≤ k) W1 W
  sz : B ≤ W.heap.size
def TabP (b B : Nat) (g : Gm) (A : Option Addr) (c : Nat) (ns : List Int) (cs : List Bool) (v : Int) (W1 W : World) : Prop := ∃ N nc C cc, TabC b B g A c ns cs v N nc C cc W1 W
section
variable {b B : Nat} {g : Gm} {A : Option Addr} {c : Nat} {ns : List Int} {cs : List Bool} {v : Int} {N : Option Addr} {nc : Nat} {C : Option Addr} {cc : Nat} {W1 W W' : World}
theorem TabC.below (h : TabC b B g A c ns cs v N nc C cc W1 W) (q : Below W.heap.size W W') : TabC b B g A c ns cs v N nc C cc W1 W' :=
  ⟨(q.block _ (lt_of_block h.t)).trans h.t, own_bel h.on q, own_bel h.oc q, h.ne, h.lb, h.chg.thenBelow q h.chg.size, Nat.le_trans h.sz q.size⟩
theorem TabP.below (h : TabP b B g A c ns cs v W1 W) (q : Below W.heap.size W W') : TabP b B g A c ns cs v W1 W' := by
  obtain ⟨N, nc, C, cc, h⟩ := h
  exact ⟨N, nc, C, cc, h.below q⟩
theorem TabC.cellAt (h : TabC b B g A c ns cs v N nc C cc W1 W) (i : Nat) {x : Value} (hx : (tabRow g A c N ns.length nc C cs.length cc v)[i]? = some x) : W.cell? ⟨b, i, none⟩ = some x := (cell_of_row W b i _ _ _ h.t).trans hx
theorem TabC.fz (h : TabC b B g A c ns cs v N nc C cc W1 W) (i : Nat) : W.frozen? ⟨b, i, none⟩ = false := frozen_of_row W b i _ _ h.t
theorem TabC.view (h : TabC b B g A c ns cs v N nc C cc W1 W) (x : Int) : TabC b B g A c ns cs x N nc C cc W1 (W.setCell ⟨b, 7, none⟩ (.int .u64 x)) := by
  have hC : Chg (fun j => j = b) W (W.setCell ⟨b, 7, none⟩ (.int .u64 x)) := (Chg.refl (fun j => j = b) W).setCell (p := ⟨b, 7, none⟩) (.inl rfl) _
  have lb := h.lb
  refine ⟨heap_setCell_same W b 7 _ _ _ h.t, own_chg h.on hC (fun k hk e => by have := (h.on.lt k hk).1; omega), own_chg h.oc hC (fun k hk e => by have := (h.oc.lt k hk).1; omega), h.ne, lb, h.chg.step hC (fun _ _ e => .inl e), ?_⟩
  simpa using h.sz
theorem grown_ch {w w' : World} {row : Option Nat} (hg : w.grownBy w' row) : Chg (fun k => row = some k) w w' := (Chg.refl _ w).grown hg (fun k e => .inl e)
theorem TabC.addN (h : TabC b B g A c ns cs v N nc C cc W1 W) {v6 : Value} {w6 : World} {x : Int} (o6 : w6.ownsRow B 27 1 v6 (ns.length + 1) (Us ns ++ [.int .u64 x])) (g6 : W.grownBy w6 (Value.slice N ns.length nc).ownBlock) (k6 : ∀ k, k < W.heap.size → (Value.slice N ns.length nc).ownBlock ≠ some k → v6.ownBlock ≠ some k) :
    TabP b B g A c (ns ++ [x]) cs v W1 (w6.setCell ⟨b, 5, none⟩ v6) := by
  obtain ⟨N', nc', rfl, -⟩ := own_slice o6
  have lb := h.lb
  have hC : Chg (fun j => j = b) w6 (w6.setCell ⟨b, 5, none⟩ (.slice N' (ns.length + 1) nc')) := (Chg.refl (fun j => j = b) w6).setCell (p := ⟨b, 5, none⟩) (.inl rfl) _
  have el : (ns ++ [x]).length = ns.length + 1 := by simp
  have eu : Us (ns ++ [x]) = Us ns ++ [.int .u64 x] := by simp [Us]
  have t6 : w6.heap[b]? = some (.cells (tabRow g A c N ns.length nc C cs.length cc v) 64 (0, 0)) := (g6.block b (lt_of_block h.t) (fun e => by have := (h.on.lt b e.symm).1; omega)).trans h.t
  refine ⟨N', nc', C, cc, ?_, ?_, ?_, ?_, lb, ?_, ?_⟩
  · rw [el]; exact heap_setCell_same w6 b 5 _ _ _ t6
  · rw [el, eu]; exact own_chg o6 hC (fun k hk e => by have := (o6.lt k hk).1; omega)
  · exact own_chg (own_chg h.oc (grown_ch g6) (fun k hk e => h.ne k e hk)) hC (fun k hk e => by have := (h.oc.lt k hk).1; omega)
  · rw [el]; exact fun k hk hk' => k6 k (h.oc.lt k hk').2 (fun e => h.ne k e hk') hk
  · exact (h.chg.grown g6 (fun k e => .inl (.inr (h.on.lt k e).1))).step hC (fun _ _ e => .inl e)
  · simpa using Nat.le_trans h.sz g6.size
theorem TabC.addC (h : TabC b B g A c ns cs v N nc C cc W1 W) {v6 : Value} {w6 : World} {x : Bool} (o6 : w6.ownsRow B 4 1 v6 (cs.length + 1) (Bs cs ++ [.bool x])) (g6 : W.grownBy w6 (Value.slice C cs.length cc).ownBlock) (k6 : ∀ k, k < W.heap.size → (Value.slice C cs.length cc).ownBlock ≠ some k → v6.ownBlock ≠ some k) :
    TabP b B g A c ns (cs ++ [x]) v W1 (w6.setCell ⟨b, 6, none⟩ v6) := by
  obtain ⟨C', cc', rfl, -⟩ := own_slice o6
  have lb := h.lb
  have hC : Chg (fun j => j = b) w6 (w6.setCell ⟨b, 6, none⟩ (.slice C' (cs.length + 1) cc')) := (Chg.refl (fun j => j = b) w6).setCell (p := ⟨b, 6, none⟩) (.inl rfl) _
  have el : (cs ++ [x]).length = cs.length + 1 := by simp
  have eu : Bs (cs ++ [x]) = Bs cs ++ [.bool x] := by simp [Bs]
  have t6 : w6.heap[b]? = some (.cells (tabRow g A c N ns.length nc C cs.length cc v) 64 (0, 0)) := (g6.block b (lt_of_block h.t) (fun e => by have := (h.oc.lt b e.symm).1; omega)).trans h.t
  refine ⟨N, nc, C', cc', ?_, ?_, ?_, ?_, lb, ?_, ?_⟩
  · rw [el]; exact heap_setCell_same w6 b 6 _ _ _ t6
  · exact own_chg (own_chg h.on (grown_ch g6) (fun k hk e => h.ne k hk e)) hC (fun k hk e => by have := (h.on.lt k hk).1; omega)
  · rw [el, eu]; exact own_chg o6 hC (fun k hk e => by have := (o6.lt k hk).1; omega)
  · rw [el]; exact fun k hk hk' => k6 k (h.on.lt k hk).2 (fun e => h.ne k hk e) hk'
  · exact (h.chg.grown g6 (fun k e => .inl (.inr (h.oc.lt k e).1))).step hC (fun _ _ e => .inl e)
  · simpa using Nat.le_trans h.sz g6.size
end

set_option maxHeartbeats 1000000 in
set_option maxRecDepth 100000 in
theorem tab_see2 {b B : Nat} {g : Gm} {A : Option Addr} {c : Nat} {ns : List Int} {cs : List Bool} {v : Int} {W1 : World} (w : World) (x : Int) (h : TabP b B g A c ns cs v W1 w) (hv : isU64 v) (hx : isU64 x) :
    Calls Tryz.prog 29 #[.pointer (some ⟨b, 0, none⟩), .int .u64 x] w fun e w' => e = .returned (.tuple #[]) ∧ TabP b B g A c ns cs (foldV v x) W1 w' ∧ Chg (fun j => j = b) w w' := by
  obtain ⟨N, nc, C, cc, hC⟩ := h
  have H := Lib.hid hC
  have c7 : w.cell? ⟨b, 7, none⟩ = some (.int .u64 v) := hC.cellAt 7 rfl
  have f7 := hC.fz 7
  have hl := lt_of_block hC.t
  have K := Lib.hid (draw_mix (xor64 v x) w (isU64_wrap _))
  have E : Hid (foldV v x = mixZ (xor64 v x)) := Lib.hid rfl
  unfold xor64 at K E
  clear hC hv hx
  go_enter Tryz.func29, Tryz.ntmps29
  go_wp2_with fail
  refine K.out.mono ?_
  rintro e w' ⟨rfl, rfl⟩
  go_wp2
  go_end0
  refine ⟨rfl, ⟨N, nc, C, cc, ?_⟩, (Chg.refl (fun j => j = b) w).setCell (p := ⟨b, 7, none⟩) (.inl rfl) _⟩
  rw [E.out]
  exact H.out.view _

theorem tab_see {b B : Nat} {g : Gm} {A : Option Addr} {c : Nat} {ns : List Int} {cs : List Bool} {v : Int} {W1 : World} (w : World) (x : Int) (h : TabP b B g A c ns cs v W1 w) (hv : isU64 v) (hx : isU64 x) :
    Calls Tryz.prog 29 #[.pointer (some ⟨b, 0, none⟩), .int .u64 x] w fun e w' => e = .returned (.tuple #[]) ∧ TabP b B g A c ns cs (foldV v x) W1 w' :=
  (tab_see2 w x h hv hx).mono fun _ _ h => ⟨h.1, h.2.1⟩

theorem bit_u64 (x b : Nat) (hx : x < 18446744073709551616) : (bits .and .u64 ((x / 2 ^ b : Nat) : Int) 1 == 1) = x.testBit b := by
  have h1 : x / 2 ^ b ≤ x := Nat.div_le_self _ _
  have e := u64_and_nat (x / 2 ^ b) 1 (by omega) (by omega)
  have e' : bits .and .u64 ((x / 2 ^ b : Nat) : Int) 1 = ((x / 2 ^ b &&& 1 : Nat) : Int) := e
  rw [e', Nat.testBit_eq_decide_div_mod_eq, Nat.and_one_is_mod]
  by_cases h : x / 2 ^ b % 2 = 1
  · rw [h]; rfl
  · have : x / 2 ^ b % 2 = 0 := by omega
    rw [this]; rfl
def nsTo (g : Gm) (k i : Nat) : List Int := (List.range i).map fun j => ((nonN g.b k j : Nat) : Int)
def csTo (g : Gm) (k i : Nat) : List Bool := (List.range i).map fun j => coinN g.b k j
theorem nsTo_len (g : Gm) (k i : Nat) : (nsTo g k i).length = i := by simp [nsTo]
theorem csTo_len (g : Gm) (k i : Nat) : (csTo g k i).length = i := by simp [csTo]
theorem nsTo_succ (g : Gm) (k i : Nat) : nsTo g k (i + 1) = nsTo g k i ++ [((nonN g.b k i : Nat) : Int)] := by simp [nsTo, List.range_succ]
theorem csTo_succ (g : Gm) (k i : Nat) : csTo g k (i + 1) = csTo g k i ++ [coinN g.b k i] := by simp [csTo, List.range_succ]
theorem nsTo_get (g : Gm) (k : Nat) {i j : Nat} (h : j < i) : (nsTo g k i).getD j 0 = ((nonN g.b k j : Nat) : Int) := by simp [nsTo, h]
theorem csTo_get (g : Gm) (k : Nat) {i j : Nat} (h : j < i) : (csTo g k i).getD j false = coinN g.b k j := by simp [csTo, h]
theorem pow_le64 {b : Nat} (h : b ≤ 6) : 2 ^ b ≤ 64 := Nat.pow_le_pow_right (n := 2) (by decide) (j := 6) h
theorem nonN_64 {b : Nat} (h : b ≤ 6) (k i : Nat) : nonN b k i < 64 := Nat.lt_of_lt_of_le (nonN_lt b k i) (pow_le64 h)
theorem TabC.nAt {b B : Nat} {g : Gm} {A : Option Addr} {c k i j : Nat} {cs : List Bool} {v : Int} {N : Option Addr} {nc : Nat} {C : Option Addr} {cc : Nat} {W1 W : World} (h : TabC b B g A c (nsTo g k i) cs v N nc C cc W1 W) (hj : j < i) :
    ∃ bb off, N = some ⟨bb, off, none⟩ ∧ W.cell? ⟨bb, off + j, none⟩ = some (.int .u64 (nonN g.b k j : Nat)) ∧ (nsTo g k i).length ≤ nc ∧ nc ≤ maxLen := by
  have R := Rd.of_own h.on
  obtain ⟨bb, off, e, hc⟩ := R.u64 (k := j) (by rw [nsTo_len]; exact hj)
  exact ⟨bb, off, e, by rw [hc, nsTo_get g k hj], R.cap, R.max⟩
theorem TabC.cAt {b B : Nat} {g : Gm} {A : Option Addr} {c k i j : Nat} {ns : List Int} {v : Int} {N : Option Addr} {nc : Nat} {C : Option Addr} {cc : Nat} {W1 W : World} (h : TabC b B g A c ns (csTo g k i) v N nc C cc W1 W) (hj : j < i) :
    ∃ bb off, C = some ⟨bb, off, none⟩ ∧ W.cell? ⟨bb, off + j, none⟩ = some (.bool (coinN g.b k j)) ∧ (csTo g k i).length ≤ cc ∧ cc ≤ maxLen := by
  have R := Rd.of_own h.oc
  obtain ⟨bb, off, e, hc⟩ := R.bool (k := j) (by rw [csTo_len]; exact hj)
  exact ⟨bb, off, e, by rw [hc, csTo_get g k hj], R.cap, R.max⟩

set_option maxHeartbeats 8000000 in
set_option maxRecDepth 100000 in
theorem gam_deal (g : Gm) (k : Nat) (A : Option Addr) (c : Nat) (w : World) (hg : g.ok) (hk : k < 18446744073709551616) :
    Calls Tryz.prog 22 #[gmVal g A c, .int .u64 k] w fun e w' => e = .returned (.pointer (some ⟨w.heap.size + 1, 0, none⟩)) ∧ (∃ W1, TabP (w.heap.size + 1) (w.heap.size + 2) g A c (nsTo g k g.n) (csTo g k g.n) (viewTo g k g.n) W1 w') ∧ Below w.heap.size w w' := by
  obtain ⟨i0, hi0, hz0, hz1, hz2⟩ := info_parts infoU64
  obtain ⟨j0, hj0, hy0, hy1, hy2⟩ := info_parts infoBool
  obtain ⟨n1, n2, bb, s2⟩ := gbox2 w (.cells #[.int .i64 g.b, .int .i64 g.n, .int .i64 g.came, .int .i64 g.marked, .slice A g.moves.length c] 24) (.cells #[.int .i64 g.b, .int .i64 g.n, .int .i64 g.came, .int .i64 g.marked, .slice A g.moves.length c, .slice none 0 0, .slice none 0 0, .int .u64 0] 64)
  have b1 := hg.b1
  have b6 := hg.b6
  have n4 := hg.n4
  have hcame : g.came < 16 := Nat.lt_of_lt_of_le hg.came (Nat.pow_le_pow_right (n := 2) (by decide) (j := 4) n4)
  have GO := Lib.hid hg
  have N1 := Lib.hid n1
  have N2 := Lib.hid n2
  have BB := Lib.hid bb
  unfold gmVal
  clear hg n1 n2 bb
  go_enter Tryz.func22, Tryz.ntmps22
  go_upto_region 2 with fail
  generalize ((w.alloc (.cells #[.int .i64 g.b, .int .i64 g.n, .int .i64 g.came, .int .i64 g.marked, .slice A g.moves.length c] 24)).alloc (.cells #[.int .i64 g.b, .int .i64 g.n, .int .i64 g.came, .int .i64 g.marked, .slice A g.moves.length c, .slice none 0 0, .slice none 0 0, .int .u64 0] 64)) = w1 at *
  have T0 : Hid (TabP (w.heap.size + 1) (w.heap.size + 2) g A c (nsTo g k 0) (csTo g k 0) (viewTo g k 0) w1 w1) := Lib.hid ⟨none, 0, none, 0, N2.out, World.ownsRow_nil _ _ _ _, World.ownsRow_nil _ _ _ _, fun k h => by simp [Value.ownBlock] at h, by omega, Chg.refl _ _, by omega⟩
  have y1 : w1.cell? ⟨w.heap.size, 1, none⟩ = some (.int .i64 g.n) := cell_of_row w1 w.heap.size 1 _ _ _ N1.out
  go_wp2_with fail
  clear y1
  go_loopw [13] (fun iv wr => ∃ i : Nat, i ≤ g.n ∧ iv = .int .i64 i ∧ Hid (TabP (w.heap.size + 1) (w.heap.size + 2) g A c (nsTo g k i) (csTo g k i) (viewTo g k i) w1 wr)) (fun iv _ => g.n - (intOf iv).toNat)
  case atStart => exact ⟨0, Nat.zero_le _, rfl, T0⟩
  case round =>
    obtain ⟨i, hi, rfl, T⟩ := hrel
    clear T0
    by_cases hlt : i < g.n
    · obtain ⟨N, nc, C, cc, hT⟩ := T.out
      have HT := Lib.hid hT
      clear hT T
      have M1 := Lib.hid (HT.out.chg.blk N1.out (by omega))
      obtain ⟨q, hq⟩ : ∃ q, q = i * (g.b + 1) := ⟨_, rfl⟩
      have hqb : q ≤ 21 := by
        rw [hq]
        exact Nat.mul_le_mul (show i ≤ 3 by omega) (show g.b + 1 ≤ 7 by omega)
      have hqi : (i : Int) * ((g.b : Int) + 1) = (q : Int) := by rw [hq]; simp
      obtain ⟨kk, hkk⟩ : ∃ kk, kk = k / 2 ^ q := ⟨_, rfl⟩
      have hkl : kk ≤ k := by rw [hkk]; exact Nat.div_le_self _ _
      have hki : (k : Int) / 2 ^ q = (kk : Int) := by rw [hkk]; simp
      have HN : Hid (nonN g.b k i = kk % 2 ^ g.b) := Lib.hid (by unfold nonN; rw [← hq, ← hkk])
      have HC : Hid (coinN g.b k i = kk.testBit g.b) := Lib.hid (by unfold coinN; rw [← hq, ← hkk])
      clear hq hkk
      have y0 : wr.cell? ⟨w.heap.size, 0, none⟩ = some (.int .i64 g.b) := cell_of_row wr w.heap.size 0 _ _ _ M1.out
      go_upto_region 6 with fail
      clear y0
      obtain ⟨nn, hnn⟩ : ∃ nn, nn = kk % 2 ^ g.b := ⟨_, rfl⟩
      have K6 := Lib.hid (draw_low (kk : Int) g.b wr.drew ⟨by omega, by omega⟩ b1 b6)
      simp only [Int.toNat_natCast] at K6
      rw [← hnn] at K6 HN
      clear hnn
      have D6 : Hid (TabC (w.heap.size + 1) (w.heap.size + 2) g A c (nsTo g k i) (csTo g k i) (viewTo g k i) N nc C cc w1 wr.drew) := Lib.hid (HT.out.below (Below.refl _ _).drew)
      have m0 := mixF_cell (F := fun j => w.heap.size + 2 ≤ j) (show wr.cell? ⟨w.heap.size, 0, none⟩ = some (.int .i64 g.b) from cell_of_row wr w.heap.size 0 _ _ _ M1.out) (by show ¬ w.heap.size + 2 ≤ w.heap.size; omega)
      have m5 := mixF_cell (F := fun j => w.heap.size + 2 ≤ j) (show wr.cell? ⟨w.heap.size + 1, 5, none⟩ = some (.slice N (nsTo g k i).length nc) from HT.out.cellAt 5 rfl) (by show ¬ w.heap.size + 2 ≤ w.heap.size + 1; omega)
      have hns : (nsTo g k i).length ≤ 4 := by rw [nsTo_len]; omega
      have hgs : w.heap.size + 2 ≤ wr.drew.heap.size := HT.out.sz
      refine wp_region_chgE (fun j => w.heap.size + 2 ≤ j) (by kernel_rfl) (by kernel_rfl) ?_
      repeat (refine wpMixE_seg 1 _ _ rfl ?_; simp only [List.take_succ_cons, List.take_zero, List.drop_succ_cons, List.drop_zero]; go_big_quiet_step (fail); refine wpQuiet_nil ?_)
      generalize hwd : wr.drew = wd at *
      have Q0 : Hid (Chg (fun j => w.heap.size + 2 ≤ j) wr wd) := Lib.hid (by rw [← hwd]; exact (Chg.refl _ _).drew)
      clear hwd
      refine wpMixE_bar rfl (by rfl) ?_
      go_wp2_with fail
      (with_reducible refine K6.out.mono ?_)
      rintro e w' ⟨rfl, rfl⟩
      go_wp2
      refine mixGo_in Q0.out ?_
      repeat (refine wpMixE_seg 1 _ _ rfl ?_; simp only [List.take_succ_cons, List.take_zero, List.drop_succ_cons, List.drop_zero]; go_big_quiet_step (fail); refine wpQuiet_nil ?_)
      refine wpMixE_bar rfl (by rfl) ?_
      go_wp2
      refine mixGo_in (Q0.out.alloc _) ?_
      repeat (refine wpMixE_seg 1 _ _ rfl ?_; simp only [List.take_succ_cons, List.take_zero, List.drop_succ_cons, List.drop_zero]; go_big_quiet_step (fail); refine wpQuiet_nil ?_)
      refine wpMixE_bar rfl (by rfl) ?_
      go_wp2_with (
        at_builtin
        refine wpList_app1 _ rfl (.tmp 28) (.tmp 33) 61 rfl ((w.heap.size + 2)) 27 i0 (.int .u64 0) 1 8 Tryz.underlying61 hi0 hz0 hz1 hz2 rfl (by decide) (.slice N (nsTo g k i).length nc) ((nsTo g k i).length) (Us (nsTo g k i)) rfl D6.out.on #[.int .u64 (nn : Int)] _ rfl (by simp) rfl (by simp [Value.oneCell']) (by unfold maxLen; omega) (by omega) (by have := hgs; simp; omega) ?_
        intro v6 w6 o6 g6 k6
        obtain ⟨N6, c6, hv6, -⟩ := own_slice o6
        subst hv6
        have Q6 : Hid (Chg (fun j => w.heap.size + 2 ≤ j) wr w6) := Lib.hid (Q0.out.grown g6 (fun j e => .inl (D6.out.on.lt j e).1))
        have T6 : Hid (TabP (w.heap.size + 1) (w.heap.size + 2) g A c (nsTo g k (i + 1)) (csTo g k i) (viewTo g k i) w1 (w6.setCell ⟨w.heap.size + 1, 5, none⟩ (.slice N6 ((nsTo g k i).length + 1) c6))) := Lib.hid (by rw [nsTo_succ, HN.out]; exact D6.out.addN o6 g6 k6)
        clear o6 g6 k6)
      refine mixGo_in Q6.out ?_
      repeat (refine wpMixE_seg 1 _ _ rfl ?_; simp only [List.take_succ_cons, List.take_zero, List.drop_succ_cons, List.drop_zero]; go_big_quiet_step (fail); refine wpQuiet_nil ?_)
      have t6 := Q6.out.blk HT.out.t (by omega)
      have z5 : w6.cell? ⟨w.heap.size + 1, 5, none⟩ = some (.slice N (nsTo g k i).length nc) := cell_of_row w6 (w.heap.size + 1) 5 _ _ _ t6
      have fz5 := frozen_of_row w6 (w.heap.size + 1) 5 _ _ t6
      clear t6
      refine wpMixE_bar rfl (by rfl) ?_
      go_wp2
      refine mixGo_fin ?_
      clear m0 m5 z5 fz5 K6 D6 Q0 Q6 hns hgs HT
      generalize (w6.setCell ⟨w.heap.size + 1, 5, none⟩ (.slice N6 ((nsTo g k i).length + 1) c6)) = w7 at *
      obtain ⟨N', nc', C', cc', hT⟩ := T6.out
      have HT := Lib.hid hT
      clear hT T6
      have M2 := Lib.hid (HT.out.chg.blk N1.out (by omega))
      clear M1
      obtain ⟨ct, hct⟩ : ∃ ct, ct = kk.testBit g.b := ⟨_, rfl⟩
      have hbit : (bits .and .u64 ((kk : Int) / 2 ^ g.b) 1 == 1) = ct := by
        have := bit_u64 kk g.b (by omega)
        rw [hct, ← this]
        simp
      rw [← hct] at HC
      clear hct
      have D6 : Hid (TabC (w.heap.size + 1) (w.heap.size + 2) g A c (nsTo g k (i + 1)) (csTo g k i) (viewTo g k i) N' nc' C' cc' w1 w7.drew) := Lib.hid (HT.out.below (Below.refl _ _).drew)
      have m0 := mixF_cell (F := fun j => w.heap.size + 2 ≤ j) (show w7.cell? ⟨w.heap.size, 0, none⟩ = some (.int .i64 g.b) from cell_of_row w7 w.heap.size 0 _ _ _ M2.out) (by show ¬ w.heap.size + 2 ≤ w.heap.size; omega)
      have m5 := mixF_cell (F := fun j => w.heap.size + 2 ≤ j) (show w7.cell? ⟨w.heap.size + 1, 6, none⟩ = some (.slice C' (csTo g k i).length cc') from HT.out.cellAt 6 rfl) (by show ¬ w.heap.size + 2 ≤ w.heap.size + 1; omega)
      have hns : (csTo g k i).length ≤ 4 := by rw [csTo_len]; omega
      have hgs : w.heap.size + 2 ≤ w7.drew.heap.size := HT.out.sz
      go_upto_region 7 with fail
      refine wp_region_chgE (fun j => w.heap.size + 2 ≤ j) (by kernel_rfl) (by kernel_rfl) ?_
      repeat (refine wpMixE_seg 1 _ _ rfl ?_; simp only [List.take_succ_cons, List.take_zero, List.drop_succ_cons, List.drop_zero]; go_big_quiet_step (fail); refine wpQuiet_nil ?_)
      generalize hwd : w7.drew = wd at *
      have Q0 : Hid (Chg (fun j => w.heap.size + 2 ≤ j) w7 wd) := Lib.hid (by rw [← hwd]; exact (Chg.refl _ _).drew)
      clear hwd
      refine wpMixE_bar rfl (by rfl) ?_
      go_wp2
      refine mixGo_in (Q0.out.alloc _) ?_
      repeat (refine wpMixE_seg 1 _ _ rfl ?_; simp only [List.take_succ_cons, List.take_zero, List.drop_succ_cons, List.drop_zero]; go_big_quiet_step (fail); refine wpQuiet_nil ?_)
      refine wpMixE_bar rfl (by rfl) ?_
      go_wp2_with (
        at_builtin
        refine wpList_app1 _ rfl (.tmp 41) (.tmp 49) 62 rfl (w.heap.size + 2) 4 j0 (.bool false) 1 1 Tryz.underlying62 hj0 hy0 hy1 hy2 rfl (by decide) (.slice C' (csTo g k i).length cc') (csTo g k i).length (Bs (csTo g k i)) rfl D6.out.oc #[.bool ct] _ rfl (by simp) rfl (by simp [Value.oneCell']) (by unfold maxLen; omega) (by omega) hgs ?_
        intro v6 w6 o6 g6 k6
        obtain ⟨N6, c6, hv6, -⟩ := own_slice o6
        subst hv6
        have Q6 : Hid (Chg (fun j => w.heap.size + 2 ≤ j) w7 w6) := Lib.hid (Q0.out.grown g6 (fun j e => .inl (D6.out.oc.lt j e).1))
        have T6 : Hid (TabP (w.heap.size + 1) (w.heap.size + 2) g A c (nsTo g k (i + 1)) (csTo g k (i + 1)) (viewTo g k i) w1 (w6.setCell ⟨w.heap.size + 1, 6, none⟩ (.slice N6 ((csTo g k i).length + 1) c6))) := Lib.hid (by rw [csTo_succ, HC.out]; exact D6.out.addC o6 g6 k6)
        clear o6 g6 k6)
      refine mixGo_in Q6.out ?_
      repeat (refine wpMixE_seg 1 _ _ rfl ?_; simp only [List.take_succ_cons, List.take_zero, List.drop_succ_cons, List.drop_zero]; go_big_quiet_step (fail); refine wpQuiet_nil ?_)
      have t6 := Q6.out.blk HT.out.t (by omega)
      have z5 : w6.cell? ⟨w.heap.size + 1, 6, none⟩ = some (.slice C' (csTo g k i).length cc') := cell_of_row w6 (w.heap.size + 1) 6 _ _ _ t6
      have fz5 := frozen_of_row w6 (w.heap.size + 1) 6 _ _ t6
      clear t6
      refine wpMixE_bar rfl (by rfl) ?_
      go_wp2
      refine mixGo_fin ?_
      clear m0 m5 z5 fz5 D6 Q0 Q6 hns hgs HT M2 hbit hki hqi
      generalize (w6.setCell ⟨w.heap.size + 1, 6, none⟩ (.slice N6 ((csTo g k i).length + 1) c6)) = w8 at *
      have hmk : g.marked < 16 := by
        refine Nat.lt_of_le_of_lt ?_ hcame
        exact Nat.le_of_testBit GO.out.marked
      have V0 := viewTo_u64 g k i
      have V1 := foldV_u64 (viewTo g k i) 1
      have hn64 := nonN_64 (b := g.b) b6 k i
      have VN : Hid (viewTo g k (i + 1) = viewOne g k (viewTo g k i) i) := Lib.hid rfl
      unfold viewOne at VN
      rw [HN.out, HC.out] at VN
      rw [HN.out] at hn64
      have i4 : i < 4 := by omega
      have ii0 : (0 : Int) ≤ i := by omega
      have M3 : Hid (w8.heap[w.heap.size]? = some (.cells #[.int .i64 g.b, .int .i64 g.n, .int .i64 g.came, .int .i64 g.marked, .slice A g.moves.length c] 24 (0, 0))) := by
        obtain ⟨N9, nc9, C9, cc9, h9⟩ := T6.out
        exact Lib.hid (h9.chg.blk N1.out (by omega))
      have y2 : w8.cell? ⟨w.heap.size, 2, none⟩ = some (.int .i64 g.came) := cell_of_row w8 w.heap.size 2 _ _ _ M3.out
      have H8 := Lib.hid (gam_has g.came i w8 hcame i4)
      generalize viewTo g k i = v0 at *
      have VU := Lib.hid V0
      have VV := Lib.hid V1
      clear V0 V1
      cases hb : g.came.testBit i with
      | false =>
        rw [hb] at H8 VN
        simp only [Bool.false_eq_true, if_false] at VN
        clear hb
        go_wp2_with fail
        refine H8.out.mono ?_
        rintro e w9 ⟨rfl, rfl⟩
        go_wp2
        go_roundw
        case rel => exact ⟨i + 1, by omega, by go_num, by rw [VN.out]; exact T6⟩
        case measure => simp [intOf]; omega
      | true =>
        rw [hb] at H8 VN
        simp only [if_true] at VN
        clear hb
        have S1 := Lib.hid (tab_see w8 1 T6.out VU.out ⟨by omega, by omega⟩)
        go_wp2_with fail
        refine H8.out.mono ?_
        rintro e w9 ⟨rfl, rfl⟩
        go_wp2_with fail
        refine S1.out.mono ?_
        rintro e w9 ⟨rfl, T9⟩
        obtain ⟨N9, nc9, C9, cc9, h9⟩ := T9
        obtain ⟨bb9, off9, rfl, hc9, l9, m9⟩ := h9.nAt (j := i) (by omega)
        rw [HN.out] at hc9
        have H9 := Lib.hid h9
        have M9 := Lib.hid (h9.chg.blk N1.out (by omega))
        have x5 : w9.cell? ⟨w.heap.size + 1, 5, none⟩ = some (.slice (some ⟨bb9, off9, none⟩) (nsTo g k (i + 1)).length nc9) := h9.cellAt 5 rfl
        rw [nsTo_len] at x5 l9
        unfold maxLen at m9
        have S2 := Lib.hid (tab_see w9 (nn : Int) ⟨_, _, _, _, h9⟩ VV.out ⟨by omega, by omega⟩)
        clear h9 S1 y2 H8 M3 T6
        have il : (i : Int) < ((i + 1 : Nat) : Int) := by omega
        go_wp2_with fail
        refine S2.out.mono ?_
        rintro e w10 ⟨rfl, T10⟩
        have V2 := Lib.hid (foldV_u64 (foldV v0 1) (nn : Int))
        have T10 := Lib.hid T10
        have M10 : Hid (w10.heap[w.heap.size]? = some (.cells #[.int .i64 g.b, .int .i64 g.n, .int .i64 g.came, .int .i64 g.marked, .slice A g.moves.length c] 24 (0, 0))) := by
          obtain ⟨N9, nc9, C9, cc9, h9⟩ := T10.out
          exact Lib.hid (h9.chg.blk N1.out (by omega))
        have y3 : w10.cell? ⟨w.heap.size, 3, none⟩ = some (.int .i64 g.marked) := cell_of_row w10 w.heap.size 3 _ _ _ M10.out
        have H10 := Lib.hid (gam_has g.marked i w10 hmk i4)
        clear S2 x5 hc9 H9 M9 l9 m9
        cases hb : g.marked.testBit i with
        | true =>
          rw [hb] at H10 VN
          simp only [if_true] at VN
          clear hb
          go_wp2_with fail
          refine H10.out.mono ?_
          rintro e w9 ⟨rfl, rfl⟩
          go_wp2
          go_roundw
          case rel => exact ⟨i + 1, by omega, by go_num, by rw [VN.out]; exact T10⟩
          case measure => simp [intOf]; omega
        | false =>
          rw [hb] at H10 VN
          simp only [Bool.false_eq_true, if_false] at VN
          clear hb
          have S3 := Lib.hid (tab_see w10 1 T10.out V2.out ⟨by omega, by omega⟩)
          go_wp2_with fail
          refine H10.out.mono ?_
          rintro e w9 ⟨rfl, rfl⟩
          go_wp2_with fail
          refine S3.out.mono ?_
          rintro e w11 ⟨rfl, T11⟩
          have V3 := Lib.hid (foldV_u64 (foldV (foldV v0 1) (nn : Int)) 1)
          obtain ⟨N9, nc9, C9, cc9, h9⟩ := T11
          obtain ⟨bb9, off9, rfl, hc9, l9, m9⟩ := h9.cAt (j := i) (by omega)
          rw [HC.out] at hc9
          have x6 : w11.cell? ⟨w.heap.size + 1, 6, none⟩ = some (.slice (some ⟨bb9, off9, none⟩) (csTo g k (i + 1)).length cc9) := h9.cellAt 6 rfl
          rw [csTo_len] at x6 l9
          unfold maxLen at m9
          have T11 := Lib.hid (⟨_, _, _, _, h9⟩ : TabP (w.heap.size + 1) (w.heap.size + 2) g A c (nsTo g k (i + 1)) (csTo g k (i + 1)) (foldV (foldV (foldV v0 1) (nn : Int)) 1) w1 w11)
          clear h9 S3 y3 H10 M10 T10
          cases ct with
          | true =>
            simp only [if_true] at VN
            have S4 := Lib.hid (tab_see w11 1 T11.out V3.out ⟨by omega, by omega⟩)
            go_wp2_with fail
            refine S4.out.mono ?_
            rintro e w12 ⟨rfl, T12⟩
            have T12 := Lib.hid T12
            clear S4 x6 hc9
            go_wp2
            go_roundw
            case rel => exact ⟨i + 1, by omega, by go_num, by rw [VN.out]; exact T12⟩
            case measure => simp [intOf]; omega
          | false =>
            simp only [Bool.false_eq_true, if_false] at VN
            have S4 := Lib.hid (tab_see w11 0 T11.out V3.out ⟨by omega, by omega⟩)
            go_wp2_with fail
            refine S4.out.mono ?_
            rintro e w12 ⟨rfl, T12⟩
            have T12 := Lib.hid T12
            clear S4 x6 hc9
            go_wp2
            go_roundw
            case rel => exact ⟨i + 1, by omega, by go_num, by rw [VN.out]; exact T12⟩
            case measure => simp [intOf]; omega
    · obtain rfl : i = g.n := by omega
      go_wp2
      go_ret
      exact ⟨rfl, ⟨w1, T.out⟩, by
        obtain ⟨N, nc, C, cc, hT⟩ := T.out
        exact BB.out.trans (hT.chg.below BB.out.size (fun j hj e => by omega))⟩

end Go.Proofs.YtpfmhkkglaghgaaGreat
