/-
  Walks of package queue: Next.
-/
import Derived.Test.YtilgekmpkoohaaaQue5
namespace Go.Proofs.Ytilgekmpkoohaaa
set_option linter.unusedSimpArgs false
set_option linter.unusedVariables false
set_option linter.unnecessarySimpa false
open Go.RowKit
attribute [local go_sem ↓] run_min_int run_max_int

theorem results_cell_tmp_row {P : Program} {fn : Func} {p u : Tmp} {ty : TypeId} (h : fn.results = #[.cell p ty, .tmp u]) (tmps : Array Value) (w : World) (g : Nat) (t : TypeId) (cs : Array Value) (fr : Nat × Nat) (d : TypeDesc)
    (hp : tmps.getD p undef = .pointer (some ⟨g, 0, none⟩)) (hg : w.heap[g]? = some (.cells cs t fr))
    (hu : P.underlying ty = some d) (hd : (match d with | .struct _ | .array _ _ => true | _ => false) = true) (hi : (P.info? ty).map (·.size) = some cs.size) :
    (results fn tmps).run P w = .ok (.tuple #[.agg cs, tmps.getD u undef]) w := by
  rw [results_cell_tmp h, hp]
  simp [asAddr, run_loadVar_row w g t ty cs fr d hg hu hd hi]
theorem infoPiece : (Try.prog.info? 43).map (·.size) = some 2 := by kernel_rfl
def QS.ends (s : QS) : Nat × Nat := if QS.firstOf s.ow = s.ow.length then (s.fresh, s.b.length) else (QS.firstOf s.ow, QS.runTo s.ow (QS.firstOf s.ow))
theorem QS.next_eq (s : QS) (most : Int) : s.next most = if most < 1 then none else if s.ends.2 = s.ends.1 then none else some (s.ends.1, min s.ends.2 (s.ends.1 + (min most s.b.length).toNat)) := by
  unfold QS.next QS.ends
  split <;> rfl
theorem QS.ends_in {s : QS} (g : s.Good) : s.base ≤ s.ends.1 ∧ s.ends.1 ≤ s.ends.2 ∧ s.ends.2 ≤ s.b.length := by
  have hbf : s.base ≤ s.fresh := by
    apply Nat.le_of_not_lt
    intro hlt
    have := (g.ab _ (QS.below_base g hlt))
    omega
  have hfr := g.fr
  have hlo := g.lo
  have hle := QS.firstOf_le s.ow
  have hb := QS.next_base g
  have hr := QS.runTo_le hle
  unfold QS.ends
  split
  · exact ⟨hbf, hfr, Nat.le_refl _⟩
  · simp only
    omega
theorem own_base2 {w : World} {base size : Nat} {e : TypeId} {n c : Nat} {A : Option Addr} {xs : List Value} (h : w.ownsRow base e size (.slice A n c) n xs) : ∀ b off, A = some ⟨b, off, none⟩ → 0 < n → base ≤ b := by
  intro b off ea hn
  obtain ⟨A', c', e', h'⟩ := own_slice h
  injection e' with e1 e2 e3
  obtain ⟨g, e4, h4⟩ := h' hn
  rw [ea, e4] at e1
  injection e1 with e1
  injection e1 with e1 e5
  omega
theorem piece_run {P : Program} {t : TypeId} {i : TypeInfo} {size : Nat} (ht : P.underlying t = some (.slice (P.elem t))) (hi : P.info? (P.elem t) = some i) (hsz : i.size = size) (A : Option Addr) (n c lo hi' : Nat) (h1 : lo ≤ hi') (h2 : hi' ≤ n) (h3 : n ≤ c) :
    ∃ A', (∀ (kl kh : IntKind) (w : World), (Instr.slice t (.slice A n c) (some (.int kl (lo : Int))) (some (.int kh (hi' : Int))) none).run P w = .ok (.slice A' (hi' - lo) (c - lo)) w) ∧
      (∀ w xs, Rd w size A n c xs → Rd w size A' (hi' - lo) (c - lo) ((xs.drop (lo * size)).take ((hi' - lo) * size))) := by
  refine ⟨_, fun kl kh w => ?_, fun w xs h => (h.cut (k := lo) (by omega)).take (by omega)⟩
  rw [run_slice_lh w t A n c ht kl kh (lo : Int) (hi' : Int) (by omega) (by omega) (by omega)]
  simp [sizeOf, typeInfo, hi, hsz, sliced]
/-- What Next hands out. -/
def QS.NextVal (s : QS) (most : Int) (w w' : World) (e : Ending) : Prop := match s.next most with
  | none => e = .returned (.tuple #[.agg #[.int .u64 0, .slice none 0 0], .bool false])
  | some (a, z) => ∃ A' c', e = .returned (.tuple #[.agg #[.int .u64 a, .slice A' (z - a) c'], .bool true]) ∧ Rd w' 1 A' (z - a) c' (U8 ((s.b.drop a).take (z - a))) ∧ ∀ b off, A' = some ⟨b, off, none⟩ → 0 < z - a → w.heap.size ≤ b

set_option maxHeartbeats 1000000 in
set_option maxRecDepth 100000 in
theorem que_next (w : World) (F : Nat → Prop) (q : Nat) (s : QS) (most : Int) (h : QueP w F q s) (hm : most < 9223372036854775808) :
    Calls Try.prog 14 #[.pointer (some ⟨q, 0, none⟩), .int .i64 most] w fun e w' => s.NextVal most w w' e ∧ Below w.heap.size w w' := by
  have hf : s.b.length ≤ 1000000 := h.few
  have H := Lib.hid h
  obtain ⟨A, c, La, A1, c1, A2, c2, hC⟩ := h.ex
  have HC := Lib.hid hC
  have EI := Lib.hid (QS.ends_in h.good)
  clear hC h
  by_cases hm1 : most < 1
  · have HN : Hid (s.next most = none) := by show _ = _; rw [QS.next_eq, if_pos hm1]
    have hb : decide (most < 1) = true := decide_eq_true hm1
    go_enter Try.func14, Try.ntmps14
    go_wp2_with fail
    refine bodyPost_ret (results_cell_tmp_row rfl _ _ w.heap.size _ _ _ _ rfl (heap_alloc_new w _) Try.underlying43 rfl infoPiece) rfl ⟨?_, box_below w _⟩
    unfold QS.NextVal
    rw [HN.out]
    rfl
  · have hb : decide (most < 1) = false := decide_eq_false hm1
    have HN : Hid (s.next most = if s.ends.2 = s.ends.1 then none else some (s.ends.1, min s.ends.2 (s.ends.1 + (min most s.b.length).toNat))) := by show _ = _; rw [QS.next_eq, if_neg hm1]
    have B1 := Lib.hid (box_below w (.cells #[.int .u64 0, .slice none 0 0] 43))
    have XB : Hid ((w.alloc (.cells #[.int .u64 0, .slice none 0 0] 43)).heap[w.heap.size]? = some (.cells #[.int .u64 0, .slice none 0 0] 43 (0, 0))) := heap_alloc_new w _
    go_enter Try.func14, Try.ntmps14
    go_upto_region 3 with fail
    generalize hW : (w.alloc (.cells #[.int .u64 0, .slice none 0 0] 43)) = w1 at *
    clear hW
    have C1 := Lib.hid (HC.out.below B1.out)
    have H1 := Lib.hid (H.out.below B1.out)
    have t0 := cell_of_row w1 q 0 _ _ _ C1.out.t
    have ft0 := frozen_of_row w1 q 0 _ _ C1.out.t
    have t1 := cell_of_row w1 q 1 _ _ _ C1.out.t
    have ft1 := frozen_of_row w1 q 1 _ _ C1.out.t
    have t2 := cell_of_row w1 q 2 _ _ _ C1.out.t
    have ft2 := frozen_of_row w1 q 2 _ _ C1.out.t
    have t3 := cell_of_row w1 q 3 _ _ _ C1.out.t
    have ft3 := frozen_of_row w1 q 3 _ _ C1.out.t
    have t4 := cell_of_row w1 q 4 _ _ _ C1.out.t
    have ft4 := frozen_of_row w1 q 4 _ _ C1.out.t
    have t5 := cell_of_row w1 q 5 _ _ _ C1.out.t
    have ft5 := frozen_of_row w1 q 5 _ _ C1.out.t
    refine wp_region_qt (by kernel_rfl) (by kernel_rfl) ?_
    repeat (first | go_big_quiet_step ((go_at_call 15; exact Qt.callN (que_end _ F q s H1.out.dn))) | quiet_step ((go_at_call 15; exact Qt.callN (que_end _ F q s H1.out.dn))))
    refine wpQuiet_nil ?_
    intro w3 q3
    have B3 : Hid (Below w.heap.size w w3) := B1.out.trans (q3.below (B := w1.heap.size) |>.mono B1.out.size)
    have C3 := Lib.hid (HC.out.below B3.out)
    have X3 := Lib.hid (q3.blk XB.out)
    have NO := Lib.hid (QS.next_owed H.out.good H.out.few)
    have NN := Lib.hid (QS.next_none H.out.good H.out.few)
    have hlo := H.out.good.lo
    have u2 := Lib.hid (rowB_u2 (by rw [hlo]; exact hf))
    have T3 := Lib.hid C3.out.t
    have O3 := Lib.hid (Rd.of_own C3.out.o)
    have R3 := Lib.hid C3.out.r2
    have hbl := s.base_le H.out.good
    clear q3 t0 t1 t2 t3 t4 t5 ft0 ft1 ft2 ft3 ft4 ft5 C1 H1 XB B1 C3
    generalize rowB s.ow = L at *
    have t0 := cell_of_row w3 q 0 _ _ _ T3.out
    have ft0 := frozen_of_row w3 q 0 _ _ T3.out
    have t1 := cell_of_row w3 q 1 _ _ _ T3.out
    have ft1 := frozen_of_row w3 q 1 _ _ T3.out
    have t2 := cell_of_row w3 q 2 _ _ _ T3.out
    have ft2 := frozen_of_row w3 q 2 _ _ T3.out
    have t3 := cell_of_row w3 q 3 _ _ _ T3.out
    have ft3 := frozen_of_row w3 q 3 _ _ T3.out
    have t4 := cell_of_row w3 q 4 _ _ _ T3.out
    have ft4 := frozen_of_row w3 q 4 _ _ T3.out
    have t5 := cell_of_row w3 q 5 _ _ _ T3.out
    have ft5 := frozen_of_row w3 q 5 _ _ T3.out
    go_upto_if 26 with fail
    go_cut [6, 7] (fun s6 s7 wx => s6 = .int .u64 s.ends.1 ∧ s7 = .int .u64 s.ends.2 ∧ Hid (Qt w3 wx))
    case first =>
      rcases Nat.eq_zero_or_pos L.length with hL | hL
      · have e := NN.out hL
        obtain rfl : L = [] := List.eq_nil_of_length_eq_zero hL
        have E1 : Hid (s.ends = (s.fresh, s.b.length)) := by show _ = _; unfold QS.ends; rw [if_pos e]
        clear e hL
        go_wp2_with fail
        go_meet
        rw [E1.out]
        exact ⟨rfl, rfl, Lib.hid (Qt.refl _)⟩
      · obtain ⟨b7, o7, x, y, rfl, He, k0, k1, u1, u2', u3, u4⟩ := R3.out.sp u2.out hL
        simp only [Nat.zero_mul, Nat.add_zero] at k0 k1
        have hLb : decide ((L.length : Int) > 0) = true := decide_eq_true (by omega)
        have hLb' : decide (0 < (L.length : Int)) = true := decide_eq_true (by omega)
        have hi0' : (0 : Int) < (L.length : Int) := by omega
        obtain ⟨n1, n2, n3, n4⟩ := NO.out hL
        rw [He.out] at n1 n2
        simp only at n1 n2
        have hle := QS.runTo_le (QS.firstOf_le s.ow)
        have E1 : Hid (s.ends = (QS.firstOf s.ow, QS.runTo s.ow (QS.firstOf s.ow))) := by show _ = _; unfold QS.ends; rw [if_neg (by omega)]
        have u5 : y + 1 < 18446744073709551616 := by omega
        have n1' := Lib.hid n1
        have n2' := Lib.hid n2
        clear n1 n2 n3 n4 hle
        go_upto_region 5 with fail
        refine wp_region_qt (by kernel_rfl) (by kernel_rfl) ?_
        repeat (go_big_quiet_step (fail))
        refine wpQuiet_nil ?_
        intro w5 q5
        go_wp2_with fail
        go_meet
        rw [E1.out, ← n1'.out, ← n2'.out]
        exact ⟨rfl, rfl, Lib.hid q5⟩
    case rest =>
    obtain ⟨rfl, rfl, Q5⟩ := hcut
    have B5 : Hid (Below w.heap.size w wc) := B3.out.trans (Q5.out.below (B := w3.heap.size) |>.mono B3.out.size)
    have T5 := Lib.hid (Q5.out.blk T3.out)
    have X5 := Lib.hid (Q5.out.blk X3.out)
    have O5 := Lib.hid (O3.out.qt Q5.out)
    clear NO NN u2 R3 T3 X3 O3 B3 Q5 t0 t1 t2 t3 t4 t5 ft0 ft1 ft2 ft3 ft4 ft5
    generalize wc = w5 at *
    obtain ⟨ei1, ei2, ei3⟩ := EI.out
    generalize hE1 : s.ends.1 = a at *
    generalize hE2 : s.ends.2 = z at *
    clear hE1 hE2
    have t0 := cell_of_row w5 q 0 _ _ _ T5.out
    have ft0 := frozen_of_row w5 q 0 _ _ T5.out
    have t1 := cell_of_row w5 q 1 _ _ _ T5.out
    have ft1 := frozen_of_row w5 q 1 _ _ T5.out
    have t2 := cell_of_row w5 q 2 _ _ _ T5.out
    have ft2 := frozen_of_row w5 q 2 _ _ T5.out
    have t3 := cell_of_row w5 q 3 _ _ _ T5.out
    have ft3 := frozen_of_row w5 q 3 _ _ T5.out
    have t4 := cell_of_row w5 q 4 _ _ _ T5.out
    have ft4 := frozen_of_row w5 q 4 _ _ T5.out
    have t5 := cell_of_row w5 q 5 _ _ _ T5.out
    have ft5 := frozen_of_row w5 q 5 _ _ T5.out
    have x0 := cell_of_row w5 w.heap.size 0 _ _ _ X5.out
    have fx0 := frozen_of_row w5 w.heap.size 0 _ _ X5.out
    have x1 := cell_of_row w5 w.heap.size 1 _ _ _ X5.out
    have fx1 := frozen_of_row w5 w.heap.size 1 _ _ X5.out
    by_cases hz : z = a
    · have HN2 : Hid (s.next most = none) := by show _ = _; rw [HN.out, if_pos hz]
      subst hz
      go_wp2_with fail
      have E5 := Lib.hid (heap_setCell_same _ w.heap.size 1 _ _ (.slice none 0 0) (heap_setCell_same w5 w.heap.size 0 _ _ (.int .u64 0) X5.out))
      refine bodyPost_ret (results_cell_tmp_row rfl _ _ w.heap.size _ _ _ _ rfl E5.out Try.underlying43 rfl infoPiece) rfl ⟨?_, ?_⟩
      · unfold QS.NextVal
        rw [HN2.out]
        rfl
      · have hb5 := B5.out
        repeat (first | exact Below.refl _ _ | exact hb5 | (refine Below.setCell ?_ (by first | exact Nat.le_refl _ | omega | (simp; done) | (simp; omega)) _) | (refine Below.alloc ?_ (by first | exact Nat.le_refl _ | omega | (simp; done) | (simp; omega)) _) | (refine Below.drew ?_) | (refine below_drewN ?_ _))
    · have hzb : ((z : Int) == (a : Int)) = false := by simp; omega
      have hzb' : decide ((a : Int) = (z : Int)) = false := decide_eq_false (by omega)
      have hzb2 : decide ((z : Int) = (a : Int)) = false := decide_eq_false (by omega)
      obtain ⟨z', hz'⟩ : ∃ z' : Nat, z' = min z (a + (min most s.b.length).toNat) := ⟨_, rfl⟩
      have HN2 : Hid (s.next most = some (a, z')) := by show _ = _; rw [HN.out, if_neg hz, ← hz']
      have HZ : Hid ((z' : Int) = min (z : Int) ((a : Int) + most)) := by show _ = _; omega
      have l1 : a ≤ z' := by omega
      have l2 : z' ≤ s.b.length := by omega
      clear hz' hz
      obtain ⟨iB, hiB, bz0, bz1, bz2⟩ := info_parts infoByte
      obtain ⟨AB, hrunB, hcutB⟩ := piece_run (P := Try.prog) (t := 38) Try.underlying38 hiB bz1 A (s.b.length - s.base) c (a - s.base) (z' - s.base) (by omega) (by omega) O5.out.cap
      have RB := Lib.hid (hcutB w5.drew _ O5.out.drew)
      have e1 : z' - s.base - (a - s.base) = z' - a := by omega
      have e2 : ((a - s.base : Nat) : Int) = (a : Int) - s.base := by omega
      have e3 : ((z' - s.base : Nat) : Int) = (z' : Int) - s.base := by omega
      rw [e1] at RB hrunB
      rw [e2, e3] at hrunB
      have wa : IntKind.u64.wrap ((a : Int) - s.base) = (a : Int) - s.base := IntWalk.u64_in _ (by omega)
      have wz : IntKind.u64.wrap ((z' : Int) - s.base) = (z' : Int) - s.base := IntWalk.u64_in _ (by omega)
      have wm : IntKind.u64.wrap most = most := IntWalk.u64_in _ (by omega)
      have wm2 : IntKind.u64.wrap ((a : Int) + most) = (a : Int) + most := IntWalk.u64_in _ (by omega)
      have hx : (((U8 (s.b.drop s.base)).drop ((a - s.base) * 1)).take ((z' - a) * 1)) = U8 ((s.b.drop a).take (z' - a)) := by
        simp [U8, ← List.map_drop, ← List.map_take, List.drop_drop, show s.base + (a - s.base) = a by omega]
      rw [hx] at RB
      clear hcutB e1 e2 e3 hx
      go_upto_region 9 with fail
      rw [← HZ.out]
      have hc := O5.out.cap
      have hmx := O5.out.max
      unfold maxLen at hmx
      go_region_law
        ((refine step_append_rd _ (by rfl) (.const (.slice none 0 0)) (.tmp 69) 38 (by rfl) w5.heap.size 5 iB _ 1 1 Try.underlying38 hiB bz0 bz1 bz2 rfl (by decide) (.slice none 0 0) 0 [] (by rfl) (World.ownsRow_nil _ _ _ _)
              AB (z' - a) (c - (a - s.base)) (U8 ((s.b.drop a).take (z' - a))) (by rfl) RB.out (U8_one _) (by unfold maxLen; omega) (by omega) (by simp) ?_; intro v6 w6 ho6 hg6 hv6
          rw [Nat.zero_add, List.nil_append] at ho6
          obtain ⟨A6, c6, ev6, hA6⟩ := own_slice ho6
          subst ev6
          have HV6 := Lib.hid hv6
          have HO6 := Lib.hid ho6
          have B6 : Hid (Below w5.heap.size w5 w6) := ((Below.refl _ _).drew).grown hg6 (Nat.le_refl _) (fun g hg => by simp [Value.ownBlock] at hg)
          have X6 := Lib.hid ((B6.out.block w.heap.size (lt_of_block X5.out)).trans X5.out)
          clear ho6 hg6 hv6 hA6
          have y0 := cell_of_row w6 w.heap.size 0 _ _ _ X6.out
          have fy0 := frozen_of_row w6 w.heap.size 0 _ _ X6.out
          have y1 := cell_of_row w6 w.heap.size 1 _ _ _ X6.out
          have fy1 := frozen_of_row w6 w.heap.size 1 _ _ X6.out))
      all_goals go_wp2_with fail
      all_goals
        have E6 := Lib.hid (heap_setCell_same _ w.heap.size 1 _ _ (.slice A6 (z' - a) c6) (heap_setCell_same w6 w.heap.size 0 _ _ (.int .u64 a) X6.out))
        have hs5 := B5.out.size
        refine bodyPost_ret (results_cell_tmp_row rfl _ _ w.heap.size _ _ _ _ rfl E6.out Try.underlying43 rfl infoPiece) rfl ⟨?_, ?_⟩
        · unfold QS.NextVal
          rw [HN2.out]
          refine ⟨A6, c6, rfl, ?_, fun b off e hn => Nat.le_trans hs5 (own_base2 HO6.out b off e hn)⟩
          have h5 := lt_of_block X5.out
          exact (Rd.of_own HO6.out).chg (((Chg.refl (fun j => j = w.heap.size) w6).setCell (p := ⟨w.heap.size, 0, none⟩) (.inl rfl) _).setCell (p := ⟨w.heap.size, 1, none⟩) (.inl rfl) _) (fun b off e hn e' => by have := own_base2 HO6.out b off e hn; omega)
        · have hb6 := B5.out.trans (B6.out.mono hs5)
          repeat (first | exact Below.refl _ _ | exact hb6 | (refine Below.setCell ?_ (by first | exact Nat.le_refl _ | omega | (simp; done) | (simp; omega)) _) | (refine Below.alloc ?_ (by first | exact Nat.le_refl _ | omega | (simp; done) | (simp; omega)) _) | (refine Below.drew ?_) | (refine below_drewN ?_ _))

end Go.Proofs.Ytilgekmpkoohaaa
