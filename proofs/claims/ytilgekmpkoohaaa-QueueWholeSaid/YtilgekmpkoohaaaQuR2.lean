/-
  The reference's queue: Acked, Lost, Sent.
-/
import Derived.Test.YtilgekmpkoohaaaQuR1
namespace Go.Proofs.Ytilgekmpkoohaaa
set_option linter.unusedSimpArgs false
set_option linter.unusedVariables false
set_option linter.unnecessarySimpa false
open Go.RowKit
attribute [local go_sem ↓] run_min_int run_max_int

theorem own_put {w : World} {base : Nat} {e : TypeId} {g n cap k : Nat} {xs : List Value} (h : w.ownsRow base e 1 (.slice (some ⟨g, 0, none⟩) n cap) n xs) (hk : k < n) (u : Value) :
    (w.setCell ⟨g, k, none⟩ u).ownsRow base e 1 (.slice (some ⟨g, 0, none⟩) n cap) n (xs.set k u) := by
  obtain ⟨h1, h2⟩ := h
  refine ⟨by rw [List.length_set]; exact h1, ?_⟩
  rcases h2 with ⟨h2, -⟩ | ⟨g', cap', cur, hv, hb, hg, hn, hm, hs, ht⟩
  · cases h2
  · injection hv with e1 e2 e3
    injection e1 with e1
    injection e1 with e1
    subst e1 e3
    refine .inr ⟨g, cap, cur.setIfInBounds k u, rfl, hb, heap_setCell_same w g k _ _ u hg, hn, hm, by simpa using hs, ?_⟩
    rw [Array.toList_setIfInBounds, List.take_set, ht]
theorem own_cell {w : World} {base : Nat} {e : TypeId} {n c k : Nat} {A : Option Addr} {l : List Bool} (h : w.ownsRow base e 1 (.slice A n c) n (Bs l)) (hk : k < n) :
    ∃ g, A = some ⟨g, 0, none⟩ ∧ w.cell? ⟨g, k, none⟩ = some (.bool (l.getD k false)) ∧ w.frozen? ⟨g, k, none⟩ = false := by
  obtain ⟨A', c', e', h'⟩ := own_slice h
  injection e' with e1 e2 e3
  obtain ⟨g, eg, -⟩ := h' (by omega)
  rw [← e1] at eg
  subst eg
  obtain ⟨b, off, eb, hc⟩ := (Rd.of_own h).bool hk
  injection eb with eb
  injection eb with eb1 eb2
  subst eb1 eb2
  refine ⟨g, rfl, by simpa using hc, ?_⟩
  rcases h.2 with ⟨h2, -⟩ | ⟨g', cap', cur, hv, hb, hg, -⟩
  · cases h2
  · injection hv with f1 f2 f3
    injection f1 with f1
    injection f1 with f1
    subst f1
    exact frozen_of_row w g k _ _ hg
theorem Bs_set (l : List Bool) (k : Nat) (b : Bool) : (Bs l).set k (.bool b) = Bs (l.set k b) := by simp [Bs, List.map_set]
theorem QuRC.setAk {w : World} {F : Nat → Prop} {q g k : Nat} {s : QS} {A A2 : Option Addr} {c c1 c2 : Nat} (h : QuRC w F q s A c (some ⟨g, 0, none⟩) c1 A2 c2) (hk : k < s.ak.length) (b : Bool) :
    QuRC (w.setCell ⟨g, k, none⟩ (.bool b)) F q { s with ak := s.ak.set k b } A c (some ⟨g, 0, none⟩) c1 A2 c2 := by
  obtain ⟨f1, f2, f3⟩ := h.fo1 g rfl
  have hC : Chg (fun j => j = g) w (w.setCell ⟨g, k, none⟩ (.bool b)) := (Chg.refl (fun j => j = g) w).setCell (p := ⟨g, k, none⟩) (.inl rfl) _
  have e : (s.ak.set k b).length = s.ak.length := List.length_set
  refine ⟨?_, own_chg h.o hC (fun j hj e => f3 (e ▸ hj)), ?_, own_chg h.o2 hC (fun j hj e => (h.fo2 j hj).2.2.2 (by rw [e]; rfl)), h.fq, h.fo, ?_, ?_⟩
  · show _ = some (Obj.cells #[.int .i64 s.room, .slice A s.b.length c, .slice (some ⟨g, 0, none⟩) (s.ak.set k b).length c1, .slice A2 s.ow.length c2, .int .i64 s.fresh] _ (0, 0))
    rw [e]
    exact hC.blk h.t (fun e => f2 e.symm)
  · show World.ownsRow _ _ _ _ (.slice (some ⟨g, 0, none⟩) (s.ak.set k b).length c1) (s.ak.set k b).length (Bs (s.ak.set k b))
    rw [e, ← Bs_set]
    exact own_put h.o1 hk _
  · exact fun j hj => h.fo1 j hj
  · exact fun j hj => h.fo2 j hj
theorem QuRC.setOw {w : World} {F : Nat → Prop} {q g k : Nat} {s : QS} {A A1 : Option Addr} {c c1 c2 : Nat} (h : QuRC w F q s A c A1 c1 (some ⟨g, 0, none⟩) c2) (hk : k < s.ow.length) (b : Bool) :
    QuRC (w.setCell ⟨g, k, none⟩ (.bool b)) F q { s with ow := s.ow.set k b } A c A1 c1 (some ⟨g, 0, none⟩) c2 := by
  obtain ⟨f1, f2, f3, f4⟩ := h.fo2 g rfl
  have hC : Chg (fun j => j = g) w (w.setCell ⟨g, k, none⟩ (.bool b)) := (Chg.refl (fun j => j = g) w).setCell (p := ⟨g, k, none⟩) (.inl rfl) _
  have e : (s.ow.set k b).length = s.ow.length := List.length_set
  refine ⟨?_, own_chg h.o hC (fun j hj e => f3 (e ▸ hj)), own_chg h.o1 hC (fun j hj e => f4 (e ▸ hj)), ?_, h.fq, h.fo, h.fo1, ?_⟩
  · show _ = some (Obj.cells #[.int .i64 s.room, .slice A s.b.length c, .slice A1 s.ak.length c1, .slice (some ⟨g, 0, none⟩) (s.ow.set k b).length c2, .int .i64 s.fresh] _ (0, 0))
    rw [e]
    exact hC.blk h.t (fun e => f2 e.symm)
  · show World.ownsRow _ _ _ _ (.slice (some ⟨g, 0, none⟩) (s.ow.set k b).length c2) (s.ow.set k b).length (Bs (s.ow.set k b))
    rw [e, ← Bs_set]
    exact own_put h.o2 hk _
  · exact fun j hj => h.fo2 j hj

set_option maxHeartbeats 2000000 in
set_option maxRecDepth 100000 in
theorem quR_acked (w : World) (F : Nat → Prop) (q : Nat) (s : QS) (off n : Int) (h : QuRP w F q s) (ho : isU64 off) (hn : isU64 n) :
    Calls Try.prog 35 #[.pointer (some ⟨q, 0, none⟩), .int .u64 off, .int .u64 n] w fun e w' => e = .returned (.bool (s.acked off n).2) ∧ QuRP w' F q (s.acked off n).1 ∧ Chg F w w' := by
  have hf : s.b.length ≤ 1000000 := h.few
  obtain ⟨o0, o1⟩ := ho
  obtain ⟨n0, n1⟩ := hn
  have U1 : Hid (isU64 off) := ⟨o0, o1⟩
  have U2 : Hid (isU64 n) := ⟨n0, n1⟩
  have H := Lib.hid h
  have hfr := h.good.fr
  have hla := h.good.la
  have hlo := h.good.lo
  obtain ⟨A, c, A1, c1, A2, c2, hC⟩ := h.ex
  have HC := Lib.hid hC
  clear h hC
  have t0 := cell_of_row w q 0 _ _ _ HC.out.t
  have t1 := cell_of_row w q 1 _ _ _ HC.out.t
  have t2 := cell_of_row w q 2 _ _ _ HC.out.t
  have t3 := cell_of_row w q 3 _ _ _ HC.out.t
  have t4 := cell_of_row w q 4 _ _ _ HC.out.t
  by_cases hw : QS.within off n s.fresh
  · have HA := Lib.hid (decide_eq_true hw)
    have HW := Lib.hid hw
    obtain ⟨w1', w2', w3'⟩ := hw
    have HS := Lib.hid (show s.acked off n = ({ s with ak := paint true off.toNat (off + n).toNat s.ak, ow := paint false off.toNat (off + n).toNat s.ow }, true) from if_pos HW.out)
    have GA := Lib.hid (H.out.good.acked (off := off) (n := n) o0).1
    rw [HS.out] at GA ⊢
    have hq := lt_of_block HC.out.t
    have wo : IntKind.i64.wrap off = off := IntWalk.i64_in _ (by omega)
    have won : IntKind.i64.wrap (off + n) = off + n := IntWalk.i64_in _ (by omega)
    go_enter Try.func35, Try.ntmps35
    go_wp2_with fail
    refine (withinR_any off n s.fresh _ U1.out U2.out (by omega)).mono ?_
    rw [HA.out]
    rintro e v2 ⟨rfl, rfl⟩
    go_wp2
    go_loopw [7] (fun i wr => ∃ k : Nat, off.toNat ≤ k ∧ k ≤ (off + n).toNat ∧ i = .int .i64 k ∧ Hid (QuRC wr F q { s with ak := paint true off.toNat k s.ak, ow := paint false off.toNat k s.ow } A c A1 c1 A2 c2) ∧ Hid (Chg F w wr)) (fun i _ => (off + n).toNat - (intOf i).toNat)
    case atStart => exact ⟨off.toNat, Nat.le_refl _, by omega, by rw [Int.toNat_of_nonneg o0], Lib.hid (by rw [paint_none, paint_none]; exact HC.out), Lib.hid (Chg.refl _ _)⟩
    case round =>
      obtain ⟨k, hk0, hk1, rfl, S, D⟩ := hrel
      clear t0 t1 t2 t3 t4
      by_cases hlt : k < (off + n).toNat
      · have hb : decide ((k : Int) < off + n) = true := decide_eq_true (by omega)
        obtain ⟨g1, rfl, x1, fx1⟩ := own_cell S.out.o1 (k := k) (by simp; omega)
        have S1 := Lib.hid (S.out.setAk (k := k) (by simp; omega) true)
        obtain ⟨g2, rfl, x2, fx2⟩ := own_cell S1.out.o2 (k := k) (by simp; omega)
        have S2 := Lib.hid (S1.out.setOw (k := k) (by simp; omega) false)
        have D2 := Lib.hid ((D.out.setCell (p := ⟨g1, k, none⟩) (.inl (S.out.fo1 g1 rfl).1) (.bool true)).setCell (p := ⟨g2, k, none⟩) (.inl (S.out.fo2 g2 rfl).1) (.bool false))
        have E1 := Lib.hid (paint_step true off.toNat k s.ak hk0 (by omega))
        have E2 := Lib.hid (paint_step false off.toNat k s.ow hk0 (by omega))
        have t0 := cell_of_row wr q 0 _ _ _ S.out.t
        have ft0 := frozen_of_row wr q 0 _ _ S.out.t
        have t1 := cell_of_row wr q 1 _ _ _ S.out.t
        have ft1 := frozen_of_row wr q 1 _ _ S.out.t
        have t2 := cell_of_row wr q 2 _ _ _ S.out.t
        have ft2 := frozen_of_row wr q 2 _ _ S.out.t
        have t3 := cell_of_row wr q 3 _ _ _ S.out.t
        have ft3 := frozen_of_row wr q 3 _ _ S.out.t
        have t4 := cell_of_row wr q 4 _ _ _ S.out.t
        have ft4 := frozen_of_row wr q 4 _ _ S.out.t
        have y0 := cell_of_row _ q 0 _ _ _ S1.out.t
        have fy0 := frozen_of_row _ q 0 _ _ S1.out.t
        have y1 := cell_of_row _ q 1 _ _ _ S1.out.t
        have fy1 := frozen_of_row _ q 1 _ _ S1.out.t
        have y2 := cell_of_row _ q 2 _ _ _ S1.out.t
        have fy2 := frozen_of_row _ q 2 _ _ S1.out.t
        have y3 := cell_of_row _ q 3 _ _ _ S1.out.t
        have fy3 := frozen_of_row _ q 3 _ _ S1.out.t
        have y4 := cell_of_row _ q 4 _ _ _ S1.out.t
        have fy4 := frozen_of_row _ q 4 _ _ S1.out.t
        simp only [paint_length] at t1 t2 t3 y1 y2 y3
        go_wp2
        refine ⟨⟨k + 1, by omega, by omega, by go_num, Lib.hid ?_, D2⟩, ?_⟩
        · rw [← E1.out, ← E2.out]
          exact S2.out
        · simp [intOf]
          omega
      · have hb : decide ((k : Int) < off + n) = false := decide_eq_false (by omega)
        obtain rfl : k = (off + n).toNat := by omega
        have t0 := cell_of_row wr q 0 _ _ _ S.out.t
        have ft0 := frozen_of_row wr q 0 _ _ S.out.t
        have t1 := cell_of_row wr q 1 _ _ _ S.out.t
        have ft1 := frozen_of_row wr q 1 _ _ S.out.t
        have t2 := cell_of_row wr q 2 _ _ _ S.out.t
        have ft2 := frozen_of_row wr q 2 _ _ S.out.t
        have t3 := cell_of_row wr q 3 _ _ _ S.out.t
        have ft3 := frozen_of_row wr q 3 _ _ S.out.t
        have t4 := cell_of_row wr q 4 _ _ _ S.out.t
        have ft4 := frozen_of_row wr q 4 _ _ S.out.t
        go_wp2
        go_ret
        exact ⟨rfl, ⟨GA.out, H.out.few, _, _, _, _, _, _, S.out⟩, D.out⟩
  · have HA := Lib.hid (decide_eq_false hw)
    have HS := Lib.hid (show s.acked off n = (s, false) from if_neg hw)
    rw [HS.out]
    clear hw
    go_enter Try.func35, Try.ntmps35
    go_wp2_with fail
    refine (withinR_any off n s.fresh _ U1.out U2.out (by omega)).mono ?_
    rw [HA.out]
    rintro e v2 ⟨rfl, rfl⟩
    go_wp2
    go_ret
    exact ⟨rfl, H.out, Chg.refl _ _⟩

set_option maxHeartbeats 2000000 in
set_option maxRecDepth 100000 in
theorem quR_lost (w : World) (F : Nat → Prop) (q : Nat) (s : QS) (off n : Int) (h : QuRP w F q s) (ho : isU64 off) (hn : isU64 n) :
    Calls Try.prog 36 #[.pointer (some ⟨q, 0, none⟩), .int .u64 off, .int .u64 n] w fun e w' => e = .returned (.bool (s.lost off n).2) ∧ QuRP w' F q (s.lost off n).1 ∧ Chg F w w' := by
  have hf : s.b.length ≤ 1000000 := h.few
  obtain ⟨o0, o1⟩ := ho
  obtain ⟨n0, n1⟩ := hn
  have U1 : Hid (isU64 off) := ⟨o0, o1⟩
  have U2 : Hid (isU64 n) := ⟨n0, n1⟩
  have H := Lib.hid h
  have hfr := h.good.fr
  have hla := h.good.la
  have hlo := h.good.lo
  obtain ⟨A, c, A1, c1, A2, c2, hC⟩ := h.ex
  have HC := Lib.hid hC
  clear h hC
  have t0 := cell_of_row w q 0 _ _ _ HC.out.t
  have t1 := cell_of_row w q 1 _ _ _ HC.out.t
  have t2 := cell_of_row w q 2 _ _ _ HC.out.t
  have t3 := cell_of_row w q 3 _ _ _ HC.out.t
  have t4 := cell_of_row w q 4 _ _ _ HC.out.t
  by_cases hw : QS.within off n s.fresh
  · have HA := Lib.hid (decide_eq_true hw)
    have HW := Lib.hid hw
    obtain ⟨w1', w2', w3'⟩ := hw
    have HS := Lib.hid (show s.lost off n = ({ s with ow := owe s.ak off.toNat (off + n).toNat s.ow }, true) from if_pos HW.out)
    have GA := Lib.hid (H.out.good.lost (off := off) (n := n) o0).1
    rw [HS.out] at GA ⊢
    have hq := lt_of_block HC.out.t
    have wo : IntKind.i64.wrap off = off := IntWalk.i64_in _ (by omega)
    have won : IntKind.i64.wrap (off + n) = off + n := IntWalk.i64_in _ (by omega)
    go_enter Try.func36, Try.ntmps36
    go_wp2_with fail
    refine (withinR_any off n s.fresh _ U1.out U2.out (by omega)).mono ?_
    rw [HA.out]
    rintro e v2 ⟨rfl, rfl⟩
    go_wp2
    go_loopw [7] (fun i wr => ∃ k : Nat, off.toNat ≤ k ∧ k ≤ (off + n).toNat ∧ i = .int .i64 k ∧ Hid (QuRC wr F q { s with ow := owe s.ak off.toNat k s.ow } A c A1 c1 A2 c2) ∧ Hid (Chg F w wr)) (fun i _ => (off + n).toNat - (intOf i).toNat)
    case atStart => exact ⟨off.toNat, Nat.le_refl _, by omega, by rw [Int.toNat_of_nonneg o0], Lib.hid (by rw [owe_none]; exact HC.out), Lib.hid (Chg.refl _ _)⟩
    case round =>
      obtain ⟨k, hk0, hk1, rfl, S, D⟩ := hrel
      clear t0 t1 t2 t3 t4
      by_cases hlt : k < (off + n).toNat
      · have hb : decide ((k : Int) < off + n) = true := decide_eq_true (by omega)
        obtain ⟨g1, rfl, x1, fx1⟩ := own_cell S.out.o1 (k := k) (by simp; omega)
        obtain ⟨g2, rfl, x2, fx2⟩ := own_cell S.out.o2 (k := k) (by simp; omega)
        have E1 := Lib.hid (owe_step s.ak off.toNat k s.ow hk0 (by omega))
        have t0 := cell_of_row wr q 0 _ _ _ S.out.t
        have ft0 := frozen_of_row wr q 0 _ _ S.out.t
        have t1 := cell_of_row wr q 1 _ _ _ S.out.t
        have ft1 := frozen_of_row wr q 1 _ _ S.out.t
        have t2 := cell_of_row wr q 2 _ _ _ S.out.t
        have ft2 := frozen_of_row wr q 2 _ _ S.out.t
        have t3 := cell_of_row wr q 3 _ _ _ S.out.t
        have ft3 := frozen_of_row wr q 3 _ _ S.out.t
        have t4 := cell_of_row wr q 4 _ _ _ S.out.t
        have ft4 := frozen_of_row wr q 4 _ _ S.out.t
        simp only [owe_length] at t1 t2 t3
        by_cases hak : s.ak.getD k false = true
        · have E2 := E1.out
          rw [if_pos hak] at E2
          have E3 := Lib.hid E2
          clear E1 E2
          simp only [hak] at x1
          go_wp2
          refine ⟨⟨k + 1, by omega, by omega, by go_num, Lib.hid ?_, D⟩, ?_⟩
          · rw [← E3.out]
            exact S.out
          · simp [intOf]
            omega
        · have hak' : s.ak.getD k false = false := by simpa using hak
          have E2 := E1.out
          rw [if_neg hak] at E2
          have E3 := Lib.hid E2
          have S2 := Lib.hid (S.out.setOw (k := k) (by simp; omega) true)
          have D2 := Lib.hid (D.out.setCell (p := ⟨g2, k, none⟩) (.inl (S.out.fo2 g2 rfl).1) (.bool true))
          clear E1 E2
          simp only [hak'] at x1
          go_wp2
          refine ⟨⟨k + 1, by omega, by omega, by go_num, Lib.hid ?_, D2⟩, ?_⟩
          · rw [← E3.out]
            exact S2.out
          · simp [intOf]
            omega
      · have hb : decide ((k : Int) < off + n) = false := decide_eq_false (by omega)
        obtain rfl : k = (off + n).toNat := by omega
        have t0 := cell_of_row wr q 0 _ _ _ S.out.t
        have ft0 := frozen_of_row wr q 0 _ _ S.out.t
        have t1 := cell_of_row wr q 1 _ _ _ S.out.t
        have ft1 := frozen_of_row wr q 1 _ _ S.out.t
        have t2 := cell_of_row wr q 2 _ _ _ S.out.t
        have ft2 := frozen_of_row wr q 2 _ _ S.out.t
        have t3 := cell_of_row wr q 3 _ _ _ S.out.t
        have ft3 := frozen_of_row wr q 3 _ _ S.out.t
        have t4 := cell_of_row wr q 4 _ _ _ S.out.t
        have ft4 := frozen_of_row wr q 4 _ _ S.out.t
        go_wp2
        go_ret
        exact ⟨rfl, ⟨GA.out, H.out.few, _, _, _, _, _, _, S.out⟩, D.out⟩
  · have HA := Lib.hid (decide_eq_false hw)
    have HS := Lib.hid (show s.lost off n = (s, false) from if_neg hw)
    rw [HS.out]
    clear hw
    go_enter Try.func36, Try.ntmps36
    go_wp2_with fail
    refine (withinR_any off n s.fresh _ U1.out U2.out (by omega)).mono ?_
    rw [HA.out]
    rintro e v2 ⟨rfl, rfl⟩
    go_wp2
    go_ret
    exact ⟨rfl, H.out, Chg.refl _ _⟩

end Go.Proofs.Ytilgekmpkoohaaa
