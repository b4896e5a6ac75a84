/-
  The reference's queue: Sent, Owed.
-/
import Derived.Test.YtilgekmpkoohaaaQuR2
namespace Go.Proofs.Ytilgekmpkoohaaa
set_option linter.unusedSimpArgs false
set_option linter.unusedVariables false
set_option linter.unnecessarySimpa false
open Go.RowKit
attribute [local go_sem ↓] run_min_int run_max_int

theorem QuRC.setFr {w : World} {F : Nat → Prop} {q : Nat} {s : QS} {A A1 A2 : Option Addr} {c c1 c2 : Nat} (h : QuRC w F q s A c A1 c1 A2 c2) (f : Nat) :
    QuRC (w.setCell ⟨q, 4, none⟩ (.int .i64 f)) F q { s with fresh := f } A c A1 c1 A2 c2 := by
  have hC : Chg (fun j => j = q) w (w.setCell ⟨q, 4, none⟩ (.int .i64 f)) := (Chg.refl (fun j => j = q) w).setCell (p := ⟨q, 4, none⟩) (.inl rfl) _
  exact ⟨by simpa using heap_setCell_same w q 4 _ _ (.int .i64 f) h.t, own_chg h.o hC (fun j hj e => (h.fo j hj).2 e), own_chg h.o1 hC (fun j hj e => (h.fo1 j hj).2.1 e), own_chg h.o2 hC (fun j hj e => (h.fo2 j hj).2.1 e), h.fq, h.fo, h.fo1, h.fo2⟩

set_option maxHeartbeats 2000000 in
set_option maxRecDepth 100000 in
theorem quR_sent (w : World) (F : Nat → Prop) (q : Nat) (s : QS) (off n : Int) (h : QuRP w F q s) (ho : isU64 off) (hn : isU64 n) :
    Calls Try.prog 34 #[.pointer (some ⟨q, 0, none⟩), .int .u64 off, .int .u64 n] w fun e w' => e = .returned (.bool (s.sent off n).2) ∧ QuRP w' F q (s.sent off n).1 ∧ Chg F w w' := by
  have hf : s.b.length ≤ 1000000 := h.few
  obtain ⟨o0, o1⟩ := ho
  obtain ⟨n0, n1⟩ := hn
  have U1 : Hid (isU64 off) := ⟨o0, o1⟩
  have U2 : Hid (isU64 n) := ⟨n0, n1⟩
  have H := Lib.hid h
  have hfr := h.good.fr
  have hla := h.good.la
  have hlo := h.good.lo
  obtain ⟨A, c, A1, c1, A2, c2, hC⟩ := h.ex
  have HC := Lib.hid hC
  clear h hC
  have t0 := cell_of_row w q 0 _ _ _ HC.out.t
  have t1 := cell_of_row w q 1 _ _ _ HC.out.t
  have t2 := cell_of_row w q 2 _ _ _ HC.out.t
  have t3 := cell_of_row w q 3 _ _ _ HC.out.t
  have t4 := cell_of_row w q 4 _ _ _ HC.out.t
  have wf : IntKind.u64.wrap (s.fresh : Int) = (s.fresh : Int) := IntWalk.u64_in _ (by omega)
  by_cases hw : QS.within off n s.b.length
  · have HA := Lib.hid (decide_eq_true hw)
    have HW := Lib.hid hw
    obtain ⟨w1', w2', w3'⟩ := hw
    by_cases hs : off ≤ s.fresh
    · have HS := Lib.hid (show s.sent off n = ({ s with ow := paint false off.toNat (off + n).toNat s.ow, fresh := max s.fresh (off + n).toNat }, true) from if_pos ⟨HW.out, hs⟩)
      have GA := Lib.hid (H.out.good.sent (off := off) (n := n) o0).1
      rw [HS.out] at GA ⊢
      have hs1 : decide (off > (s.fresh : Int)) = false := decide_eq_false (by omega)
      have hs2 : decide ((s.fresh : Int) < off) = false := decide_eq_false (by omega)
      have hq := lt_of_block HC.out.t
      have wo : IntKind.i64.wrap off = off := IntWalk.i64_in _ (by omega)
      have won : IntKind.i64.wrap (off + n) = off + n := IntWalk.i64_in _ (by omega)
      go_enter Try.func34, Try.ntmps34
      go_wp2_with fail
      refine (withinR_any off n s.b.length _ U1.out U2.out (by omega)).mono ?_
      rw [HA.out]
      rintro e v2 ⟨rfl, rfl⟩
      go_wp2
      go_loopw [7] (fun i wr => ∃ k : Nat, off.toNat ≤ k ∧ k ≤ (off + n).toNat ∧ i = .int .i64 k ∧ Hid (QuRC wr F q { s with ow := paint false off.toNat k s.ow } A c A1 c1 A2 c2) ∧ Hid (Chg F w wr)) (fun i _ => (off + n).toNat - (intOf i).toNat)
      case atStart => exact ⟨off.toNat, Nat.le_refl _, by omega, by rw [Int.toNat_of_nonneg o0], Lib.hid (by rw [paint_none]; exact HC.out), Lib.hid (Chg.refl _ _)⟩
      case round =>
        obtain ⟨k, hk0, hk1, rfl, S, D⟩ := hrel
        clear t0 t1 t2 t3 t4
        by_cases hlt : k < (off + n).toNat
        · have hb : decide ((k : Int) < off + n) = true := decide_eq_true (by omega)
          obtain ⟨g2, rfl, x2, fx2⟩ := own_cell S.out.o2 (k := k) (by simp; omega)
          have S2 := Lib.hid (S.out.setOw (k := k) (by simp; omega) false)
          have D2 := Lib.hid (D.out.setCell (p := ⟨g2, k, none⟩) (.inl (S.out.fo2 g2 rfl).1) (.bool false))
          have E2 := Lib.hid (paint_step false off.toNat k s.ow hk0 (by omega))
          have t0 := cell_of_row wr q 0 _ _ _ S.out.t
          have ft0 := frozen_of_row wr q 0 _ _ S.out.t
          have t1 := cell_of_row wr q 1 _ _ _ S.out.t
          have ft1 := frozen_of_row wr q 1 _ _ S.out.t
          have t2 := cell_of_row wr q 2 _ _ _ S.out.t
          have ft2 := frozen_of_row wr q 2 _ _ S.out.t
          have t3 := cell_of_row wr q 3 _ _ _ S.out.t
          have ft3 := frozen_of_row wr q 3 _ _ S.out.t
          have t4 := cell_of_row wr q 4 _ _ _ S.out.t
          have ft4 := frozen_of_row wr q 4 _ _ S.out.t
          simp only [paint_length] at t1 t2 t3
          go_wp2
          refine ⟨⟨k + 1, by omega, by omega, by go_num, Lib.hid ?_, D2⟩, ?_⟩
          · rw [← E2.out]
            exact S2.out
          · simp [intOf]
            omega
        · have hb : decide ((k : Int) < off + n) = false := decide_eq_false (by omega)
          obtain rfl : k = (off + n).toNat := by omega
          have t0 := cell_of_row wr q 0 _ _ _ S.out.t
          have ft0 := frozen_of_row wr q 0 _ _ S.out.t
          have t1 := cell_of_row wr q 1 _ _ _ S.out.t
          have ft1 := frozen_of_row wr q 1 _ _ S.out.t
          have t2 := cell_of_row wr q 2 _ _ _ S.out.t
          have ft2 := frozen_of_row wr q 2 _ _ S.out.t
          have t3 := cell_of_row wr q 3 _ _ _ S.out.t
          have ft3 := frozen_of_row wr q 3 _ _ S.out.t
          have t4 := cell_of_row wr q 4 _ _ _ S.out.t
          have ft4 := frozen_of_row wr q 4 _ _ S.out.t
          have S2 := Lib.hid (S.out.setFr (max s.fresh (off + n).toNat))
          have D2 := Lib.hid (D.out.setCell (p := ⟨q, 4, none⟩) (.inl S.out.fq) (.int .i64 ((max s.fresh (off + n).toNat : Nat) : Int)))
          have ef : ((max s.fresh (off + n).toNat : Nat) : Int) = max (s.fresh : Int) (off + n) := by omega
          have HF := Lib.hid ef
          clear ef
          go_wp2
          go_ret
          rw [← HF.out]
          exact ⟨rfl, ⟨GA.out, H.out.few, _, _, _, _, _, _, S2.out⟩, D2.out⟩
    · have HS := Lib.hid (show s.sent off n = (s, false) from if_neg (fun e => hs e.2))
      rw [HS.out]
      have hs1 : decide (off > (s.fresh : Int)) = true := decide_eq_true (by omega)
      have hs2 : decide ((s.fresh : Int) < off) = true := decide_eq_true (by omega)
      go_enter Try.func34, Try.ntmps34
      go_wp2_with fail
      refine (withinR_any off n s.b.length _ U1.out U2.out (by omega)).mono ?_
      rw [HA.out]
      rintro e v2 ⟨rfl, rfl⟩
      go_wp2
      go_ret
      exact ⟨rfl, H.out, Chg.refl _ _⟩
  · have HA := Lib.hid (decide_eq_false hw)
    have HS := Lib.hid (show s.sent off n = (s, false) from if_neg (fun e => hw e.1))
    rw [HS.out]
    clear hw
    go_enter Try.func34, Try.ntmps34
    go_wp2_with fail
    refine (withinR_any off n s.b.length _ U1.out U2.out (by omega)).mono ?_
    rw [HA.out]
    rintro e v2 ⟨rfl, rfl⟩
    go_wp2
    go_ret
    exact ⟨rfl, H.out, Chg.refl _ _⟩

end Go.Proofs.Ytilgekmpkoohaaa
