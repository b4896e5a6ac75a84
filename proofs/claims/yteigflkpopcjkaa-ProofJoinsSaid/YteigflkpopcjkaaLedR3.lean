/-
  Walks of the reference's ledger: Use, Settle.
-/
import Derived.Test.YteigflkpopcjkaaLedR2
namespace Go.Proofs.Yteigflkpopcjkaa
set_option linter.unusedSimpArgs false
set_option linter.unusedVariables false
set_option linter.unnecessarySimpa false
open Go.RowKit

set_option maxHeartbeats 1600000 in
theorem ledR_use (w : World) (F : Nat → Prop) (b : Nat) (s : LS) (pn : Int) (h : LedR w F b s) (hu : isU64 pn) :
    Calls Try.prog 67 #[.pointer (some ⟨b, 0, none⟩), .int .u64 pn] w fun e w' => e = .returned (.bool (s.use pn).2) ∧ LedR w' F b (s.use pn).1 ∧ Chg F w w' := by
  by_cases hp : s.has pn
  · obtain ⟨g, c, ha⟩ := h.open_ (by have := (LS.has_lt hp).1; omega)
    have gd := h.good
    have gg3 := gd.len
    have gg4 := gd.lim1
    have HA := Lib.hid ha
    have Gd := Lib.hid gd
    have Hp := Lib.hid hp
    have H := Lib.hid h
    have HQ : Hid (∀ w', Below w.heap.size w w' → LedR w' F b s ∧ Chg F w w') := fun w' hb => ⟨h.below hb, chg_below hb⟩
    obtain ⟨p1, p2⟩ := hp
    have hlt : g < w.heap.size := (ha.own.lt g rfl).2
    have hbl : b < w.heap.size := lt_of_block ha.blk
    have c2 : w.cell? ⟨b, 2, none⟩ = some (.slice (some ⟨g, 0, none⟩) s.all.length c) := cell_of_row w b 2 _ _ _ ha.blk
    have fz := ha.own.frozenAt (pn.toNat * 8 + 6)
    obtain ⟨-, -, -, -, -, -, d6, d7⟩ := ha.cells Hp.out
    clear h ha gd
    obtain ⟨n, rfl⟩ := Int.eq_ofNat_of_zero_le (show 0 ≤ pn by omega)
    rw [Int.toNat_natCast] at *
    by_cases h4 : (s.at' n).state = 4
    · have Hr : Hid (s.use n = (s, false)) := if_neg (fun hm => hm.2.1 h4)
      go_enter Try.func67, Try.ntmps67
      go_wp2_with fail
      refine (ledR_get_yes _ F b s n H.out Hp.out).mono ?_
      unfold Snt.val
      rintro e w1 ⟨rfl, b1⟩
      have hb1s := b1.size
      go_wp2
      go_ret
      rw [Hr.out]
      refine ⟨rfl, HQ.out _ ?_⟩
      repeat (first | exact Below.refl _ _ | exact b1 | (refine Below.setCell ?_ (by first | exact Nat.le_refl _ | omega | (simp; done) | (simp; omega)) _) | (refine Below.alloc ?_ (by first | exact Nat.le_refl _ | omega | (simp; done) | (simp; omega)) _) | (refine Below.drew ?_) | (refine below_drewN ?_ _))
    · cases hus : (s.at' n).used with
      | true =>
        have Hr : Hid (s.use n = (s, false)) := if_neg (fun hm => by have := hm.2.2; rw [hus] at this; cases this)
        go_enter Try.func67, Try.ntmps67
        go_wp2_with fail
        refine (ledR_get_yes _ F b s n H.out Hp.out).mono ?_
        unfold Snt.val
        rintro e w1 ⟨rfl, b1⟩
        have hb1s := b1.size
        go_wp2
        go_ret
        rw [Hr.out]
        refine ⟨rfl, HQ.out _ ?_⟩
        repeat (first | exact Below.refl _ _ | exact b1 | (refine Below.setCell ?_ (by first | exact Nat.le_refl _ | omega | (simp; done) | (simp; omega)) _) | (refine Below.alloc ?_ (by first | exact Nat.le_refl _ | omega | (simp; done) | (simp; omega)) _) | (refine Below.drew ?_) | (refine below_drewN ?_ _))
      | false =>
        have Hr : Hid (s.use n = (s.put n { s.at' n with used := true }, true)) := if_pos ⟨Hp.out, h4, hus⟩
        have gu := Lib.hid (Gd.out.use n)
        go_enter Try.func67, Try.ntmps67
        go_wp2_with fail
        refine (ledR_get_yes _ F b s n H.out Hp.out).mono ?_
        unfold Snt.val
        rintro e w1 ⟨rfl, b1⟩
        have hb1s := b1.size
        obtain ⟨hc1, hf1⟩ := bcell b1
        have hg1 : g < w1.heap.size := by omega
        have hbl1 : b < w1.heap.size := by omega
        go_wp2
        go_ret
        have gu := gu.out
        rw [Hr.out] at gu ⊢
        exact ⟨rfl, LedRAt.shut (LedRAt.below (LedRAt.put (HA.out.below b1) Hp.out (j := 6) (u := .bool true) (y := { s.at' n with used := true }) (by omega) rfl) (box_below _ _)) gu, (Chg.setCell (chg_below b1) (.inl HA.out.fg) _).alloc _⟩
  · have Hr : Hid (s.use pn = (s, false)) := if_neg (fun hm => hp hm.1)
    have HQ : Hid (∀ w', Below w.heap.size w w' → LedR w' F b s ∧ Chg F w w') := fun w' hb => ⟨h.below hb, chg_below hb⟩
    go_enter Try.func67, Try.ntmps67
    go_wp2_with fail
    refine (ledR_get_no _ F b s pn h hu hp).mono ?_
    unfold Snt.val LS.zero
    rintro e w1 ⟨rfl, b1⟩
    have hb1s := b1.size
    go_wp2
    go_ret
    rw [Hr.out]
    refine ⟨rfl, HQ.out _ ?_⟩
    repeat (first | exact Below.refl _ _ | exact b1 | (refine Below.setCell ?_ (by first | exact Nat.le_refl _ | omega | (simp; done) | (simp; omega)) _) | (refine Below.alloc ?_ (by first | exact Nat.le_refl _ | omega | (simp; done) | (simp; omega)) _) | (refine Below.drew ?_) | (refine below_drewN ?_ _))

set_option maxHeartbeats 3200000 in
theorem ledR_settle (w : World) (F : Nat → Prop) (b : Nat) (s : LS) (pn state : Int) (h : LedR w F b s) (hu : isU64 pn) :
    Calls Try.prog 66 #[.pointer (some ⟨b, 0, none⟩), .int .u64 pn, .int .i64 state] w fun e w' => e = .returned (.bool (s.settle pn state).2) ∧ LedR w' F b (s.settle pn state).1 ∧ Chg F w w' := by
  have HQ : Hid (∀ w', Below w.heap.size w w' → LedR w' F b s ∧ Chg F w w') := fun w' hb => ⟨h.below hb, chg_below hb⟩
  by_cases hp : s.has pn
  · obtain ⟨g, c, ha⟩ := h.open_ (by have := (LS.has_lt hp).1; omega)
    have gd := h.good
    have gg3 := gd.len
    have gg4 := gd.lim1
    have HA := Lib.hid ha
    have Gd := Lib.hid gd
    have Hp := Lib.hid hp
    have H := Lib.hid h
    obtain ⟨p1, p2⟩ := hp
    have hlt : g < w.heap.size := (ha.own.lt g rfl).2
    have hbl : b < w.heap.size := lt_of_block ha.blk
    have c2 : w.cell? ⟨b, 2, none⟩ = some (.slice (some ⟨g, 0, none⟩) s.all.length c) := cell_of_row w b 2 _ _ _ ha.blk
    have fz := ha.own.frozenAt (pn.toNat * 8 + 7)
    obtain ⟨-, -, -, -, -, -, -, d7⟩ := ha.cells Hp.out
    clear h ha gd
    obtain ⟨n, rfl⟩ := Int.eq_ofNat_of_zero_le (show 0 ≤ pn by omega)
    rw [Int.toNat_natCast] at *
    by_cases hm : s.maySettle n state
    · have Hr : Hid (s.settle n state = (s.put n { s.at' n with state := state }, true)) := if_pos hm
      have hm2 := hm.2
      have gu := Lib.hid (Gd.out.settle n state)
      clear hm
      rcases hm2 with ⟨rfl, k2 | k2⟩ | ⟨rfl, k2⟩
      all_goals
        go_enter Try.func66, Try.ntmps66
        go_wp2_with fail
        refine (ledR_get_yes _ F b s n H.out Hp.out).mono ?_
        unfold Snt.val
        rintro e w1 ⟨rfl, b1⟩
        have hb1s := b1.size
        obtain ⟨hc1, hf1⟩ := bcell b1
        have hg1 : g < w1.heap.size := by omega
        have hbl1 : b < w1.heap.size := by omega
        go_wp2
        go_ret
        have gu := gu.out
        rw [Hr.out] at gu ⊢
        exact ⟨rfl, LedRAt.shut (LedRAt.below (LedRAt.put (HA.out.below b1) Hp.out (j := 7) (u := .int .i64 _) (y := { s.at' n with state := _ }) (by omega) rfl) (box_below _ _)) gu, (Chg.setCell (chg_below b1) (.inl HA.out.fg) _).alloc _⟩
    · have Hr : Hid (s.settle n state = (s, false)) := if_neg hm
      have hm2 : ¬ ((state = 2 ∧ ((s.at' n).state = 1 ∨ (s.at' n).state = 3)) ∨ (state = 3 ∧ (s.at' n).state = 1)) := fun h => hm ⟨Hp.out, h⟩
      clear hm
      by_cases k2 : state = 2 <;> by_cases k3 : state = 3 <;> cases f1 : ((s.at' n).state == 1) <;> cases f3 : ((s.at' n).state == 3)
      all_goals first
        | (exfalso; simp at f1 f3; omega)
        | (clear hm2
           have f1' : ((s.at' n).state != 1) = (! ((s.at' n).state == 1)) := rfl
           rw [f1] at f1'
           simp only [Bool.not_true, Bool.not_false] at f1'
           have f3' : ((s.at' n).state != 3) = (! ((s.at' n).state == 3)) := rfl
           rw [f3] at f3'
           simp only [Bool.not_true, Bool.not_false] at f3'
           go_enter Try.func66, Try.ntmps66
           go_wp2_with fail
           refine (ledR_get_yes _ F b s n H.out Hp.out).mono ?_
           unfold Snt.val
           rintro e w1 ⟨rfl, b1⟩
           have hb1s := b1.size
           go_wp2
           go_ret
           rw [Hr.out]
           refine ⟨rfl, HQ.out _ ?_⟩
           repeat (first | exact Below.refl _ _ | exact b1 | (refine Below.setCell ?_ (by first | exact Nat.le_refl _ | omega | (simp; done) | (simp; omega)) _) | (refine Below.alloc ?_ (by first | exact Nat.le_refl _ | omega | (simp; done) | (simp; omega)) _) | (refine Below.drew ?_) | (refine below_drewN ?_ _))
           )
  · have Hr : Hid (s.settle pn state = (s, false)) := if_neg (fun hm => hp hm.1)
    go_enter Try.func66, Try.ntmps66
    go_wp2_with fail
    refine (ledR_get_no _ F b s pn h hu hp).mono ?_
    unfold Snt.val LS.zero
    rintro e w1 ⟨rfl, b1⟩
    have hb1s := b1.size
    go_wp2
    go_ret
    rw [Hr.out]
    refine ⟨rfl, HQ.out _ ?_⟩
    repeat (first | exact Below.refl _ _ | exact b1 | (refine Below.setCell ?_ (by first | exact Nat.le_refl _ | omega | (simp; done) | (simp; omega)) _) | (refine Below.alloc ?_ (by first | exact Nat.le_refl _ | omega | (simp; done) | (simp; omega)) _) | (refine Below.drew ?_) | (refine below_drewN ?_ _))

end Go.Proofs.Yteigflkpopcjkaa
