/-
  Walks of package ledger: Use, Settle.
-/
import Derived.Test.YteigflkpopcjkaaLed3
namespace Go.Proofs.Yteigflkpopcjkaa
set_option linter.unusedSimpArgs false
set_option linter.unusedVariables false
set_option linter.unnecessarySimpa false
open Go.RowKit

theorem ret_bool_and {a b : Bool} {p : Prop} (h : a = b) (hp : p) : Ending.returned (.bool a) = .returned (.bool b) ∧ p := ⟨by rw [h], hp⟩

set_option maxHeartbeats 1600000 in
theorem led_use (w : World) (F : Nat → Prop) (b : Nat) (s : LS) (pn : Int) (h : LedP w F b s) (hu : isU64 pn) :
    Calls Try.prog 38 #[.pointer (some ⟨b, 0, none⟩), .int .u64 pn] w fun e w' => e = .returned (.bool (s.use pn).2) ∧ LedP w' F b (s.use pn).1 ∧ Chg F w w' := by
  by_cases hp : s.has pn
  · obtain ⟨g, c, ha⟩ := h.open_ (by have := (s.kept_at hp).1; omega)
    have gd := h.good
    generalize hi : pn.toNat - s.low = i
    obtain ⟨d0, d1, d2, d3, d4, d5, d6, d7⟩ := ha.cells hp hi
    have fz := ha.own.frozenAt (i * 8 + 6)
    have HA := Lib.hid ha
    have Gd := Lib.hid gd
    have Hi := Lib.hid hi
    have Hp := Lib.hid hp
    have H := Lib.hid h
    clear h ha gd hi hp d0 d1 d2 d3 d4 d5
    by_cases h4 : (s.at' pn).state = 4
    · have Hr : Hid (s.use pn = (s, false)) := if_neg (fun hm => hm.2.1 h4)
      go_enter Try.func38, Try.ntmps38
      go_wp2_with fail
      refine (led_find_yes _ F b g c s pn HA.out Gd.out hu Hp.out).mono ?_
      rw [Hi.out]
      rintro e w1 ⟨rfl, q1⟩
      have e6 := q1.cell d6
      have e7 := q1.cell d7
      go_wp2
      go_ret
      rw [Hr.out]
      exact ⟨rfl, H.out.qt q1, q1.chg⟩
    · cases hus : (s.at' pn).used with
      | true =>
        have Hr : Hid (s.use pn = (s, false)) := if_neg (fun hm => by have := hm.2.2; rw [hus] at this; cases this)
        rw [hus] at d6
        clear hus
        go_enter Try.func38, Try.ntmps38
        go_wp2_with fail
        refine (led_find_yes _ F b g c s pn HA.out Gd.out hu Hp.out).mono ?_
        rw [Hi.out]
        rintro e w1 ⟨rfl, q1⟩
        have e6 := q1.cell d6
        have e7 := q1.cell d7
        go_wp2
        go_ret
        rw [Hr.out]
        exact ⟨rfl, H.out.qt q1, q1.chg⟩
      | false =>
        have Hr : Hid (s.use pn = (s.put pn { s.at' pn with used := true }, true)) := if_pos ⟨Hp.out, h4, hus⟩
        rw [hus] at d6
        clear hus
        go_enter Try.func38, Try.ntmps38
        go_wp2_with fail
        refine (led_find_yes _ F b g c s pn HA.out Gd.out hu Hp.out).mono ?_
        rw [Hi.out]
        rintro e w1 ⟨rfl, q1⟩
        have e6 := q1.cell d6
        have e7 := q1.cell d7
        have HA1 := Lib.hid (HA.out.qt q1)
        have fz1 := HA1.out.own.frozenAt (i * 8 + 6)
        go_wp2
        go_ret
        have gu := Gd.out.use pn
        rw [Hr.out] at gu ⊢
        have := HA1.out.put Hp.out (j := 6) (by omega) (u := .bool true) (y := { s.at' pn with used := true }) rfl
        rw [Hi.out] at this
        exact ⟨rfl, this.shut gu, (q1.chg).setCell (.inl HA.out.fg) _⟩
  · have Hr : Hid (s.use pn = (s, false)) := if_neg (fun hm => hp hm.1)
    go_enter Try.func38, Try.ntmps38
    go_wp2_with fail
    refine (led_find_no _ F b s pn h hu hp).mono ?_
    rintro e w1 ⟨rfl, q1⟩
    go_wp2
    go_ret
    rw [Hr.out]
    exact ⟨rfl, h.qt q1, q1.chg⟩

set_option maxHeartbeats 3200000 in
theorem led_settle (w : World) (F : Nat → Prop) (b : Nat) (s : LS) (pn state : Int) (h : LedP w F b s) (hu : isU64 pn) :
    Calls Try.prog 25 #[.pointer (some ⟨b, 0, none⟩), .int .u64 pn, .int .i64 state] w fun e w' => e = .returned (.bool (s.settle pn state).2) ∧ LedP w' F b (s.settle pn state).1 ∧ Chg F w w' := by
  by_cases hp : s.has pn
  · obtain ⟨g, c, ha⟩ := h.open_ (by have := (s.kept_at hp).1; omega)
    have gd := h.good
    generalize hi : pn.toNat - s.low = i
    obtain ⟨d0, d1, d2, d3, d4, d5, d6, d7⟩ := ha.cells hp hi
    have fz := ha.own.frozenAt (i * 8 + 7)
    have HA := Lib.hid ha
    have Gd := Lib.hid gd
    have Hi := Lib.hid hi
    have Hp := Lib.hid hp
    have H := Lib.hid h
    clear h ha gd hi hp d0 d1 d2 d3 d4 d5 d6
    have HS := Lib.hid (show s.maySettle pn state ↔ _ from Iff.rfl)
    unfold LS.maySettle at HS
    by_cases hm : s.maySettle pn state
    · have Hr : Hid (s.settle pn state = (s.put pn { s.at' pn with state := state }, true)) := if_pos hm
      have hm2 := hm.2
      have HY : Hid (∀ w1, Qt w w1 → LedP (w1.setCell ⟨g, i * 8 + 7, none⟩ (.int .i64 state)) F b (s.put pn { s.at' pn with state := state }) ∧ Chg F w (w1.setCell ⟨g, i * 8 + 7, none⟩ (.int .i64 state))) := by
        intro w1 q1
        have gu := Gd.out.settle pn state
        rw [Hr.out] at gu
        have := (HA.out.qt q1).put Hp.out (j := 7) (by omega) (u := .int .i64 state) (y := { s.at' pn with state := state }) rfl
        rw [Hi.out] at this
        exact ⟨this.shut gu, (q1.chg).setCell (.inl HA.out.fg) _⟩
      clear HS hm
      rcases hm2 with ⟨k1, k2 | k2⟩ | ⟨k1, k2⟩
      all_goals
        go_enter Try.func25, Try.ntmps25
        go_wp2_with fail
        refine (led_find_yes _ F b g c s pn HA.out Gd.out hu Hp.out).mono ?_
        rw [Hi.out]
        rintro e w1 ⟨rfl, q1⟩
        have e7 := q1.cell d7
        have HA1 := Lib.hid (HA.out.qt q1)
        have fz1 := HA1.out.own.frozenAt (i * 8 + 7)
        subst k1
        go_wp2
        go_ret
        rw [Hr.out]
        exact ⟨rfl, HY.out w1 q1⟩
    · have Hr : Hid (s.settle pn state = (s, false)) := if_neg hm
      have hm2 : ¬ ((state = 2 ∧ ((s.at' pn).state = 1 ∨ (s.at' pn).state = 3)) ∨ (state = 3 ∧ (s.at' pn).state = 1)) := fun h => hm ⟨Hp.out, h⟩
      clear HS hm
      by_cases k2 : state = 2 <;> by_cases k3 : state = 3 <;> cases f1 : ((s.at' pn).state == 1) <;> cases f3 : ((s.at' pn).state == 3)
      all_goals first
        | (exfalso; simp at f1 f3; omega)
        | (clear hm2
           go_enter Try.func25, Try.ntmps25
           go_wp2_with fail
           refine (led_find_yes _ F b g c s pn HA.out Gd.out hu Hp.out).mono ?_
           rw [Hi.out]
           rintro e w1 ⟨rfl, q1⟩
           have e7 := q1.cell d7
           go_wp2
           go_ret
           rw [Hr.out]
           exact ⟨rfl, H.out.qt q1, q1.chg⟩)
  · have Hr : Hid (s.settle pn state = (s, false)) := if_neg (fun hm => hp hm.1)
    go_enter Try.func25, Try.ntmps25
    go_wp2_with fail
    refine (led_find_no _ F b s pn h hu hp).mono ?_
    rintro e w1 ⟨rfl, q1⟩
    go_wp2
    go_ret
    rw [Hr.out]
    exact ⟨rfl, h.qt q1, q1.chg⟩

end Go.Proofs.Yteigflkpopcjkaa
