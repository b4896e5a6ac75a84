/-
  The walk of LossGrows.
-/
import Derived.Test.YteigflkpopcjkaaLossTimes
namespace Go.Proofs.Yteigflkpopcjkaa
set_option linter.unusedSimpArgs false
set_option linter.unusedVariables false
set_option linter.unnecessarySimpa false
open Go.RowKit

theorem grow_hit {a b : List Int} {k j : Nat} (h : (a.drop k).Sublist (b.drop j)) (hk : k < a.length) (hj : j < b.length) (e : a[k] = b[j]) : (a.drop (k + 1)).Sublist (b.drop (j + 1)) := by
  rw [List.drop_eq_getElem_cons hk, List.drop_eq_getElem_cons hj, e] at h
  exact List.cons_sublist_cons.1 h
theorem grow_miss {a b : List Int} {k j : Nat} (h : (a.drop k).Sublist (b.drop j)) (hk : k < a.length) (hj : j < b.length) (e : a[k] ≠ b[j]) : (a.drop k).Sublist (b.drop (j + 1)) := by
  rw [List.drop_eq_getElem_cons hj] at h
  rw [List.drop_eq_getElem_cons hk] at h ⊢
  generalize a[k] = x at *
  generalize b[j] = y at *
  cases h with
  | cons _ h => exact h
  | cons_cons _ h => exact absurd rfl e
theorem grow_end {a b : List Int} {k : Nat} (hk : a.length ≤ k) : (a.drop k).Sublist b := by
  rw [List.drop_eq_nil_of_le hk]
  exact List.nil_sublist _

set_option maxHeartbeats 8000000 in
set_option maxRecDepth 100000 in
theorem lossGrows_any (ring lg more now later win : Int) (A : Option Addr) (n c : Nat) (l : List Dd) (w : World) (hr : Rd w 3 A n c (Ds l)) (hok : ∀ d ∈ l, d.ok) (hring : 0 ≤ ring ∧ ring ≤ 255) (h1 : 0 ≤ lg ∧ lg ≤ 255) (h4 : 0 ≤ more ∧ more ≤ 255)
    (h2 : 0 ≤ now ∧ now ≤ 65535) (h5 : 0 ≤ later ∧ later ≤ 65535) (h3 : 0 ≤ win ∧ win ≤ 65535) :
    Calls Try.prog 10 #[.int .u8 ring, .slice A n c, .int .u8 lg, .int .u8 more, .int .u16 now, .int .u16 later, .int .u16 win] w fun e w' => e = .returned (.bool true) ∧ Below w.heap.size w w' := by
  obtain ⟨r0, r1⟩ := hring
  obtain ⟨lg0, lg1⟩ := h1
  obtain ⟨mo0, mo1⟩ := h4
  obtain ⟨no0, no1⟩ := h2
  obtain ⟨la0, la1⟩ := h5
  obtain ⟨wi0, wi1⟩ := h3
  have HR := Lib.hid hr
  have OK := Lib.hid hok
  clear hr hok
  go_enter Try.func10, Try.ntmps10
  go_wp2_with fail
  refine (make_any (ring % 40) 4611686018427387903 A n c l w HR.out OK.out ⟨by omega, by omega⟩).mono ?_
  rintro e w1 ⟨p, r, s, rfl, hT, hb1, hg1, hg2, hg3, hg4, hg5⟩
  have P1 := Lib.hid (TellRel.of hT hb1 hg3)
  clear hT hb1 hg1 hg2 hg4 hg5
  go_wp2_with fail
  generalize hW : (w1.alloc (.cells #[.pointer (some ⟨p, 0, none⟩), .pointer (some ⟨r, 0, none⟩)] 41)) = w2 at *
  clear hW
  generalize w1.heap.size = g at *
  refine (lossAlive w2).mono ?_
  rintro e w3 ⟨rfl, b⟩
  have P3 := Lib.hid (P1.out.below b)
  clear b P1
  have t0 := cell_of_row w3 g 0 _ _ _ P3.out.t
  have t1 := cell_of_row w3 g 1 _ _ _ P3.out.t
  obtain ⟨G3, hL3⟩ := P3.out.led
  go_wp2_with fail
  refine (loss_find w3 G3 p s lg now win hL3 ⟨by omega, by omega⟩ ⟨by omega, by omega⟩ ⟨by omega, by omega⟩).mono ?_
  rintro e w4 ⟨A4, n4, c4, rfl, R4, b⟩
  have P4 := Lib.hid (P3.out.below b)
  have RR4 := Lib.hid R4
  clear b P3 t0 t1 R4 hL3
  have t0 := cell_of_row w4 g 0 _ _ _ P4.out.t
  have t1 := cell_of_row w4 g 1 _ _ _ P4.out.t
  obtain ⟨G4, hL4⟩ := P4.out.led
  go_wp2_with fail
  refine (loss_find w4 G4 p s (lg + more) (now + later) win hL4 ⟨by omega, by omega⟩ ⟨by omega, by omega⟩ ⟨by omega, by omega⟩).mono ?_
  rintro e w5 ⟨A5, n5, c5, rfl, R5, b⟩
  have P5 := Lib.hid (P4.out.below b)
  have RR4' := Lib.hid (RR4.out.below b)
  have RR5 := Lib.hid R5
  have SB := Lib.hid (Loss.lost_sub (lg := lg) (now := now) (win := win) (lg' := lg + more) (now' := now + later) (by omega) (by omega) s.kept)
  clear b P4 t0 t1 R5 hL4 RR4
  generalize Loss.lost lg now win s.kept = a at *
  generalize Loss.lost (lg + more) (now + later) win s.kept = bb at *
  have hla : a.length = n4 := by have := RR4'.out.len; simpa using this
  have hlb : bb.length = n5 := by have := RR5.out.len; simpa using this
  subst hla
  subst hlb
  have hc5 := RR5.out.cap
  have hx5 := RR5.out.max
  have hc4 := RR4'.out.cap
  have hx4 := RR4'.out.max
  unfold maxLen at hx5 hx4
  go_wp2
  go_loop [21, 70] (fun k j => ∃ x y : Nat, x ≤ a.length ∧ y ≤ bb.length ∧ k = .int .i64 x ∧ j = .int .i64 y ∧ Hid ((a.drop x).Sublist (bb.drop y))) (fun _ j => bb.length - (intOf j).toNat)
  case atStart => exact ⟨0, 0, Nat.zero_le _, Nat.zero_le _, rfl, rfl, by show List.Sublist _ _; simpa using SB.out⟩
  case round =>
    obtain ⟨x, y, hx, hy, rfl, rfl, HS⟩ := hrel
    by_cases hlt : y < bb.length
    · obtain ⟨b1, o1, rfl, d1⟩ := RR5.out.u64 hlt
      have e1 : bb.getD y 0 = bb[y] := by simp [hlt]
      rw [e1] at d1
      by_cases hk : x < a.length
      · obtain ⟨b2, o2, rfl, d2⟩ := RR4'.out.u64 hk
        have e2 : a.getD x 0 = a[x] := by simp [hk]
        rw [e2] at d2
        clear e1 e2
        by_cases he : a[x] = bb[y]
        · have F := Lib.hid (grow_hit HS.out hk hlt he)
          have q : (a[x] == bb[y]) = true := by simp [he]
          clear he
          generalize a[x] = u at *
          generalize bb[y] = v at *
          go_wp2
          go_round
          case rel => exact ⟨x + 1, y + 1, by omega, by omega, by go_num, by go_num, F⟩
          case measure => simp [intOf]; omega
        · have F := Lib.hid (grow_miss HS.out hk hlt he)
          have q : (a[x] == bb[y]) = false := by simp [he]
          clear he
          generalize a[x] = u at *
          generalize bb[y] = v at *
          go_wp2
          go_round
          case rel => exact ⟨x, y + 1, by omega, by omega, rfl, by go_num, F⟩
          case measure => simp [intOf]; omega
      · have F : Hid ((a.drop x).Sublist (bb.drop (y + 1))) := grow_end (by omega)
        clear e1
        go_wp2
        go_round
        case rel => exact ⟨x, y + 1, by omega, by omega, rfl, by go_num, F⟩
        case measure => simp [intOf]; omega
    · have hxl : x = a.length := by
        have h := HS.out.length_le
        simp only [List.length_drop] at h
        omega
      subst hxl
      have q : ((a.length : Int) == (a.length : Int)) = true := by simp
      go_wp2
      go_ret
      exact ⟨rfl, P5.out.bel⟩

end Go.Proofs.Yteigflkpopcjkaa
