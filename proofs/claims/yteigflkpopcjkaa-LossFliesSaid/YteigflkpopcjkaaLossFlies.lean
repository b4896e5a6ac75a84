/-
  The walk of LossFlies.
-/
import Derived.Test.YteigflkpopcjkaaLossGrows
namespace Go.Proofs.Yteigflkpopcjkaa
set_option linter.unusedSimpArgs false
set_option linter.unusedVariables false
set_option linter.unnecessarySimpa false
open Go.RowKit

theorem Loss.mem_lost {lg now win pn : Int} {l : List Snt} : pn ∈ Loss.lost lg now win l ↔ ∃ x ∈ l, Loss.cand lg x ∧ Loss.gone lg now win x ∧ x.pn = pn := by
  induction l with
  | nil => simp [Loss.lost]
  | cons y l ih =>
    simp only [Loss.lost]
    split
    · rename_i h
      rw [List.mem_cons, ih]
      constructor
      · rintro (rfl | ⟨x, hx, h1⟩)
        · exact ⟨y, by simp, h.1, h.2, rfl⟩
        · exact ⟨x, by simp [hx], h1⟩
      · rintro ⟨x, hx, h1, h2, h3⟩
        rcases List.mem_cons.1 hx with rfl | hx
        · exact .inl h3.symm
        · exact .inr ⟨x, hx, h1, h2, h3⟩
    · rename_i h
      rw [ih]
      constructor
      · rintro ⟨x, hx, h1⟩
        exact ⟨x, by simp [hx], h1⟩
      · rintro ⟨x, hx, h1, h2, h3⟩
        rcases List.mem_cons.1 hx with rfl | hx
        · exact absurd ⟨h1, h2⟩ h
        · exact ⟨x, hx, h1, h2, h3⟩
/-- What is lost is there, and how it is. -/
theorem LS.lost_get {s : LS} (gd : s.Good) {lg now win pn : Int} (h : pn ∈ Loss.lost lg now win s.kept) : ∃ x, s.get pn = (x, true) ∧ x.ok ∧ x.state = 1 ∧ pn < lg ∧ (3 ≤ lg - pn ∨ win ≤ ssub now x.at_) := by
  obtain ⟨x, hx, hc, hg, rfl⟩ := Loss.mem_lost.1 h
  obtain ⟨i, hi, rfl⟩ := List.mem_iff_getElem.1 hx
  have e := gd.keptPn hi
  have hk := s.kept_len
  have hl : s.low = s.all.length - s.ring := rfl
  have hh : s.has s.kept[i].pn := by
    rw [e]
    constructor <;> omega
  obtain ⟨hk2, e2⟩ := s.kept_at hh
  have e3 : s.at' s.kept[i].pn = s.kept[i] := by
    rw [← e2]
    congr 1
    rw [e]
    omega
  exact ⟨s.kept[i], by rw [LS.get, if_pos hh, e3], gd.keptOk _ hx, hc.1, hc.2, hg⟩

set_option maxHeartbeats 8000000 in
set_option maxRecDepth 100000 in
theorem lossFlies_any (ring lg now win : Int) (A : Option Addr) (n c : Nat) (l : List Dd) (w : World) (hr : Rd w 3 A n c (Ds l)) (hok : ∀ d ∈ l, d.ok) (hring : 0 ≤ ring ∧ ring ≤ 255) (h1 : 0 ≤ lg ∧ lg ≤ 255)
    (h2 : 0 ≤ now ∧ now ≤ 65535) (h3 : 0 ≤ win ∧ win ≤ 65535) :
    Calls Try.prog 11 #[.int .u8 ring, .slice A n c, .int .u8 lg, .int .u16 now, .int .u16 win] w fun e w' => e = .returned (.bool true) ∧ Below w.heap.size w w' := by
  obtain ⟨r0, r1⟩ := hring
  obtain ⟨lg0, lg1⟩ := h1
  obtain ⟨no0, no1⟩ := h2
  obtain ⟨wi0, wi1⟩ := h3
  have HR := Lib.hid hr
  have OK := Lib.hid hok
  clear hr hok
  go_enter Try.func11, Try.ntmps11
  go_wp2_with fail
  refine (make_any (ring % 40) 4611686018427387903 A n c l w HR.out OK.out ⟨by omega, by omega⟩).mono ?_
  rintro e w1 ⟨p, r, s, rfl, hT, hb1, hg1, hg2, hg3, hg4, hg5⟩
  have P1 := Lib.hid (TellRel.of hT hb1 hg3)
  have GD := Lib.hid hT.good
  have hkr := s.kept_le
  have hrr := hT.good.ring256
  clear hT hb1 hg1 hg2 hg4 hg5
  go_wp2_with fail
  generalize hW : (w1.alloc (.cells #[.pointer (some ⟨p, 0, none⟩), .pointer (some ⟨r, 0, none⟩)] 41)) = w2 at *
  clear hW
  generalize w1.heap.size = g at *
  refine (lossAlive w2).mono ?_
  rintro e w3 ⟨rfl, b⟩
  have P3 := Lib.hid (P1.out.below b)
  clear b P1
  have t0 := cell_of_row w3 g 0 _ _ _ P3.out.t
  have t1 := cell_of_row w3 g 1 _ _ _ P3.out.t
  obtain ⟨G3, hL3⟩ := P3.out.led
  go_wp2_with fail
  refine (loss_find w3 G3 p s lg now win hL3 ⟨by omega, by omega⟩ ⟨by omega, by omega⟩ ⟨by omega, by omega⟩).mono ?_
  rintro e w4 ⟨A4, n4, c4, rfl, R4, b⟩
  have P4 := Lib.hid (P3.out.below b)
  have RR4 := Lib.hid R4
  have LG := Lib.hid (fun (pn : Int) h => LS.lost_get (pn := pn) GD.out (lg := lg) (now := now) (win := win) h)
  have MM := Lib.hid (fun (x : Snt) (hx : x ∈ s.kept) (h1 : x.state = 1) (h2 : x.pn + 3 ≤ lg) => (Loss.mem_lost (lg := lg) (now := now) (win := win) (l := s.kept)).2 ⟨x, hx, ⟨h1, by omega⟩, .inl (by omega), rfl⟩)
  clear b P3 t0 t1 R4 hL3
  generalize Loss.lost lg now win s.kept = a at *
  have hla : a.length = n4 := by have := RR4.out.len; simpa using this
  subst hla
  have hc4 := RR4.out.cap
  have hx4 := RR4.out.max
  unfold maxLen at hx4
  go_wp2
  go_loopw [54] (fun i wr => ∃ k : Nat, k ≤ a.length ∧ i = .int .i64 k ∧ Hid (TellRel w p r g 80 s wr) ∧ Hid (Below w4.heap.size w4 wr)) (fun i _ => a.length - (intOf i).toNat)
  case atStart => exact ⟨0, Nat.zero_le _, rfl, P4, Below.refl _ _⟩
  case round =>
    obtain ⟨k, hk, rfl, PR, BR⟩ := hrel
    have t0 := cell_of_row wr g 0 _ _ _ PR.out.t
    have t1 := cell_of_row wr g 1 _ _ _ PR.out.t
    by_cases hlt : k < a.length
    · obtain ⟨b1, o1, rfl, d1⟩ := (RR4.out.below BR.out).u64 hlt
      have e1 : a.getD k 0 = a[k] := by simp [hlt]
      rw [e1] at d1
      obtain ⟨x, x1, x2, x3, x4, x5⟩ := LG.out a[k] (List.getElem_mem _)
      clear e1
      generalize a[k] = pn at *
      obtain ⟨G5, hL5⟩ := PR.out.led
      have pn0 : 0 ≤ pn := by
        by_cases h0 : 0 ≤ pn
        · exact h0
        · exfalso
          have hn : ¬ s.has pn := fun h => by have := h.1; omega
          rw [LS.get, if_neg hn] at x1
          cases x1
      have X1 := Lib.hid x1
      have UA := Lib.hid x2.at_
      clear x1 x2
      go_wp2_with fail
      refine (led_get wr G5 p s pn hL5 ⟨pn0, by omega⟩).mono ?_
      rw [X1.out]
      unfold Snt.val
      rintro e w5 ⟨rfl, b⟩
      have P5 := Lib.hid (PR.out.below b)
      have B5 := Lib.hid (BR.out.trans (b.mono BR.out.size))
      clear b PR BR t0 t1 hL5
      by_cases h3 : 3 ≤ lg - pn
      · go_wp2
        go_roundw
        case rel => exact ⟨k + 1, by omega, by go_num, P5.out.below (box_below _ _), B5.out.alloc B5.out.size _⟩
        case measure => simp [intOf]; omega
      · have h4 : win ≤ ssub now x.at_ := x5.resolve_left h3
        have h5 : decide (ssub now x.at_ < win) = false := by simp; omega
        go_wp2_with fail
        refine (refSub_any now x.at_ (ssub now x.at_) _ ⟨by omega, by omega⟩ UA.out rfl).mono ?_
        rintro e w6 ⟨rfl, n6, rfl⟩
        go_wp2
        go_roundw
        case rel => exact ⟨k + 1, by omega, by go_num, P5.out.below (below_drewN (box_below _ _) _), below_drewN (B5.out.alloc B5.out.size _) _⟩
        case measure => simp [intOf]; omega
    · obtain ⟨H5, hR5⟩ := PR.out.ledR
      go_wp2_with fail
      refine (ledR_all wr H5 r s hR5).mono ?_
      rintro e w5 ⟨A5, c5, rfl, ho, b⟩
      have R5 := Lib.hid (Rd.of_own ho)
      have P5 := Lib.hid (PR.out.below b)
      have B5 := Lib.hid (BR.out.trans (b.mono BR.out.size))
      clear b ho PR BR t0 t1 hR5
      have hc5 := R5.out.cap
      have hx5 := R5.out.max
      unfold maxLen at hx5
      go_wp2
      go_loopw [98] (fun i wr => ∃ m : Nat, m ≤ s.kept.length ∧ i = .int .i64 m ∧ Hid (Below w5.heap.size w5 wr)) (fun i _ => s.kept.length - (intOf i).toNat)
      case atStart => exact ⟨0, Nat.zero_le _, rfl, Below.refl _ _⟩
      case round =>
        obtain ⟨m, hm, rfl, BX⟩ := hrel
        by_cases hmt : m < s.kept.length
        · obtain ⟨bb, off, rfl, d0, d1, d2, d3, d4, d5, d6, d7⟩ := (R5.out.below BX.out).snt hmt
          have hxm := MM.out s.kept[m] (List.getElem_mem _)
          have okx := GD.out.keptOk s.kept[m] (List.getElem_mem _)
          obtain ⟨p0, p1⟩ := okx.pn
          have pb : s.kept[m].pn ≤ 1000 := by
            rw [GD.out.keptPn hmt]
            have := s.low_le
            omega
          clear okx
          generalize s.kept[m] = x at *
          by_cases e1 : x.state = 1
          · have q1 : (x.state != 1) = false := by simp [e1]
            by_cases e2 : x.pn + 3 ≤ lg
            · have hin := hxm e1 e2
              have HI := Lib.hid hin
              clear hxm hin
              go_wp2
              go_loop [22, 114] (fun inn j => ∃ (y : Nat) (q : Bool), y ≤ a.length ∧ j = .int .i64 y ∧ inn = .bool q ∧ Hid (q = decide (x.pn ∈ a.take y))) (fun _ j => a.length - (intOf j).toNat)
              case atStart => exact ⟨0, false, Nat.zero_le _, rfl, rfl, by show _ = _; simp⟩
              case round =>
                obtain ⟨y, q, hy, rfl, rfl, HQ⟩ := hrel
                by_cases hyt : y < a.length
                · obtain ⟨b1, o1, rfl, f1⟩ := ((RR4.out.below B5.out).below BX.out).u64 hyt
                  have f1l := block_lt_of_cell f1
                  simp only at f1l
                  have e1 : a.getD y 0 = a[y] := by simp [hyt]
                  rw [e1] at f1
                  have HT : Hid (decide (x.pn ∈ a.take (y + 1)) = (q || (a[y] == x.pn))) := by
                    show _ = _
                    rw [HQ.out, List.take_succ_eq_append_getElem hyt]
                    simp only [List.mem_append, List.mem_singleton, Bool.decide_or]
                    congr 1
                    rw [Bool.eq_iff_iff]
                    simp
                    exact eq_comm
                  clear e1
                  generalize a[y] = u at *
                  cases q with
                  | true =>
                    go_wp2
                    go_round
                    case rel => exact ⟨y + 1, true, by omega, by go_num, rfl, by show _ = _; rw [HT.out]; rfl⟩
                    case measure => simp [intOf]; omega
                  | false =>
                    cases hu : (u == x.pn)
                    all_goals
                      go_wp2
                      go_round
                      case rel => exact ⟨y + 1, _, by omega, by go_num, rfl, by show _ = _; rw [HT.out, hu]; rfl⟩
                      case measure => simp [intOf]; omega
                · have hq : q = true := by
                    rw [HQ.out, List.take_of_length_le (by omega)]
                    simpa using HI.out
                  subst hq
                  go_wp2
                  go_roundw
                  case rel => exact ⟨m + 1, by omega, by go_num, BX.out.alloc BX.out.size _⟩
                  case measure => simp [intOf]; omega
            · clear hxm
              go_wp2
              go_roundw
              case rel => exact ⟨m + 1, by omega, by go_num, BX.out.alloc BX.out.size _⟩
              case measure => simp [intOf]; omega
          · have q1 : (x.state != 1) = true := by simp [e1]
            clear hxm
            go_wp2
            go_roundw
            case rel => exact ⟨m + 1, by omega, by go_num, BX.out.alloc BX.out.size _⟩
            case measure => simp [intOf]; omega
        · go_wp2
          go_ret
          exact ⟨rfl, P5.out.bel.trans (BX.out.mono P5.out.bel.size)⟩

end Go.Proofs.Yteigflkpopcjkaa
