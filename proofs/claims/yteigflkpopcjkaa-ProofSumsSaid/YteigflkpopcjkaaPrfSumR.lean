/-
  The reference's Sum.
-/
import Derived.Test.YteigflkpopcjkaaPrfP
import Derived.Test.YteigflkpopcjkaaLookR
namespace Go.Proofs.Yteigflkpopcjkaa
set_option linter.unusedSimpArgs false
set_option linter.unusedVariables false
set_option linter.unnecessarySimpa false
open Go.RowKit

theorem below_nil (A : Option Addr) (c : Nat) (q : Int) (w : World) :
    Calls Try.prog 81 #[.slice A 0 c, .int .u64 q] w fun e w' => e = .returned (.bool false) ∧ Qt w w' := by
  go_enter Try.func81, Try.ntmps81
  go_wp2
  go_ret
  exact ⟨rfl, Qt.refl _⟩
theorem good_mono {cl : List Sp} (hg : Good cl) {i j : Nat} (hj : j < cl.length) (hij : i ≤ j) : (cl[i]'(by omega)).1 ≤ cl[j].1 ∧ (cl[i]'(by omega)).2 ≤ cl[j].2 := by
  induction j with
  | zero => obtain rfl : i = 0 := by omega
            exact ⟨Int.le_refl _, Int.le_refl _⟩
  | succ j ih =>
    by_cases e : i = j + 1
    · subst e; exact ⟨Int.le_refl _, Int.le_refl _⟩
    · obtain ⟨h1, h2⟩ := ih (by omega) (by omega)
      obtain ⟨h3, h4⟩ := hg (j + 1) hj
      have h4 := h4 (by omega)
      have h5 := (hg j (by omega)).1.1
      have h3 := h3.1
      simp only [Nat.add_sub_cancel] at h4
      constructor <;> omega

structure SumStR (w : World) (F : Nat → Prop) (b : Nat) (s : LS) (A1 A2 : Option Addr) (c1 c2 : Nat) (cl mk : List Sp) (W : World) : Prop where
  led : LedR W F b s
  r1 : Rd W 2 A1 cl.length c1 (Ss cl)
  r2 : Rd W 2 A2 mk.length c2 (Ss mk)
  bel : Below w.heap.size w W
theorem SumStR.below {w W W' : World} {F : Nat → Prop} {b : Nat} {s : LS} {A1 A2 : Option Addr} {c1 c2 : Nat} {cl mk : List Sp} (h : SumStR w F b s A1 A2 c1 c2 cl mk W) (q : Below W.heap.size W W') : SumStR w F b s A1 A2 c1 c2 cl mk W' :=
  ⟨h.led.below q, h.r1.below q, h.r2.below q, h.bel.trans (q.mono h.bel.size)⟩
theorem SumStR.qt {w W W' : World} {F : Nat → Prop} {b : Nat} {s : LS} {A1 A2 : Option Addr} {c1 c2 : Nat} {cl mk : List Sp} (h : SumStR w F b s A1 A2 c1 c2 cl mk W) (q : Qt W W') : SumStR w F b s A1 A2 c1 c2 cl mk W' := h.below q.below
/-- k of what is kept told. -/
structure SumLR (w : World) (F : Nat → Prop) (b : Nat) (s : LS) (A1 A2 : Option Addr) (c1 c2 : Nat) (cl mk : List Sp) (k : Nat) (X : Int) (O : Bool) (W : World) : Prop where
  st : SumStR w F b s A1 A2 c1 c2 cl mk W
  ns : LS.noSkip (s.kept.take k) cl
  x : X = LS.sumX cl (s.kept.take k)
  o : O = LS.sumO cl mk (s.kept.take k)
theorem noSkip_take {cl : List Sp} {l : List Snt} {k : Nat} (hk : k < l.length) (h : LS.noSkip (l.take k) cl) (h1 : hasP cl l[k].pn = true → l[k].state ≠ 4) : LS.noSkip (l.take (k + 1)) cl := by
  intro x hx hp
  rw [List.take_succ_eq_append_getElem hk, List.mem_append, List.mem_singleton] at hx
  rcases hx with hx | rfl
  · exact h x hx hp
  · exact h1 hp
theorem SumLR.no {w W : World} {F : Nat → Prop} {b : Nat} {s : LS} {A1 A2 : Option Addr} {c1 c2 : Nat} {cl mk : List Sp} {k : Nat} {X : Int} {O : Bool} (h : SumLR w F b s A1 A2 c1 c2 cl mk k X O W) (g : s.Good) (hk : k < s.kept.length) (hp : hasP cl s.kept[k].pn = false) :
    ∀ W', Below W.heap.size W W' → SumLR w F b s A1 A2 c1 c2 cl mk (k + 1) X O W' := fun W' bb =>
  ⟨h.st.below bb, noSkip_take hk h.ns (fun e => by rw [hp] at e; cases e), by rw [LS.sumX_take _ _ g.keptOk _ hk, hp, if_neg (by simp), h.x], by rw [LS.sumO_take _ _ _ _ hk, hp, if_neg (by simp), h.o]⟩
theorem SumLR.yes {w W : World} {F : Nat → Prop} {b : Nat} {s : LS} {A1 A2 : Option Addr} {c1 c2 : Nat} {cl mk : List Sp} {k : Nat} {X : Int} {O : Bool} (h : SumLR w F b s A1 A2 c1 c2 cl mk k X O W) (g : s.Good) (hk : k < s.kept.length) (hp : hasP cl s.kept[k].pn = true) (hs : s.kept[k].state ≠ 4) :
    ∀ W', Below W.heap.size W W' → SumLR w F b s A1 A2 c1 c2 cl mk (k + 1) (xor64 X s.kept[k].nonce) (O != LS.odd mk s.kept[k]) W' := fun W' bb =>
  ⟨h.st.below bb, noSkip_take hk h.ns (fun _ => hs), by rw [LS.sumX_take _ _ g.keptOk _ hk, hp, if_pos rfl, h.x], by rw [LS.sumO_take _ _ _ _ hk, hp, if_pos rfl, h.o]⟩

set_option maxHeartbeats 8000000 in
set_option maxRecDepth 100000 in
theorem sumR_any (w : World) (F : Nat → Prop) (b : Nat) (s : LS) (A1 A2 : Option Addr) (c1 c2 : Nat) (cl mk : List Sp) (h : LedR w F b s) (h1 : Rd w 2 A1 cl.length c1 (Ss cl)) (h2 : Rd w 2 A2 mk.length c2 (Ss mk)) (u1 : U2s cl) (u2 : U2s mk) :
    Calls Try.prog 54 #[.pointer (some ⟨b, 0, none⟩), .slice A1 cl.length c1, .slice A2 mk.length c2] w fun e w' => e = .returned (.tuple #[.int .u64 (s.sum cl mk).1, .bool (s.sum cl mk).2.1, .bool (s.sum cl mk).2.2]) ∧ Below w.heap.size w w' := by
  have S0 : Hid (SumStR w F b s A1 A2 c1 c2 cl mk w) := ⟨h, h1, h2, Below.refl _ _⟩
  have U1 := Lib.hid u1
  have U2 := Lib.hid u2
  have G := Lib.hid h.good
  have k1 := s.kept_le
  have k2 := h.good.ring256
  have k3 := s.low_le
  have K4 := Lib.hid h.good.len
  have K5 := Lib.hid h.good.lim1
  have x1 := h1.cap
  have x2 := h1.max
  unfold maxLen at x2
  have HW : Hid (isU64 (s.low : Int)) := by
    have := h.good.len
    have := h.good.lim1
    exact ⟨by omega, by omega⟩
  clear h h1 h2 u1 u2
  by_cases g1 : Good cl
  · have b1 := Lib.hid (refGood_any A1 _ c1 cl w S0.out.r1 U1.out)
    rw [goodB_true g1] at b1
    by_cases g2 : Good mk
    · go_enter Try.func54, Try.ntmps54
      go_wp2_with fail
      refine b1.out.mono ?_
      rintro e w1 ⟨rfl, q1⟩
      have S1 := Lib.hid (S0.out.qt q1)
      clear q1 b1 S0
      have b2 := Lib.hid (refGood_any A2 _ c2 mk w1 S1.out.r2 U2.out)
      rw [goodB_true g2] at b2
      go_wp2_with fail
      refine b2.out.mono ?_
      rintro e w2 ⟨rfl, q2⟩
      have S2 := Lib.hid (S1.out.qt q2)
      clear q2 b2 S1
      go_wp2_with fail
      refine (ledR_low w2 F b s S2.out.led).mono ?_
      rintro e w3 ⟨rfl, q3⟩
      have S3 := Lib.hid (S2.out.qt q3)
      clear q3 S2
      have HB : Hid (∃ v : Bool, (v = true → s.sum cl mk = (0, false, false)) ∧ (v = false → ∀ _ : 0 < cl.length, (s.low : Int) ≤ cl[0].1) ∧ Calls Try.prog 81 #[.slice A1 cl.length c1, .int .u64 s.low] w3 fun e w' => e = .returned (.bool v) ∧ Qt w3 w') := by
        rcases Nat.eq_zero_or_pos cl.length with h0 | h0
        · refine ⟨false, (fun e => by cases e), fun _ h => absurd h (by omega), ?_⟩
          rw [h0]
          exact below_nil A1 c1 s.low w3
        · have e0 : cl.headD (0, 0) = cl[0] := by cases cl with
            | nil => simp at h0
            | cons x r => rfl
          refine ⟨decide (cl[0].1 < (s.low : Int)), fun e => LS.sum_no (fun hh => ?_), fun e _ => ?_, below_any A1 _ c1 cl _ w3 _ (by rw [e0]) S3.out.r1 U1.out h0 HW.out⟩
          · have h1 := of_decide_eq_true e
            have h2 := (hh.2.2.1 _ (List.getElem_mem h0)).1
            omega
          · have h1 := of_decide_eq_false e
            omega
      obtain ⟨v, hv1, hv2, hv3⟩ := HB.out
      have HV1 := Lib.hid hv1
      have HV2 := Lib.hid hv2
      have HV3 := Lib.hid hv3
      clear hv1 hv2 hv3 HB
      go_wp2_with fail
      refine HV3.out.mono ?_
      rintro e w4 ⟨rfl, q4⟩
      have S4 := Lib.hid (S3.out.qt q4)
      clear q4 HV3 S3
      cases v with
      | true =>
        have HS := Lib.hid (HV1.out rfl)
        go_wp2
        go_ret3
        rw [HS.out]
        exact ⟨rfl, S4.out.bel⟩
      | false =>
        have HL := Lib.hid (HV2.out rfl)
        clear HV1 HV2
        go_wp2_with fail
        go_upto_region 4 with fail
        go_cut [42] (fun s42 wx => ∃ v : Bool, s42 = .bool v ∧ Hid ((v = true → s.sum cl mk = (0, false, false)) ∧ (v = false → s.rangeOk cl) ∧ SumStR w F b s A1 A2 c1 c2 cl mk wx))
        case first =>
          rcases Nat.eq_zero_or_pos cl.length with h0 | h0
          · have z0 : decide ((cl.length : Int) > 0) = false := decide_eq_false (by omega)
            have z1 : decide (0 < (cl.length : Int)) = false := decide_eq_false (by omega)
            have z2 : decide (0 < cl.length) = false := decide_eq_false (by omega)
            refine wp_region_qt (by kernel_rfl) (by kernel_rfl) ?_
            repeat (go_big_quiet_step (fail))
            refine wpQuiet_nil ?_
            intro w5 q5
            have S5 := Lib.hid (S4.out.qt q5)
            clear q5
            go_wp2_with fail
            go_meet
            exact ⟨false, rfl, (fun e => by cases e), (fun _ x hx => by
              obtain ⟨i, hi, rfl⟩ := List.mem_iff_getElem.1 hx
              omega), S5.out⟩
          · obtain ⟨m, hm⟩ : ∃ m, cl.length = m + 1 := ⟨cl.length - 1, by omega⟩
            have hml : m < cl.length := by omega
            obtain ⟨sb, so, x, y, rfl, Hx, x0, y0, -, -, y1, y2⟩ := S4.out.r1.sp U1.out hml
            have HM := Lib.hid hm
            have z1 : decide (0 < (cl.length : Int)) = true := decide_eq_true (by omega)
            have z2 : decide (0 < cl.length) = true := decide_eq_true (by omega)
            have z3 : IntKind.i64.wrap ((cl.length : Int) - 1) = m := by rw [IntWalk.i64_in _ (by omega)]; omega
            have z4 : (0 : Int) ≤ m := by omega
            have z5 : (m : Int) < cl.length := by omega
            have CM : Hid (∀ v, (v = true → (s.all.length : Int) ≤ y) → (v = false → y < s.all.length) → (v = true → s.sum cl mk = (0, false, false)) ∧ (v = false → s.rangeOk cl)) := fun v e1 e2 => by
              refine ⟨fun e => LS.sum_no (fun hh => ?_), fun e c hc => ?_⟩
              · have := (hh.2.2.1 _ (List.getElem_mem hml)).2
                rw [Hx.out] at this
                have h := e1 e
                simp only at this
                omega
              · obtain ⟨i, hi, rfl⟩ := List.mem_iff_getElem.1 hc
                have h1 := (good_mono g1 hi (Nat.zero_le i)).1
                have h2 := (good_mono g1 hml (i := i) (by omega)).2
                rw [Hx.out] at h2
                have h3 := HL.out h0
                have h4 := e2 e
                simp only at h2
                exact ⟨by omega, by omega⟩
            clear hm
            by_cases e2 : (s.all.length : Int) ≤ y
            all_goals
              refine wp_region_qt (by kernel_rfl) (by kernel_rfl) ?_
              repeat (first | go_big_quiet_step ((go_at_call 42; exact Qt.callN (ledR_next _ F b s S4.out.led.dn))) | quiet_step ((go_at_call 42; exact Qt.callN (ledR_next _ F b s S4.out.led.dn))))
              refine wpQuiet_nil ?_
              intro w5 q5
              have S5 := Lib.hid (S4.out.qt q5)
              clear q5 z3
              go_wp2_with fail
              go_meet
            · refine ⟨true, by first | rfl | simp [e2], ?_⟩
              obtain ⟨c1, c2⟩ := CM.out true (fun _ => e2) (fun e => by cases e)
              exact ⟨c1, c2, S5.out⟩
            · refine ⟨false, by first | rfl | simp [e2], ?_⟩
              obtain ⟨c1, c2⟩ := CM.out false (fun e => by cases e) (fun _ => by omega)
              exact ⟨c1, c2, S5.out⟩
        case rest =>
          obtain ⟨v, rfl, HC⟩ := hcut
          have S5 := Lib.hid HC.out.2.2
          cases v with
          | true =>
            have HS := Lib.hid (HC.out.1 rfl)
            go_wp2
            go_ret3
            rw [HS.out]
            exact ⟨rfl, S5.out.bel⟩
          | false =>
            have RG := Lib.hid (HC.out.2.1 rfl)
            clear HC S4 HL
            go_wp2_with fail
            refine (ledR_low _ F b s S5.out.led).mono ?_
            rintro e w6 ⟨rfl, q6⟩
            have hkl : s.kept.length = s.all.length - s.low := by simp [LS.kept]
            have HKL := Lib.hid hkl
            have L6 : Hid (SumLR w F b s A1 A2 c1 c2 cl mk 0 0 false w6) := ⟨S5.out.qt q6, (fun x hx => by simp at hx), by simp [LS.sumX, LS.sumN, foldIf], by simp [LS.sumO, foldIf]⟩
            have k6 : s.all.length < 9223372036854775807 := by have := K4.out; have := K5.out; omega
            clear q6 S5 hkl
            go_wp2_with fail
            go_loopw [10, 11, 12] (fun x o i wr => ∃ (k j : Nat) (X : Int) (O : Bool), k ≤ s.kept.length ∧ Hid (j = s.low + k) ∧ j ≤ s.all.length ∧ i = .int .i64 j ∧ x = .int .u64 X ∧ o = .bool O ∧ Hid (SumLR w F b s A1 A2 c1 c2 cl mk k X O wr)) (fun _ _ i _ => s.all.length - (intOf i).toNat)
            case atStart => exact ⟨0, s.low, 0, false, Nat.zero_le _, rfl, k3, rfl, rfl, rfl, L6⟩
            case round =>
              obtain ⟨k, j, X, O, hk, HJ, hj, rfl, rfl, rfl, HF⟩ := hrel
              obtain ⟨A5, c5, Hb5, r0, r1, r2, ho, -⟩ := HF.out.st.led.cells
              have R5 := Lib.hid (Rd.of_own ho)
              clear ho
              by_cases hlt : k < s.kept.length
              · have hlt2 : j < s.all.length := by have := HJ.out; have := HKL.out; omega
                obtain ⟨bb, off, rfl, d0, d1, d2, d3, d4, d5, d6, d7⟩ := R5.out.snt hlt2
                have ek : s.kept[k] = s.all[j] := by
                  rw [s.kept_get hlt]
                  congr 1
                  have := HJ.out
                  omega
                have HJ2 : Hid (j + 1 = s.low + (k + 1)) := by show _ = _; have := HJ.out; omega
                have okx := G.out.keptOk s.kept[k] (List.getElem_mem _)
                have Hno := Lib.hid (fun h => HF.out.no G.out hlt h)
                have Hyes := Lib.hid (fun h => HF.out.yes G.out hlt h)
                have Hsk : Hid (hasP cl s.kept[k].pn = true → s.kept[k].state = 4 → s.sum cl mk = (0, false, false)) := fun e1 e2 => LS.sum_no (fun hh => hh.2.2.2 _ (List.getElem_mem hlt) e1 e2)
                have HOD : Hid (LS.odd mk s.kept[k] = (s.kept[k].coin && !hasP mk s.kept[k].pn)) := rfl
                rw [ek] at okx Hno Hyes Hsk HOD
                obtain ⟨p0, p1⟩ := okx.pn
                have EB := box_below wr (.cells #[.int .u64 s.all[j].pn, .int .u64 s.all[j].off, .int .u64 s.all[j].len, .int .u64 s.all[j].nonce, .int .u64 s.all[j].at_, .bool s.all[j].coin, .bool s.all[j].used, .int .i64 s.all[j].state] 32)
                have BX := Lib.hid (heap_alloc_new wr (.cells #[.int .u64 s.all[j].pn, .int .u64 s.all[j].off, .int .u64 s.all[j].len, .int .u64 s.all[j].nonce, .int .u64 s.all[j].at_, .bool s.all[j].coin, .bool s.all[j].used, .int .i64 s.all[j].state] 32))
                have S6 := Lib.hid (HF.out.st.below EB)
                have B6 := Lib.hid EB
                clear okx ek EB
                generalize LS.odd mk s.all[j] = od at *
                generalize s.all[j] = y at *
                obtain ⟨pn, of, len, nonce, at_, coin, used, state⟩ := y
                simp only at d0 d1 d2 d3 d4 d5 d6 d7 p0 p1 Hno Hyes Hsk HOD BX S6 B6
                go_wp2_with fail
                refine (hasNum_any A1 _ c1 cl pn _ S6.out.r1 U1.out p0 p1).mono ?_
                generalize hasP cl pn = hc at *
                generalize hW : (wr.alloc (.cells #[.int .u64 pn, .int .u64 of, .int .u64 len, .int .u64 nonce, .int .u64 at_, .bool coin, .bool used, .int .i64 state] 32)) = wb at *
                rintro e w7 ⟨rfl, q7⟩
                have B7 : Hid (Below wr.heap.size wr w7) := B6.out.trans q7.below
                have BX7 := Lib.hid (q7.blk BX.out)
                have S7 := Lib.hid (S6.out.qt q7)
                clear hW q7 S6 B6 BX d0 d1 d2 d3 d4 d5 d6 d7 r0 r1 r2
                cases hc with
                | false =>
                  go_wp2
                  go_roundw
                  case rel => exact ⟨k + 1, j + 1, X, O, hlt, HJ2, hlt2, by go_num, rfl, rfl, Hno.out (by first | rfl | trivial) _ B7.out⟩
                  case measure => simp [intOf]; omega
                | true =>
                  have y0 := cell_of_row w7 wr.heap.size 0 _ _ _ BX7.out
                  have y1 := cell_of_row w7 wr.heap.size 1 _ _ _ BX7.out
                  have y2 := cell_of_row w7 wr.heap.size 2 _ _ _ BX7.out
                  have y3 := cell_of_row w7 wr.heap.size 3 _ _ _ BX7.out
                  have y4 := cell_of_row w7 wr.heap.size 4 _ _ _ BX7.out
                  have y5 := cell_of_row w7 wr.heap.size 5 _ _ _ BX7.out
                  have y6 := cell_of_row w7 wr.heap.size 6 _ _ _ BX7.out
                  have y7 := cell_of_row w7 wr.heap.size 7 _ _ _ BX7.out
                  by_cases e4 : state = 4
                  · subst e4
                    have HS := Lib.hid (Hsk.out (by first | rfl | trivial) (by first | rfl | trivial))
                    go_wp2
                    go_ret3
                    rw [HS.out]
                    exact ⟨rfl, S7.out.bel⟩
                  · have ADV := Lib.hid (Hyes.out (by first | rfl | trivial) e4)
                    cases coin with
                    | false =>
                      obtain rfl : od = false := by have := HOD.out; simpa using this
                      go_wp2
                      go_roundw
                      case rel => exact ⟨k + 1, j + 1, xor64 X nonce, (O != false), hlt, HJ2, hlt2, by go_num, by first | rfl | (simp [xor64]; done), by cases O <;> rfl, ADV.out _ B7.out⟩
                      case measure => simp [intOf]; omega
                    | true =>
                      go_wp2_with fail
                      refine (hasNum_any A2 _ c2 mk pn _ S7.out.r2 U2.out p0 p1).mono ?_
                      generalize hasP mk pn = hm at *
                      rintro e w8 ⟨rfl, q8⟩
                      have B8 : Hid (Below wr.heap.size wr w8) := B7.out.trans q8.below
                      clear q8 y0 y1 y2 y3 y4 y5 y6 y7
                      obtain rfl : od = !hm := by have := HOD.out; simpa using this
                      cases hm with
                      | true =>
                        go_wp2
                        go_roundw
                        case rel => exact ⟨k + 1, j + 1, xor64 X nonce, (O != false), hlt, HJ2, hlt2, by go_num, by first | rfl | (simp [xor64]; done), by cases O <;> rfl, ADV.out _ B8.out⟩
                        case measure => simp [intOf]; omega
                      | false =>
                        go_wp2
                        go_roundw
                        case rel => exact ⟨k + 1, j + 1, xor64 X nonce, (O != true), hlt, HJ2, hlt2, by go_num, by first | rfl | (simp [xor64]; done), by cases O <;> rfl, ADV.out _ B8.out⟩
                        case measure => simp [intOf]; omega
              · obtain rfl : k = s.kept.length := by omega
                obtain rfl : j = s.all.length := by have := HJ.out; have := HKL.out; omega
                have hs : s.SumOk cl mk := ⟨g1, g2, RG.out, by have := HF.out.ns; rwa [List.take_length] at this⟩
                have hX : X = LS.sumX cl s.kept := by have := HF.out.x; rwa [List.take_length] at this
                have hO : O = LS.sumO cl mk s.kept := by have := HF.out.o; rwa [List.take_length] at this
                have HS := Lib.hid (LS.sum_yes hs)
                subst hX
                subst hO
                clear hs
                go_wp2
                go_ret3
                rw [HS.out]
                exact ⟨rfl, HF.out.st.bel⟩
    · have HS := Lib.hid (LS.sum_no (s := s) (cl := cl) (mk := mk) (fun h => g2 h.2.1))
      go_enter Try.func54, Try.ntmps54
      go_wp2_with fail
      refine b1.out.mono ?_
      rintro e w1 ⟨rfl, q1⟩
      have S1 := Lib.hid (S0.out.qt q1)
      clear q1 b1 S0
      have b2 := Lib.hid (refGood_any A2 _ c2 mk w1 S1.out.r2 U2.out)
      rw [show goodB mk = false from decide_eq_false g2] at b2
      go_wp2_with fail
      refine b2.out.mono ?_
      rintro e w2 ⟨rfl, q2⟩
      have S2 := Lib.hid (S1.out.qt q2)
      clear q2 b2 S1
      go_wp2
      go_ret3
      rw [HS.out]
      exact ⟨rfl, S2.out.bel⟩
  · have HS := Lib.hid (LS.sum_no (s := s) (cl := cl) (mk := mk) (fun h => g1 h.1))
    have b1 := Lib.hid (refGood_any A1 _ c1 cl w S0.out.r1 U1.out)
    rw [show goodB cl = false from decide_eq_false g1] at b1
    go_enter Try.func54, Try.ntmps54
    go_wp2_with fail
    refine b1.out.mono ?_
    rintro e w1 ⟨rfl, q1⟩
    have S1 := Lib.hid (S0.out.qt q1)
    clear q1 b1 S0
    go_wp2
    go_ret3
    rw [HS.out]
    exact ⟨rfl, S1.out.bel⟩

end Go.Proofs.Yteigflkpopcjkaa
