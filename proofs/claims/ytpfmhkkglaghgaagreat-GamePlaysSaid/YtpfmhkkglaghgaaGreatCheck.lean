/-
  proof.Check: the first thing that is wrong with an acknowledgment. · The reference's CheckAck.
-/
import Derived.Test.YtpfmhkkglaghgaaGreatPrfP
import Derived.Test.YtpfmhkkglaghgaaGreatPrfSum
namespace Go.Proofs.YtpfmhkkglaghgaaGreat
set_option linter.unusedSimpArgs false
set_option linter.unusedVariables false
set_option linter.unnecessarySimpa false
open Go.RowKit
attribute [local go_sem ↓] run_min_int run_max_int

/-- The boxed acknowledgment and the ledger. -/
structure ChkSt (w : World) (F : Nat → Prop) (b : Nat) (s : LS) (a : Ak) (g : Nat) (W : World) : Prop where
  p : AkBox w a g W
  led : LedP W F b s
theorem ChkSt.below {w W W' : World} {F : Nat → Prop} {b : Nat} {s : LS} {a : Ak} {g : Nat} (h : ChkSt w F b s a g W) (q : Below W.heap.size W W') : ChkSt w F b s a g W' := ⟨h.p.below q, h.led.below q⟩

set_option maxHeartbeats 8000000 in
set_option maxRecDepth 100000 in
theorem check_any (w : World) (F : Nat → Prop) (b : Nat) (s : LS) (a : Ak) (h : LedP w F b s) (ha : AkR w a) :
    Calls Tryz.prog 55 #[.pointer (some ⟨b, 0, none⟩), a.val] w fun e w' => e = .returned (.tuple #[.int .i64 (a.check s).1, .int .u64 (a.check s).2]) ∧ Below w.heap.size w w' := by
  have P0 : Hid (ChkSt w F b s a w.heap.size (w.alloc (.cells a.cells 74))) := ⟨AkBox.of ha (Below.refl w.heap.size w), h.below (box_below w _)⟩
  have g5 := s.kept_le
  have g2 := h.good.ring256
  have HK := Lib.hid h.good.keptOk
  have k1 := s.low_le
  have k3 := h.good.len
  have k4 := h.good.lim1
  have ux := Lib.hid ha.ux
  clear ha h
  obtain ⟨A, c, B, d, sp, mk, tr, xo, od⟩ := a
  unfold Ak.val
  simp only [Ak.cells] at P0 ux ⊢
  go_enter Tryz.func55, Tryz.ntmps55
  go_wp2_with fail
  generalize hw : w.alloc (.cells #[.slice A sp.length c, .slice B mk.length d, .int .u64 tr, .int .u64 xo, .bool od] 74) = w1 at *
  clear hw
  generalize hg : w.heap.size = g at *
  refine (may_any w1 ⟨A, c, B, d, sp, mk, tr, xo, od⟩ P0.out.p.r).mono ?_
  by_cases hmay : mayB sp mk = true
  · have HM := Lib.hid hmay
    rw [show mayB (Ak.mk A c B d sp mk tr xo od).sp (Ak.mk A c B d sp mk tr xo od).mm = true from hmay]
    rintro e w2 ⟨rfl, q⟩
    have P2 := Lib.hid (P0.out.below q)
    clear q P0
    obtain ⟨⟨l1, l2, l3⟩, hgs, -, -⟩ := mayB_true hmay
    have GS := Lib.hid hgs
    clear hmay hgs
    have t0 := cell_of_row w2 g 0 _ _ _ P2.out.p.t
    have t1 := cell_of_row w2 g 1 _ _ _ P2.out.p.t
    have t2 := cell_of_row w2 g 2 _ _ _ P2.out.p.t
    have t3 := cell_of_row w2 g 3 _ _ _ P2.out.p.t
    have t4 := cell_of_row w2 g 4 _ _ _ P2.out.p.t
    simp only [Ak.cells] at t0 t1 t2 t3 t4
    obtain ⟨sb, so, x, y, rfl, Hx, x0, y0, x1, x2, y1, y2⟩ := P2.out.p.r.rs.sp P2.out.p.r.us (k := 0) (by show 0 < sp.length; omega)
    simp only [Nat.zero_mul, Nat.add_zero] at x0 y0
    have Hlo : Hid (Ak.lo ⟨some ⟨sb, so, none⟩, c, B, d, sp, mk, tr, xo, od⟩ = x) := by
      show _ = _
      have e := Hx.out
      cases sp with
      | nil => simp at l1
      | cons q r => simp at e; simp [Ak.lo, e]
    clear Hx
    generalize ha : (Ak.mk (some ⟨sb, so, none⟩) c B d sp mk tr xo od) = a at *
    have HA := Lib.hid ha
    go_wp2_with fail
    by_cases hlow : x < s.low
    · have Hr := Lib.hid (Ak.check_low (a := a) (s := s) (by rw [← ha]; exact HM.out) (by rw [Hlo.out]; exact hlow))
      clear ha
      refine wp_region_qt (by kernel_rfl) (by kernel_rfl) ?_
      repeat (first | go_big_quiet_step ((go_at_call 81; exact Qt.callN (led_low _ F b s P2.out.led.dn))) | quiet_step ((go_at_call 81; exact Qt.callN (led_low _ F b s P2.out.led.dn))))
      refine wpQuiet_nil ?_
      intro w3 q3
      go_wp2
      go_ret2
      have e9 := Hr.out
      rw [← HA.out] at e9
      rw [e9]
      exact ⟨rfl, P2.out.p.bel.trans q3.below⟩
    · have Hr := Lib.hid (Ak.check_go (a := a) (s := s) (by rw [← ha]; exact HM.out) (by rw [Hlo.out]; exact hlow))
      clear ha
      refine wp_region_qt (by kernel_rfl) (by kernel_rfl) ?_
      repeat (first | go_big_quiet_step ((go_at_call 81; exact Qt.callN (led_low _ F b s P2.out.led.dn))) | quiet_step ((go_at_call 81; exact Qt.callN (led_low _ F b s P2.out.led.dn))))
      refine wpQuiet_nil ?_
      intro w3 q3
      have P3 := Lib.hid (P2.out.below q3.below)
      clear q3 P2 t0 t1 t2 t3 t4 x0 y0
      have t0 := cell_of_row w3 g 0 _ _ _ P3.out.p.t
      have t1 := cell_of_row w3 g 1 _ _ _ P3.out.p.t
      have t2 := cell_of_row w3 g 2 _ _ _ P3.out.p.t
      have t3 := cell_of_row w3 g 3 _ _ _ P3.out.p.t
      have t4 := cell_of_row w3 g 4 _ _ _ P3.out.p.t
      rw [← HA.out] at t0 t1 t2 t3 t4
      simp only [Ak.cells] at t0 t1 t2 t3 t4
      have U : Hid (U2s sp) := by have h := P3.out.p.r.us; rw [← HA.out] at h; exact h
      have ASP : Hid (a.sp = sp) := by rw [← HA.out]; rfl
      go_wp2_with fail
      clear t0 t1 t2 t3 t4
      go_loopw [31] (fun i wr => ∃ k : Nat, k ≤ sp.length ∧ i = .int .i64 k ∧ Hid (ChkSt w F b s a g wr ∧ a.check s = aheadsP a s (aheadP s.all.length (a.sp.drop k)))) (fun i _ => sp.length - (intOf i).toNat)
      case atStart => exact ⟨0, Nat.zero_le _, rfl, P3.out, by rw [Hr.out]; simp⟩
      case round =>
        obtain ⟨k, hk, rfl, HF⟩ := hrel
        have gl := lt_of_block HF.out.1.p.t
        by_cases hlt : k < sp.length
        · have RS : Hid (Rd wr 2 (some ⟨sb, so, none⟩) sp.length c (Ss sp)) := by have h := HF.out.1.p.r.rs; rw [← HA.out] at h; exact h
          obtain ⟨x, y, Hx, x0, y0, u1, u2, u3, u4⟩ := RS.out.spat U.out hlt
          have EB := box_below wr (.cells #[.int .u64 x, .int .u64 y] 141)
          have BX := Lib.hid (heap_alloc_new wr (.cells #[.int .u64 x, .int .u64 y] 141))
          have F2 := Lib.hid (HF.out.1.below EB)
          have hka : k < a.sp.length := by rw [ASP.out]; exact hlt
          have ek : a.sp[k] = (x, y) := by simp only [ASP.out]; exact Hx.out
          have Hyes := Lib.hid (fun h => aheads_yes (a := a) (s := s) hka h)
          have Hno := Lib.hid (fun h => aheads_no (a := a) (s := s) hka h)
          rw [ek] at Hyes Hno
          clear EB ek hka
          go_upto_region 8 with fail
          generalize hW : (wr.alloc (.cells #[.int .u64 x, .int .u64 y] 141)) = wb at *
          have v0 := cell_of_row wb wr.heap.size 0 _ _ _ BX.out
          have v1 := cell_of_row wb wr.heap.size 1 _ _ _ BX.out
          clear hW x0 y0
          generalize wr.heap.size = gb at *
          by_cases e2 : (s.all.length : Int) ≤ y
          · have HS := Lib.hid (HF.out.2.trans (Hyes.out e2))
            refine wp_region_qt (by kernel_rfl) (by kernel_rfl) ?_
            repeat (first | go_big_quiet_step ((go_at_call 86; exact Qt.callN (led_next _ F b s F2.out.led.dn))) | quiet_step ((go_at_call 86; exact Qt.callN (led_next _ F b s F2.out.led.dn))))
            refine wpQuiet_nil ?_
            intro w5 q5
            have F5 := Lib.hid (F2.out.below q5.below)
            have v0 := cell_of_row w5 gb 0 _ _ _ ((q5.below.block _ (lt_of_block BX.out)).trans BX.out)
            have v1 := cell_of_row w5 gb 1 _ _ _ ((q5.below.block _ (lt_of_block BX.out)).trans BX.out)
            clear q5
            go_wp2_with fail
            refine wp_region_qt (by kernel_rfl) (by kernel_rfl) ?_
            repeat (first | go_big_quiet_step ((go_at_call 86; exact Qt.callN (led_next _ F b s F5.out.led.dn))) | quiet_step ((go_at_call 86; exact Qt.callN (led_next _ F b s F5.out.led.dn))))
            refine wpQuiet_nil ?_
            intro w6 q6
            go_wp2
            go_ret2
            have e9 := HS.out
            rw [← HA.out] at e9
            rw [e9]
            exact ⟨rfl, F5.out.p.bel.trans q6.below⟩
          · have HS := Lib.hid (HF.out.2.trans (Hno.out e2))
            refine wp_region_qt (by kernel_rfl) (by kernel_rfl) ?_
            repeat (first | go_big_quiet_step ((go_at_call 86; exact Qt.callN (led_next _ F b s F2.out.led.dn))) | quiet_step ((go_at_call 86; exact Qt.callN (led_next _ F b s F2.out.led.dn))))
            refine wpQuiet_nil ?_
            intro w5 q5
            have F5 := Lib.hid (F2.out.below q5.below)
            clear q5
            go_wp2_with fail
            go_roundw
            case rel => exact ⟨k + 1, by omega, by go_num, F5.out, HS.out⟩
            case measure => simp [intOf]; omega
        · obtain rfl : k = sp.length := by omega
          have HE : Hid (a.check s = skipsP a s (skipP sp s.kept)) := by
            have h := HF.out.2
            rw [← ASP.out, aheads_end, ASP.out] at h
            exact h
          go_wp2_with fail
          refine (led_all wr F b s HF.out.1.led).mono ?_
          rintro e w4 ⟨A4, c4, rfl, ho, q⟩
          have S4 : Hid (ChkSt w F b s a g w4 ∧ Rd w4 8 A4 s.kept.length c4 (Sns s.kept)) := ⟨HF.out.1.below q, Rd.of_own ho⟩
          clear q ho HF
          go_wp2_with fail
          go_loopw [49] (fun i wr => ∃ k : Nat, k ≤ s.kept.length ∧ i = .int .i64 k ∧ Hid ((ChkSt w F b s a g wr ∧ Rd wr 8 A4 s.kept.length c4 (Sns s.kept)) ∧ a.check s = skipsP a s (skipP sp (s.kept.drop k)))) (fun i _ => s.kept.length - (intOf i).toNat)
          case atStart => exact ⟨0, Nat.zero_le _, rfl, S4.out, by rw [HE.out]; simp⟩
          case round =>
            obtain ⟨k, hk, rfl, HF⟩ := hrel
            have t0 := cell_of_row wr g 0 _ _ _ HF.out.1.1.p.t
            have t1 := cell_of_row wr g 1 _ _ _ HF.out.1.1.p.t
            have t2 := cell_of_row wr g 2 _ _ _ HF.out.1.1.p.t
            have t3 := cell_of_row wr g 3 _ _ _ HF.out.1.1.p.t
            have t4 := cell_of_row wr g 4 _ _ _ HF.out.1.1.p.t
            rw [← HA.out] at t0 t1 t2 t3 t4
            simp only [Ak.cells] at t0 t1 t2 t3 t4
            have gl := lt_of_block HF.out.1.1.p.t
            by_cases hlt : k < s.kept.length
            · obtain ⟨bb, off, rfl, d0, d1, d2, d3, d4, d5, d6, d7⟩ := HF.out.1.2.snt hlt
              have okx := HK.out s.kept[k] (List.getElem_mem _)
              obtain ⟨p0, p1⟩ := okx.pn
              have Hyes := Lib.hid (fun h h1 => skips_yes (a := a) (s := s) hlt h h1)
              have Hno := Lib.hid (fun h => skips_no (a := a) (s := s) hlt h)
              rw [ASP.out] at Hyes Hno
              have EB := box_below wr (.cells #[.int .u64 s.kept[k].pn, .int .u64 s.kept[k].off, .int .u64 s.kept[k].len, .int .u64 s.kept[k].nonce, .int .u64 s.kept[k].at_, .bool s.kept[k].coin, .bool s.kept[k].used, .int .i64 s.kept[k].state] 66)
              have BX := Lib.hid (heap_alloc_new wr (.cells #[.int .u64 s.kept[k].pn, .int .u64 s.kept[k].off, .int .u64 s.kept[k].len, .int .u64 s.kept[k].nonce, .int .u64 s.kept[k].at_, .bool s.kept[k].coin, .bool s.kept[k].used, .int .i64 s.kept[k].state] 66))
              have ADV : Hid (∀ W', Below wr.heap.size wr W' → ChkSt w F b s a g W' ∧ Rd W' 8 (some ⟨bb, off, none⟩) s.kept.length c4 (Sns s.kept)) := fun W' q => ⟨HF.out.1.1.below q, HF.out.1.2.below q⟩
              have B6 := Lib.hid EB
              clear okx EB
              generalize s.kept[k] = y at *
              obtain ⟨pn, of, len, nonce, at_, coin, used, state⟩ := y
              simp only at d0 d1 d2 d3 d4 d5 d6 d7 p0 p1 Hno Hyes BX B6
              by_cases e4 : state = 4
              · subst e4
                have RS : Hid (∀ W, ChkSt w F b s a g W → Rd W 2 (some ⟨sb, so, none⟩) sp.length c (Ss sp)) := fun W h => by have h := h.p.r.rs; rw [← HA.out] at h; exact h
                go_wp2_with fail
                refine (has_yes (some ⟨sb, so, none⟩) _ c sp pn _ (RS.out _ (ADV.out _ B6.out).1) U.out GS.out p0 p1).mono ?_
                generalize hW : (wr.alloc (.cells #[.int .u64 pn, .int .u64 of, .int .u64 len, .int .u64 nonce, .int .u64 at_, .bool coin, .bool used, .int .i64 4] 66)) = wb at *
                generalize hasP sp pn = hc at *
                rintro e w7 ⟨rfl, q7⟩
                have B7 : Hid (Below wr.heap.size wr w7) := B6.out.trans (q7.mono B6.out.size)
                have BX7 := Lib.hid ((q7.block _ (lt_of_block BX.out)).trans BX.out)
                clear hW q7 B6 BX d0 d1 d2 d3 d4 d5 d6 d7 t0 t1 t2 t3 t4
                cases hc with
                | false =>
                  have HS := Lib.hid (HF.out.2.trans (Hno.out (fun e => by have := e.2; first | cases this | exact this.elim)))
                  go_wp2
                  go_roundw
                  case rel => exact ⟨k + 1, by omega, by go_num, ADV.out _ B7.out, HS.out⟩
                  case measure => simp [intOf]; omega
                | true =>
                  have HS := Lib.hid (HF.out.2.trans (Hyes.out (by first | rfl | trivial) (by first | rfl | trivial)))
                  have y0 := cell_of_row w7 wr.heap.size 0 _ _ _ BX7.out
                  have y1 := cell_of_row w7 wr.heap.size 1 _ _ _ BX7.out
                  have y2 := cell_of_row w7 wr.heap.size 2 _ _ _ BX7.out
                  have y3 := cell_of_row w7 wr.heap.size 3 _ _ _ BX7.out
                  have y4 := cell_of_row w7 wr.heap.size 4 _ _ _ BX7.out
                  have y5 := cell_of_row w7 wr.heap.size 5 _ _ _ BX7.out
                  have y6 := cell_of_row w7 wr.heap.size 6 _ _ _ BX7.out
                  have y7 := cell_of_row w7 wr.heap.size 7 _ _ _ BX7.out
                  have hb := (ADV.out _ B7.out).1.p.bel
                  go_wp2_with fail
                  refine wp_region_qt (by kernel_rfl) (by kernel_rfl) ?_
                  repeat (go_big_quiet_step (fail))
                  refine wpQuiet_nil ?_
                  intro w8 q8
                  go_wp2
                  go_ret2
                  have e9 := HS.out
                  rw [← HA.out] at e9
                  rw [e9]
                  exact ⟨rfl, hb.trans q8.below⟩
              · have HS := Lib.hid (HF.out.2.trans (Hno.out (fun e => e4 e.1)))
                go_wp2
                go_roundw
                case rel => exact ⟨k + 1, by omega, by go_num, ADV.out _ (box_below _ _), HS.out⟩
                case measure => simp [intOf]; omega
            · obtain rfl : k = s.kept.length := by omega
              have HE : Hid (a.check s = sumsP a s) := by
                have h := HF.out.2
                rw [← ASP.out, skips_end] at h
                exact h
              have RS : Hid (Rd wr 2 (some ⟨sb, so, none⟩) sp.length c (Ss sp)) := by have h := HF.out.1.1.p.r.rs; rw [← HA.out] at h; exact h
              have RM : Hid (Rd wr 2 B mk.length d (Ss mk)) := by have h := HF.out.1.1.p.r.rm; rw [← HA.out] at h; exact h
              have UM : Hid (U2s mk) := by have h := HF.out.1.1.p.r.um; rw [← HA.out] at h; exact h
              have HX := Lib.hid (fun h => HE.out.trans (sums_x (a := a) (s := s) h))
              have HO := Lib.hid (fun h h1 => HE.out.trans (sums_o (a := a) (s := s) h h1))
              have HZ := Lib.hid (fun h h1 => HE.out.trans (sums_ok (a := a) (s := s) h h1))
              rw [← HA.out] at HX HO HZ
              simp only at HX HO HZ
              go_wp2_with fail
              refine (sum_any wr F b s (some ⟨sb, so, none⟩) B c d sp mk HF.out.1.1.led RS.out RM.out U.out UM.out).mono ?_
              generalize s.sum sp mk = sm at *
              obtain ⟨X, O, v⟩ := sm
              simp only at HX HO HZ ⊢
              rintro e w5 ⟨rfl, q⟩
              have F5 := Lib.hid (HF.out.1.1.below q)
              clear q t0 t1 t2 t3 t4
              have t0 := cell_of_row w5 g 0 _ _ _ F5.out.p.t
              have t1 := cell_of_row w5 g 1 _ _ _ F5.out.p.t
              have t2 := cell_of_row w5 g 2 _ _ _ F5.out.p.t
              have t3 := cell_of_row w5 g 3 _ _ _ F5.out.p.t
              have t4 := cell_of_row w5 g 4 _ _ _ F5.out.p.t
              rw [← HA.out] at t0 t1 t2 t3 t4
              simp only [Ak.cells] at t0 t1 t2 t3 t4
              have hb := F5.out.p.bel
              by_cases e1 : X = xo
              · subst e1
                by_cases e2 : O = od
                · subst e2
                  have HS := Lib.hid (HZ.out (by first | rfl | trivial) (by first | rfl | trivial))
                  have e2' : (O != O) = false := by simp
                  have e1' : (X != X) = false := by simp
                  go_wp2
                  go_ret2
                  rw [HS.out]
                  exact ⟨rfl, hb⟩
                · have HS := Lib.hid (HO.out (by first | rfl | trivial) e2)
                  cases O <;> cases od
                  · exact absurd rfl e2
                  · go_wp2
                    go_ret2
                    rw [HS.out]
                    exact ⟨rfl, hb⟩
                  · go_wp2
                    go_ret2
                    rw [HS.out]
                    exact ⟨rfl, hb⟩
                  · exact absurd rfl e2
              · have HS := Lib.hid (HX.out e1)
                have e1' : (X != xo) = true := by simpa using e1
                go_wp2
                go_ret2
                rw [HS.out]
                exact ⟨rfl, hb⟩
  · have hmay' : mayB sp mk = false := by simpa using hmay
    have Hr := Lib.hid (Ak.check_may (a := ⟨A, c, B, d, sp, mk, tr, xo, od⟩) (s := s) hmay')
    rw [show mayB (Ak.mk A c B d sp mk tr xo od).sp (Ak.mk A c B d sp mk tr xo od).mm = false from hmay']
    rintro e w2 ⟨rfl, q⟩
    have hb := P0.out.p.bel.trans (q.mono P0.out.p.bel.size)
    clear q P0 hmay hmay'
    go_wp2
    go_ret2
    rw [Hr.out]
    exact ⟨rfl, hb⟩

end Go.Proofs.YtpfmhkkglaghgaaGreat

namespace Go.Proofs.YtpfmhkkglaghgaaGreat
set_option linter.unusedSimpArgs false
set_option linter.unusedVariables false
set_option linter.unnecessarySimpa false
open Go.RowKit
attribute [local go_sem ↓] run_min_int run_max_int

/-- The boxed acknowledgment and the ledger. -/
structure ChkStR (w : World) (F : Nat → Prop) (b : Nat) (s : LS) (a : Ak) (g : Nat) (W : World) : Prop where
  p : AkBox w a g W
  led : LedR W F b s
theorem ChkStR.below {w W W' : World} {F : Nat → Prop} {b : Nat} {s : LS} {a : Ak} {g : Nat} (h : ChkStR w F b s a g W) (q : Below W.heap.size W W') : ChkStR w F b s a g W' := ⟨h.p.below q, h.led.below q⟩

set_option maxHeartbeats 8000000 in
set_option maxRecDepth 100000 in
theorem checkR_any (w : World) (F : Nat → Prop) (b : Nat) (s : LS) (a : Ak) (h : LedR w F b s) (ha : AkR w a) :
    Calls Tryz.prog 67 #[.pointer (some ⟨b, 0, none⟩), a.val] w fun e w' => e = .returned (.tuple #[.int .i64 (a.check s).1, .int .u64 (a.check s).2]) ∧ Below w.heap.size w w' := by
  have P0 : Hid (ChkStR w F b s a w.heap.size (w.alloc (.cells a.cells 74))) := ⟨AkBox.of ha (Below.refl w.heap.size w), h.below (box_below w _)⟩
  have g5 := s.kept_le
  have g2 := h.good.ring256
  have HK := Lib.hid h.good.keptOk
  have k1 := s.low_le
  have k3 := h.good.len
  have k4 := h.good.lim1
  have ux := Lib.hid ha.ux
  clear ha h
  obtain ⟨A, c, B, d, sp, mk, tr, xo, od⟩ := a
  unfold Ak.val
  simp only [Ak.cells] at P0 ux ⊢
  go_enter Tryz.func67, Tryz.ntmps67
  go_wp2_with fail
  generalize hw : w.alloc (.cells #[.slice A sp.length c, .slice B mk.length d, .int .u64 tr, .int .u64 xo, .bool od] 74) = w1 at *
  clear hw
  generalize hg : w.heap.size = g at *
  refine (mayAck_any w1 ⟨A, c, B, d, sp, mk, tr, xo, od⟩ P0.out.p.r).mono ?_
  by_cases hmay : mayB sp mk = true
  · have HM := Lib.hid hmay
    rw [show mayB (Ak.mk A c B d sp mk tr xo od).sp (Ak.mk A c B d sp mk tr xo od).mm = true from hmay]
    rintro e w2 ⟨rfl, q⟩
    have P2 := Lib.hid (P0.out.below q)
    clear q P0
    obtain ⟨⟨l1, l2, l3⟩, hgs, -, -⟩ := mayB_true hmay
    have GS := Lib.hid hgs
    clear hmay hgs
    have t0 := cell_of_row w2 g 0 _ _ _ P2.out.p.t
    have t1 := cell_of_row w2 g 1 _ _ _ P2.out.p.t
    have t2 := cell_of_row w2 g 2 _ _ _ P2.out.p.t
    have t3 := cell_of_row w2 g 3 _ _ _ P2.out.p.t
    have t4 := cell_of_row w2 g 4 _ _ _ P2.out.p.t
    simp only [Ak.cells] at t0 t1 t2 t3 t4
    obtain ⟨sb, so, x, y, rfl, Hx, x0, y0, x1, x2, y1, y2⟩ := P2.out.p.r.rs.sp P2.out.p.r.us (k := 0) (by show 0 < sp.length; omega)
    simp only [Nat.zero_mul, Nat.add_zero] at x0 y0
    have Hlo : Hid (Ak.lo ⟨some ⟨sb, so, none⟩, c, B, d, sp, mk, tr, xo, od⟩ = x) := by
      show _ = _
      have e := Hx.out
      cases sp with
      | nil => simp at l1
      | cons q r => simp at e; simp [Ak.lo, e]
    clear Hx
    have HW : Hid (isU64 (s.low : Int)) := ⟨by omega, by omega⟩
    have hh0 : (sp.headD (0, 0)).1 = x := Hlo.out
    have HH0 := Lib.hid hh0
    have PR : Hid (Rd w2 2 (some ⟨sb, so, none⟩) sp.length c (Ss sp)) := P2.out.p.r.rs
    have PU : Hid (U2s sp) := P2.out.p.r.us
    clear hh0
    generalize ha : (Ak.mk (some ⟨sb, so, none⟩) c B d sp mk tr xo od) = a at *
    have HA := Lib.hid ha
    go_wp2_with fail
    by_cases hlow : x < s.low
    · have Hb := Lib.hid (show decide ((sp.headD (0, 0)).1 < (s.low : Int)) = true from decide_eq_true (by rw [HH0.out]; exact hlow))
      have Hr := Lib.hid (Ak.check_low (a := a) (s := s) (by rw [← ha]; exact HM.out) (by rw [Hlo.out]; exact hlow))
      clear ha
      refine wp_region_qt (by kernel_rfl) (by kernel_rfl) ?_
      repeat (first | go_big_quiet_step ((first | (go_at_call 98; exact Qt.callN (ledR_low _ F b s P2.out.led.dn)) | (go_at_call 97; exact Qt.callN (below_any _ _ c sp _ _ true Hb.out PR.out.dn PU.out l1 HW.out)))) | quiet_step ((first | (go_at_call 98; exact Qt.callN (ledR_low _ F b s P2.out.led.dn)) | (go_at_call 97; exact Qt.callN (below_any _ _ c sp _ _ true Hb.out PR.out.dn PU.out l1 HW.out)))))
      refine wpQuiet_nil ?_
      intro w3 q3
      go_wp2
      go_ret2
      have e9 := Hr.out
      rw [← HA.out] at e9
      rw [e9]
      exact ⟨rfl, P2.out.p.bel.trans q3.below⟩
    · have Hb := Lib.hid (show decide ((sp.headD (0, 0)).1 < (s.low : Int)) = false from decide_eq_false (by rw [HH0.out]; exact hlow))
      have Hr := Lib.hid (Ak.check_go (a := a) (s := s) (by rw [← ha]; exact HM.out) (by rw [Hlo.out]; exact hlow))
      clear ha
      refine wp_region_qt (by kernel_rfl) (by kernel_rfl) ?_
      repeat (first | go_big_quiet_step ((first | (go_at_call 98; exact Qt.callN (ledR_low _ F b s P2.out.led.dn)) | (go_at_call 97; exact Qt.callN (below_any _ _ c sp _ _ false Hb.out PR.out.dn PU.out l1 HW.out)))) | quiet_step ((first | (go_at_call 98; exact Qt.callN (ledR_low _ F b s P2.out.led.dn)) | (go_at_call 97; exact Qt.callN (below_any _ _ c sp _ _ false Hb.out PR.out.dn PU.out l1 HW.out)))))
      refine wpQuiet_nil ?_
      intro w3 q3
      have P3 := Lib.hid (P2.out.below q3.below)
      clear q3 P2 t0 t1 t2 t3 t4 x0 y0
      have t0 := cell_of_row w3 g 0 _ _ _ P3.out.p.t
      have t1 := cell_of_row w3 g 1 _ _ _ P3.out.p.t
      have t2 := cell_of_row w3 g 2 _ _ _ P3.out.p.t
      have t3 := cell_of_row w3 g 3 _ _ _ P3.out.p.t
      have t4 := cell_of_row w3 g 4 _ _ _ P3.out.p.t
      rw [← HA.out] at t0 t1 t2 t3 t4
      simp only [Ak.cells] at t0 t1 t2 t3 t4
      have U : Hid (U2s sp) := by have h := P3.out.p.r.us; rw [← HA.out] at h; exact h
      have ASP : Hid (a.sp = sp) := by rw [← HA.out]; rfl
      go_wp2_with fail
      clear t0 t1 t2 t3 t4
      go_loopw [6] (fun i wr => ∃ k : Nat, k ≤ sp.length ∧ i = .int .i64 k ∧ Hid (ChkStR w F b s a g wr ∧ a.check s = aheadsP a s (aheadP s.all.length (a.sp.drop k)))) (fun i _ => sp.length - (intOf i).toNat)
      case atStart => exact ⟨0, Nat.zero_le _, rfl, P3.out, by rw [Hr.out]; simp⟩
      case round =>
        obtain ⟨k, hk, rfl, HF⟩ := hrel
        have gl := lt_of_block HF.out.1.p.t
        have t0 := cell_of_row wr g 0 _ _ _ HF.out.1.p.t
        have t1 := cell_of_row wr g 1 _ _ _ HF.out.1.p.t
        have t2 := cell_of_row wr g 2 _ _ _ HF.out.1.p.t
        have t3 := cell_of_row wr g 3 _ _ _ HF.out.1.p.t
        have t4 := cell_of_row wr g 4 _ _ _ HF.out.1.p.t
        rw [← HA.out] at t0 t1 t2 t3 t4
        simp only [Ak.cells] at t0 t1 t2 t3 t4
        by_cases hlt : k < sp.length
        · have RS : Hid (Rd wr 2 (some ⟨sb, so, none⟩) sp.length c (Ss sp)) := by have h := HF.out.1.p.r.rs; rw [← HA.out] at h; exact h
          obtain ⟨x, y, Hx, x0, y0, u1, u2, u3, u4⟩ := RS.out.spat U.out hlt
          have hka : k < a.sp.length := by rw [ASP.out]; exact hlt
          have ek : a.sp[k] = (x, y) := by simp only [ASP.out]; exact Hx.out
          have Hyes := Lib.hid (fun h => aheads_yes (a := a) (s := s) hka h)
          have Hno := Lib.hid (fun h => aheads_no (a := a) (s := s) hka h)
          rw [ek] at Hyes Hno
          have i1 : (0 : Int) ≤ k := by omega
          have i2 : (k : Int) < sp.length := by omega
          clear ek hka
          by_cases e2 : (s.all.length : Int) ≤ y
          · have HS := Lib.hid (HF.out.2.trans (Hyes.out e2))
            go_wp2_with fail
            refine wp_region_qt (by kernel_rfl) (by kernel_rfl) ?_
            repeat (first | go_big_quiet_step ((go_at_call 91; exact Qt.callN (ledR_next _ F b s HF.out.1.led.dn))) | quiet_step ((go_at_call 91; exact Qt.callN (ledR_next _ F b s HF.out.1.led.dn))))
            refine wpQuiet_nil ?_
            intro w5 q5
            have F5 := Lib.hid (HF.out.1.below q5.below)
            have z0 := (q5.below.cell (B := wr.heap.size) (block_lt_of_cell x0)).trans x0
            have z1 := (q5.below.cell (B := wr.heap.size) (block_lt_of_cell y0)).trans y0
            clear q5 t0 t1 t2 t3 t4 x0 y0
            have t0 := cell_of_row w5 g 0 _ _ _ F5.out.p.t
            have t1 := cell_of_row w5 g 1 _ _ _ F5.out.p.t
            have t2 := cell_of_row w5 g 2 _ _ _ F5.out.p.t
            have t3 := cell_of_row w5 g 3 _ _ _ F5.out.p.t
            have t4 := cell_of_row w5 g 4 _ _ _ F5.out.p.t
            rw [← HA.out] at t0 t1 t2 t3 t4
            simp only [Ak.cells] at t0 t1 t2 t3 t4
            go_wp2_with fail
            refine wp_region_qt (by kernel_rfl) (by kernel_rfl) ?_
            repeat (first | go_big_quiet_step ((go_at_call 91; exact Qt.callN (ledR_next _ F b s F5.out.led.dn))) | quiet_step ((go_at_call 91; exact Qt.callN (ledR_next _ F b s F5.out.led.dn))))
            refine wpQuiet_nil ?_
            intro w6 q6
            go_wp2
            go_ret2
            have e9 := HS.out
            rw [← HA.out] at e9
            rw [e9]
            exact ⟨rfl, F5.out.p.bel.trans q6.below⟩
          · have HS := Lib.hid (HF.out.2.trans (Hno.out e2))
            go_wp2_with fail
            refine wp_region_qt (by kernel_rfl) (by kernel_rfl) ?_
            repeat (first | go_big_quiet_step ((go_at_call 91; exact Qt.callN (ledR_next _ F b s HF.out.1.led.dn))) | quiet_step ((go_at_call 91; exact Qt.callN (ledR_next _ F b s HF.out.1.led.dn))))
            refine wpQuiet_nil ?_
            intro w5 q5
            have F5 := Lib.hid (HF.out.1.below q5.below)
            clear q5
            go_wp2_with fail
            go_roundw
            case rel => exact ⟨k + 1, by omega, by go_num, F5.out, HS.out⟩
            case measure => simp [intOf]; omega
        · obtain rfl : k = sp.length := by omega
          have HE : Hid (a.check s = skipsP a s (skipP sp s.kept)) := by
            have h := HF.out.2
            rw [← ASP.out, aheads_end, ASP.out] at h
            exact h
          have hkl : s.kept.length = s.all.length - s.low := by simp [LS.kept]
          have HKL := Lib.hid hkl
          clear hkl
          go_wp2_with fail
          refine (ledR_low wr F b s HF.out.1.led).mono ?_
          rintro e w4 ⟨rfl, q⟩
          have S4 : Hid (ChkStR w F b s a g w4) := HF.out.1.below q.below
          clear q HF t0 t1 t2 t3 t4
          go_wp2_with fail
          go_loopw [7] (fun i wr => ∃ k j : Nat, k ≤ s.kept.length ∧ Hid (j = s.low + k) ∧ j ≤ s.all.length ∧ i = .int .i64 j ∧ Hid (ChkStR w F b s a g wr ∧ a.check s = skipsP a s (skipP sp (s.kept.drop k)))) (fun i _ => s.all.length - (intOf i).toNat)
          case atStart => exact ⟨0, s.low, Nat.zero_le _, rfl, k1, rfl, S4.out, by rw [HE.out]; simp⟩
          case round =>
            obtain ⟨k, j, hk, HJ, hj, rfl, HF⟩ := hrel
            have t0 := cell_of_row wr g 0 _ _ _ HF.out.1.p.t
            have t1 := cell_of_row wr g 1 _ _ _ HF.out.1.p.t
            have t2 := cell_of_row wr g 2 _ _ _ HF.out.1.p.t
            have t3 := cell_of_row wr g 3 _ _ _ HF.out.1.p.t
            have t4 := cell_of_row wr g 4 _ _ _ HF.out.1.p.t
            rw [← HA.out] at t0 t1 t2 t3 t4
            simp only [Ak.cells] at t0 t1 t2 t3 t4
            have gl := lt_of_block HF.out.1.p.t
            obtain ⟨A5, c5, Hb5, r0, r1, r2, ho, -⟩ := HF.out.1.led.cells
            have R5 := Lib.hid (Rd.of_own ho)
            clear ho
            by_cases hlt : k < s.kept.length
            · have hlt2 : j < s.all.length := by have := HJ.out; have := HKL.out; omega
              obtain ⟨bb, off, rfl, d0, d1, d2, d3, d4, d5, d6, d7⟩ := R5.out.snt hlt2
              have ek : s.kept[k] = s.all[j] := by
                rw [s.kept_get hlt]
                congr 1
                have := HJ.out
                omega
              have HJ2 : Hid (j + 1 = s.low + (k + 1)) := by show _ = _; have := HJ.out; omega
              have okx := HK.out s.kept[k] (List.getElem_mem _)
              have Hyes := Lib.hid (fun h h1 => skips_yes (a := a) (s := s) hlt h h1)
              have Hno := Lib.hid (fun h => skips_no (a := a) (s := s) hlt h)
              rw [ek] at okx
              rw [ASP.out, ek] at Hyes Hno
              obtain ⟨p0, p1⟩ := okx.pn
              have i1 : (0 : Int) ≤ j := by omega
              have i2 : (j : Int) < s.all.length := by omega
              clear okx ek
              generalize s.all[j] = y at *
              obtain ⟨pn, of, len, nonce, at_, coin, used, state⟩ := y
              simp only at d0 d1 d2 d3 d4 d5 d6 d7 p0 p1 Hno Hyes
              by_cases e4 : state = 4
              · subst e4
                have RS : Hid (Rd wr 2 (some ⟨sb, so, none⟩) sp.length c (Ss sp)) := by have h := HF.out.1.p.r.rs; rw [← HA.out] at h; exact h
                have HN : Hid (∀ n, Calls Tryz.prog 99 #[.slice (some ⟨sb, so, none⟩) sp.length c, .int .u64 pn] (wr.drewN n) fun e w' => e = .returned (.bool (hasP sp pn)) ∧ Qt (wr.drewN n) w') := fun n => hasNum_any (some ⟨sb, so, none⟩) _ c sp pn _ RS.out.dn U.out p0 p1
                generalize hasP sp pn = hc at *
                go_wp2_with fail
                refine wp_region_qt (by kernel_rfl) (by kernel_rfl) ?_
                repeat (first | go_big_quiet_step ((go_at_call 99; exact Qt.callN (HN.out _))) | quiet_step ((go_at_call 99; exact Qt.callN (HN.out _))))
                refine wpQuiet_nil ?_
                intro w7 q7
                have F7 := Lib.hid (HF.out.1.below q7.below)
                cases hc with
                | false =>
                  have HS := Lib.hid (HF.out.2.trans (Hno.out (fun e => by have := e.2; first | cases this | exact this.elim)))
                  clear q7
                  go_wp2_with fail
                  go_roundw
                  case rel => exact ⟨k + 1, j + 1, hlt, HJ2, hlt2, by go_num, F7.out, HS.out⟩
                  case measure => simp [intOf]; omega
                | true =>
                  have HS := Lib.hid (HF.out.2.trans (Hyes.out (by first | rfl | trivial) (by first | rfl | trivial)))
                  have z0 := (q7.below.cell (B := wr.heap.size) (block_lt_of_cell d0)).trans d0
                  have z2 := (q7.below.cell (B := wr.heap.size) (block_lt_of_cell r2)).trans r2
                  clear q7 d0 d1 d2 d3 d4 d5 d6 d7 t0 t1 t2 t3 t4 r0 r1 r2
                  go_wp2_with fail
                  refine wp_region_qt (by kernel_rfl) (by kernel_rfl) ?_
                  repeat (go_big_quiet_step (fail))
                  refine wpQuiet_nil ?_
                  intro w8 q8
                  go_wp2
                  go_ret2
                  have e9 := HS.out
                  rw [← HA.out] at e9
                  rw [e9]
                  exact ⟨rfl, F7.out.p.bel.trans q8.below⟩
              · have HS := Lib.hid (HF.out.2.trans (Hno.out (fun e => e4 e.1)))
                have e4' : (state == 4) = false := by simpa using e4
                go_wp2_with fail
                refine wp_region_qt (by kernel_rfl) (by kernel_rfl) ?_
                repeat (go_big_quiet_step (fail))
                refine wpQuiet_nil ?_
                intro w7 q7
                have F7 := Lib.hid (HF.out.1.below q7.below)
                clear q7
                go_wp2_with fail
                go_roundw
                case rel => exact ⟨k + 1, j + 1, hlt, HJ2, hlt2, by go_num, F7.out, HS.out⟩
                case measure => simp [intOf]; omega
            · obtain rfl : k = s.kept.length := by omega
              obtain rfl : j = s.all.length := by have := HJ.out; have := HKL.out; omega
              have HE : Hid (a.check s = sumsP a s) := by
                have h := HF.out.2
                rw [← ASP.out, skips_end] at h
                exact h
              have RS : Hid (Rd wr 2 (some ⟨sb, so, none⟩) sp.length c (Ss sp)) := by have h := HF.out.1.p.r.rs; rw [← HA.out] at h; exact h
              have RM : Hid (Rd wr 2 B mk.length d (Ss mk)) := by have h := HF.out.1.p.r.rm; rw [← HA.out] at h; exact h
              have UM : Hid (U2s mk) := by have h := HF.out.1.p.r.um; rw [← HA.out] at h; exact h
              have HX := Lib.hid (fun h => HE.out.trans (sums_x (a := a) (s := s) h))
              have HO := Lib.hid (fun h h1 => HE.out.trans (sums_o (a := a) (s := s) h h1))
              have HZ := Lib.hid (fun h h1 => HE.out.trans (sums_ok (a := a) (s := s) h h1))
              rw [← HA.out] at HX HO HZ
              simp only at HX HO HZ
              go_wp2_with fail
              refine (sumR_any wr F b s (some ⟨sb, so, none⟩) B c d sp mk HF.out.1.led RS.out RM.out U.out UM.out).mono ?_
              generalize s.sum sp mk = sm at *
              obtain ⟨X, O, v⟩ := sm
              simp only at HX HO HZ ⊢
              rintro e w5 ⟨rfl, q⟩
              have F5 := Lib.hid (HF.out.1.below q)
              clear q t0 t1 t2 t3 t4
              have t0 := cell_of_row w5 g 0 _ _ _ F5.out.p.t
              have t1 := cell_of_row w5 g 1 _ _ _ F5.out.p.t
              have t2 := cell_of_row w5 g 2 _ _ _ F5.out.p.t
              have t3 := cell_of_row w5 g 3 _ _ _ F5.out.p.t
              have t4 := cell_of_row w5 g 4 _ _ _ F5.out.p.t
              rw [← HA.out] at t0 t1 t2 t3 t4
              simp only [Ak.cells] at t0 t1 t2 t3 t4
              have hb := F5.out.p.bel
              by_cases e1 : X = xo
              · subst e1
                by_cases e2 : O = od
                · subst e2
                  have HS := Lib.hid (HZ.out (by first | rfl | trivial) (by first | rfl | trivial))
                  have e2' : (O != O) = false := by simp
                  have e1' : (X != X) = false := by simp
                  go_wp2
                  go_ret2
                  rw [HS.out]
                  exact ⟨rfl, hb⟩
                · have HS := Lib.hid (HO.out (by first | rfl | trivial) e2)
                  cases O <;> cases od
                  · exact absurd rfl e2
                  · go_wp2
                    go_ret2
                    rw [HS.out]
                    exact ⟨rfl, hb⟩
                  · go_wp2
                    go_ret2
                    rw [HS.out]
                    exact ⟨rfl, hb⟩
                  · exact absurd rfl e2
              · have HS := Lib.hid (HX.out e1)
                have e1' : (X != xo) = true := by simpa using e1
                go_wp2
                go_ret2
                rw [HS.out]
                exact ⟨rfl, hb⟩
  · have hmay' : mayB sp mk = false := by simpa using hmay
    have Hr := Lib.hid (Ak.check_may (a := ⟨A, c, B, d, sp, mk, tr, xo, od⟩) (s := s) hmay')
    rw [show mayB (Ak.mk A c B d sp mk tr xo od).sp (Ak.mk A c B d sp mk tr xo od).mm = false from hmay']
    rintro e w2 ⟨rfl, q⟩
    have hb := P0.out.p.bel.trans (q.mono P0.out.p.bel.size)
    clear q P0 hmay hmay'
    go_wp2
    go_ret2
    rw [Hr.out]
    exact ⟨rfl, hb⟩

end Go.Proofs.YtpfmhkkglaghgaaGreat
