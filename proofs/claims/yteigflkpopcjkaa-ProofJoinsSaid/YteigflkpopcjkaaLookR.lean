/-
  The reference's Look.
-/
import Derived.Test.YteigflkpopcjkaaLook
namespace Go.Proofs.Yteigflkpopcjkaa
set_option linter.unusedSimpArgs false
set_option linter.unusedVariables false
set_option linter.unnecessarySimpa false
open Go.RowKit

theorem below_any (A : Option Addr) (n c : Nat) (l : List Sp) (q : Int) (w : World) (v : Bool) (hv : decide ((l.headD (0, 0)).1 < q) = v) (h : Rd w 2 A n c (Ss l)) (hu : U2s l) (h1 : 1 ≤ l.length) (hq : isU64 q) :
    Calls Try.prog 81 #[.slice A n c, .int .u64 q] w fun e w' => e = .returned (.bool v) ∧ Qt w w' := by
  have hl := h.len
  rw [Ss_length] at hl
  obtain rfl : l.length = n := by omega
  obtain ⟨sb, so, x, y, rfl, Hx, x0, y0, x1, x2, y1, y2⟩ := h.sp hu (k := 0) (by omega)
  simp only [Nat.zero_mul, Nat.add_zero] at x0 y0
  have Hlo : (l.headD (0, 0)).1 = x := by
    have e := Hx.out
    cases l with
    | nil => simp at h1
    | cons q r => simp at e; simp [e]
  rw [Hlo] at hv
  obtain ⟨q0, q1⟩ := hq
  have hcap := h.cap
  have hmax := h.max
  unfold maxLen at hmax
  clear Hlo
  cases v with
  | true =>
    have hlt := of_decide_eq_true hv
    go_enter Try.func81, Try.ntmps81
    go_wp2
    go_ret
    exact ⟨rfl, Qt.refl _⟩
  | false =>
    have hlt := of_decide_eq_false hv
    go_enter Try.func81, Try.ntmps81
    go_wp2
    go_ret
    exact ⟨rfl, Qt.refl _⟩

structure LookRelR (w : World) (F : Nat → Prop) (b : Nat) (s : LS) (a : Ak) (g : Nat) (k : Nat) (r : Int × Int) (wr : World) : Prop where
  p : AkBox w a g wr
  led : LedR wr F b s
  res : r = a.look1 (s.kept.drop k)
theorem LookRelR.below {w wr wr' : World} {F : Nat → Prop} {b : Nat} {s : LS} {a : Ak} {g k : Nat} {r : Int × Int} (h : LookRelR w F b s a g k r wr) (b' : Below wr.heap.size wr wr') : LookRelR w F b s a g k r wr' :=
  ⟨h.p.below b', h.led.below b', h.res⟩

set_option maxHeartbeats 8000000 in
set_option maxRecDepth 100000 in
theorem lookR_any (w : World) (F : Nat → Prop) (b : Nat) (s : LS) (a : Ak) (h : LedR w F b s) (ha : AkR w a) :
    Calls Try.prog 49 #[.pointer (some ⟨b, 0, none⟩), a.val] w fun e w' => e = .returned (.tuple #[.int .u64 (a.look s).1, .int .i64 (a.look s).2]) ∧ Below w.heap.size w w' := by
  have P0 := Lib.hid (AkBox.of ha (Below.refl w.heap.size w))
  have hb0 := box_below w (.cells a.cells 71)
  have H0 := Lib.hid (h.below hb0)
  have g5 := s.kept_le
  have g2 := h.good.ring256
  have HK := Lib.hid h.good.keptOk
  have u1 := ha.ut
  obtain ⟨u1, u2⟩ := u1
  clear ha h
  obtain ⟨A, c, B, d, sp, mk, tr, xo, od⟩ := a
  unfold Ak.val
  simp only [Ak.cells] at hb0 P0 H0 u1 u2 ⊢
  go_enter Try.func49, Try.ntmps49
  go_wp2_with fail
  generalize hw : w.alloc (.cells #[.slice A sp.length c, .slice B mk.length d, .int .u64 tr, .int .u64 xo, .bool od] 71) = w1 at *
  clear hw hb0
  generalize hg : w.heap.size = g at *
  refine (mayAck_any w1 ⟨A, c, B, d, sp, mk, tr, xo, od⟩ P0.out.r).mono ?_
  by_cases hmay : mayB sp mk = true
  · have HM := Lib.hid hmay
    rw [show mayB (Ak.mk A c B d sp mk tr xo od).sp (Ak.mk A c B d sp mk tr xo od).mm = true from hmay]
    rintro e w2 ⟨rfl, q⟩
    have P2 := Lib.hid (P0.out.below q)
    have H2 := Lib.hid (H0.out.below q)
    clear q P0 H0
    obtain ⟨⟨l1, l2, l3⟩, hgs, -, -⟩ := mayB_true hmay
    have GS := Lib.hid hgs
    clear hmay hgs
    have t0 := cell_of_row w2 g 0 _ _ _ P2.out.t
    have t1 := cell_of_row w2 g 1 _ _ _ P2.out.t
    have t2 := cell_of_row w2 g 2 _ _ _ P2.out.t
    have t3 := cell_of_row w2 g 3 _ _ _ P2.out.t
    have t4 := cell_of_row w2 g 4 _ _ _ P2.out.t
    simp only [Ak.cells] at t0 t1 t2 t3 t4
    obtain ⟨sb, so, x, y, rfl, Hx, x0, y0, x1, x2, y1, y2⟩ := P2.out.r.rs.sp P2.out.r.us (k := 0) (by show 0 < sp.length; omega)
    simp only [Nat.zero_mul, Nat.add_zero] at x0 y0
    have Hlo : Hid (Ak.lo ⟨some ⟨sb, so, none⟩, c, B, d, sp, mk, tr, xo, od⟩ = x) := by
      show _ = _
      have e := Hx.out
      cases sp with
      | nil => simp at l1
      | cons q r => simp at e; simp [Ak.lo, e]
    have k1 := s.low_le
    have k3 := H2.out.good.len
    have k4 := H2.out.good.lim1
    go_wp2
    have HW : Hid (isU64 (s.low : Int)) := ⟨by omega, by omega⟩
    by_cases hlow : x < s.low
    · have Hb := Lib.hid (show decide ((sp.headD (0, 0)).1 < (s.low : Int)) = true from decide_eq_true (by rw [show (sp.headD (0, 0)).1 = x from Hlo.out]; exact hlow))
      have Hr := Lib.hid (Ak.look_low (a := ⟨some ⟨sb, so, none⟩, c, B, d, sp, mk, tr, xo, od⟩) (s := s) HM.out (by rw [Hlo.out]; exact hlow))
      refine wp_region_qt (by kernel_rfl) (by kernel_rfl) ?_
      repeat (first | go_big_quiet_step ((first | (go_at_call 58; exact Qt.callN (ledR_low _ F b s H2.out.dn)) | (go_at_call 81; exact Qt.callN (below_any _ _ c sp _ _ true Hb.out P2.out.r.rs.dn P2.out.r.us l1 HW.out)))) | quiet_step ((first | (go_at_call 58; exact Qt.callN (ledR_low _ F b s H2.out.dn)) | (go_at_call 81; exact Qt.callN (below_any _ _ c sp _ _ true Hb.out P2.out.r.rs.dn P2.out.r.us l1 HW.out)))))
      refine wpQuiet_nil ?_
      intro w3 q3
      go_wp2
      go_ret2
      rw [Hr.out]
      exact ⟨rfl, P2.out.bel.trans q3.below⟩
    · have Hb := Lib.hid (show decide ((sp.headD (0, 0)).1 < (s.low : Int)) = false from decide_eq_false (by rw [show (sp.headD (0, 0)).1 = x from Hlo.out]; exact hlow))
      have Hr := Lib.hid (Ak.look_go (a := ⟨some ⟨sb, so, none⟩, c, B, d, sp, mk, tr, xo, od⟩) (s := s) HM.out (by rw [Hlo.out]; exact hlow))
      refine wp_region_qt (by kernel_rfl) (by kernel_rfl) ?_
      repeat (first | go_big_quiet_step ((first | (go_at_call 58; exact Qt.callN (ledR_low _ F b s H2.out.dn)) | (go_at_call 81; exact Qt.callN (below_any _ _ c sp _ _ false Hb.out P2.out.r.rs.dn P2.out.r.us l1 HW.out)))) | quiet_step ((first | (go_at_call 58; exact Qt.callN (ledR_low _ F b s H2.out.dn)) | (go_at_call 81; exact Qt.callN (below_any _ _ c sp _ _ false Hb.out P2.out.r.rs.dn P2.out.r.us l1 HW.out)))))
      refine wpQuiet_nil ?_
      intro w3 q3
      have P3 := Lib.hid (P2.out.below q3.below)
      have H3 := Lib.hid (H2.out.below q3.below)
      clear q3 P2 H2 t0 t1 t2 t3 t4 x0 y0
      have HKL := Lib.hid s.kept_len
      have HK2 : Hid (s.low = s.all.length - s.ring) := rfl
      have st : Hid (LookRelR w F b s ⟨some ⟨sb, so, none⟩, c, B, d, sp, mk, tr, xo, od⟩ g 0 (Ak.look ⟨some ⟨sb, so, none⟩, c, B, d, sp, mk, tr, xo, od⟩ s) w3) := ⟨P3.out, H3.out, by rw [Hr.out]; simp⟩
      clear P3 H3
      go_wp2_with fail
      refine (ledR_low w3 F b s st.out.led).mono ?_
      rintro e w4 ⟨rfl, q⟩
      have st4 : Hid (LookRelR w F b s ⟨some ⟨sb, so, none⟩, c, B, d, sp, mk, tr, xo, od⟩ g 0 (Ak.look ⟨some ⟨sb, so, none⟩, c, B, d, sp, mk, tr, xo, od⟩ s) w4) := st.out.below q.below
      clear q st
      go_wp2
      go_loopw [6] (fun i wr => ∃ (k j : Nat), k ≤ s.kept.length ∧ Hid (j = s.low + k) ∧ j ≤ s.all.length ∧ i = .int .i64 j ∧ Hid (LookRelR w F b s ⟨some ⟨sb, so, none⟩, c, B, d, sp, mk, tr, xo, od⟩ g k (Ak.look ⟨some ⟨sb, so, none⟩, c, B, d, sp, mk, tr, xo, od⟩ s) wr)) (fun i _ => s.all.length - (intOf i).toNat)
      case atStart => exact ⟨0, s.low, Nat.zero_le _, rfl, k1, rfl, st4⟩
      case round =>
        obtain ⟨k, j, hk, HJ, hj, rfl, HF⟩ := hrel
        have t0 := cell_of_row wr g 0 _ _ _ HF.out.p.t
        have t1 := cell_of_row wr g 1 _ _ _ HF.out.p.t
        have t2 := cell_of_row wr g 2 _ _ _ HF.out.p.t
        have t3 := cell_of_row wr g 3 _ _ _ HF.out.p.t
        have t4 := cell_of_row wr g 4 _ _ _ HF.out.p.t
        simp only [Ak.cells] at t0 t1 t2 t3 t4
        have gl := lt_of_block HF.out.p.t
        obtain ⟨A5, c5, Hb5, r0, r1, r2, ho, -⟩ := HF.out.led.cells
        have R5 := Lib.hid (Rd.of_own ho)
        clear ho
        by_cases hlt : k < s.kept.length
        · have hlt2 : j < s.all.length := by have := HJ.out; have := HKL.out; have := HK2.out; omega
          obtain ⟨bb, off, rfl, d0, d1, d2, d3, d4, d5, d6, d7⟩ := R5.out.snt hlt2
          have ek : s.kept[k] = s.all[j] := by
            rw [s.kept_get hlt]
            congr 1
            have := HJ.out
            omega
          have HJ2 : Hid (j + 1 = s.low + (k + 1)) := by show _ = _; have := HJ.out; omega
          have okx := HK.out s.kept[k] (List.getElem_mem _)
          rw [ek] at okx
          obtain ⟨p0, p1⟩ := okx.pn
          obtain ⟨n0, n1⟩ := okx.nonce
          have Hno := Lib.hid (fun h => Ak.look1_no (a := ⟨some ⟨sb, so, none⟩, c, B, d, sp, mk, tr, xo, od⟩) hlt h)
          have Hyes := Lib.hid (fun h => Ak.look1_yes (a := ⟨some ⟨sb, so, none⟩, c, B, d, sp, mk, tr, xo, od⟩) hlt h)
          rw [ek] at Hno Hyes
          have adv : Hid (∀ wr', Below wr.heap.size wr wr' → Ak.named ⟨some ⟨sb, so, none⟩, c, B, d, sp, mk, tr, xo, od⟩ s.all[j] = false → LookRelR w F b s ⟨some ⟨sb, so, none⟩, c, B, d, sp, mk, tr, xo, od⟩ g (k + 1) (Ak.look ⟨some ⟨sb, so, none⟩, c, B, d, sp, mk, tr, xo, od⟩ s) wr') := fun wr' hb hc =>
            ⟨HF.out.p.below hb, HF.out.led.below hb, by rw [HF.out.res, Hno.out hc]⟩
          clear okx ek
          generalize s.all[j] = x at *
          by_cases e1 : x.state = 4
          · have HN := Lib.hid (named_no1 ⟨some ⟨sb, so, none⟩, c, B, d, sp, mk, tr, xo, od⟩ x e1)
            go_wp2
            go_roundw
            case rel => exact ⟨k + 1, j + 1, hlt, HJ2, hlt2, by go_num, adv.out _ (box_below _ _) HN.out⟩
            case measure => simp [intOf]; omega
          · have e1' : (x.state != 4) = true := by simp [e1]
            cases hu : x.used with
            | true =>
              have HN := Lib.hid (named_no2 ⟨some ⟨sb, so, none⟩, c, B, d, sp, mk, tr, xo, od⟩ x hu)
              rw [hu] at d6
              go_wp2
              go_roundw
              case rel => exact ⟨k + 1, j + 1, hlt, HJ2, hlt2, by go_num, adv.out _ (box_below _ _) HN.out⟩
              case measure => simp [intOf]; omega
            | false =>
              rw [hu] at d6
              by_cases e3 : x.nonce = tr
              · have HN := Lib.hid (named_has ⟨some ⟨sb, so, none⟩, c, B, d, sp, mk, tr, xo, od⟩ x e1 hu e3)
                have hbx := box_below wr (.cells #[.int .u64 x.pn, .int .u64 x.off, .int .u64 x.len, .int .u64 tr, .int .u64 x.at_, .bool x.coin, .bool false, .int .i64 x.state] 32)
                have BX := Lib.hid (heap_alloc_new wr (.cells #[.int .u64 x.pn, .int .u64 x.off, .int .u64 x.len, .int .u64 tr, .int .u64 x.at_, .bool x.coin, .bool false, .int .i64 x.state] 32))
                have HB := Lib.hid hbx
                rw [e3] at d3 n0 n1
                clear hbx e3
                go_wp2_with fail
                refine (hasNum_any (some ⟨sb, so, none⟩) _ c sp x.pn _ (HF.out.p.r.below HB.out).rs (HF.out.p.r.us) p0 p1).mono ?_
                cases hh : hasP sp x.pn with
                | true =>
                  have HH := Lib.hid (HN.out.trans hh)
                  rintro e w5 ⟨rfl, q⟩
                  have BX5 := Lib.hid (q.blk BX.out)
                  have hb5 := HB.out.trans (q.below (B := wr.heap.size))
                  clear q t0 t1 t2 t3 t4
                  have y0 := cell_of_row w5 wr.heap.size 0 _ _ _ BX5.out
                  have y1 := cell_of_row w5 wr.heap.size 1 _ _ _ BX5.out
                  have y2 := cell_of_row w5 wr.heap.size 2 _ _ _ BX5.out
                  have y3 := cell_of_row w5 wr.heap.size 3 _ _ _ BX5.out
                  have y4 := cell_of_row w5 wr.heap.size 4 _ _ _ BX5.out
                  have y5 := cell_of_row w5 wr.heap.size 5 _ _ _ BX5.out
                  have y6 := cell_of_row w5 wr.heap.size 6 _ _ _ BX5.out
                  have y7 := cell_of_row w5 wr.heap.size 7 _ _ _ BX5.out
                  go_wp2
                  go_ret2
                  rw [HF.out.res, Hyes.out HH.out]
                  exact ⟨rfl, HF.out.p.bel.trans (hb5.mono HF.out.p.bel.size)⟩
                | false =>
                  have HH := Lib.hid (HN.out.trans hh)
                  rintro e w5 ⟨rfl, q⟩
                  have hb5 := HB.out.trans (q.below (B := wr.heap.size))
                  clear q t0 t1 t2 t3 t4
                  go_wp2
                  go_roundw
                  case rel => exact ⟨k + 1, j + 1, hlt, HJ2, hlt2, by go_num, adv.out _ hb5 HH.out⟩
                  case measure => simp [intOf]; omega
              · have HN := Lib.hid (named_no3 ⟨some ⟨sb, so, none⟩, c, B, d, sp, mk, tr, xo, od⟩ x e3)
                go_wp2
                go_roundw
                case rel => exact ⟨k + 1, j + 1, hlt, HJ2, hlt2, by go_num, adv.out _ (box_below _ _) HN.out⟩
                case measure => simp [intOf]; omega
        · obtain rfl : k = s.kept.length := by omega
          obtain rfl : j = s.all.length := by have := HJ.out; have := HKL.out; have := HK2.out; omega
          go_wp2
          go_ret2
          rw [HF.out.res, Ak.look1_end]
          exact ⟨rfl, HF.out.p.bel⟩
  · have hmay' : mayB sp mk = false := by simpa using hmay
    have Hr := Lib.hid (Ak.look_may (a := ⟨A, c, B, d, sp, mk, tr, xo, od⟩) (s := s) hmay')
    rw [show mayB (Ak.mk A c B d sp mk tr xo od).sp (Ak.mk A c B d sp mk tr xo od).mm = false from hmay']
    rintro e w2 ⟨rfl, q⟩
    have hb := P0.out.bel.trans (q.mono P0.out.bel.size)
    clear q P0 hmay hmay'
    go_wp2
    go_ret2
    rw [Hr.out]
    exact ⟨rfl, hb⟩

end Go.Proofs.Yteigflkpopcjkaa
