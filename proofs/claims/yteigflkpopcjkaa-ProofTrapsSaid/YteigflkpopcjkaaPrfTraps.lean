/-
  The walk of ProofTraps.
-/
import Derived.Test.YteigflkpopcjkaaTrapP
import Derived.Test.YteigflkpopcjkaaPrfA
namespace Go.Proofs.Yteigflkpopcjkaa
set_option linter.unusedSimpArgs false
set_option linter.unusedVariables false
set_option linter.unnecessarySimpa false
open Go.RowKit

structure TrapRel (w : World) (kk : W4) (p r g h : Nat) (s : LS) (a : Ak) (A : Option Addr) (c k : Nat) (W : World) : Prop where
  ts : TS w kk p r g h s a W
  all : Rd W 8 A s.kept.length c (Sns s.kept)
  chk : a.check s = skipsP a s (skipP a.sp (s.kept.drop k))
theorem TrapRel.step {w W : World} {kk : W4} {p r g h : Nat} {s : LS} {a : Ak} {A : Option Addr} {c k : Nat} (H : TrapRel w kk p r g h s a A c k W) (hk : k < s.kept.length) (h1 : ¬ (s.kept[k].state = 4 ∧ hasP a.sp s.kept[k].pn = true)) :
    ∀ W', Below W.heap.size W W' → TrapRel w kk p r g h s a A c (k + 1) W' := fun W' b => ⟨H.ts.below b, H.all.below b, H.chk.trans (skips_no hk h1)⟩

set_option maxHeartbeats 8000000 in
set_option maxRecDepth 100000 in
theorem proofTraps_any (ring x : Int) (odd : Bool) (A : Option Addr) (n c : Nat) (l : List Dd) (k : W4) (w : World) (hr : Rd w 3 A n c (Ds l)) (hok : ∀ d ∈ l, d.ok) (hk : k.ok) (hring : 0 ≤ ring ∧ ring ≤ 255) (hx : isU64 x) :
    Calls Try.prog 20 #[.int .u8 ring, .slice A n c, k.val, .int .u64 x, .bool odd] w fun e w' => e = .returned (.bool true) ∧ Below w.heap.size w w' := by
  obtain ⟨r0, r1⟩ := hring
  obtain ⟨x0, x1⟩ := hx
  have EB := Lib.hid (box_below w (.cells #[.int .u16 k.a, .int .u16 k.b, .int .u16 k.c, .int .u16 k.d] 76))
  have HR := Lib.hid (hr.below EB.out)
  have OK := Lib.hid hok
  have KO := Lib.hid hk
  clear hr hok hk
  obtain ⟨ka, kb, kc, kd⟩ := k
  unfold W4.val W4.cells
  simp only at HR KO EB ⊢
  go_enter Try.func20, Try.ntmps20
  go_wp2_with fail
  refine (make_any (ring % 40) 4611686018427387903 A n c l _ HR.out OK.out ⟨by omega, by omega⟩).mono ?_
  rintro e w2 ⟨p, r, s, rfl, hT, hb1, hg1, hg2, hg3, hg4, hg5⟩
  have Z2 := Lib.hid (TS0.of (k := ⟨ka, kb, kc, kd⟩) hT hb1 hg3 hg1 (by omega))
  clear hT hb1 hg1 hg2 hg3 hg4 hg5
  go_wp2_with fail
  generalize hW : (w2.alloc (.cells #[.pointer (some ⟨p, 0, none⟩), .pointer (some ⟨r, 0, none⟩)] 41)) = w3 at *
  clear hW
  generalize w2.heap.size = g at *
  refine (prfAlive w3).mono ?_
  rintro e w4 ⟨rfl, b⟩
  have Z4 := Lib.hid (Z2.out.below b)
  clear b Z2
  have t0 := cell_of_row w4 g 0 _ _ _ Z4.out.t
  have t1 := cell_of_row w4 g 1 _ _ _ Z4.out.t
  have u0 := cell_of_row w4 w.heap.size 0 _ _ _ Z4.out.kb
  have u1 := cell_of_row w4 w.heap.size 1 _ _ _ Z4.out.kb
  have u2 := cell_of_row w4 w.heap.size 2 _ _ _ Z4.out.kb
  have u3 := cell_of_row w4 w.heap.size 3 _ _ _ Z4.out.kb
  go_wp2_with fail
  refine (ask_any w4 _ p r s ⟨ka, kb, kc, kd⟩ x Z4.out.two Z4.out.len KO.out ⟨x0, x1⟩).mono ?_
  rintro e w5 ⟨a, rfl, ha, hm, hga, b⟩
  have Z5 := Lib.hid (TS.of (Z4.out.below b) ha hm (fun b' off e => Nat.lt_of_lt_of_le (lt_of_block Z4.out.t) (hga b' off e)))
  have Y5 := Lib.hid (Z4.out.below b)
  clear ha hm hga b Z4 t0 t1 u0 u1 u2 u3
  obtain ⟨Aa, ca, Ba, da, sp, mm, tr, xo, od⟩ := a
  unfold Ak.val
  simp only [Ak.cells] at Z5 ⊢
  have t0 := cell_of_row w5 g 0 _ _ _ Y5.out.t
  have t1 := cell_of_row w5 g 1 _ _ _ Y5.out.t
  have gl := lt_of_block Y5.out.t
  clear Y5
  go_upto_region 5 with fail
  generalize hW : (w5.alloc (.cells #[.slice Aa sp.length ca, .slice Ba mm.length da, .int .u64 tr, .int .u64 xo, .bool od] 71)) = w6 at *
  clear hW t0 t1 gl
  generalize w5.heap.size = h at *
  have v0 := cell_of_row w6 h 0 _ _ _ Z5.out.x
  have fv0 := frozen_of_row w6 h 0 _ _ Z5.out.x
  have v1 := cell_of_row w6 h 1 _ _ _ Z5.out.x
  have fv1 := frozen_of_row w6 h 1 _ _ Z5.out.x
  have v2 := cell_of_row w6 h 2 _ _ _ Z5.out.x
  have fv2 := frozen_of_row w6 h 2 _ _ Z5.out.x
  have v3 := cell_of_row w6 h 3 _ _ _ Z5.out.x
  have fv3 := frozen_of_row w6 h 3 _ _ Z5.out.x
  have v4 := cell_of_row w6 h 4 _ _ _ Z5.out.x
  have fv4 := frozen_of_row w6 h 4 _ _ Z5.out.x
  simp only [Ak.cells] at v0 v1 v2 v3 v4
  have Z7 := Lib.hid (Z5.out.setX x odd ⟨x0, x1⟩)
  simp only at Z7
  have gh := Z5.out.gh
  have M5 := Lib.hid Z5.out.m
  go_wp2_with fail
  generalize hW : ((w6.setCell ⟨h, 3, none⟩ (.int .u64 x)).setCell ⟨h, 4, none⟩ (.bool odd)) = w7 at *
  clear hW v0 v1 v2 v3 v4 fv0 fv1 fv2 fv3 fv4 Z5 gh
  have l1 := M5.out.one
  have l2 := M5.out.two
  simp only at l1 l2
  obtain ⟨m, hm⟩ : ∃ m, m + 1 = sp.length := ⟨sp.length - 1, by omega⟩
  obtain ⟨sb, so, lo, hi, rfl, Hx, y0, y1, -, -, -, -⟩ := Z7.out.r.rs.sp Z7.out.r.us (k := 0) (by show 0 < sp.length; omega)
  simp only [Nat.zero_mul, Nat.add_zero] at y0 y1
  have Hlo : Hid (Ak.lo ⟨some ⟨sb, so, none⟩, ca, Ba, da, sp, mm, tr, x, odd⟩ = lo) := by
    show _ = _
    have e := Hx.out
    cases sp with
    | nil => simp at l1
    | cons q r => simp at e; simp [Ak.lo, e]
  have t0 := cell_of_row w7 g 0 _ _ _ Z7.out.z.t
  have t1 := cell_of_row w7 g 1 _ _ _ Z7.out.z.t
  have v0 := cell_of_row w7 h 0 _ _ _ Z7.out.x
  have v1 := cell_of_row w7 h 1 _ _ _ Z7.out.x
  have v2 := cell_of_row w7 h 2 _ _ _ Z7.out.x
  have v3 := cell_of_row w7 h 3 _ _ _ Z7.out.x
  have v4 := cell_of_row w7 h 4 _ _ _ Z7.out.x
  simp only [Ak.cells] at v0 v1 v2 v3 v4
  obtain ⟨G7, hL7, -⟩ := Z7.out.ledP
  by_cases hlow : lo < s.low
  · have Hr := Lib.hid (Ak.check_low (a := ⟨some ⟨sb, so, none⟩, ca, Ba, da, sp, mm, tr, x, odd⟩) (s := s) (decide_eq_true M5.out.may) (by rw [Hlo.out]; exact hlow))
    refine wp_region_qt (by kernel_rfl) (by kernel_rfl) ?_
    repeat (first | go_big_quiet_step ((go_at_call 28; exact Qt.callN (led_low _ G7 p s hL7.dn))) | quiet_step ((go_at_call 28; exact Qt.callN (led_low _ G7 p s hL7.dn))))
    refine wpQuiet_nil ?_
    intro w8 q8
    have Z8 := Lib.hid (Z7.out.below q8.below)
    clear q8 Z7 t0 t1 v0 v1 v2 v3 v4 y0 y1 hL7
    have t0 := cell_of_row w8 g 0 _ _ _ Z8.out.z.t
    have t1 := cell_of_row w8 g 1 _ _ _ Z8.out.z.t
    have v0 := cell_of_row w8 h 0 _ _ _ Z8.out.x
    have v1 := cell_of_row w8 h 1 _ _ _ Z8.out.x
    have v2 := cell_of_row w8 h 2 _ _ _ Z8.out.x
    have v3 := cell_of_row w8 h 3 _ _ _ Z8.out.x
    have v4 := cell_of_row w8 h 4 _ _ _ Z8.out.x
    simp only [Ak.cells] at v0 v1 v2 v3 v4
    obtain ⟨G8, hL8, -⟩ := Z8.out.ledP
    go_wp2_with fail
    refine (check_any w8 G8 p s ⟨some ⟨sb, so, none⟩, ca, Ba, da, sp, mm, tr, x, odd⟩ hL8 Z8.out.r).mono ?_
    rw [Hr.out]
    rintro e w9 ⟨rfl, b⟩
    have hb := Z8.out.z.bel.trans (b.mono Z8.out.z.bel.size)
    clear b
    go_wp2
    go_ret
    exact ⟨rfl, hb⟩
  · refine wp_region_qt (by kernel_rfl) (by kernel_rfl) ?_
    repeat (first | go_big_quiet_step ((go_at_call 28; exact Qt.callN (led_low _ G7 p s hL7.dn))) | quiet_step ((go_at_call 28; exact Qt.callN (led_low _ G7 p s hL7.dn))))
    refine wpQuiet_nil ?_
    intro w8 q8
    have Z8 := Lib.hid (Z7.out.below q8.below)
    clear q8 Z7 t0 t1 v0 v1 v2 v3 v4 y0 y1 hL7
    have t0 := cell_of_row w8 g 0 _ _ _ Z8.out.z.t
    have t1 := cell_of_row w8 g 1 _ _ _ Z8.out.z.t
    have v0 := cell_of_row w8 h 0 _ _ _ Z8.out.x
    have v1 := cell_of_row w8 h 1 _ _ _ Z8.out.x
    have v2 := cell_of_row w8 h 2 _ _ _ Z8.out.x
    have v3 := cell_of_row w8 h 3 _ _ _ Z8.out.x
    have v4 := cell_of_row w8 h 4 _ _ _ Z8.out.x
    simp only [Ak.cells] at v0 v1 v2 v3 v4
    obtain ⟨G8, hL8, -⟩ := Z8.out.ledP
    go_wp2_with fail
    refine (check_any w8 G8 p s ⟨some ⟨sb, so, none⟩, ca, Ba, da, sp, mm, tr, x, odd⟩ hL8 Z8.out.r).mono ?_
    have HLW : Hid (¬ Ak.lo ⟨some ⟨sb, so, none⟩, ca, Ba, da, sp, mm, tr, x, odd⟩ < s.low) := by show ¬ _; rw [Hlo.out]; omega
    have TA := Lib.hid (fun hh => trap_ahead (a := ⟨some ⟨sb, so, none⟩, ca, Ba, da, sp, mm, tr, x, odd⟩) (s := s) ⟨M5.out.good, M5.out.one, M5.out.two, M5.out.mm⟩ HLW.out (m := m) hm hh)
    have TR := Lib.hid (fun hh => trap_rest (a := ⟨some ⟨sb, so, none⟩, ca, Ba, da, sp, mm, tr, x, odd⟩) (s := s) ⟨M5.out.good, M5.out.one, M5.out.two, M5.out.mm⟩ HLW.out (m := m) hm hh)
    have hml : m < sp.length := by omega
    generalize hpq : Ak.check ⟨some ⟨sb, so, none⟩, ca, Ba, da, sp, mm, tr, x, odd⟩ s = pq at *
    have HPQ := Lib.hid hpq
    clear hpq hL8
    obtain ⟨why, pn⟩ := pq
    rintro e w9 ⟨rfl, b⟩
    have Z9 := Lib.hid (Z8.out.below b)
    clear b Z8 t0 t1 v0 v1 v2 v3 v4
    obtain ⟨lx, ly, Hm, z0, z1, u1, u2, u3, u4⟩ := Z9.out.r.rs.spat Z9.out.r.us (k := m) hml
    have hm2 : sp[m] = (lx, ly) := Hm.out
    simp only [hm2] at TA TR
    have E : (sp.length : Int) - 1 = m := by omega
    have i1 : (0 : Int) ≤ m := by omega
    have i2 : (m : Int) < sp.length := by omega
    have t0 := cell_of_row w9 g 0 _ _ _ Z9.out.z.t
    have t1 := cell_of_row w9 g 1 _ _ _ Z9.out.z.t
    have v0 := cell_of_row w9 h 0 _ _ _ Z9.out.x
    have v1 := cell_of_row w9 h 1 _ _ _ Z9.out.x
    have v2 := cell_of_row w9 h 2 _ _ _ Z9.out.x
    have v3 := cell_of_row w9 h 3 _ _ _ Z9.out.x
    have v4 := cell_of_row w9 h 4 _ _ _ Z9.out.x
    simp only [Ak.cells] at v0 v1 v2 v3 v4
    have gl := lt_of_block Z9.out.z.t
    have BX := Lib.hid (heap_alloc_new w9 (.cells #[.int .u64 lx, .int .u64 ly] 96))
    have Z10 := Lib.hid (Z9.out.below (box_below w9 (.cells #[.int .u64 lx, .int .u64 ly] 96)))
    have HM := Lib.hid hm
    clear hm2
    go_upto_region 11 with fail
    generalize hW : (w9.alloc (.cells #[.int .u64 lx, .int .u64 ly] 96)) = w10 at *
    clear hW t0 t1 v0 v1 v2 v3 v4 z0 z1 E gl
    generalize w9.heap.size = q at *
    have t0 := cell_of_row w10 g 0 _ _ _ Z10.out.z.t
    have t1 := cell_of_row w10 g 1 _ _ _ Z10.out.z.t
    have y0 := cell_of_row w10 q 0 _ _ _ BX.out
    have y1 := cell_of_row w10 q 1 _ _ _ BX.out
    obtain ⟨G10, hL10, -⟩ := Z10.out.ledP
    by_cases hah : (s.all.length : Int) ≤ ly
    · obtain ⟨p', e1, e2, e3⟩ := TA.out hah
      injection e1 with e1 e1'
      subst e1
      subst e1'
      refine wp_region_qt (by kernel_rfl) (by kernel_rfl) ?_
      repeat (first | go_big_quiet_step ((go_at_call 26; exact Qt.callN (led_next _ G10 p s hL10.dn))) | quiet_step ((go_at_call 26; exact Qt.callN (led_next _ G10 p s hL10.dn))))
      refine wpQuiet_nil ?_
      intro w11 q11
      have Z11 := Lib.hid (Z10.out.below q11.below)
      clear q11 t0 t1 y0 y1 hL10
      have t0 := cell_of_row w11 g 0 _ _ _ Z11.out.z.t
      have t1 := cell_of_row w11 g 1 _ _ _ Z11.out.z.t
      have v0 := cell_of_row w11 h 0 _ _ _ Z11.out.x
      have v1 := cell_of_row w11 h 1 _ _ _ Z11.out.x
      have v2 := cell_of_row w11 h 2 _ _ _ Z11.out.x
      have v3 := cell_of_row w11 h 3 _ _ _ Z11.out.x
      have v4 := cell_of_row w11 h 4 _ _ _ Z11.out.x
      simp only [Ak.cells] at v0 v1 v2 v3 v4
      obtain ⟨G11, hL11, -⟩ := Z11.out.ledP
      have HE3 := Lib.hid e3
      obtain ⟨cc, hcc, hc1, hc2⟩ := (hasP_iff _ _).1 e3
      have hcu := Z11.out.r.us cc hcc
      have hp0 : 0 ≤ pn := by omega
      have hp1 : pn < 18446744073709551616 := by have := hcu.2.2; omega
      clear e3 hcc hcu hc1 hc2
      go_wp2_with fail
      refine (led_next w11 G11 p s hL11).mono ?_
      rintro e w12 ⟨rfl, q12⟩
      have Z12 := Lib.hid (Z11.out.below q12.below)
      clear q12 t0 t1 v0 v1 v2 v3 v4 hL11
      have v0 := cell_of_row w12 h 0 _ _ _ Z12.out.x
      have v1 := cell_of_row w12 h 1 _ _ _ Z12.out.x
      have v2 := cell_of_row w12 h 2 _ _ _ Z12.out.x
      have v3 := cell_of_row w12 h 3 _ _ _ Z12.out.x
      have v4 := cell_of_row w12 h 4 _ _ _ Z12.out.x
      simp only [Ak.cells] at v0 v1 v2 v3 v4
      go_wp2_with fail
      refine (hasNum_any _ _ ca sp pn w12 Z12.out.r.rs Z12.out.r.us hp0 hp1).mono ?_
      rw [show hasP sp pn = true from HE3.out]
      rintro e w13 ⟨rfl, q13⟩
      have hb : Below w.heap.size w w13 := Z12.out.z.bel.trans q13.below
      clear q13
      go_wp2
      go_ret
      exact ⟨rfl, hb⟩
    · have TR2 := Lib.hid (TR.out (by omega))
      refine wp_region_qt (by kernel_rfl) (by kernel_rfl) ?_
      repeat (first | go_big_quiet_step ((go_at_call 26; exact Qt.callN (led_next _ G10 p s hL10.dn))) | quiet_step ((go_at_call 26; exact Qt.callN (led_next _ G10 p s hL10.dn))))
      refine wpQuiet_nil ?_
      intro w11 q11
      have Z11 := Lib.hid (Z10.out.below q11.below)
      clear q11 t0 t1 y0 y1 hL10 Z10
      have t0 := cell_of_row w11 g 0 _ _ _ Z11.out.z.t
      have t1 := cell_of_row w11 g 1 _ _ _ Z11.out.z.t
      obtain ⟨H11, hR11⟩ := Z11.out.ledR
      have k1 := s.kept_le
      have k2 := Z11.out.z.ring
      have GK := Lib.hid Z11.out.z.two.good
      go_wp2_with fail
      refine (ledR_all w11 H11 r s hR11).mono ?_
      rintro e w12 ⟨A12, c12, rfl, ho, b⟩
      have N12 : Hid (TrapRel w ⟨ka, kb, kc, kd⟩ p r g h s ⟨some ⟨sb, so, none⟩, ca, Ba, da, sp, mm, tr, x, odd⟩ A12 c12 0 w12) := ⟨Z11.out.below b, Rd.of_own ho, by rw [HPQ.out, TR2.out]; simp⟩
      clear ho b hR11 Z11 t0 t1
      go_wp2_with fail
      go_loopw [105] (fun i wr => ∃ k : Nat, k ≤ s.kept.length ∧ i = .int .i64 k ∧ Hid (TrapRel w ⟨ka, kb, kc, kd⟩ p r g h s ⟨some ⟨sb, so, none⟩, ca, Ba, da, sp, mm, tr, x, odd⟩ A12 c12 k wr)) (fun i _ => s.kept.length - (intOf i).toNat)
      case atStart => exact ⟨0, Nat.zero_le _, rfl, N12⟩
      case round =>
        obtain ⟨k, hk, rfl, NR⟩ := hrel
        by_cases hlt : k < s.kept.length
        · obtain ⟨bb, off, rfl, d0, d1, d2, d3, d4, d5, d6, d7⟩ := NR.out.all.snt hlt
          have okx := (GK.out.keptOk s.kept[k] (List.getElem_mem _)).pn
          obtain ⟨p0, p1⟩ := okx
          have adv := Lib.hid (fun h => NR.out.step hlt h)
          have hyes : Hid (s.kept[k].state = 4 → hasP sp s.kept[k].pn = true → (why, pn) = (5, s.kept[k].pn)) := fun h1 h2 => HPQ.out.symm.trans (NR.out.chk.trans (skips_yes hlt h1 h2))
          have EB := box_below wr (.cells #[.int .u64 s.kept[k].pn, .int .u64 s.kept[k].off, .int .u64 s.kept[k].len, .int .u64 s.kept[k].nonce, .int .u64 s.kept[k].at_, .bool s.kept[k].coin, .bool s.kept[k].used, .int .i64 s.kept[k].state] 32)
          have BX2 := Lib.hid (heap_alloc_new wr (.cells #[.int .u64 s.kept[k].pn, .int .u64 s.kept[k].off, .int .u64 s.kept[k].len, .int .u64 s.kept[k].nonce, .int .u64 s.kept[k].at_, .bool s.kept[k].coin, .bool s.kept[k].used, .int .i64 s.kept[k].state] 32))
          have B6 := Lib.hid EB
          clear EB
          generalize s.kept[k] = y at *
          obtain ⟨yn, of, len, nonce, at_, coin, used, state⟩ := y
          simp only at d0 d1 d2 d3 d4 d5 d6 d7 p0 p1 adv hyes BX2 B6
          have v0 := cell_of_row wr h 0 _ _ _ NR.out.ts.x
          have v1 := cell_of_row wr h 1 _ _ _ NR.out.ts.x
          have v2 := cell_of_row wr h 2 _ _ _ NR.out.ts.x
          have v3 := cell_of_row wr h 3 _ _ _ NR.out.ts.x
          have v4 := cell_of_row wr h 4 _ _ _ NR.out.ts.x
          simp only [Ak.cells] at v0 v1 v2 v3 v4
          have gl := lt_of_block NR.out.ts.x
          by_cases e4 : state = 4
          · subst e4
            have N6 := Lib.hid (NR.out.ts.below B6.out)
            go_wp2_with fail
            refine (hasNum_any _ _ ca sp yn _ N6.out.r.rs N6.out.r.us p0 p1).mono ?_
            generalize hW : (wr.alloc (.cells #[.int .u64 yn, .int .u64 of, .int .u64 len, .int .u64 nonce, .int .u64 at_, .bool coin, .bool used, .int .i64 4] 32)) = wb at *
            generalize hasP sp yn = hc at *
            rintro e w13 ⟨rfl, q13⟩
            have B7 : Hid (Below wr.heap.size wr w13) := B6.out.trans q13.below
            have BX7 := Lib.hid (q13.blk BX2.out)
            clear hW q13 B6 BX2 d0 d1 d2 d3 d4 d5 d6 d7 v0 v1 v2 v3 v4 N6
            cases hc with
            | false =>
              go_wp2
              go_roundw
              case rel => exact ⟨k + 1, by omega, by go_num, adv.out (fun e => by have := e.2; first | cases this | exact this.elim) _ B7.out⟩
              case measure => simp [intOf]; omega
            | true =>
              have e5 := hyes.out (by first | rfl | trivial) (by first | rfl | trivial)
              injection e5 with e5 e6
              subst e5
              subst e6
              have y0 := cell_of_row w13 wr.heap.size 0 _ _ _ BX7.out
              have y1 := cell_of_row w13 wr.heap.size 1 _ _ _ BX7.out
              have y2 := cell_of_row w13 wr.heap.size 2 _ _ _ BX7.out
              have y3 := cell_of_row w13 wr.heap.size 3 _ _ _ BX7.out
              have y4 := cell_of_row w13 wr.heap.size 4 _ _ _ BX7.out
              have y5 := cell_of_row w13 wr.heap.size 5 _ _ _ BX7.out
              have y6 := cell_of_row w13 wr.heap.size 6 _ _ _ BX7.out
              have y7 := cell_of_row w13 wr.heap.size 7 _ _ _ BX7.out
              have hb := NR.out.ts.z.bel.trans (B7.out.mono NR.out.ts.z.bel.size)
              go_wp2
              go_ret
              exact ⟨rfl, hb⟩
          · go_wp2
            go_roundw
            case rel => exact ⟨k + 1, by omega, by go_num, adv.out (fun e => e4 e.1) _ (box_below _ _)⟩
            case measure => simp [intOf]; omega
        · obtain rfl : k = s.kept.length := by omega
          have he := HPQ.out.symm.trans (NR.out.chk.trans (skips_end _ s))
          have hb := NR.out.ts.z.bel
          rcases sumsP_cases ⟨some ⟨sb, so, none⟩, ca, Ba, da, sp, mm, tr, x, odd⟩ s with e5 | e5 | e5
          all_goals
            rw [e5] at he
            injection he with e6 e7
            subst e6
            subst e7
            clear e5
            go_wp2
            go_ret
            exact ⟨rfl, hb⟩

end Go.Proofs.Yteigflkpopcjkaa
