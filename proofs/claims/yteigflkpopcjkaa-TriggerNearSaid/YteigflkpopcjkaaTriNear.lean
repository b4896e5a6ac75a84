/-
  The walk of TriggerNear.
-/
import Derived.Test.YteigflkpopcjkaaTriS
namespace Go.Proofs.Yteigflkpopcjkaa
set_option linter.unusedSimpArgs false
set_option linter.unusedVariables false
set_option linter.unnecessarySimpa false
open Go.RowKit

set_option maxHeartbeats 8000000 in
set_option maxRecDepth 100000 in
theorem triggerNear_any (ring : Int) (A : Option Addr) (n c : Nat) (l : List Dd) (k : W4) (m : Int) (w : World) (hr : Rd w 3 A n c (Ds l)) (hok : ∀ d ∈ l, d.ok) (hk : k.ok) (hring : 0 ≤ ring ∧ ring ≤ 255) (hm : 0 ≤ m ∧ m ≤ 255) :
    Calls Try.prog 13 #[.int .u8 ring, .slice A n c, k.val, .int .u8 m] w fun e w' => e = .returned (.bool true) ∧ Below w.heap.size w w' := by
  obtain ⟨r0, r1⟩ := hring
  obtain ⟨m0, m1⟩ := hm
  have EB := Lib.hid (box_below w (.cells #[.int .u16 k.a, .int .u16 k.b, .int .u16 k.c, .int .u16 k.d] 76))
  have HR := Lib.hid (hr.below EB.out)
  have OK := Lib.hid hok
  have KO := Lib.hid hk
  clear hr hok hk
  obtain ⟨ka, kb, kc, kd⟩ := k
  unfold W4.val W4.cells
  simp only at HR KO EB ⊢
  go_enter Try.func13, Try.ntmps13
  go_wp2_with fail
  refine (make_any (ring % 40) 4611686018427387903 A n c l _ HR.out OK.out ⟨by omega, by omega⟩).mono ?_
  rintro e w2 ⟨p, r, s, rfl, hT, hb1, hg1, hg2, hg3, hg4, hg5⟩
  have Z2 := Lib.hid (TS0.of (k := ⟨ka, kb, kc, kd⟩) hT hb1 hg3 hg1 (by omega))
  clear hT hb1 hg1 hg2 hg3 hg4 hg5
  go_wp2_with fail
  generalize hW : (w2.alloc (.cells #[.pointer (some ⟨p, 0, none⟩), .pointer (some ⟨r, 0, none⟩)] 41)) = w3 at *
  clear hW
  generalize w2.heap.size = g at *
  refine (triAlive w3).mono ?_
  rintro e w4 ⟨rfl, b⟩
  have Z4 := Lib.hid (Z2.out.below b)
  clear b Z2
  have t0 := cell_of_row w4 g 0 _ _ _ Z4.out.t
  have t1 := cell_of_row w4 g 1 _ _ _ Z4.out.t
  have u0 := cell_of_row w4 w.heap.size 0 _ _ _ Z4.out.kb
  have u1 := cell_of_row w4 w.heap.size 1 _ _ _ Z4.out.kb
  have u2 := cell_of_row w4 w.heap.size 2 _ _ _ Z4.out.kb
  have u3 := cell_of_row w4 w.heap.size 3 _ _ _ Z4.out.kb
  go_wp2_with fail
  refine (ask_any w4 _ p r s ⟨ka, kb, kc, kd⟩ (m % 9) Z4.out.two Z4.out.len KO.out ⟨by omega, by omega⟩).mono ?_
  rintro e w5 ⟨a, rfl, ha, hm, hga, b⟩
  have Z5 := Lib.hid (TS.of (Z4.out.below b) ha hm (fun b' off e => Nat.lt_of_lt_of_le (lt_of_block Z4.out.t) (hga b' off e)))
  have Y5 := Lib.hid (Z4.out.below b)
  clear ha hm hga b Z4 t0 t1 u0 u1 u2 u3
  obtain ⟨Aa, ca, Ba, da, sp, mm, tr, xo, od⟩ := a
  unfold Ak.val
  simp only [Ak.cells] at Z5 ⊢
  have t0 := cell_of_row w5 g 0 _ _ _ Y5.out.t
  have t1 := cell_of_row w5 g 1 _ _ _ Y5.out.t
  have gl := lt_of_block Y5.out.t
  clear Y5
  go_wp2_with fail
  generalize hW : (w5.alloc (.cells #[.slice Aa sp.length ca, .slice Ba mm.length da, .int .u64 tr, .int .u64 xo, .bool od] 71)) = w6 at *
  clear hW t0 t1 gl
  generalize w5.heap.size = h at *
  obtain ⟨G, hL, -⟩ := Z5.out.ledP
  refine (look_any w6 G p s ⟨Aa, ca, Ba, da, sp, mm, tr, xo, od⟩ hL Z5.out.r).mono ?_
  have FA := Lib.hid (Ak.look_there ⟨Aa, ca, Ba, da, sp, mm, tr, xo, od⟩ (s := s) Z5.out.z.two.good)
  have FU := Lib.hid (Ak.look_u64 ⟨Aa, ca, Ba, da, sp, mm, tr, xo, od⟩ (s := s) Z5.out.z.two.good)
  generalize hpq : Ak.look ⟨Aa, ca, Ba, da, sp, mm, tr, xo, od⟩ s = pq at *
  have HPQ := Lib.hid hpq
  clear hpq hL
  obtain ⟨q, x⟩ := pq
  simp only at FA FU ⊢
  rintro e w7 ⟨rfl, b⟩
  have Z7 := Lib.hid (Z5.out.below b)
  clear b Z5
  have t0 := cell_of_row w7 g 0 _ _ _ Z7.out.z.t
  have t1 := cell_of_row w7 g 1 _ _ _ Z7.out.z.t
  have v0 := cell_of_row w7 h 0 _ _ _ Z7.out.x
  have v1 := cell_of_row w7 h 1 _ _ _ Z7.out.x
  have v2 := cell_of_row w7 h 2 _ _ _ Z7.out.x
  have v3 := cell_of_row w7 h 3 _ _ _ Z7.out.x
  have v4 := cell_of_row w7 h 4 _ _ _ Z7.out.x
  simp only [Ak.cells] at v0 v1 v2 v3 v4
  obtain ⟨H7, hR7⟩ := Z7.out.ledR
  go_wp2_with fail
  refine (lookR_any w7 H7 r s ⟨Aa, ca, Ba, da, sp, mm, tr, xo, od⟩ hR7 Z7.out.r).mono ?_
  rw [HPQ.out]
  rintro e w8 ⟨rfl, b⟩
  have Z8 := Lib.hid (Z7.out.below b)
  clear b Z7 t0 t1 v0 v1 v2 v3 v4 hR7
  have t0 := cell_of_row w8 g 0 _ _ _ Z8.out.z.t
  have t1 := cell_of_row w8 g 1 _ _ _ Z8.out.z.t
  obtain ⟨G8, hL8, -⟩ := Z8.out.ledP
  go_wp2_with fail
  refine (led_get w8 G8 p s q hL8 FU.out).mono ?_
  clear hL8
  by_cases hx : x = 0
  · subst hx
    obtain ⟨hh, hn, -⟩ := FA.out rfl
    obtain ⟨n1, n2, n3, n4⟩ := Ak.named_parts hn
    have hpn := (Z8.out.z.two.good.at' hh).2.1
    rw [show s.get q = (s.at' q, true) by simp [LS.get, hh]]
    generalize s.at' q = y at *
    obtain ⟨pn, off, len, nonce, at_, coin, used, state⟩ := y
    simp only at n1 n2 n3 n4 hpn
    subst n2
    subst n3
    subst hpn
    have N4 := Lib.hid n4
    unfold Snt.val
    clear hh hn n4
    have n1' : (state == 4) = false := by simpa using n1
    rintro e w9 ⟨rfl, b⟩
    have Z9 := Lib.hid ((Z8.out.below b).below (box_below w9 (.cells #[.int .u64 pn, .int .u64 off, .int .u64 len, .int .u64 nonce, .int .u64 at_, .bool coin, .bool false, .int .i64 state] 32)))
    have Z9' := Lib.hid (Z8.out.below b)
    have FU2 := FU.out
    clear b Z8 t0 t1
    obtain ⟨u1, u2⟩ := FU2
    have v0 := cell_of_row w9 h 0 _ _ _ Z9'.out.x
    have v1 := cell_of_row w9 h 1 _ _ _ Z9'.out.x
    have v2 := cell_of_row w9 h 2 _ _ _ Z9'.out.x
    have v3 := cell_of_row w9 h 3 _ _ _ Z9'.out.x
    have v4 := cell_of_row w9 h 4 _ _ _ Z9'.out.x
    simp only [Ak.cells] at v0 v1 v2 v3 v4
    have gx := lt_of_block Z9'.out.x
    clear Z9'
    go_wp2_with fail
    refine (hasNum_any Aa _ ca sp pn _ Z9.out.r.rs Z9.out.r.us u1 u2).mono ?_
    rw [N4.out]
    generalize hW : (w9.alloc (.cells #[.int .u64 pn, .int .u64 off, .int .u64 len, .int .u64 nonce, .int .u64 at_, .bool coin, .bool false, .int .i64 state] 32)) = wA at *
    clear hW
    rintro e wB ⟨rfl, qb⟩
    have ZB := Lib.hid (Z9.out.below qb.below)
    clear qb Z9 v0 v1 v2 v3 v4 gx
    have t0 := cell_of_row wB g 0 _ _ _ ZB.out.z.t
    have t1 := cell_of_row wB g 1 _ _ _ ZB.out.z.t
    go_wp2_with fail
    refine (two_same _ _ p r s ZB.out.z.two).mono ?_
    rintro e wC ⟨rfl, b⟩
    have hb := ZB.out.z.bel.trans (b.mono ZB.out.z.bel.size)
    clear b
    go_wp2
    go_ret
    exact ⟨rfl, hb⟩
  · have hx' : (x == 0) = false := by simpa using hx
    generalize s.get q = y at *
    obtain ⟨⟨pn, off, len, nonce, at_, coin, used, state⟩, ok⟩ := y
    unfold Snt.val
    rintro e w9 ⟨rfl, b⟩
    have Z9 := Lib.hid ((Z8.out.below b).below (box_below w9 (.cells #[.int .u64 pn, .int .u64 off, .int .u64 len, .int .u64 nonce, .int .u64 at_, .bool coin, .bool used, .int .i64 state] 32)))
    have Z9' := Lib.hid (Z8.out.below b)
    clear b Z8 t0 t1
    have t0 := cell_of_row w9 g 0 _ _ _ Z9'.out.z.t
    have t1 := cell_of_row w9 g 1 _ _ _ Z9'.out.z.t
    have gx := lt_of_block Z9'.out.z.t
    clear Z9'
    go_wp2_with fail
    refine (two_same _ _ p r s Z9.out.z.two).mono ?_
    rintro e wC ⟨rfl, b⟩
    have hb := Z9.out.z.bel.trans (b.mono Z9.out.z.bel.size)
    clear b
    go_wp2
    go_ret
    exact ⟨rfl, hb⟩

end Go.Proofs.Yteigflkpopcjkaa
