/-
  The walk of TriggerNone.
-/
import Derived.Test.YteigflkpopcjkaaTriS
namespace Go.Proofs.Yteigflkpopcjkaa
set_option linter.unusedSimpArgs false
set_option linter.unusedVariables false
set_option linter.unnecessarySimpa false
open Go.RowKit

theorem no_named {a : Ak} {x : Snt} {y : Int} (hy : a.tr = y) (h : x.nonce = y → x.used = false → x.state = 4) : a.named x = false :=
  named_tr (fun ⟨h1, h2, h3⟩ => h3 (h (h1.trans hy) h2))
/-- The first k are none of them. -/
def NoneTill (a : Ak) (l : List Snt) (k : Nat) : Prop := ∀ i, (h : i < l.length) → i < k → a.named l[i] = false
theorem NoneTill.zero (a : Ak) (l : List Snt) : NoneTill a l 0 := fun i _ h => absurd h (by omega)
theorem NoneTill.step {a : Ak} {l : List Snt} {k : Nat} (h : NoneTill a l k) (hk : k < l.length) (h1 : a.named l[k] = false) : NoneTill a l (k + 1) := fun i hi hik => by
  by_cases e : i = k
  · subst e; exact h1
  · exact h i hi (by omega)
theorem NoneTill.all {a : Ak} {l : List Snt} (h : NoneTill a l l.length) : ∀ x ∈ l, a.named x = false := fun x hx => by
  obtain ⟨i, hi, rfl⟩ := List.mem_iff_getElem.1 hx
  exact h i hi hi

structure NoneRel (w : World) (kk : W4) (p r g h : Nat) (s : LS) (a : Ak) (A : Option Addr) (c k : Nat) (W : World) : Prop where
  ts : TS w kk p r g h s a W
  all : Rd W 8 A s.kept.length c (Sns s.kept)
  till : NoneTill a s.kept k
theorem NoneRel.step {w W : World} {kk : W4} {p r g h : Nat} {s : LS} {a : Ak} {A : Option Addr} {c k : Nat} (H : NoneRel w kk p r g h s a A c k W) (hk : k < s.kept.length) :
    ∀ W', Below W.heap.size W W' → (s.kept[k].nonce = a.tr → s.kept[k].used = false → s.kept[k].state = 4) → NoneRel w kk p r g h s a A c (k + 1) W' :=
  fun W' b h1 => ⟨H.ts.below b, H.all.below b, H.till.step hk (no_named rfl h1)⟩

set_option maxHeartbeats 8000000 in
set_option maxRecDepth 100000 in
theorem triggerNone_any (ring : Int) (A : Option Addr) (n c : Nat) (l : List Dd) (k : W4) (x : Int) (w : World) (hr : Rd w 3 A n c (Ds l)) (hok : ∀ d ∈ l, d.ok) (hk : k.ok) (hring : 0 ≤ ring ∧ ring ≤ 255) (hx : isU64 x) :
    Calls Try.prog 15 #[.int .u8 ring, .slice A n c, k.val, .int .u64 x] w fun e w' => e = .returned (.bool true) ∧ Below w.heap.size w w' := by
  obtain ⟨r0, r1⟩ := hring
  obtain ⟨x0, x1⟩ := hx
  have EB := Lib.hid (box_below w (.cells #[.int .u16 k.a, .int .u16 k.b, .int .u16 k.c, .int .u16 k.d] 76))
  have HR := Lib.hid (hr.below EB.out)
  have OK := Lib.hid hok
  have KO := Lib.hid hk
  clear hr hok hk
  obtain ⟨ka, kb, kc, kd⟩ := k
  unfold W4.val W4.cells
  simp only at HR KO EB ⊢
  go_enter Try.func15, Try.ntmps15
  go_wp2_with fail
  refine (make_any (ring % 40) 4611686018427387903 A n c l _ HR.out OK.out ⟨by omega, by omega⟩).mono ?_
  rintro e w2 ⟨p, r, s, rfl, hT, hb1, hg1, hg2, hg3, hg4, hg5⟩
  have Z2 := Lib.hid (TS0.of (k := ⟨ka, kb, kc, kd⟩) hT hb1 hg3 hg1 (by omega))
  clear hT hb1 hg1 hg2 hg3 hg4 hg5
  go_wp2_with fail
  generalize hW : (w2.alloc (.cells #[.pointer (some ⟨p, 0, none⟩), .pointer (some ⟨r, 0, none⟩)] 41)) = w3 at *
  clear hW
  generalize w2.heap.size = g at *
  refine (triAlive w3).mono ?_
  rintro e w4 ⟨rfl, b⟩
  have Z4 := Lib.hid (Z2.out.below b)
  clear b Z2
  have t0 := cell_of_row w4 g 0 _ _ _ Z4.out.t
  have t1 := cell_of_row w4 g 1 _ _ _ Z4.out.t
  have u0 := cell_of_row w4 w.heap.size 0 _ _ _ Z4.out.kb
  have u1 := cell_of_row w4 w.heap.size 1 _ _ _ Z4.out.kb
  have u2 := cell_of_row w4 w.heap.size 2 _ _ _ Z4.out.kb
  have u3 := cell_of_row w4 w.heap.size 3 _ _ _ Z4.out.kb
  go_wp2_with fail
  refine (ask_any w4 _ p r s ⟨ka, kb, kc, kd⟩ 0 Z4.out.two Z4.out.len KO.out ⟨by omega, by omega⟩).mono ?_
  rintro e w5 ⟨a, rfl, ha, hm, hga, b⟩
  have Z5 := Lib.hid (TS.of (Z4.out.below b) ha hm (fun b' off e => Nat.lt_of_lt_of_le (lt_of_block Z4.out.t) (hga b' off e)))
  have Y5 := Lib.hid (Z4.out.below b)
  clear ha hm hga b Z4 t0 t1 u0 u1 u2 u3
  obtain ⟨Aa, ca, Ba, da, sp, mm, tr, xo, od⟩ := a
  unfold Ak.val
  simp only [Ak.cells] at Z5 ⊢
  have t0 := cell_of_row w5 g 0 _ _ _ Y5.out.t
  have t1 := cell_of_row w5 g 1 _ _ _ Y5.out.t
  have gl := lt_of_block Y5.out.t
  clear Y5
  go_upto_region 5 with fail
  generalize hW : (w5.alloc (.cells #[.slice Aa sp.length ca, .slice Ba mm.length da, .int .u64 tr, .int .u64 xo, .bool od] 71)) = w6 at *
  clear hW t0 t1 gl
  generalize w5.heap.size = h at *
  have v0 := cell_of_row w6 h 0 _ _ _ Z5.out.x
  have fv0 := frozen_of_row w6 h 0 _ _ Z5.out.x
  have v1 := cell_of_row w6 h 1 _ _ _ Z5.out.x
  have fv1 := frozen_of_row w6 h 1 _ _ Z5.out.x
  have v2 := cell_of_row w6 h 2 _ _ _ Z5.out.x
  have fv2 := frozen_of_row w6 h 2 _ _ Z5.out.x
  have v3 := cell_of_row w6 h 3 _ _ _ Z5.out.x
  have fv3 := frozen_of_row w6 h 3 _ _ Z5.out.x
  have v4 := cell_of_row w6 h 4 _ _ _ Z5.out.x
  have fv4 := frozen_of_row w6 h 4 _ _ Z5.out.x
  simp only [Ak.cells] at v0 v1 v2 v3 v4
  have Z7 := Lib.hid (Z5.out.set_ x ⟨x0, x1⟩)
  have t0 := cell_of_row w6 g 0 _ _ _ Z5.out.z.t
  have t1 := cell_of_row w6 g 1 _ _ _ Z5.out.z.t
  have gh := Z5.out.gh
  have gh' : g ≠ h := by omega
  have gh'' : h ≠ g := by omega
  go_wp2_with fail
  generalize hW : (w6.setCell ⟨h, 2, none⟩ (.int .u64 x)) = w7 at *
  clear hW v0 v1 v2 v3 v4 fv0 fv1 fv2 fv3 fv4 t0 t1 Z5 gh gh' gh''
  obtain ⟨G7, hR⟩ := Z7.out.ledR
  refine (ledR_all w7 G7 r s hR).mono ?_
  rintro e w8 ⟨A8, c8, rfl, ho, b⟩
  have N8 : Hid (NoneRel w ⟨ka, kb, kc, kd⟩ p r g h s ⟨Aa, ca, Ba, da, sp, mm, x, xo, od⟩ A8 c8 0 w8) := ⟨Z7.out.below b, Rd.of_own ho, NoneTill.zero _ _⟩
  have k1 := s.kept_le
  have k2 := Z7.out.z.ring
  have GK := Lib.hid Z7.out.z.two.good
  clear hR ho b Z7
  go_wp2_with fail
  go_loopw [39] (fun i wr => ∃ k : Nat, k ≤ s.kept.length ∧ i = .int .i64 k ∧ Hid (NoneRel w ⟨ka, kb, kc, kd⟩ p r g h s ⟨Aa, ca, Ba, da, sp, mm, x, xo, od⟩ A8 c8 k wr)) (fun i _ => s.kept.length - (intOf i).toNat)
  case atStart => exact ⟨0, Nat.zero_le _, rfl, N8⟩
  case round =>
    obtain ⟨k, hk, rfl, NR⟩ := hrel
    by_cases hlt : k < s.kept.length
    · obtain ⟨bb, off, rfl, d0, d1, d2, d3, d4, d5, d6, d7⟩ := NR.out.all.snt hlt
      have adv := Lib.hid (NR.out.step hlt)
      generalize s.kept[k] = y at *
      obtain ⟨pn, of, len, nonce, at_, coin, used, state⟩ := y
      simp only at d0 d1 d2 d3 d4 d5 d6 d7
      by_cases e1 : nonce = x
      · subst e1
        cases used with
        | true =>
          go_wp2
          go_roundw
          case rel => exact ⟨k + 1, by omega, by go_num, adv.out _ (box_below _ _) (fun _ h => by cases h)⟩
          case measure => simp [intOf]; omega
        | false =>
          by_cases e3 : state = 4
          · subst e3
            go_wp2
            go_roundw
            case rel => exact ⟨k + 1, by omega, by go_num, adv.out _ (box_below _ _) (fun _ _ => rfl)⟩
            case measure => simp [intOf]; omega
          · have e3' : (state != 4) = true := by simp [e3]
            go_wp2
            go_ret
            exact ⟨rfl, NR.out.ts.z.bel.trans ((box_below wr _).mono NR.out.ts.z.bel.size)⟩
      · go_wp2
        go_roundw
        case rel => exact ⟨k + 1, by omega, by go_num, adv.out _ (box_below _ _) (fun h => absurd h e1)⟩
        case measure => simp [intOf]; omega
    · obtain rfl : k = s.kept.length := by omega
      have t0 := cell_of_row wr g 0 _ _ _ NR.out.ts.z.t
      have t1 := cell_of_row wr g 1 _ _ _ NR.out.ts.z.t
      have v0 := cell_of_row wr h 0 _ _ _ NR.out.ts.x
      have v1 := cell_of_row wr h 1 _ _ _ NR.out.ts.x
      have v2 := cell_of_row wr h 2 _ _ _ NR.out.ts.x
      have v3 := cell_of_row wr h 3 _ _ _ NR.out.ts.x
      have v4 := cell_of_row wr h 4 _ _ _ NR.out.ts.x
      simp only [Ak.cells] at v0 v1 v2 v3 v4
      obtain ⟨G9, hL, -⟩ := NR.out.ts.ledP
      obtain ⟨l1, l2⟩ := Ak.look_none ⟨Aa, ca, Ba, da, sp, mm, x, xo, od⟩ s NR.out.till.all
      go_wp2_with fail
      refine (look_any wr G9 p s ⟨Aa, ca, Ba, da, sp, mm, x, xo, od⟩ hL NR.out.ts.r).mono ?_
      generalize Ak.look ⟨Aa, ca, Ba, da, sp, mm, x, xo, od⟩ s = pq at *
      obtain ⟨q, y⟩ := pq
      simp only at l1 l2
      subst l1
      have l2' : (y != 0) = true := by simpa using l2
      clear hL l2
      rintro e w9 ⟨rfl, b⟩
      have hb := NR.out.ts.z.bel.trans (b.mono NR.out.ts.z.bel.size)
      clear b t0 t1 v0 v1 v2 v3 v4
      go_wp2
      go_ret
      exact ⟨rfl, hb⟩

end Go.Proofs.Yteigflkpopcjkaa
