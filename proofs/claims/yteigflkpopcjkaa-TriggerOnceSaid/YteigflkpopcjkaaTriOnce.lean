/-
  The walk of TriggerOnce.
-/
import Derived.Test.YteigflkpopcjkaaTriS
namespace Go.Proofs.Yteigflkpopcjkaa
set_option linter.unusedSimpArgs false
set_option linter.unusedVariables false
set_option linter.unnecessarySimpa false
open Go.RowKit

theorem infoU64o : (Try.prog.info? 25).map (fun i => (i.zero, i.size, i.bytes)) = some (some (.int .u64 0), 1, 8) := by kernel_rfl

structure OnceRel (w : World) (kk : W4) (p g h : Nat) (s0 : LS) (a : Ak) (k : Nat) (v : Value) (W : World) : Prop where
  ex : ∃ (s : LS) (q : Int) (L : List Int), TP w kk p g h s a W ∧ a.Once s0 s k q ∧ L.length = k ∧ (∀ y ∈ L, y < q) ∧ W.ownsRow (h + 1) 25 1 v k (Us L)

theorem OnceRel.step {w w7 w8 : World} {kk : W4} {p g h : Nat} {s0 s1 : LS} {a : Ak} {k : Nat} {v : Value} {q y : Int} {L : List Int} (hT : TP w kk p g h s1 a w7) (hq : q ≤ y)
    (hO : a.Once s0 (s1.use y).1 (k + 1) (y + 1)) (hL : L.length = k) (hl : ∀ y ∈ L, y < q) (hown : w7.ownsRow (h + 1) 25 1 v k (Us L))
    (hP : LedP w8 (fun j => w.heap.size + 1 ≤ j ∧ j < g) p (s1.use y).1) (hC : Chg (fun j => w.heap.size + 1 ≤ j ∧ j < g) w7 w8) :
    w8.ownsRow (h + 1) 25 1 v k (Us L) ∧ h + 1 ≤ w8.heap.size ∧ ∀ v' w9, w9.ownsRow (h + 1) 25 1 v' (k + 1) (Us L ++ [.int .u64 y]) → w8.grownBy w9 v.ownBlock → OnceRel w kk p g h s0 a (k + 1) v' w9 := by
  have gh := hT.gh
  have T8 := hT.chg hP hC
  have o8 := own_chg hown hC (fun k hk e => by have := (hown.lt k hk).1; omega)
  have z8 : h + 1 ≤ w8.heap.size := lt_of_block T8.x
  refine ⟨o8, z8, fun v' w9 o9 hg => ⟨_, _, L ++ [y], T8.grow (Below.grownOwn (Below.refl _ _) o8 (Nat.le_refl _) z8 hg), hO, by simp [hL], fun z hz => ?_, by simpa [Us] using o9⟩⟩
  simp only [List.mem_append, List.mem_singleton] at hz
  rcases hz with hz | rfl
  · have := hl z hz; omega
  · omega

set_option maxHeartbeats 8000000 in
set_option maxRecDepth 100000 in
theorem triggerOnce_any (ring : Int) (A : Option Addr) (n c : Nat) (l : List Dd) (k : W4) (m : Int) (w : World) (hr : Rd w 3 A n c (Ds l)) (hok : ∀ d ∈ l, d.ok) (hk : k.ok) (hring : 0 ≤ ring ∧ ring ≤ 255) (hm : 0 ≤ m ∧ m ≤ 255) :
    Calls Try.prog 14 #[.int .u8 ring, .slice A n c, k.val, .int .u8 m] w fun e w' => e = .returned (.bool true) ∧ Below w.heap.size w w' := by
  obtain ⟨r0, r1⟩ := hring
  obtain ⟨m0, m1⟩ := hm
  have EB := Lib.hid (box_below w (.cells #[.int .u16 k.a, .int .u16 k.b, .int .u16 k.c, .int .u16 k.d] 76))
  have HR := Lib.hid (hr.below EB.out)
  have OK := Lib.hid hok
  have KO := Lib.hid hk
  clear hr hok hk
  obtain ⟨ka, kb, kc, kd⟩ := k
  unfold W4.val W4.cells
  simp only at HR KO EB ⊢
  go_enter Try.func14, Try.ntmps14
  go_wp2_with fail
  refine (make_any (ring % 40) 4611686018427387903 A n c l _ HR.out OK.out ⟨by omega, by omega⟩).mono ?_
  rintro e w2 ⟨p, r, s, rfl, hT, hb1, hg1, hg2, hg3, hg4, hg5⟩
  have Z2 := Lib.hid (TS0.of (k := ⟨ka, kb, kc, kd⟩) hT hb1 hg3 hg1 (by omega))
  clear hT hb1 hg1 hg2 hg3 hg4 hg5
  go_wp2_with fail
  generalize hW : (w2.alloc (.cells #[.pointer (some ⟨p, 0, none⟩), .pointer (some ⟨r, 0, none⟩)] 41)) = w3 at *
  clear hW
  generalize w2.heap.size = g at *
  refine (triAlive w3).mono ?_
  rintro e w4 ⟨rfl, b⟩
  have Z4 := Lib.hid (Z2.out.below b)
  clear b Z2
  have t0 := cell_of_row w4 g 0 _ _ _ Z4.out.t
  have t1 := cell_of_row w4 g 1 _ _ _ Z4.out.t
  have u0 := cell_of_row w4 w.heap.size 0 _ _ _ Z4.out.kb
  have u1 := cell_of_row w4 w.heap.size 1 _ _ _ Z4.out.kb
  have u2 := cell_of_row w4 w.heap.size 2 _ _ _ Z4.out.kb
  have u3 := cell_of_row w4 w.heap.size 3 _ _ _ Z4.out.kb
  go_wp2_with fail
  refine (ask_any w4 _ p r s ⟨ka, kb, kc, kd⟩ (m % 9) Z4.out.two Z4.out.len KO.out ⟨by omega, by omega⟩).mono ?_
  rintro e w5 ⟨a, rfl, ha, hm, hga, b⟩
  have Z5 := Lib.hid (TS.of (Z4.out.below b) ha hm (fun b' off e => Nat.lt_of_lt_of_le (lt_of_block Z4.out.t) (hga b' off e)))
  have Y5 := Lib.hid (Z4.out.below b)
  clear ha hm hga b Z4 t0 t1 u0 u1 u2 u3
  obtain ⟨Aa, ca, Ba, da, sp, mm, tr, xo, od⟩ := a
  unfold Ak.val
  simp only [Ak.cells] at Z5 ⊢
  have t0 := cell_of_row w5 g 0 _ _ _ Y5.out.t
  have t1 := cell_of_row w5 g 1 _ _ _ Y5.out.t
  have gl := lt_of_block Y5.out.t
  clear Y5
  go_wp2_with fail
  have T6 := Lib.hid Z5.out.tp
  have q1 := Z5.out.z.ring
  have G0 := Lib.hid Z5.out.z.two.good
  have MB := Lib.hid (show mayB sp mm = true from decide_eq_true Z5.out.m.may)
  clear Z5 t0 t1
  generalize hW : (w5.alloc (.cells #[.slice Aa sp.length ca, .slice Ba mm.length da, .int .u64 tr, .int .u64 xo, .bool od] 71)) = w6 at *
  clear hW gl
  generalize w5.heap.size = h at *
  have O6 : Hid (OnceRel w ⟨ka, kb, kc, kd⟩ p g h s ⟨Aa, ca, Ba, da, sp, mm, tr, xo, od⟩ 0 (.slice none 0 0) w6) :=
    ⟨s, _, [], T6.out, Ak.Once.zero _ G0.out, rfl, (fun y hy => by cases hy), World.ownsRow_nil _ _ _ _⟩
  obtain ⟨i0, hi0, hz0, hz1, hz2⟩ := info_parts infoU64o
  clear T6 G0
  go_loopw [12, 13] (fun v i wr => ∃ k : Nat, k ≤ 39 ∧ i = .int .i64 k ∧ Hid (OnceRel w ⟨ka, kb, kc, kd⟩ p g h s ⟨Aa, ca, Ba, da, sp, mm, tr, xo, od⟩ k v wr)) (fun _ i _ => 60 - (intOf i).toNat)
  case atStart => exact ⟨0, by omega, rfl, O6⟩
  case round =>
    obtain ⟨k, hk, rfl, OR⟩ := hrel
    obtain ⟨s1, q, L, hT, hO, hL, hlt, hown⟩ := OR.out.ex
    have T1 := Lib.hid hT
    have O1 := Lib.hid hO
    have LL := Lib.hid hL
    have LT := Lib.hid hlt
    have OW := Lib.hid hown
    obtain ⟨nA, nc, rfl, hnA⟩ := own_slice hown
    have R1 := Lib.hid (Rd.of_own hown)
    have NA := Lib.hid hnA
    clear hT hO hL hlt hown hnA OR
    have hlt60 : (k : Int) < 60 := by omega
    obtain ⟨r', ht⟩ := T1.out.t
    have t0 := cell_of_row wr g 0 _ _ _ ht
    have t1 := cell_of_row wr g 1 _ _ _ ht
    have v0 := cell_of_row wr h 0 _ _ _ T1.out.x
    have v1 := cell_of_row wr h 1 _ _ _ T1.out.x
    have v2 := cell_of_row wr h 2 _ _ _ T1.out.x
    have v3 := cell_of_row wr h 3 _ _ _ T1.out.x
    have v4 := cell_of_row wr h 4 _ _ _ T1.out.x
    simp only [Ak.cells] at v0 v1 v2 v3 v4
    clear ht
    go_wp2_with fail
    refine (look_any wr _ p s1 ⟨Aa, ca, Ba, da, sp, mm, tr, xo, od⟩ T1.out.led T1.out.r).mono ?_
    have CS := Lib.hid (Ak.look_cases ⟨Aa, ca, Ba, da, sp, mm, tr, xo, od⟩ s1)
    have ST := Lib.hid (O1.out.step T1.out.led.good)
    have UP := Lib.hid (Ak.look_u64 ⟨Aa, ca, Ba, da, sp, mm, tr, xo, od⟩ T1.out.led.good)
    generalize hpq : Ak.look ⟨Aa, ca, Ba, da, sp, mm, tr, xo, od⟩ s1 = pq at *
    clear hpq
    obtain ⟨y, x⟩ := pq
    simp only at CS ST UP ⊢
    rintro e w7 ⟨rfl, b⟩
    have T7 := Lib.hid (T1.out.below b)
    have OW7 := Lib.hid (own_chg OW.out (chg_below b (F := fun _ => False)) (fun _ _ h => h))
    have R7 := Lib.hid (R1.out.below b)
    clear b T1 OW R1 t0 t1 v0 v1 v2 v3 v4
    by_cases hx : x = 0
    · subst hx
      obtain ⟨h1, h2, h3⟩ := ST.out rfl
      have HU := Lib.hid (led_use w7 _ p s1 y T7.out.led UP.out)
      rw [h2] at HU
      have SP := Lib.hid (fun w8 hP hC => OnceRel.step (w8 := w8) T7.out h1 h3 LL.out LT.out OW7.out hP hC)
      obtain ⟨u1, u2⟩ := UP.out
      obtain ⟨r2, ht⟩ := T7.out.t
      have t0 := cell_of_row w7 g 0 _ _ _ ht
      have t1 := cell_of_row w7 g 1 _ _ _ ht
      clear ht h2 h3
      rcases Nat.eq_zero_or_pos k with h0 | h0
      · subst h0
        go_wp2_with fail
        refine HU.out.mono ?_
        rintro e w8 ⟨rfl, hP, hC⟩
        obtain ⟨o8, z8, S8⟩ := SP.out w8 hP hC
        have O8 := Lib.hid o8
        have S8 := Lib.hid S8
        clear hP hC o8 t0 t1
        go_wp2_with (
          at_builtin
          refine wpList_app1 w8 rfl (.tmp 79) (.tmp 81) 59 rfl (h + 1) 25 i0 (.int .u64 0) 1 8 Try.underlying59 hi0 hz0 hz1 hz2 rfl (by decide) (.slice nA 0 nc) 0 (Us L) rfl O8.out #[.int .u64 y] _ rfl (by simp) rfl (by simp [Value.oneCell']) (by unfold maxLen; omega) (by omega) z8 ?_
          intro v9 w9 ho9 hg9 hn9
          have F9 := Lib.hid (S8.out v9 w9 ho9 hg9)
          clear ho9 hg9 hn9)
        go_roundw
        case rel => exact ⟨0 + 1, by omega, by go_num, F9⟩
        case measure => simp [intOf]
      · obtain ⟨j, rfl⟩ : ∃ j, k = j + 1 := ⟨k - 1, by omega⟩
        obtain ⟨gA, off, rfl, dj⟩ := R7.out.u64 (k := j) (by omega)
        have hjl : j < L.length := by have := LL.out; omega
        have hlast := LT.out _ (List.getElem_mem hjl)
        rw [show L[j] = L.getD j 0 by simp [hjl]] at hlast
        generalize L.getD j 0 = la at *
        have hge : decide (y ≤ la) = false := by simp; omega
        have hj39 : j + 1 ≤ 39 := Nat.le_trans O1.out.few q1.2
        go_wp2_with fail
        refine HU.out.mono ?_
        rintro e w8 ⟨rfl, hP, hC⟩
        obtain ⟨o8, z8, S8⟩ := SP.out w8 hP hC
        have O8 := Lib.hid o8
        have S8 := Lib.hid S8
        clear hP hC o8 t0 t1 dj
        go_wp2_with (
          at_builtin
          refine wpList_app1 w8 rfl (.tmp 79) (.tmp 81) 59 rfl (h + 1) 25 i0 (.int .u64 0) 1 8 Try.underlying59 hi0 hz0 hz1 hz2 rfl (by decide) (.slice (some ⟨gA, off, none⟩) (j + 1) nc) (j + 1) (Us L) rfl O8.out #[.int .u64 y] _ rfl (by simp) rfl (by simp [Value.oneCell']) (by unfold maxLen; omega) (by omega) z8 ?_
          intro v9 w9 ho9 hg9 hn9
          have F9 := Lib.hid (S8.out v9 w9 ho9 hg9)
          clear ho9 hg9 hn9)
        go_roundw
        case rel => exact ⟨j + 1 + 1, by obtain ⟨_, _, _, _, o, _⟩ := F9.out.ex; have := o.few; omega, by go_num, F9⟩
        case measure => simp [intOf]; omega
    · have hx' : (x != 0) = true := by simpa using hx
      rcases CS.out with hc | ⟨-, hc⟩
      · exact absurd hc hx
      · have hb := T7.out.bel
        rcases hc with ⟨-, hc⟩ | ⟨hc, hc2⟩ | hc
        · exact absurd (hc.symm.trans MB.out) (by simp)
        · subst hc
          have hk0 : k = 0 := by
            rcases Nat.eq_zero_or_pos k with h0 | h0
            · exact h0
            · exact absurd hc2 (O1.out.low h0)
          subst hk0
          go_wp2
          go_ret
          exact ⟨rfl, hb⟩
        · subst hc
          go_wp2
          go_ret
          exact ⟨rfl, hb⟩

end Go.Proofs.Yteigflkpopcjkaa
