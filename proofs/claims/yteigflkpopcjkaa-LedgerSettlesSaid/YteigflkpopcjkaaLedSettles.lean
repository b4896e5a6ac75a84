/-
  The walk of LedgerSettles.
-/
import Derived.Test.YteigflkpopcjkaaLedA
import Derived.Test.YteigflkpopcjkaaLedSetP
namespace Go.Proofs.Yteigflkpopcjkaa
set_option linter.unusedSimpArgs false
set_option linter.unusedVariables false
set_option linter.unnecessarySimpa false
open Go.RowKit

/-- The program's ledger of a pair that lies in a box. -/
structure PB (w : World) (G : Nat → Prop) (p r g : Nat) (s : LS) (v : World) : Prop where
  led : LedP v G p s
  t : v.heap[g]? = some (.cells #[.pointer (some ⟨p, 0, none⟩), .pointer (some ⟨r, 0, none⟩)] 41 (0, 0))
  lt : ∀ k, G k → w.heap.size ≤ k ∧ k < g
  bel : Below w.heap.size w v
theorem PB.below {w v v' : World} {G : Nat → Prop} {p r g : Nat} {s : LS} (h : PB w G p r g s v) (b : Below v.heap.size v v') : PB w G p r g s v' :=
  ⟨h.led.below b, (b.block _ (lt_of_block h.t)).trans h.t, h.lt, h.bel.trans (b.mono h.bel.size)⟩
theorem PB.step {w v v' : World} {G : Nat → Prop} {p r g : Nat} {s s' : LS} (h : PB w G p r g s v) (hL : LedP v' G p s') (hC : Chg G v v') : PB w G p r g s' v' :=
  ⟨hL, hC.blk h.t (fun e => by have := (h.lt g e).2; omega), h.lt, h.bel.trans (hC.below h.bel.size (fun k hk e => by have := (h.lt k e).1; omega))⟩

/-- With what was told of a number in a box behind it. -/
structure PY (w : World) (G : Nat → Prop) (p r g : Nat) (s : LS) (yb : Nat) (y : Snt) (v : World) : Prop where
  pb : PB w G p r g s v
  y : v.heap[yb]? = some (.cells #[.int .u64 y.pn, .int .u64 y.off, .int .u64 y.len, .int .u64 y.nonce, .int .u64 y.at_, .bool y.coin, .bool y.used, .int .i64 y.state] 32 (0, 0))
  lt : g < yb
theorem PY.below {w v v' : World} {G : Nat → Prop} {p r g : Nat} {s : LS} {yb : Nat} {y : Snt} (h : PY w G p r g s yb y v) (b : Below v.heap.size v v') : PY w G p r g s yb y v' :=
  ⟨h.pb.below b, (b.block _ (lt_of_block h.y)).trans h.y, h.lt⟩
theorem PY.step {w v v' : World} {G : Nat → Prop} {p r g : Nat} {s s' : LS} {yb : Nat} {y : Snt} (h : PY w G p r g s yb y v) (hL : LedP v' G p s') (hC : Chg G v v') : PY w G p r g s' yb y v' :=
  ⟨h.pb.step hL hC, hC.blk h.y (fun e => by have := (h.pb.lt _ e).2; have := h.lt; omega), h.lt⟩

/-- What the law asks of a number, whatever it is. -/
structure Sett (s : LS) (pn st : Int) (y z : Snt) (th f1 l1 l2 : Bool) : Prop where
  get : s.get pn = (y, th)
  use : (s.use pn).2 = f1
  again : ((s.use pn).1.use pn).2 = false
  lost : (((s.use pn).1.use pn).1.settle pn 3).2 = l1
  acked : ((((s.use pn).1.use pn).1.settle pn 3).1.settle pn 2).2 = l2
  late : (((((s.use pn).1.use pn).1.settle pn 3).1.settle pn 2).1.settle pn st).2 = false
  now : (((((s.use pn).1.use pn).1.settle pn 3).1.settle pn 2).1.settle pn st).1.get pn = (z, th)
  shape : (th = false ∧ z = y ∧ f1 = false ∧ l1 = false ∧ l2 = false) ∨ (th = true ∧ y.state = 4 ∧ z = y ∧ f1 = false ∧ l1 = false ∧ l2 = false) ∨
    (th = true ∧ (y.state = 1 ∨ y.state = 2 ∨ y.state = 3) ∧ y.pn = pn ∧ z = { y with used := true, state := 2 } ∧ f1 = !y.used ∧ l1 = decide (y.state = 1) ∧ l2 = decide (y.state = 1 ∨ y.state = 3))
theorem sett {s : LS} (gd : s.Good) (sm : s.Small) (pn st : Int) : ∃ y z th f1 l1 l2, Sett s pn st y z th f1 l1 l2 := by
  by_cases h : s.has pn
  · by_cases h4 : (s.at' pn).state = 4
    · have a := fun st => LS.settles_skip h h4 st
      obtain ⟨g, u, -⟩ := a 0
      refine ⟨s.at' pn, s.at' pn, true, false, false, false, g, by rw [u], by rw [u, u], by rw [u, u, (a 3).2.2], by rw [u, u, (a 3).2.2, (a 2).2.2], by rw [u, u, (a 3).2.2, (a 2).2.2, (a st).2.2], by rw [u, u, (a 3).2.2, (a 2).2.2, (a st).2.2, g], ?_⟩
      exact .inr (.inl ⟨rfl, h4, rfl, rfl, rfl, rfl⟩)
    · have hs := (sm.at' h).1
      obtain ⟨a1, a2, a3, a4, a5, a6, a7⟩ := LS.settles_all h st h4 hs
      exact ⟨s.at' pn, _, true, _, _, _, a1, a2, a3, a4, a5, a6, a7, .inr (.inr ⟨rfl, by omega, (gd.at' h).2.1, rfl, rfl, rfl, rfl⟩)⟩
  · have a := fun st => LS.settles_no h st
    obtain ⟨g, u, -⟩ := a 0
    refine ⟨LS.zero, LS.zero, false, false, false, false, g, by rw [u], by rw [u, u], by rw [u, u, (a 3).2.2], by rw [u, u, (a 3).2.2, (a 2).2.2], by rw [u, u, (a 3).2.2, (a 2).2.2, (a st).2.2], by rw [u, u, (a 3).2.2, (a 2).2.2, (a st).2.2, g], ?_⟩
    exact .inl ⟨rfl, rfl, rfl, rfl, rfl⟩

set_option maxHeartbeats 8000000 in
set_option maxRecDepth 100000 in
theorem ledgerSettles_any (ring pick state : Int) (A : Option Addr) (n c : Nat) (l : List Dd) (w : World) (hr : Rd w 3 A n c (Ds l)) (hok : ∀ d ∈ l, d.ok) (hring : 0 ≤ ring ∧ ring ≤ 255) (hpick : isU64 pick) (hstate : isI64 state) :
    Calls Try.prog 6 #[.int .u8 ring, .slice A n c, .int .u64 pick, .int .i64 state] w fun e w' => e = .returned (.bool true) ∧ Below w.heap.size w w' := by
  obtain ⟨r0, r1⟩ := hring
  obtain ⟨k0, k1⟩ := hpick
  have HR := Lib.hid hr
  have OK := Lib.hid hok
  clear hr hok
  go_enter Try.func6, Try.ntmps6
  go_wp2_with fail
  refine (make_any (ring % 40) 4611686018427387903 A n c l w HR.out OK.out ⟨by omega, by omega⟩).mono ?_
  rintro e w1 ⟨p, r, s, rfl, hT, hb1, hg1, hg2, hg3, hg4⟩
  obtain ⟨G, H, hP, hF⟩ := hT
  have eb := box_below w1 (.cells #[.pointer (some ⟨p, 0, none⟩), .pointer (some ⟨r, 0, none⟩)] 41)
  have PB1 : Hid (PB w G p r w1.heap.size s (w1.alloc (.cells #[.pointer (some ⟨p, 0, none⟩), .pointer (some ⟨r, 0, none⟩)] 41))) :=
    ⟨hP.p.below eb, heap_alloc_new w1 _, fun k hk => hF k (.inl hk), hb1.trans (eb.mono hb1.size)⟩
  have SM := Lib.hid hg4
  clear hP hF eb hb1 hg1 hg2 hg4
  go_wp2_with fail
  generalize hW : (w1.alloc (.cells #[.pointer (some ⟨p, 0, none⟩), .pointer (some ⟨r, 0, none⟩)] 41)) = w2 at *
  clear hW
  generalize w1.heap.size = g at *
  refine (ledAlive w2).mono ?_
  rintro e w3 ⟨rfl, b⟩
  have PB3 := Lib.hid (PB1.out.below b)
  clear b PB1
  have t0 := cell_of_row w3 g 0 _ _ _ PB3.out.t
  have t1 := cell_of_row w3 g 1 _ _ _ PB3.out.t
  go_wp2_with fail
  refine (led_next w3 G p s PB3.out.led).mono ?_
  rintro e w4 ⟨rfl, n4, rfl⟩
  have PB4 : Hid (PB w G p r g s (w3.drewN n4)) := PB3.out.below (below_drewN (Below.refl _ _) _)
  generalize w3.drewN n4 = w4 at *
  clear t0 t1 PB3
  have t0 := cell_of_row w4 g 0 _ _ _ PB4.out.t
  have t1 := cell_of_row w4 g 1 _ _ _ PB4.out.t
  have hp0 := Int.emod_nonneg pick (show (s.all.length : Int) + 2 ≠ 0 by omega)
  have hp1 := Int.emod_lt_of_pos pick (show (0 : Int) < (s.all.length : Int) + 2 by omega)
  go_wp2_with fail
  generalize pick % ((s.all.length : Int) + 2) = pn at *
  obtain ⟨y, z, th, f1, l1, l2, hS⟩ := sett PB4.out.led.good SM.out pn state
  have HS := Lib.hid hS
  clear hS
  have UP : Hid (isU64 pn) := ⟨hp0, by omega⟩
  refine (led_get w4 G p s pn PB4.out.led UP.out).mono ?_
  rw [HS.out.get]
  unfold Snt.val
  rintro e w5 ⟨rfl, b⟩
  have eb := box_below w5 (.cells #[.int .u64 y.pn, .int .u64 y.off, .int .u64 y.len, .int .u64 y.nonce, .int .u64 y.at_, .bool y.coin, .bool y.used, .int .i64 y.state] 32)
  have gs : g < w5.heap.size := lt_of_block (PB4.out.below b).t
  have P5 : Hid (PY w G p r g s w5.heap.size y (w5.alloc (.cells #[.int .u64 y.pn, .int .u64 y.off, .int .u64 y.len, .int .u64 y.nonce, .int .u64 y.at_, .bool y.coin, .bool y.used, .int .i64 y.state] 32))) :=
    ⟨(PB4.out.below b).below eb, heap_alloc_new w5 _, gs⟩
  clear b eb PB4 t0 t1
  obtain ⟨hyA, hyB⟩ : (∃ q, q = w5.heap.size) ∧ True := ⟨⟨_, rfl⟩, trivial⟩
  have t0 := cell_of_row _ g 0 _ _ _ P5.out.pb.t
  have t1 := cell_of_row _ g 1 _ _ _ P5.out.pb.t
  go_wp2_with fail
  generalize hW : (w5.alloc (.cells #[.int .u64 y.pn, .int .u64 y.off, .int .u64 y.len, .int .u64 y.nonce, .int .u64 y.at_, .bool y.coin, .bool y.used, .int .i64 y.state] 32)) = w6 at *
  clear hW hyA hyB
  generalize w5.heap.size = yb at *
  refine (led_use w6 G p s pn P5.out.pb.led UP.out).mono ?_
  rw [HS.out.use]
  rintro e w7 ⟨rfl, hL, hC⟩
  have Pw7 := Lib.hid (P5.out.step hL hC)
  clear hL hC P5
  clear t0 t1
  have t0 := cell_of_row w7 g 0 _ _ _ Pw7.out.pb.t
  have t1 := cell_of_row w7 g 1 _ _ _ Pw7.out.pb.t
  go_wp2_with fail
  refine (led_use w7 G p (s.use pn).1 pn Pw7.out.pb.led UP.out).mono ?_
  rw [HS.out.again]
  rintro e w8 ⟨rfl, hL, hC⟩
  have Pw8 := Lib.hid (Pw7.out.step hL hC)
  clear hL hC Pw7
  clear t0 t1
  have t0 := cell_of_row w8 g 0 _ _ _ Pw8.out.pb.t
  have t1 := cell_of_row w8 g 1 _ _ _ Pw8.out.pb.t
  go_wp2_with fail
  refine (led_settle w8 G p ((s.use pn).1.use pn).1 pn 3 Pw8.out.pb.led UP.out).mono ?_
  rw [HS.out.lost]
  rintro e w9 ⟨rfl, hL, hC⟩
  have Pw9 := Lib.hid (Pw8.out.step hL hC)
  clear hL hC Pw8
  clear t0 t1
  have t0 := cell_of_row w9 g 0 _ _ _ Pw9.out.pb.t
  have t1 := cell_of_row w9 g 1 _ _ _ Pw9.out.pb.t
  go_wp2_with fail
  refine (led_settle w9 G p (((s.use pn).1.use pn).1.settle pn 3).1 pn 2 Pw9.out.pb.led UP.out).mono ?_
  rw [HS.out.acked]
  rintro e w10 ⟨rfl, hL, hC⟩
  have Pw10 := Lib.hid (Pw9.out.step hL hC)
  clear hL hC Pw9
  clear t0 t1
  have t0 := cell_of_row w10 g 0 _ _ _ Pw10.out.pb.t
  have t1 := cell_of_row w10 g 1 _ _ _ Pw10.out.pb.t
  go_wp2_with fail
  refine (led_settle w10 G p ((((s.use pn).1.use pn).1.settle pn 3).1.settle pn 2).1 pn state Pw10.out.pb.led UP.out).mono ?_
  rw [HS.out.late]
  rintro e w11 ⟨rfl, hL, hC⟩
  have Pw11 := Lib.hid (Pw10.out.step hL hC)
  clear hL hC Pw10
  clear t0 t1
  have t0 := cell_of_row w11 g 0 _ _ _ Pw11.out.pb.t
  have t1 := cell_of_row w11 g 1 _ _ _ Pw11.out.pb.t
  go_wp2_with fail
  refine (led_get w11 G p (((((s.use pn).1.use pn).1.settle pn 3).1.settle pn 2).1.settle pn state).1 pn Pw11.out.pb.led UP.out).mono ?_
  rw [HS.out.now]
  unfold Snt.val
  rintro e w12 ⟨rfl, b⟩
  have P12 := Lib.hid (Pw11.out.below b)
  have SH := Lib.hid HS.out.shape
  clear b Pw11 t0 t1
  have hyl := lt_of_block P12.out.y
  have y0 := cell_of_row w12 yb 0 _ _ _ P12.out.y
  have y1 := cell_of_row w12 yb 1 _ _ _ P12.out.y
  have y2 := cell_of_row w12 yb 2 _ _ _ P12.out.y
  have y3 := cell_of_row w12 yb 3 _ _ _ P12.out.y
  have y4 := cell_of_row w12 yb 4 _ _ _ P12.out.y
  have y5 := cell_of_row w12 yb 5 _ _ _ P12.out.y
  have y6 := cell_of_row w12 yb 6 _ _ _ P12.out.y
  have y7 := cell_of_row w12 yb 7 _ _ _ P12.out.y
  rcases SH.out with ⟨rfl, rfl, rfl, rfl, rfl⟩ | ⟨rfl, h4, rfl, rfl, rfl, rfl⟩ | ⟨rfl, h123, hpn, rfl, rfl, rfl, rfl⟩
  · go_wp2
    go_ret
    exact ⟨rfl, P12.out.pb.bel.alloc P12.out.pb.bel.size _⟩
  · have q4 : (z.state == 4) = true := by simp [h4]
    have q4' : (z.state != 4) = false := by simp [h4]
    go_wp2
    go_ret
    exact ⟨rfl, P12.out.pb.bel.alloc P12.out.pb.bel.size _⟩
  · subst hpn
    rcases h123 with h | h | h
    all_goals
      cases hus : y.used
      all_goals
        rw [hus] at y6
        rw [h] at y7
        simp only [h, hus]
        go_wp2
        go_ret
        exact ⟨rfl, P12.out.pb.bel.alloc P12.out.pb.bel.size _⟩

end Go.Proofs.Yteigflkpopcjkaa
