/-
  The walk of ProofChecks.
-/
import Derived.Test.YteigflkpopcjkaaTrapP
import Derived.Test.YteigflkpopcjkaaPrfA
namespace Go.Proofs.Yteigflkpopcjkaa
set_option linter.unusedSimpArgs false
set_option linter.unusedVariables false
set_option linter.unnecessarySimpa false
open Go.RowKit

/-- The given acknowledgment in its box, and what stands behind it. -/
structure ChkRel (w wA : World) (raw : Ak) (kk : W4) (p r g h : Nat) (s : LS) (a : Ak) (W : World) : Prop where
  ts : TS wA kk p r g h s a W
  rr : AkR W raw
  x : W.heap[w.heap.size]? = some (.cells raw.cells 71 (0, 0))
theorem ChkRel.below {w wA W W' : World} {raw : Ak} {kk : W4} {p r g h : Nat} {s : LS} {a : Ak} (H : ChkRel w wA raw kk p r g h s a W) (b : Below W.heap.size W W') : ChkRel w wA raw kk p r g h s a W' :=
  ⟨H.ts.below b, H.rr.below b, (b.block _ (lt_of_block H.x)).trans H.x⟩
theorem ChkRel.of {w W : World} {raw : Ak} {kk : W4} {p r g h : Nat} {s : LS} {a : Ak} (hr : AkR w raw) (ts : TS (w.alloc (.cells raw.cells 71)) kk p r g h s a W) : ChkRel w (w.alloc (.cells raw.cells 71)) raw kk p r g h s a W := by
  have e := heap_alloc_new w (.cells raw.cells 71)
  exact ⟨ts, (hr.below (box_below w _)).below ts.z.bel, (ts.z.bel.block _ (lt_of_block e)).trans e⟩
theorem AkR.chgH {W W' : World} {a : Ak} (h : AkR W a) {z : Nat} (hC : Chg (fun j => j = z) W W') (h1 : ∀ b off, a.A = some ⟨b, off, none⟩ → 0 < a.sp.length → b ≠ z) (h2 : ∀ b off, a.B = some ⟨b, off, none⟩ → 0 < a.mm.length → b ≠ z) : AkR W' a :=
  ⟨h.rs.chg hC h1, h.rm.chg hC h2, h.us, h.um, h.ut, h.ux⟩
theorem ChkRel.setX {w wA W : World} {raw : Ak} {kk : W4} {p r g h : Nat} {s : LS} {a : Ak} (H : ChkRel w wA raw kk p r g h s a W) (hr : AkR w raw) (hw : w.heap.size ≤ wA.heap.size) (v : Int) (o : Bool) (hv : isU64 v) :
    ChkRel w wA raw kk p r g h s { a with xo := v, od := o } ((W.setCell ⟨h, 3, none⟩ (.int .u64 v)).setCell ⟨h, 4, none⟩ (.bool o)) := by
  have hC : Chg (fun j => j = h) W ((W.setCell ⟨h, 3, none⟩ (.int .u64 v)).setCell ⟨h, 4, none⟩ (.bool o)) := ((Chg.refl (fun j => j = h) W).setCell (p := ⟨h, 3, none⟩) (.inl rfl) _).setCell (p := ⟨h, 4, none⟩) (.inl rfl) _
  have g1 := H.ts.z.lg
  have g2 := H.ts.gh
  refine ⟨H.ts.setX v o hv, H.rr.chgH hC (fun b off e hn => ?_) (fun b off e hn => ?_), hC.blk H.x (by omega)⟩
  · have := hr.rs.lt (by omega) hn b off e; omega
  · have := hr.rm.lt (by omega) hn b off e; omega
theorem sum_u64 (s : LS) (cl mk : List Sp) (g : s.Good) : isU64 (s.sum cl mk).1 := by
  unfold LS.sum
  split
  · exact LS.sumX_u64 _ _ g.keptOk
  · exact ⟨by simp, by simp⟩
theorem idx0 (a0 a1 a2 a3 a4 b0 b1 b2 b3 b4 : Value) (w : World) : (Instr.index 85 (.agg #[a0, a1, a2, a3, a4, b0, b1, b2, b3, b4]) (.int .i64 0)).run Try.prog w = .ok (.agg #[a0, a1, a2, a3, a4]) w := by kernel_rfl
theorem idx1 (a0 a1 a2 a3 a4 b0 b1 b2 b3 b4 : Value) (w : World) : (Instr.index 85 (.agg #[a0, a1, a2, a3, a4, b0, b1, b2, b3, b4]) (.int .i64 1)).run Try.prog w = .ok (.agg #[b0, b1, b2, b3, b4]) w := by kernel_rfl

set_option maxHeartbeats 8000000 in
set_option maxRecDepth 100000 in
theorem proofChecks_any (ring x : Int) (A : Option Addr) (n c : Nat) (l : List Dd) (raw : Ak) (k : W4) (w : World) (hr : Rd w 3 A n c (Ds l)) (hok : ∀ d ∈ l, d.ok) (hraw : AkR w raw) (hk : k.ok) (hring : 0 ≤ ring ∧ ring ≤ 255) (hx : isU64 x) :
    Calls Try.prog 17 #[.int .u8 ring, .slice A n c, raw.val, k.val, .int .u64 x] w fun e w' => e = .returned (.bool true) ∧ Below w.heap.size w w' := by
  obtain ⟨r0, r1⟩ := hring
  obtain ⟨x0, x1⟩ := hx
  have EA := Lib.hid (box_below w (.cells raw.cells 71))
  have EB := Lib.hid (box_below (w.alloc (.cells raw.cells 71)) (.cells #[.int .u16 k.a, .int .u16 k.b, .int .u16 k.c, .int .u16 k.d] 76))
  have HR := Lib.hid ((hr.below EA.out).below EB.out)
  have OK := Lib.hid hok
  have KO := Lib.hid hk
  have RAW := Lib.hid hraw
  have MKR := Lib.hid (fun (W : World) (p r g h : Nat) (s : LS) (a : Ak) => ChkRel.of (W := W) (kk := k) (p := p) (r := r) (g := g) (h := h) (s := s) (a := a) hraw)
  clear hr hok hk hraw
  obtain ⟨ka, kb, kc, kd⟩ := k
  obtain ⟨rA, rc, rB, rd, rsp, rmm, rtr, rxo, rod⟩ := raw
  unfold W4.val W4.cells Ak.val
  simp only [Ak.cells] at HR KO EB EA RAW MKR ⊢
  go_enter Try.func17, Try.ntmps17
  go_wp2_with fail
  have hz : (w.alloc (.cells #[.slice rA rsp.length rc, .slice rB rmm.length rd, .int .u64 rtr, .int .u64 rxo, .bool rod] 71)).heap.size = w.heap.size + 1 := by simp
  generalize hwA : w.alloc (.cells #[.slice rA rsp.length rc, .slice rB rmm.length rd, .int .u64 rtr, .int .u64 rxo, .bool rod] 71) = wA at *
  have HZ := Lib.hid hz
  clear hz hwA
  refine (make_any (ring % 40) 4611686018427387903 A n c l _ HR.out OK.out ⟨by omega, by omega⟩).mono ?_
  rintro e w2 ⟨p, r, s, rfl, hT, hb1, hg1, hg2, hg3, hg4, hg5⟩
  have Z2 := Lib.hid (TS0.of (k := ⟨ka, kb, kc, kd⟩) hT hb1 hg3 hg1 (by omega))
  clear hT hb1 hg1 hg2 hg3 hg4 hg5
  go_wp2_with fail
  generalize hW : (w2.alloc (.cells #[.pointer (some ⟨p, 0, none⟩), .pointer (some ⟨r, 0, none⟩)] 41)) = w3 at *
  clear hW
  generalize w2.heap.size = g at *
  refine (prfAlive w3).mono ?_
  rintro e w4 ⟨rfl, b⟩
  have Z4 := Lib.hid (Z2.out.below b)
  clear b Z2
  have t0 := cell_of_row w4 g 0 _ _ _ Z4.out.t
  have t1 := cell_of_row w4 g 1 _ _ _ Z4.out.t
  have u0 := cell_of_row w4 (w.heap.size + 1) 0 _ _ _ (HZ.out ▸ Z4.out.kb)
  have u1 := cell_of_row w4 (w.heap.size + 1) 1 _ _ _ (HZ.out ▸ Z4.out.kb)
  have u2 := cell_of_row w4 (w.heap.size + 1) 2 _ _ _ (HZ.out ▸ Z4.out.kb)
  have u3 := cell_of_row w4 (w.heap.size + 1) 3 _ _ _ (HZ.out ▸ Z4.out.kb)
  go_wp2_with fail
  refine (ask_any w4 _ p r s ⟨ka, kb, kc, kd⟩ (bits .and .u64 x 7) Z4.out.two Z4.out.len KO.out (u64_bits .and x 7)).mono ?_
  rintro e w5 ⟨a, rfl, ha, hm, hga, b⟩
  have Z5 := Lib.hid (TS.of (Z4.out.below b) ha hm (fun b' off e => Nat.lt_of_lt_of_le (lt_of_block Z4.out.t) (hga b' off e)))
  have Y5 := Lib.hid (Z4.out.below b)
  clear ha hm hga b Z4 t0 t1 u0 u1 u2 u3
  obtain ⟨Aa, ca, Ba, da, sp, mm, tr, xo, od⟩ := a
  unfold Ak.val
  simp only [Ak.cells] at Z5 ⊢
  have t0 := cell_of_row w5 g 0 _ _ _ Y5.out.t
  have t1 := cell_of_row w5 g 1 _ _ _ Y5.out.t
  have gl := lt_of_block Y5.out.t
  clear Y5
  have C5 := Lib.hid (MKR.out _ _ _ _ _ _ _ Z5.out)
  clear Z5 MKR
  go_wp2_with fail
  generalize hW : (w5.alloc (.cells #[.slice Aa sp.length ca, .slice Ba mm.length da, .int .u64 tr, .int .u64 xo, .bool od] 71)) = w6 at *
  clear hW t0 t1 gl
  generalize w5.heap.size = h at *
  have t0 := cell_of_row w6 g 0 _ _ _ C5.out.ts.z.t
  have t1 := cell_of_row w6 g 1 _ _ _ C5.out.ts.z.t
  have v0 := cell_of_row w6 h 0 _ _ _ C5.out.ts.x
  have v1 := cell_of_row w6 h 1 _ _ _ C5.out.ts.x
  have v2 := cell_of_row w6 h 2 _ _ _ C5.out.ts.x
  have v3 := cell_of_row w6 h 3 _ _ _ C5.out.ts.x
  have v4 := cell_of_row w6 h 4 _ _ _ C5.out.ts.x
  simp only [Ak.cells] at v0 v1 v2 v3 v4
  obtain ⟨H6, hR6⟩ := C5.out.ts.ledR
  have SU := Lib.hid (sum_u64 s sp [] C5.out.ts.z.two.good)
  go_wp2_with fail
  refine (sumR_any w6 H6 r s Aa none ca 0 sp [] hR6 C5.out.ts.r.rs (Rd.nil_ _ _) C5.out.ts.r.us (U2s_of rfl)).mono ?_
  generalize s.sum sp [] = sm at *
  obtain ⟨Y, O, is⟩ := sm
  simp only at SU
  rintro e w7 ⟨rfl, b⟩
  have C7 := Lib.hid (C5.out.below b)
  clear b C5 t0 t1 v0 v1 v2 v3 v4 hR6
  go_upto_region 6 with fail
  go_cut [56] (fun s56 wx => ∃ b, s56 = .bool b ∧ wx = w7)
  case first =>
    cases is with
    | true =>
      by_cases e8 : bits .and .u64 x 8 = 0
      · go_wp2_with fail
        go_meet
        exact ⟨_, rfl, rfl⟩
      · go_wp2_with fail
        go_meet
        exact ⟨_, rfl, rfl⟩
    | false =>
      go_wp2_with fail
      go_meet
      exact ⟨_, rfl, rfl⟩
  case rest =>
    obtain ⟨bb, rfl, rfl⟩ := hcut
    go_upto_if 56 with fail
    go_cut [5] (fun _ wx => ∃ a : Ak, Hid (ChkRel w wA ⟨rA, rc, rB, rd, rsp, rmm, rtr, rxo, rod⟩ ⟨ka, kb, kc, kd⟩ p r g h s a wx))
    case first =>
      cases bb with
      | true =>
        have v0 := cell_of_row _ h 0 _ _ _ C7.out.ts.x
        have fv0 := frozen_of_row _ h 0 _ _ C7.out.ts.x
        have v1 := cell_of_row _ h 1 _ _ _ C7.out.ts.x
        have fv1 := frozen_of_row _ h 1 _ _ C7.out.ts.x
        have v2 := cell_of_row _ h 2 _ _ _ C7.out.ts.x
        have fv2 := frozen_of_row _ h 2 _ _ C7.out.ts.x
        have v3 := cell_of_row _ h 3 _ _ _ C7.out.ts.x
        have fv3 := frozen_of_row _ h 3 _ _ C7.out.ts.x
        have v4 := cell_of_row _ h 4 _ _ _ C7.out.ts.x
        have fv4 := frozen_of_row _ h 4 _ _ C7.out.ts.x
        simp only [Ak.cells] at v0 v1 v2 v3 v4
        by_cases e16 : bits .and .u64 x 16 = 0
        all_goals
          cases O
          all_goals
            go_wp2_with fail
            go_meet
            exact ⟨_, Lib.hid (C7.out.setX RAW.out EA.out.size Y _ SU.out)⟩
      | false =>
        go_wp2_with fail
        go_meet
        exact ⟨_, C7⟩
    case rest =>
      obtain ⟨⟨Ab, cb, Bb, db, spb, mmb, trb, xob, odb⟩, D⟩ := hcut
      clear C7 SU
      have v0 := cell_of_row wc h 0 _ _ _ D.out.ts.x
      have v1 := cell_of_row wc h 1 _ _ _ D.out.ts.x
      have v2 := cell_of_row wc h 2 _ _ _ D.out.ts.x
      have v3 := cell_of_row wc h 3 _ _ _ D.out.ts.x
      have v4 := cell_of_row wc h 4 _ _ _ D.out.ts.x
      have y0 := cell_of_row wc w.heap.size 0 _ _ _ D.out.x
      have y1 := cell_of_row wc w.heap.size 1 _ _ _ D.out.x
      have y2 := cell_of_row wc w.heap.size 2 _ _ _ D.out.x
      have y3 := cell_of_row wc w.heap.size 3 _ _ _ D.out.x
      have y4 := cell_of_row wc w.heap.size 4 _ _ _ D.out.x
      simp only [Ak.cells] at v0 v1 v2 v3 v4 y0 y1 y2 y3 y4
      have I0 := idx0 (.slice rA rsp.length rc) (.slice rB rmm.length rd) (.int .u64 rtr) (.int .u64 rxo) (.bool rod) (.slice Ab spb.length cb) (.slice Bb mmb.length db) (.int .u64 trb) (.int .u64 xob) (.bool odb)
      have I1 := idx1 (.slice rA rsp.length rc) (.slice rB rmm.length rd) (.int .u64 rtr) (.int .u64 rxo) (.bool rod) (.slice Ab spb.length cb) (.slice Bb mmb.length db) (.int .u64 trb) (.int .u64 xob) (.bool odb)
      go_wp2_with fail
      clear v0 v1 v2 v3 v4 y0 y1 y2 y3 y4
      go_loopw [68] (fun i wr => ∃ k : Nat, k ≤ 2 ∧ i = .int .i64 k ∧ Hid (ChkRel w wA ⟨rA, rc, rB, rd, rsp, rmm, rtr, rxo, rod⟩ ⟨ka, kb, kc, kd⟩ p r g h s ⟨Ab, cb, Bb, db, spb, mmb, trb, xob, odb⟩ wr)) (fun i _ => 2 - (intOf i).toNat)
      case atStart => exact ⟨0, by omega, rfl, D⟩
      case round =>
       clear D
       obtain ⟨k, hk, rfl, D⟩ := hrel
       have h3 : k = 0 ∨ k = 1 ∨ k = 2 := by omega
       rcases h3 with rfl | rfl | rfl
       · have EX := box_below wr (.cells #[.slice rA rsp.length rc, .slice rB rmm.length rd, .int .u64 rtr, .int .u64 rxo, .bool rod] 71)
         have BX := Lib.hid (heap_alloc_new wr (.cells #[.slice rA rsp.length rc, .slice rB rmm.length rd, .int .u64 rtr, .int .u64 rxo, .bool rod] 71))
         have D1 := Lib.hid (D.out.below EX)
         have gl := lt_of_block D.out.ts.z.t
         have t0 := cell_of_row wr g 0 _ _ _ D.out.ts.z.t
         have t1 := cell_of_row wr g 1 _ _ _ D.out.ts.z.t
         clear EX
         go_wp2_with fail
         generalize hW : (wr.alloc (.cells #[.slice rA rsp.length rc, .slice rB rmm.length rd, .int .u64 rtr, .int .u64 rxo, .bool rod] 71)) = wb at *
         clear hW t0 t1
         generalize wr.heap.size = q at *
         obtain ⟨G1, hL1, -⟩ := D1.out.ts.ledP
         refine (check_any wb G1 p s ⟨rA, rc, rB, rd, rsp, rmm, rtr, rxo, rod⟩ hL1 D1.out.rr).mono ?_
         generalize hpq : Ak.check ⟨rA, rc, rB, rd, rsp, rmm, rtr, rxo, rod⟩ s = pq
         have HPQ := Lib.hid hpq
         clear hpq hL1
         obtain ⟨why, pn⟩ := pq
         rintro e w11 ⟨rfl, b⟩
         have D2 := Lib.hid (D1.out.below b)
         have BX2 := Lib.hid ((b.block _ (lt_of_block BX.out)).trans BX.out)
         clear b D1 BX
         have t0 := cell_of_row w11 g 0 _ _ _ D2.out.ts.z.t
         have t1 := cell_of_row w11 g 1 _ _ _ D2.out.ts.z.t
         have y0 := cell_of_row w11 q 0 _ _ _ BX2.out
         have y1 := cell_of_row w11 q 1 _ _ _ BX2.out
         have y2 := cell_of_row w11 q 2 _ _ _ BX2.out
         have y3 := cell_of_row w11 q 3 _ _ _ BX2.out
         have y4 := cell_of_row w11 q 4 _ _ _ BX2.out
         obtain ⟨H2, hR2⟩ := D2.out.ts.ledR
         go_wp2_with fail
         refine (checkR_any w11 H2 r s ⟨rA, rc, rB, rd, rsp, rmm, rtr, rxo, rod⟩ hR2 D2.out.rr).mono ?_
         rw [HPQ.out]
         rintro e w12 ⟨rfl, b⟩
         have D3 := Lib.hid (D2.out.below b)
         have z1 : (why != why) = false := by simp
         have z2 : (pn != pn) = false := by simp
         clear b D2 BX2 t0 t1 y0 y1 y2 y3 y4 hR2
         go_wp2
         go_roundw

         case rel => exact ⟨0 + 1, by omega, by go_num, D3⟩
         case measure => simp [intOf]
       · have EX := box_below wr (.cells #[.slice Ab spb.length cb, .slice Bb mmb.length db, .int .u64 trb, .int .u64 xob, .bool odb] 71)
         have BX := Lib.hid (heap_alloc_new wr (.cells #[.slice Ab spb.length cb, .slice Bb mmb.length db, .int .u64 trb, .int .u64 xob, .bool odb] 71))
         have D1 := Lib.hid (D.out.below EX)
         have gl := lt_of_block D.out.ts.z.t
         have t0 := cell_of_row wr g 0 _ _ _ D.out.ts.z.t
         have t1 := cell_of_row wr g 1 _ _ _ D.out.ts.z.t
         clear EX
         go_wp2_with fail
         generalize hW : (wr.alloc (.cells #[.slice Ab spb.length cb, .slice Bb mmb.length db, .int .u64 trb, .int .u64 xob, .bool odb] 71)) = wb at *
         clear hW t0 t1
         generalize wr.heap.size = q at *
         obtain ⟨G1, hL1, -⟩ := D1.out.ts.ledP
         refine (check_any wb G1 p s ⟨Ab, cb, Bb, db, spb, mmb, trb, xob, odb⟩ hL1 D1.out.ts.r).mono ?_
         generalize hpq : Ak.check ⟨Ab, cb, Bb, db, spb, mmb, trb, xob, odb⟩ s = pq
         have HPQ := Lib.hid hpq
         clear hpq hL1
         obtain ⟨why, pn⟩ := pq
         rintro e w11 ⟨rfl, b⟩
         have D2 := Lib.hid (D1.out.below b)
         have BX2 := Lib.hid ((b.block _ (lt_of_block BX.out)).trans BX.out)
         clear b D1 BX
         have t0 := cell_of_row w11 g 0 _ _ _ D2.out.ts.z.t
         have t1 := cell_of_row w11 g 1 _ _ _ D2.out.ts.z.t
         have y0 := cell_of_row w11 q 0 _ _ _ BX2.out
         have y1 := cell_of_row w11 q 1 _ _ _ BX2.out
         have y2 := cell_of_row w11 q 2 _ _ _ BX2.out
         have y3 := cell_of_row w11 q 3 _ _ _ BX2.out
         have y4 := cell_of_row w11 q 4 _ _ _ BX2.out
         obtain ⟨H2, hR2⟩ := D2.out.ts.ledR
         go_wp2_with fail
         refine (checkR_any w11 H2 r s ⟨Ab, cb, Bb, db, spb, mmb, trb, xob, odb⟩ hR2 D2.out.ts.r).mono ?_
         rw [HPQ.out]
         rintro e w12 ⟨rfl, b⟩
         have D3 := Lib.hid (D2.out.below b)
         have z1 : (why != why) = false := by simp
         have z2 : (pn != pn) = false := by simp
         clear b D2 BX2 t0 t1 y0 y1 y2 y3 y4 hR2
         go_wp2
         go_roundw

         case rel => exact ⟨1 + 1, by omega, by go_num, D3⟩
         case measure => simp [intOf]
       · have t0 := cell_of_row wr g 0 _ _ _ D.out.ts.z.t
         have t1 := cell_of_row wr g 1 _ _ _ D.out.ts.z.t
         go_wp2_with fail
         refine (two_same _ _ p r s D.out.ts.z.two).mono ?_
         rintro e w12 ⟨rfl, b⟩
         have hb := D.out.ts.z.bel.trans (b.mono D.out.ts.z.bel.size)
         clear b
         go_wp2
         go_ret
         exact ⟨rfl, EA.out.trans (hb.mono EA.out.size)⟩

end Go.Proofs.Yteigflkpopcjkaa
