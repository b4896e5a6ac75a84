/-
  The walk of GuardTakes.
-/
import Derived.Test.YtelaimephejkkaaGreatGuS
namespace Go.Proofs.YtelaimephejkkaaGreat
set_option linter.unusedSimpArgs false
set_option linter.unusedVariables false
set_option linter.unnecessarySimpa false
open Go.RowKit

theorem use_at {s : LS} {pn : Int} (h : s.mayUse pn) : (s.use pn).1.get pn = ({ s.at' pn with used := true }, true) := by
  have h1 := LS.has_lt h.1
  have e : (s.use pn).1 = s.put pn { s.at' pn with used := true } := by unfold LS.use; rw [if_pos h]
  have hh : (s.put pn { s.at' pn with used := true }).has pn := by
    have := h.1
    simpa [LS.has, LS.put, LS.low] using this
  rw [e]
  unfold LS.get
  rw [if_pos hh]
  have : (s.put pn { s.at' pn with used := true }).at' pn = { s.at' pn with used := true } := by
    have h2 : pn.toNat < s.all.length := by omega
    simp [LS.at', LS.put, h2]
  rw [this]
/-- What is taken. -/
theorem takes_out {s : LS} (g : s.Good) {a : Ak} {w : World} {pn X : Int} {O : Bool} (hA : Asked a) (hr : AkR w a) (hX : isU64 X) (hs : s.sum a.sp [] = (X, O, true)) (hl : a.look s = (pn, 0)) (most every now : Int) :
    (GS.new most every).take s (putAckP ⟨a.sp, a.mm, a.tr, X, O⟩) now = ⟨(GS.new most every).took, (s.use pn).1, ⟨2, 0, pn, false⟩, ⟨a.sp, a.mm, a.tr, X, O⟩⟩ := by
  obtain ⟨g1, g2, p1, p2, l1, l2, l3, hi⟩ := hA.parts hr
  have e := ackP_put ⟨a.sp, a.mm, a.tr, X, O⟩ g1 g2 p1 p2 l1 l2 l3 hi hr.ut hX
  have hl' : (⟨a.sp, a.mm, a.tr, X, O⟩ : AckD).ak.look s = (pn, 0) := by rw [← hl]; exact Ak.look_congr (a := (⟨a.sp, a.mm, a.tr, X, O⟩ : AckD).ak) (b := a) rfl rfl rfl s
  exact GS.take_took rfl e now hl' (check_true g hA hs)

set_option maxHeartbeats 8000000 in
set_option maxRecDepth 100000 in
theorem guardTakes_any (ring : Int) (A1 : Option Addr) (n1 c1 : Nat) (l1 : List Dd) (k : W4) (n : Int) (w : World) (hr : Rd w 3 A1 n1 c1 (Ds l1)) (hok : ∀ d ∈ l1, d.ok) (hk : k.ok) (hring : 0 ≤ ring ∧ ring ≤ 255) (hn : 0 ≤ n ∧ n ≤ 255) :
    Calls Tryz.prog 6 #[.int .u8 ring, .slice A1 n1 c1, k.val, .int .u8 n] w fun e w' => e = .returned (.bool true) ∧ Below w.heap.size w w' := by
  obtain ⟨r0, r1⟩ := hring
  obtain ⟨m0, m1⟩ := hn
  have KO := Lib.hid hk
  obtain ⟨ka, kb, kc, kd⟩ := k
  unfold W4.val W4.cells
  simp only
  have e0 := box_below w (.cells #[.int .u16 ka, .int .u16 kb, .int .u16 kc, .int .u16 kd] 40)
  have E0 := Lib.hid e0
  have Q0 := Lib.hid (heap_alloc_new w (.cells #[.int .u16 ka, .int .u16 kb, .int .u16 kc, .int .u16 kd] 40))
  have HR := Lib.hid (hr.below e0)
  have OK := Lib.hid hok
  have s0 : (w.alloc (.cells #[.int .u16 ka, .int .u16 kb, .int .u16 kc, .int .u16 kd] 40)).heap.size = w.heap.size + 1 := by simp
  have wk : IntKind.u64.wrap (n % 9) = n % 9 := IntWalk.u64_in _ (by omega)
  clear hr hok hk e0
  go_enter Tryz.func6, Tryz.ntmps6
  go_upto_region 1 with fail
  generalize (w.alloc (.cells #[.int .u16 ka, .int .u16 kb, .int .u16 kc, .int .u16 kd] 40)) = w0 at *
  have K1 := Lib.hid (make_any (ring % 40) 4611686018427387903 A1 n1 c1 l1 w0 HR.out OK.out ⟨by omega, by omega⟩)
  go_wp2_with fail
  refine K1.out.mono ?_
  rintro e w1 ⟨p, r, s, rfl, hT, hb1, hg1, hg2, hg3, hg4, hg5⟩
  have e2 := box_below w1 (.cells (P2 p r) 28)
  have T2 := Lib.hid (heap_alloc_new w1 (.cells (P2 p r) 28))
  have TW2 : Hid (Two (w1.alloc (.cells (P2 p r) 28)) (fun j => w0.heap.size ≤ j ∧ j < w1.heap.size) p r s) := Lib.hid ((hT.sub fun k hk h => ⟨h, hk⟩).below e2)
  have B2 := Lib.hid (hb1.trans (e2.mono hb1.size))
  have hs1 := hb1.size
  have G3 := Lib.hid hg3
  clear K1 hT hb1 e2 hg1 hg2 hg3 hg4 hg5
  go_upto_region 2 with fail
  have hP2 : w1.alloc (.cells #[.pointer (some ⟨p, 0, none⟩), .pointer (some ⟨r, 0, none⟩)] 28) = w1.alloc (.cells (P2 p r) 28) := rfl
  rw [hP2]
  clear hP2
  have s2 : (w1.alloc (.cells (P2 p r) 28)).heap.size = w1.heap.size + 1 := by simp
  generalize (w1.alloc (.cells (P2 p r) 28)) = w2 at *
  generalize w1.heap.size = h1 at *
  have K3 := Lib.hid (gua_new 3 50 w2 ⟨by omega, by omega⟩)
  go_wp2_with fail
  refine K3.out.mono ?_
  rintro e w3 ⟨b, rfl, hGP, hb3⟩
  have hs3 := hb3.size
  obtain ⟨N, M, s3'⟩ := Solo.start TW2.out T2.out B2.out hs1 s2 hGP hb3 G3.out
  have S3 := Lib.hid s3'
  clear s3' K3 hGP hb3 TW2 T2 B2 G3
  go_wp2_with fail
  refine (guardAlive w3).mono ?_
  rintro e w6 ⟨rfl, b6⟩
  have S6 := Lib.hid (S3.out.below b6)
  have Q6 := Lib.hid ((S6.out.bel.block _ (lt_of_block Q0.out)).trans Q0.out)
  clear b6 S3 Q0
  have y0 : w6.cell? ⟨h1, 0, none⟩ = some (.pointer (some ⟨p, 0, none⟩)) := cell_of_row w6 h1 0 _ _ _ S6.out.t1
  have y1 : w6.cell? ⟨h1, 1, none⟩ = some (.pointer (some ⟨r, 0, none⟩)) := cell_of_row w6 h1 1 _ _ _ S6.out.t1
  have u0 := cell_of_row w6 w.heap.size 0 _ _ _ Q6.out
  have u1 := cell_of_row w6 w.heap.size 1 _ _ _ Q6.out
  have u2 := cell_of_row w6 w.heap.size 2 _ _ _ Q6.out
  have u3 := cell_of_row w6 w.heap.size 3 _ _ _ Q6.out
  go_wp2_with fail
  refine (ask_any w6 _ p r s ⟨ka, kb, kc, kd⟩ (n % 9) S6.out.R S6.out.len KO.out ⟨by omega, by omega⟩).mono ?_
  rintro e w7 ⟨a, rfl, ha, hm, hga, b7⟩
  clear y0 y1 u0 u1 u2 u3 Q6
  have PA := Lib.hid (hm.parts ha)
  have AM := Lib.hid hm
  obtain ⟨A, ca, B, da, sp, mm, tr, xo, od⟩ := a
  unfold Ak.val Ak.cells
  simp only at PA hga ⊢
  have e8 := box_below w7 (.cells #[.slice A sp.length ca, .slice B mm.length da, .int .u64 tr, .int .u64 xo, .bool od] 56)
  have n8 := heap_alloc_new w7 (.cells #[.slice A sp.length ca, .slice B mm.length da, .int .u64 tr, .int .u64 xo, .bool od] 56)
  have b68 := b7.trans (e8.mono b7.size)
  have S8 := Lib.hid (S6.out.grow b68)
  have A8 := Lib.hid (ha.below e8)
  have N8 := Lib.hid n8
  have G8 := Lib.hid hga
  have s7 := b7.size
  have s8 : (w7.alloc (.cells #[.slice A sp.length ca, .slice B mm.length da, .int .u64 tr, .int .u64 xo, .bool od] 56)).heap.size = w7.heap.size + 1 := by simp
  have s6 : h1 < w6.heap.size := lt_of_block S6.out.t1
  have n6 : ∀ k, M k → k < w6.heap.size := fun k hk => S6.out.nl k (S6.out.mn k hk).1
  have N6 := Lib.hid n6
  have w06 := S6.out.bel.size
  have LA : Hid (∀ bk off, A = some ⟨bk, off, none⟩ → 0 < sp.length → w6.heap.size ≤ bk ∧ bk < w7.heap.size) := Lib.hid (fun bk off e hn => ⟨hga bk off e, ha.rs.lt (by omega) hn bk off e⟩)
  clear e8 n8 b68 S6 ha hga b7 hm n6
  go_upto_region 6 with fail
  generalize (w7.alloc (.cells #[.slice A sp.length ca, .slice B mm.length da, .int .u64 tr, .int .u64 xo, .bool od] 56)) = w8 at *
  generalize w7.heap.size = h2 at *
  -- the sums
  obtain ⟨H, hLR, hHs⟩ := S8.out.R
  have SG := Lib.hid hLR.good
  have K9 := Lib.hid (sumR_any w8 H r s A none ca 0 sp [] hLR A8.out.rs (Rd.nil_ _ _) A8.out.us (fun x hx => by cases hx))
  have XU := Lib.hid (sumU s sp [] SG.out)
  have y1 : w8.cell? ⟨h1, 1, none⟩ = some (.pointer (some ⟨r, 0, none⟩)) := cell_of_row w8 h1 1 _ _ _ S8.out.t1
  have v0 := cell_of_row w8 h2 0 _ _ _ N8.out
  generalize hsm : s.sum sp [] = sm at *
  have HS := Lib.hid hsm
  clear hsm hLR hHs
  obtain ⟨X, O, is⟩ := sm
  simp only [List.length_nil] at K9 XU
  go_wp2_with fail
  refine K9.out.mono ?_
  rintro e w9 ⟨rfl, b9⟩
  have S9 := Lib.hid (S8.out.below b9)
  have A9 := Lib.hid (A8.out.below b9)
  have N9 := Lib.hid ((b9.block _ (lt_of_block N8.out)).trans N8.out)
  clear K9 y1 v0 S8 A8 N8
  -- look
  obtain ⟨H, hLR, hHs⟩ := S9.out.R
  have K10 := Lib.hid (lookR_any w9 H r s _ hLR A9.out)
  clear hLR hHs
  unfold Ak.val Ak.cells at K10
  simp only at K10
  have MU := Lib.hid (Ak.look_mayUse ⟨A, ca, B, da, sp, mm, tr, xo, od⟩ (s := s) SG.out)
  have FU := Lib.hid (Ak.look_u64 ⟨A, ca, B, da, sp, mm, tr, xo, od⟩ (s := s) SG.out)
  generalize hpq : Ak.look ⟨A, ca, B, da, sp, mm, tr, xo, od⟩ s = pq at *
  have HPQ := Lib.hid hpq
  clear hpq
  obtain ⟨q, x⟩ := pq
  simp only at K10 MU FU
  have y1 : w9.cell? ⟨h1, 1, none⟩ = some (.pointer (some ⟨r, 0, none⟩)) := cell_of_row w9 h1 1 _ _ _ S9.out.t1
  have v0 := cell_of_row w9 h2 0 _ _ _ N9.out
  have v1 := cell_of_row w9 h2 1 _ _ _ N9.out
  have v2 := cell_of_row w9 h2 2 _ _ _ N9.out
  have v3 := cell_of_row w9 h2 3 _ _ _ N9.out
  have v4 := cell_of_row w9 h2 4 _ _ _ N9.out
  go_wp2_with fail
  refine K10.out.mono ?_
  rintro e w10 ⟨rfl, b10⟩
  have S10 := Lib.hid (S9.out.below b10)
  have A10 := Lib.hid (A9.out.below b10)
  have N10 := Lib.hid ((b10.block _ (lt_of_block N9.out)).trans N9.out)
  clear K10 y1 v0 v1 v2 v3 v4 S9 A9 N9 b9 b10
  cases is with
  | false =>
    go_wp2
    go_ret
    exact ⟨rfl, E0.out.trans (S10.out.bel.mono (by omega))⟩
  | true =>
    by_cases hx : x = 0
    · subst hx
      have HO := Lib.hid (takes_out SG.out (a := ⟨A, ca, B, da, sp, mm, tr, xo, od⟩) AM.out A10.out XU.out HS.out HPQ.out 3 50 1)
      have MM : Hid (mm = []) := Lib.hid AM.out.mm
      simp only at HO
      have c11 := ((Chg.refl (fun k => k = h2) w10).setCell (p := ⟨h2, 3, none⟩) (.inl rfl) (.int .u64 X)).setCell (p := ⟨h2, 4, none⟩) (.inl rfl) (.bool O)
      have n11 := fill_list h2 56 [.int .u64 X, .bool O] w10 3 [.slice A sp.length ca, .slice B mm.length da, .int .u64 tr, .int .u64 xo, .bool od] N10.out (by simp)
      simp only [fillFrom] at n11
      have S11 := Lib.hid (S10.out.chg c11 (fun k hk e => by have e : k = h2 := e; subst e; exact ⟨.inr ⟨by omega, by omega⟩, by omega, by omega, fun hm => by have := N6.out _ hm; omega⟩))
      have A11 : Hid (AkR _ ⟨A, ca, B, da, sp, mm, tr, X, O⟩) := Lib.hid ⟨A10.out.rs.chg c11 (fun bk off e hn h => by have := LA.out bk off e hn; have h : bk = h2 := h; omega), A10.out.rm.chg c11 (fun bk off e hn h => by rw [MM.out] at hn; simp at hn), A10.out.us, A10.out.um, A10.out.ut, XU.out⟩
      have N11 := Lib.hid n11
      have v0 := cell_of_row w10 h2 0 _ _ _ N10.out
      have fv0 := frozen_of_row w10 h2 0 _ _ N10.out
      have v1 := cell_of_row w10 h2 1 _ _ _ N10.out
      have fv1 := frozen_of_row w10 h2 1 _ _ N10.out
      have v2 := cell_of_row w10 h2 2 _ _ _ N10.out
      have fv2 := frozen_of_row w10 h2 2 _ _ N10.out
      have v3 := cell_of_row w10 h2 3 _ _ _ N10.out
      have fv3 := frozen_of_row w10 h2 3 _ _ N10.out
      have v4 := cell_of_row w10 h2 4 _ _ _ N10.out
      have fv4 := frozen_of_row w10 h2 4 _ _ N10.out
      clear c11 n11 S10 A10
      go_upto_region 11 with fail
      generalize ((w10.setCell ⟨h2, 3, none⟩ (.int .u64 X)).setCell ⟨h2, 4, none⟩ (.bool O)) = w11 at *
      clear v0 v1 v2 v3 v4 fv0 fv1 fv2 fv3 fv4 N10
      have K12 := Lib.hid (ref_putAck w11 _ A11.out PA.out.1 PA.out.2.1 PA.out.2.2.1 PA.out.2.2.2.1 PA.out.2.2.2.2.2.1 PA.out.2.2.2.2.2.2.1)
      have PU := Lib.hid (putAck_u8 (a := ⟨sp, mm, tr, X, O⟩) PA.out.1 PA.out.2.1 PA.out.2.2.1 PA.out.2.2.2.1 PA.out.2.2.2.2.2.1 PA.out.2.2.2.2.2.2.1)
      unfold Ak.val Ak.cells at K12
      simp only at K12
      obtain ⟨fr, hfr⟩ : ∃ fr, fr = putAckP ⟨sp, mm, tr, X, O⟩ := ⟨_, rfl⟩
      rw [← hfr] at K12 PU HO
      clear hfr
      have v0 := cell_of_row w11 h2 0 _ _ _ N11.out
      have v1 := cell_of_row w11 h2 1 _ _ _ N11.out
      have v2 := cell_of_row w11 h2 2 _ _ _ N11.out
      have v3 := cell_of_row w11 h2 3 _ _ _ N11.out
      have v4 := cell_of_row w11 h2 4 _ _ _ N11.out
      go_wp2_with fail
      refine K12.out.mono ?_
      rintro e w12 ⟨fA, fc, rfl, hfR, b12, -⟩
      have S12 := Lib.hid (S11.out.below b12)
      have A12 := Lib.hid (A11.out.below b12)
      have N12 := Lib.hid ((b12.block _ (lt_of_block N11.out)).trans N11.out)
      have K13 := Lib.hid (solo_take S12.out 1 ⟨by omega, by omega⟩ w12 (Below.refl _ _) fA fc fr hfR PU.out.1 (Nat.le_trans PU.out.2 (by omega)))
      rw [HO.out] at K13
      simp only at K13
      have z812 : w8.heap.size ≤ w12.heap.size := by have := S12.out.nl; exact Nat.le_of_not_lt fun h => by have := this (w8.heap.size - 1) (.inr ⟨by omega, by omega⟩); omega
      have y0 : w12.cell? ⟨h1, 0, none⟩ = some (.pointer (some ⟨p, 0, none⟩)) := cell_of_row w12 h1 0 _ _ _ S12.out.t1
      clear K12 v0 v1 v2 v3 v4 hfR b12 S11 A11 N11 PU
      go_wp2_with fail
      refine K13.out.mono ?_
      rintro e w13 ⟨a2, rfl, ia, hA2, tk⟩
      obtain ⟨t5, t6, b14, s14⟩ := boxes2 w13 (.cells #[.int .i64 2, .int .i64 0, .int .u64 q, .bool false] 44) (.cells #[.slice a2.A a2.sp.length a2.c, .slice a2.B a2.mm.length a2.d, .int .u64 a2.tr, .int .u64 a2.xo, .bool a2.od] 56)
      obtain ⟨st14, ct14⟩ := tk.close S12.out (chg_below b14)
      have S14 := Lib.hid st14
      have A14 := Lib.hid (A12.out.chg ct14 (fun bk off e hn h => h (.inr (by have := LA.out bk off e hn; exact ⟨by omega, by omega⟩))) (fun bk off e hn h => by have hn : 0 < mm.length := hn; rw [MM.out] at hn; simp at hn))
      have B14 := Lib.hid (hA2.r.below b14)
      have N14 := Lib.hid (ct14.blk N12.out (fun h => h (.inr ⟨by omega, by omega⟩)))
      have T5 := Lib.hid t5
      have T6 := Lib.hid t6
      have IA := Lib.hid ia
      clear K13 y0 t5 t6 st14 ct14 b14 tk hA2 ia S12 A12 N12
      go_upto_region 13 with fail
      generalize ((w13.alloc (.cells #[.int .i64 2, .int .i64 0, .int .u64 q, .bool false] 44)).alloc (.cells #[.slice a2.A a2.sp.length a2.c, .slice a2.B a2.mm.length a2.d, .int .u64 a2.tr, .int .u64 a2.xo, .bool a2.od] 56)) = w14 at *
      generalize w13.heap.size = h5 at *
      obtain ⟨T, F, E, hL, -⟩ := S14.out.al.ex
      have K15 := Lib.hid (led_get w14 T p _ q hL FU.out)
      clear hL
      rw [use_at (MU.out trivial)] at K15
      generalize s.at' q = yy at *
      obtain ⟨pn, off, len, nonce, at_, coin, used, state⟩ := yy
      unfold Snt.val at K15
      simp only at K15
      have y0 : w14.cell? ⟨h1, 0, none⟩ = some (.pointer (some ⟨p, 0, none⟩)) := cell_of_row w14 h1 0 _ _ _ S14.out.t1
      go_wp2_with fail
      refine K15.out.mono ?_
      rintro e w15 ⟨rfl, b15⟩
      have e16 := box_below w15 (.cells #[.int .u64 pn, .int .u64 off, .int .u64 len, .int .u64 nonce, .int .u64 at_, .bool coin, .bool true, .int .i64 state] 76)
      have n16 := heap_alloc_new w15 (.cells #[.int .u64 pn, .int .u64 off, .int .u64 len, .int .u64 nonce, .int .u64 at_, .bool coin, .bool true, .int .i64 state] 76)
      have bb := b15.trans (e16.mono b15.size)
      have S16 := Lib.hid (S14.out.below bb)
      have A16 := Lib.hid (A14.out.below bb)
      have B16 := Lib.hid (B14.out.below bb)
      have N16 := Lib.hid ((bb.block _ (lt_of_block N14.out)).trans N14.out)
      have T5 := Lib.hid ((bb.block _ (lt_of_block T5.out)).trans T5.out)
      have T6 := Lib.hid ((bb.block _ (lt_of_block T6.out)).trans T6.out)
      have T7 := Lib.hid n16
      clear K15 y0 b15 e16 n16 bb S14 A14 B14 N14
      go_upto_region 14 with fail
      generalize (w15.alloc (.cells #[.int .u64 pn, .int .u64 off, .int .u64 len, .int .u64 nonce, .int .u64 at_, .bool coin, .bool true, .int .i64 state] 76)) = w16 at *
      generalize w15.heap.size = h7 at *
      have K17 := Lib.hid (alc_counts _ p b _ _ w16 S16.out.al)
      have ec : ctsRow (GS.new 3 50).took = #[.int .u64 0, .int .u64 0, .int .u64 1, .int .u64 0, .int .u64 0] := rfl
      rw [ec] at K17
      clear ec
      go_wp2_with fail
      refine K17.out.mono ?_
      rintro e w17 ⟨rfl, b17⟩
      have e18 := box_below w17 (.cells #[.int .u64 0, .int .u64 0, .int .u64 1, .int .u64 0, .int .u64 0] 52)
      have n18 := heap_alloc_new w17 (.cells #[.int .u64 0, .int .u64 0, .int .u64 1, .int .u64 0, .int .u64 0] 52)
      have bb := b17.trans (e18.mono b17.size)
      have S18 := Lib.hid (S16.out.below bb)
      have A18 := Lib.hid (A16.out.below bb)
      have B18 := Lib.hid (B16.out.below bb)
      have N18 := Lib.hid ((bb.block _ (lt_of_block N16.out)).trans N16.out)
      have T5 := Lib.hid ((bb.block _ (lt_of_block T5.out)).trans T5.out)
      have T6 := Lib.hid ((bb.block _ (lt_of_block T6.out)).trans T6.out)
      have T7 := Lib.hid ((bb.block _ (lt_of_block T7.out)).trans T7.out)
      have T8 := Lib.hid n18
      clear K17 b17 e18 n18 bb S16 A16 B16 N16
      go_upto_region 15 with fail
      generalize (w17.alloc (.cells #[.int .u64 0, .int .u64 0, .int .u64 1, .int .u64 0, .int .u64 0] 52)) = w18 at *
      generalize w17.heap.size = h8 at *
      have K19 := Lib.hid (sameAck_yes w18 ⟨A, ca, B, da, sp, mm, tr, X, O⟩ a2 ⟨sp, mm, tr, X, O⟩ A18.out B18.out ⟨rfl, rfl, rfl, rfl, rfl⟩ IA.out)
      unfold Ak.val Ak.cells at K19
      simp only at K19
      have c0 := cell_of_row w18 h5 0 _ _ _ T5.out
      have c1 := cell_of_row w18 h5 1 _ _ _ T5.out
      have c2 := cell_of_row w18 h5 2 _ _ _ T5.out
      have c3 := cell_of_row w18 h5 3 _ _ _ T5.out
      have d0 := cell_of_row w18 (h5 + 1) 0 _ _ _ T6.out
      have d1 := cell_of_row w18 (h5 + 1) 1 _ _ _ T6.out
      have d2 := cell_of_row w18 (h5 + 1) 2 _ _ _ T6.out
      have d3 := cell_of_row w18 (h5 + 1) 3 _ _ _ T6.out
      have d4 := cell_of_row w18 (h5 + 1) 4 _ _ _ T6.out
      have v0 := cell_of_row w18 h2 0 _ _ _ N18.out
      have v1 := cell_of_row w18 h2 1 _ _ _ N18.out
      have v2 := cell_of_row w18 h2 2 _ _ _ N18.out
      have v3 := cell_of_row w18 h2 3 _ _ _ N18.out
      have v4 := cell_of_row w18 h2 4 _ _ _ N18.out
      have l7 := lt_of_block T7.out
      have l8 := lt_of_block T8.out
      go_wp2_with fail
      refine K19.out.mono ?_
      rintro e w19 ⟨rfl, b19⟩
      have T7 := (b19.block _ (lt_of_block T7.out)).trans T7.out
      have T8 := (b19.block _ (lt_of_block T8.out)).trans T8.out
      have f6 := cell_of_row w19 h7 6 _ _ _ T7
      have f0 := cell_of_row w19 h8 0 _ _ _ T8
      have f1 := cell_of_row w19 h8 1 _ _ _ T8
      have f2 := cell_of_row w19 h8 2 _ _ _ T8
      have f3 := cell_of_row w19 h8 3 _ _ _ T8
      have f4 := cell_of_row w19 h8 4 _ _ _ T8
      go_wp2
      go_ret
      exact ⟨by simp, E0.out.trans ((S18.out.bel.trans (b19.mono S18.out.bel.size)).mono (by omega))⟩
    · have hx' : (x != 0) = true := by simpa using hx
      go_wp2
      go_ret
      exact ⟨rfl, E0.out.trans (S10.out.bel.mono (by omega))⟩
end Go.Proofs.YtelaimephejkkaaGreat
