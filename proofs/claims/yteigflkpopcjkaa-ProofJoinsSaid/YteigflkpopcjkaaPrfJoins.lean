/-
  The walk of ProofJoins.
-/
import Derived.Test.YteigflkpopcjkaaSeen
namespace Go.Proofs.Yteigflkpopcjkaa
set_option linter.unusedSimpArgs false
set_option linter.unusedVariables false
set_option linter.unnecessarySimpa false
open Go.RowKit

theorem u64_wrapped (a : Int) : isU64 (IntKind.u64.wrap a) := by
  unfold isU64
  rw [IntKind.wrap_u64]
  constructor <;> omega

set_option maxHeartbeats 8000000 in
set_option maxRecDepth 100000 in
theorem proofJoins_any (ring lo n x : Int) (A : Option Addr) (m c : Nat) (l : List Dd) (w : World) (hr : Rd w 3 A m c (Ds l)) (hok : ∀ d ∈ l, d.ok) (hring : 0 ≤ ring ∧ ring ≤ 255) (hlo : 0 ≤ lo ∧ lo ≤ 255) (hn : 0 ≤ n ∧ n ≤ 255) (hx : 0 ≤ x ∧ x ≤ 255) :
    Calls Try.prog 19 #[.int .u8 ring, .slice A m c, .int .u8 lo, .int .u8 n, .int .u8 x] w fun e w' => e = .returned (.bool true) ∧ Below w.heap.size w w' := by
  obtain ⟨r0, r1⟩ := hring
  obtain ⟨l0, l1⟩ := hlo
  obtain ⟨n0, n1⟩ := hn
  obtain ⟨x0, x1⟩ := hx
  have HR := Lib.hid hr
  have OK := Lib.hid hok
  clear hr hok
  go_enter Try.func19, Try.ntmps19
  go_wp2_with fail
  refine (make_any (ring % 40) 4611686018427387903 A m c l w HR.out OK.out ⟨by omega, by omega⟩).mono ?_
  rintro e w2 ⟨p, r, s, rfl, hT, hb1, hg1, hg2, hg3, hg4, hg5⟩
  have T2 := Lib.hid (TellRel.of hT hb1 hg3)
  have RG : Hid (s.ring ≤ 90) := by
    have h : s.ring ≤ 90 := by rw [hg1]; simp [LS.new]; omega
    exact h
  clear hT hb1 hg1 hg2 hg4 hg5
  go_wp2_with fail
  generalize hW : (w2.alloc (.cells #[.pointer (some ⟨p, 0, none⟩), .pointer (some ⟨r, 0, none⟩)] 41)) = w3 at *
  clear hW
  generalize w2.heap.size = g at *
  refine (prfAlive w3).mono ?_
  rintro e w4 ⟨rfl, b⟩
  have T4 := Lib.hid (T2.out.below b)
  clear b T2
  have t0 := cell_of_row w4 g 0 _ _ _ T4.out.t
  have t1 := cell_of_row w4 g 1 _ _ _ T4.out.t
  have M0 := mixF_cell (F := fun _ => False) t0 id
  have M1 := mixF_cell (F := fun _ => False) t1 id
  simp only [List.getElem_toArray, List.getElem_cons_zero, List.getElem_cons_succ] at M0 M1
  have T5 := Lib.hid (T4.out.below (Below.refl _ _).drew)
  have G := Lib.hid T4.out.two.good
  clear T4 t0 t1
  obtain ⟨H5, hR5⟩ := T5.out.ledR
  have HR5 := Lib.hid hR5
  have EN : n.tmod 40 = n % 40 := Int.tmod_eq_emod_of_nonneg n0
  have EL : lo.tmod 8 = lo % 8 := Int.tmod_eq_emod_of_nonneg l0
  have EW : IntKind.i64.wrap (n % 40) = n % 40 := IntWalk.i64_in _ (by omega)
  have nn0 : 0 ≤ n % 40 := by omega
  have nn1 : n % 40 < 40 := by omega
  clear hR5
  go_wp2_with fail
  refine wp_region_chg (fun _ => False) (by kernel_rfl) (by kernel_rfl) ?_
  repeat (refine wpMix_seg 1 _ _ rfl ?_; simp only [List.take_succ_cons, List.take_zero, List.drop_succ_cons, List.drop_zero]; go_big_quiet_step (fail); refine wpQuiet_nil ?_)
  refine wpMix_bar rfl (by rfl) ?_
  go_wp2_with fail
  refine (ledR_low _ H5 r s HR5.out).mono ?_
  rintro e w6 ⟨rfl, q⟩
  have B6 : Hid (Below w4.heap.size w4 w6) := ((Below.refl _ _).drew).trans q.below
  have T6 := Lib.hid (T5.out.below q.below)
  have HR6 := Lib.hid (HR5.out.below q.below)
  clear q T5 HR5
  go_wp2
  refine ⟨chg_mixF (chg_below B6.out), ?_⟩
  repeat (refine wpMix_seg 1 _ _ rfl ?_; simp only [List.take_succ_cons, List.take_zero, List.drop_succ_cons, List.drop_zero]; go_big_quiet_step (fail); refine wpQuiet_nil ?_)
  clear EN EL EW
  refine wpMix_bar rfl (by rfl) ?_
  go_wp2_with fail
  refine (seen_any w6 H5 p r s _ _ HR6.out (u64_wrapped _) ⟨nn0, by omega⟩ RG.out).mono ?_
  rintro e w7 ⟨cl, mk, A1, A2, c1, c2, rfl, h1, h2, u1, u2, hok, b⟩
  have T7 := Lib.hid (T6.out.below b)
  have R1 := Lib.hid h1
  have R2 := Lib.hid h2
  have U1 := Lib.hid u1
  have U2 := Lib.hid u2
  have SK := Lib.hid hok
  have B7 := Lib.hid (B6.out.trans (b.mono B6.out.size))
  clear h1 h2 u1 u2 hok b T6 HR6 B6
  go_wp2
  refine ⟨chg_mixF (chg_below B7.out), ?_⟩
  repeat (refine wpMix_seg 1 _ _ rfl ?_; simp only [List.take_succ_cons, List.take_zero, List.drop_succ_cons, List.drop_zero]; go_big_quiet_step (fail); refine wpQuiet_nil ?_)
  refine wpMix_nil ?_
  clear M0 M1 B7
  have t0 := cell_of_row w7 g 0 _ _ _ T7.out.t
  have t1 := cell_of_row w7 g 1 _ _ _ T7.out.t
  obtain ⟨H7, hR7⟩ := T7.out.ledR
  have k1 := s.low_le
  have k2 := G.out.len
  have k3 := G.out.lim1
  have xx0 : 0 ≤ x % 40 := by omega
  have xx1 : x % 40 < 40 := by omega
  go_wp2_with fail
  refine (ledR_low w7 H7 r s hR7).mono ?_
  rintro e w8 ⟨rfl, q⟩
  have R81 := Lib.hid (R1.out.below q.below)
  have R82 := Lib.hid (R2.out.below q.below)
  have T8 := Lib.hid (T7.out.below q.below)
  clear q T7 R1 R2 t0 t1 hR7
  have q1 := R81.out.cap
  have q2 : cl.length ≤ 32 := SK.out.lc
  go_wp2_with fail
  refine (fromNum_any A1 _ c1 cl ((s.low : Int) + x % 40) w8 R81.out U1.out (by omega) (by omega) (by omega)).mono ?_
  rintro e w9 ⟨A3, c3, rfl, hr3, b⟩
  have R91 := Lib.hid (R81.out.below b)
  have R92 := Lib.hid (R82.out.below b)
  have R93 := Lib.hid hr3
  have T9 := Lib.hid (T8.out.below b)
  clear hr3 b R81 R82 T8
  have FL := fromP_len cl ((s.low : Int) + x % 40)
  have FP := Lib.hid (from_parts cl ((s.low : Int) + x % 40) SK.out.gc)
  have HC := Lib.hid (fun hh => halves_cut (q := (s.low : Int) + x % 40) SK.out.gc hh)
  generalize fromP cl ((s.low : Int) + x % 40) = hi at *
  have GH := Lib.hid FP.out.1.1
  have UH : Hid (U2s hi) := fun z hz => by
    obtain ⟨h1, h2⟩ := Mem_lo GH.out hz
    have e1 := SK.out.range G.out ((FP.out.2 _).1 h1).1
    have e2 := SK.out.range G.out ((FP.out.2 _).1 h2).1
    exact ⟨⟨by omega, by omega⟩, ⟨by omega, by omega⟩⟩
  go_upto_if 69 with fail
  go_cut [17] (fun v17 wx => ∃ (low : List Sp) (A4 : Option Addr) (c4 : Nat), v17 = .slice A4 low.length c4 ∧ Hid (Halves cl low hi ∧ Rd wx 2 A4 low.length c4 (Ss low) ∧ U2s low) ∧ Hid (Below w9.heap.size w9 wx))
  case first =>
    rcases Nat.eq_zero_or_pos hi.length with h0 | h0
    · have hz : hi = [] := List.eq_nil_of_length_eq_zero h0
      subst hz
      go_wp2_with fail
      go_meet
      exact ⟨cl, A1, c1, rfl, ⟨halves_nil SK.out.gc, R91.out, U1.out⟩, Below.refl _ _⟩
    · have h0' : (0 : Int) < hi.length := by omega
      obtain ⟨HV, hle⟩ := HC.out h0
      obtain ⟨sb, so, a0, b0, rfl, Hx, y0, y1, z0, z1, z2, z3⟩ := R93.out.sp UH.out h0
      simp only [Nat.zero_mul, Nat.add_zero] at y0 y1
      have hx2 : hi[0].1 = a0 := by rw [Hx.out]
      rw [hx2] at HV hle
      have HVV := Lib.hid HV
      have CL := Lib.hid (cut_len cl (a0, maxPn) hle (fun z hz => (SK.out.gc.1 z hz).1) SK.out.gc.2)
      have ISP : Hid (IsSpan (a0, maxPn)) := ⟨hle, Int.le_refl _⟩
      have UL : Hid (U2s (cutP cl (a0, maxPn))) := fun z hz => by
        obtain ⟨h1, h2⟩ := Mem_lo HVV.out.gl hz
        have e1 := SK.out.range G.out ((HVV.out.un _).2 (.inl h1))
        have e2 := SK.out.range G.out ((HVV.out.un _).2 (.inl h2))
        exact ⟨⟨by omega, by omega⟩, ⟨by omega, by omega⟩⟩
      clear HV hle hx2
      have cs := Lib.hid (cutSpan_any A1 _ c1 cl a0 maxPn w9 R91.out SK.out.gc.good ISP.out z0 U1.out (by omega))
      generalize cutP cl (a0, maxPn) = low at *
      have cs2 : Hid (Calls Try.prog 60 #[.slice A1 cl.length c1, .agg #[.int .u64 a0, .int .u64 4611686018427387903]] w9 fun e w' => ∃ A' c', e = .returned (.slice A' low.length c') ∧ Rd w' 2 A' low.length c' (Ss low) ∧ Below w9.heap.size w9 w') := cs.out
      clear cs
      go_wp2_with fail
      refine cs2.out.mono ?_
      rintro e w10 ⟨A4, c4, rfl, hr4, b⟩
      have R4 := Lib.hid hr4
      have B4 := Lib.hid b
      clear hr4 b
      go_wp2_with fail
      go_meet
      exact ⟨low, A4, c4, rfl, ⟨HVV.out, R4.out, UL.out⟩, B4.out⟩
  case rest =>
    obtain ⟨low, A4, c4, rfl, HL, B10⟩ := hcut
    have T10 := Lib.hid (T9.out.below B10.out)
    have R1 := Lib.hid (R91.out.below B10.out)
    have R2 := Lib.hid (R92.out.below B10.out)
    have R3 := Lib.hid (R93.out.below B10.out)
    have R4 := Lib.hid HL.out.2.1
    have UL := Lib.hid HL.out.2.2
    obtain ⟨s1, s2, s3, s4⟩ := HL.out.1.sums G.out (mk := mk) SK.out
    have V1 := SK.out.sum G.out
    have V2 := LS.sum_yes s1
    have V3 := LS.sum_yes s2
    rw [s3, s4] at V1
    generalize LS.sumX low s.kept = X2 at *
    generalize LS.sumX hi s.kept = X3 at *
    generalize LS.sumO low mk s.kept = O2 at *
    generalize LS.sumO hi mk s.kept = O3 at *
    have HV1 := Lib.hid V1
    have HV2 := Lib.hid V2
    have HV3 := Lib.hid V3
    clear s1 s2 s3 s4 V1 V2 V3 HL B10 T9 R91 R92 R93 HC FP
    have t0 := cell_of_row wc g 0 _ _ _ T10.out.t
    have t1 := cell_of_row wc g 1 _ _ _ T10.out.t
    obtain ⟨G10, hL10⟩ := T10.out.led
    go_wp2_with fail
    refine (sum_any wc G10 p s A1 A2 c1 c2 cl mk hL10 R1.out R2.out U1.out U2.out).mono ?_
    rw [HV1.out]
    rintro e w11 ⟨rfl, b⟩
    have T11 := Lib.hid (T10.out.below b)
    have R2' := Lib.hid (R2.out.below b)
    have R3' := Lib.hid (R3.out.below b)
    have R4' := Lib.hid (R4.out.below b)
    clear b T10 R1 R2 R3 R4 t0 t1 hL10
    have t0 := cell_of_row w11 g 0 _ _ _ T11.out.t
    have t1 := cell_of_row w11 g 1 _ _ _ T11.out.t
    obtain ⟨G11, hL11⟩ := T11.out.led
    go_wp2_with fail
    refine (sum_any w11 G11 p s A4 A2 c4 c2 low mk hL11 R4'.out R2'.out UL.out U2.out).mono ?_
    rw [HV2.out]
    rintro e w12 ⟨rfl, b⟩
    have T12 := Lib.hid (T11.out.below b)
    have R2 := Lib.hid (R2'.out.below b)
    have R3 := Lib.hid (R3'.out.below b)
    clear b T11 R2' R3' R4' t0 t1 hL11
    have t0 := cell_of_row w12 g 0 _ _ _ T12.out.t
    have t1 := cell_of_row w12 g 1 _ _ _ T12.out.t
    obtain ⟨G12, hL12⟩ := T12.out.led
    go_wp2_with fail
    refine (sum_any w12 G12 p s A3 A2 c3 c2 hi mk hL12 R3.out R2.out UH.out U2.out).mono ?_
    rw [HV3.out]
    rintro e w13 ⟨rfl, b⟩
    have hb := T12.out.bel.trans (b.mono T12.out.bel.size)
    have E : xor64 X2 X3 = bits .xor .u64 X2 X3 := rfl
    rw [E]
    clear b hL12 t0 t1 E
    cases O2 <;> cases O3
    all_goals
      go_wp2
      go_ret
      exact ⟨rfl, hb⟩

end Go.Proofs.Yteigflkpopcjkaa
