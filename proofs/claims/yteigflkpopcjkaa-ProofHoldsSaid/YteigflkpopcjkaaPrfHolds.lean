/-
  The walk of ProofHolds.
-/
import Derived.Test.YteigflkpopcjkaaSeen
namespace Go.Proofs.Yteigflkpopcjkaa
set_option linter.unusedSimpArgs false
set_option linter.unusedVariables false
set_option linter.unnecessarySimpa false
open Go.RowKit

theorem u64_wrapped (a : Int) : isU64 (IntKind.u64.wrap a) := by
  unfold isU64
  rw [IntKind.wrap_u64]
  constructor <;> omega

/-- The acknowledgment in its box, and the two ledgers. -/
structure HoldRel (w : World) (p r g h : Nat) (s : LS) (A1 A2 : Option Addr) (c1 c2 : Nat) (cl mk : List Sp) (X : Int) (O : Bool) (W : World) : Prop where
  two : Two W (fun j => w.heap.size ≤ j ∧ j ≠ g ∧ j < h) p r s
  t : W.heap[g]? = some (.cells #[.pointer (some ⟨p, 0, none⟩), .pointer (some ⟨r, 0, none⟩)] 41 (0, 0))
  x : W.heap[h]? = some (.cells #[.slice A1 cl.length c1, .slice A2 mk.length c2, .int .u64 0, .int .u64 X, .bool O] 71 (0, 0))
  r : AkR W ⟨A1, c1, A2, c2, cl, mk, 0, X, O⟩
  gh : g < h
  wh : w.heap.size ≤ h
  bel : Below w.heap.size w W
  l1 : ∀ b off, A1 = some ⟨b, off, none⟩ → 0 < cl.length → b < h
  l2 : ∀ b off, A2 = some ⟨b, off, none⟩ → 0 < mk.length → b < h
theorem HoldRel.below {w W W' : World} {p r g h : Nat} {s : LS} {A1 A2 : Option Addr} {c1 c2 : Nat} {cl mk : List Sp} {X : Int} {O : Bool} (H : HoldRel w p r g h s A1 A2 c1 c2 cl mk X O W) (b : Below W.heap.size W W') : HoldRel w p r g h s A1 A2 c1 c2 cl mk X O W' :=
  ⟨H.two.below b, (b.block _ (lt_of_block H.t)).trans H.t, (b.block _ (lt_of_block H.x)).trans H.x, H.r.below b, H.gh, H.wh, H.bel.trans (b.mono H.bel.size), H.l1, H.l2⟩
theorem HoldRel.of {w W : World} {p r g : Nat} {s : LS} {A1 A2 : Option Addr} {c1 c2 : Nat} {cl mk : List Sp} (T : TellRel w p r g 80 s W) (R1 : Rd W 2 A1 cl.length c1 (Ss cl)) (R2 : Rd W 2 A2 mk.length c2 (Ss mk)) (U1 : U2s cl) (U2 : U2s mk) (X : Int) (O : Bool) (hX : isU64 X) :
    HoldRel w p r g W.heap.size s A1 A2 c1 c2 cl mk X O (W.alloc (.cells #[.slice A1 cl.length c1, .slice A2 mk.length c2, .int .u64 0, .int .u64 X, .bool O] 71)) := by
  have b := box_below W (.cells #[.slice A1 cl.length c1, .slice A2 mk.length c2, .int .u64 0, .int .u64 X, .bool O] 71)
  exact ⟨(T.two.sub (fun j hj h => ⟨h.1, h.2, hj⟩)).below b, (b.block _ (lt_of_block T.t)).trans T.t, heap_alloc_new W _, ⟨R1.below b, R2.below b, U1, U2, ⟨by simp, by simp⟩, hX⟩, lt_of_block T.t, T.bel.size, T.bel.trans (b.mono T.bel.size), fun b off e hn => R1.lt (by omega) hn b off e, fun b off e hn => R2.lt (by omega) hn b off e⟩
theorem HoldRel.led {w W : World} {p r g h : Nat} {s : LS} {A1 A2 : Option Addr} {c1 c2 : Nat} {cl mk : List Sp} {X : Int} {O : Bool} (H : HoldRel w p r g h s A1 A2 c1 c2 cl mk X O W) : ∃ G, LedP W G p s := by
  obtain ⟨G, Q, hP, -⟩ := H.two
  exact ⟨G, hP.p⟩
theorem HoldRel.set3 {w W : World} {p r g h : Nat} {s : LS} {A1 A2 : Option Addr} {c1 c2 : Nat} {cl mk : List Sp} {X : Int} {O : Bool} (H : HoldRel w p r g h s A1 A2 c1 c2 cl mk X O W) (v : Int) (hv : isU64 v) : HoldRel w p r g h s A1 A2 c1 c2 cl mk v O (W.setCell ⟨h, 3, none⟩ (.int .u64 v)) := by
  have hC : Chg (fun j => j = h) W (W.setCell ⟨h, 3, none⟩ (.int .u64 v)) := (Chg.refl (fun j => j = h) W).setCell (p := ⟨h, 3, none⟩) (.inl rfl) _
  have gh := H.gh
  have wh := H.wh
  refine ⟨H.two.chg hC (fun j _ hj e => by omega), hC.blk H.t (by omega), ?_, ⟨H.r.rs.chg hC (fun b off e hn e' => by have := H.l1 b off e hn; omega), H.r.rm.chg hC (fun b off e hn e' => by have := H.l2 b off e hn; omega), H.r.us, H.r.um, H.r.ut, hv⟩, H.gh, H.wh, H.bel.trans (hC.below H.bel.size (fun j hj e => by omega)), H.l1, H.l2⟩
  simpa using heap_setCell_same W h 3 _ _ (.int .u64 v) H.x
theorem HoldRel.set4 {w W : World} {p r g h : Nat} {s : LS} {A1 A2 : Option Addr} {c1 c2 : Nat} {cl mk : List Sp} {X : Int} {O : Bool} (H : HoldRel w p r g h s A1 A2 c1 c2 cl mk X O W) (v : Bool) : HoldRel w p r g h s A1 A2 c1 c2 cl mk X v (W.setCell ⟨h, 4, none⟩ (.bool v)) := by
  have hC : Chg (fun j => j = h) W (W.setCell ⟨h, 4, none⟩ (.bool v)) := (Chg.refl (fun j => j = h) W).setCell (p := ⟨h, 4, none⟩) (.inl rfl) _
  have gh := H.gh
  have wh := H.wh
  refine ⟨H.two.chg hC (fun j _ hj e => by omega), hC.blk H.t (by omega), ?_, ⟨H.r.rs.chg hC (fun b off e hn e' => by have := H.l1 b off e hn; omega), H.r.rm.chg hC (fun b off e hn e' => by have := H.l2 b off e hn; omega), H.r.us, H.r.um, H.r.ut, H.r.ux⟩, H.gh, H.wh, H.bel.trans (hC.below H.bel.size (fun j hj e => by omega)), H.l1, H.l2⟩
  simpa using heap_setCell_same W h 4 _ _ (.bool v) H.x

set_option maxHeartbeats 8000000 in
set_option maxRecDepth 100000 in
theorem proofHolds_any (ring lo n x : Int) (A : Option Addr) (m c : Nat) (l : List Dd) (w : World) (hr : Rd w 3 A m c (Ds l)) (hok : ∀ d ∈ l, d.ok) (hring : 0 ≤ ring ∧ ring ≤ 255) (hlo : 0 ≤ lo ∧ lo ≤ 255) (hn : 0 ≤ n ∧ n ≤ 255) (hx : isU64 x) :
    Calls Try.prog 18 #[.int .u8 ring, .slice A m c, .int .u8 lo, .int .u8 n, .int .u64 x] w fun e w' => e = .returned (.bool true) ∧ Below w.heap.size w w' := by
  obtain ⟨r0, r1⟩ := hring
  obtain ⟨l0, l1⟩ := hlo
  obtain ⟨n0, n1⟩ := hn
  obtain ⟨x0, x1⟩ := hx
  have HR := Lib.hid hr
  have OK := Lib.hid hok
  clear hr hok
  go_enter Try.func18, Try.ntmps18
  go_wp2_with fail
  refine (make_any (ring % 40) 4611686018427387903 A m c l w HR.out OK.out ⟨by omega, by omega⟩).mono ?_
  rintro e w2 ⟨p, r, s, rfl, hT, hb1, hg1, hg2, hg3, hg4, hg5⟩
  have T2 := Lib.hid (TellRel.of hT hb1 hg3)
  have RG : Hid (s.ring ≤ 90) := by
    have h : s.ring ≤ 90 := by rw [hg1]; simp [LS.new]; omega
    exact h
  clear hT hb1 hg1 hg2 hg4 hg5
  go_wp2_with fail
  generalize hW : (w2.alloc (.cells #[.pointer (some ⟨p, 0, none⟩), .pointer (some ⟨r, 0, none⟩)] 41)) = w3 at *
  clear hW
  generalize w2.heap.size = g at *
  refine (prfAlive w3).mono ?_
  rintro e w4 ⟨rfl, b⟩
  have T4 := Lib.hid (T2.out.below b)
  clear b T2
  have t0 := cell_of_row w4 g 0 _ _ _ T4.out.t
  have t1 := cell_of_row w4 g 1 _ _ _ T4.out.t
  have M0 := mixF_cell (F := fun _ => False) t0 id
  have M1 := mixF_cell (F := fun _ => False) t1 id
  simp only [List.getElem_toArray, List.getElem_cons_zero, List.getElem_cons_succ] at M0 M1
  have T5 := Lib.hid (T4.out.below (Below.refl _ _).drew)
  have G := Lib.hid T4.out.two.good
  clear T4 t0 t1
  obtain ⟨H5, hR5⟩ := T5.out.ledR
  have HR5 := Lib.hid hR5
  have EN : n.tmod 40 = n % 40 := Int.tmod_eq_emod_of_nonneg n0
  have EL : lo.tmod 8 = lo % 8 := Int.tmod_eq_emod_of_nonneg l0
  have EW : IntKind.i64.wrap (n % 40) = n % 40 := IntWalk.i64_in _ (by omega)
  have nn0 : 0 ≤ n % 40 := by omega
  have nn1 : n % 40 < 40 := by omega
  clear hR5
  go_wp2_with fail
  refine wp_region_chg (fun _ => False) (by kernel_rfl) (by kernel_rfl) ?_
  repeat (refine wpMix_seg 1 _ _ rfl ?_; simp only [List.take_succ_cons, List.take_zero, List.drop_succ_cons, List.drop_zero]; go_big_quiet_step (fail); refine wpQuiet_nil ?_)
  refine wpMix_bar rfl (by rfl) ?_
  go_wp2_with fail
  refine (ledR_low _ H5 r s HR5.out).mono ?_
  rintro e w6 ⟨rfl, q⟩
  have B6 : Hid (Below w4.heap.size w4 w6) := ((Below.refl _ _).drew).trans q.below
  have T6 := Lib.hid (T5.out.below q.below)
  have HR6 := Lib.hid (HR5.out.below q.below)
  clear q T5 HR5
  go_wp2
  refine ⟨chg_mixF (chg_below B6.out), ?_⟩
  repeat (refine wpMix_seg 1 _ _ rfl ?_; simp only [List.take_succ_cons, List.take_zero, List.drop_succ_cons, List.drop_zero]; go_big_quiet_step (fail); refine wpQuiet_nil ?_)
  clear EN EL EW
  refine wpMix_bar rfl (by rfl) ?_
  go_wp2_with fail
  refine (seen_any w6 H5 p r s _ _ HR6.out (u64_wrapped _) ⟨nn0, by omega⟩ RG.out).mono ?_
  rintro e w7 ⟨cl, mk, A1, A2, c1, c2, rfl, h1, h2, u1, u2, hok, b⟩
  have T7 := Lib.hid (T6.out.below b)
  have R1 := Lib.hid h1
  have R2 := Lib.hid h2
  have U1 := Lib.hid u1
  have U2 := Lib.hid u2
  have SK := Lib.hid hok
  have B7 := Lib.hid (B6.out.trans (b.mono B6.out.size))
  clear h1 h2 u1 u2 hok b T6 HR6 B6
  go_wp2
  refine ⟨chg_mixF (chg_below B7.out), ?_⟩
  repeat (refine wpMix_seg 1 _ _ rfl ?_; simp only [List.take_succ_cons, List.take_zero, List.drop_succ_cons, List.drop_zero]; go_big_quiet_step (fail); refine wpQuiet_nil ?_)
  refine wpMix_nil ?_
  clear M0 M1 B7
  by_cases hc : cl = []
  · subst hc
    go_wp2
    go_ret
    exact ⟨rfl, T7.out.bel⟩
  · have hc1 : 1 ≤ cl.length := by
      rcases Nat.eq_zero_or_pos cl.length with h0 | h0
      · exact absurd (List.eq_nil_of_length_eq_zero h0) hc
      · exact h0
    have hc2 : ((cl.length : Int) == 0) = false := by simpa using hc
    have hs := SK.out.sum G.out
    have hxu := LS.sumX_u64 cl s.kept G.out.keptOk
    generalize LS.sumX cl s.kept = X at *
    generalize LS.sumO cl mk s.kept = O at *
    have HS := Lib.hid hs
    have XU := Lib.hid hxu
    clear hs hxu hc
    have CK : Hid (∀ a : Ak, a.sp = cl → a.mm = mk → a.check s = if X ≠ a.xo then (6, 0) else if O ≠ a.od then (7, 0) else (0, 0)) := fun a e1 e2 =>
      (SeenOk.check (a := a) G.out (by rw [e1, e2]; exact SK.out) (by rw [e1]; exact hc1)).trans (sumsP_at (X := X) (O := O) (v := true) (by rw [e1, e2]; exact HS.out))
    have t0 := cell_of_row w7 g 0 _ _ _ T7.out.t
    have t1 := cell_of_row w7 g 1 _ _ _ T7.out.t
    obtain ⟨G7, hL7⟩ := T7.out.led
    go_wp2_with fail
    refine (sum_any w7 G7 p s A1 A2 c1 c2 cl mk hL7 R1.out R2.out U1.out U2.out).mono ?_
    rw [HS.out]
    rintro e w8 ⟨rfl, b⟩
    have R81 := Lib.hid (R1.out.below b)
    have R82 := Lib.hid (R2.out.below b)
    have T8 := Lib.hid (T7.out.below b)
    clear b T7 R1 R2 t0 t1 hL7
    have C1 := Lib.hid (CK.out ⟨A1, c1, A2, c2, cl, mk, 0, X, O⟩ rfl rfl)
    rw [if_neg (by simp), if_neg (by simp)] at C1
    have C2 := Lib.hid (CK.out ⟨A1, c1, A2, c2, cl, mk, 0, x, O⟩ rfl rfl)
    have C3 := Lib.hid (CK.out ⟨A1, c1, A2, c2, cl, mk, 0, X, !O⟩ rfl rfl)
    rw [if_neg (by simp), if_pos (by simp)] at C3
    have HH := Lib.hid (HoldRel.of T8.out R81.out R82.out U1.out U2.out X O XU.out)
    have t0 := cell_of_row w8 g 0 _ _ _ T8.out.t
    have t1 := cell_of_row w8 g 1 _ _ _ T8.out.t
    have gl := lt_of_block T8.out.t
    clear CK T8 R81 R82 U1 U2
    go_wp2_with fail
    generalize hW : (w8.alloc (.cells #[.slice A1 cl.length c1, .slice A2 mk.length c2, .int .u64 0, .int .u64 X, .bool O] 71)) = w9 at *
    clear hW t0 t1 gl
    generalize w8.heap.size = h at *
    obtain ⟨G9, hL9⟩ := HH.out.led
    refine (check_any w9 G9 p s ⟨A1, c1, A2, c2, cl, mk, 0, X, O⟩ hL9 HH.out.r).mono ?_
    rw [C1.out]
    rintro e w10 ⟨rfl, b⟩
    have H10 := Lib.hid (HH.out.below b)
    clear b HH hL9
    have t0 := cell_of_row w10 g 0 _ _ _ H10.out.t
    have t1 := cell_of_row w10 g 1 _ _ _ H10.out.t
    have v0 := cell_of_row w10 h 0 _ _ _ H10.out.x
    have fv0 := frozen_of_row w10 h 0 _ _ H10.out.x
    have v1 := cell_of_row w10 h 1 _ _ _ H10.out.x
    have fv1 := frozen_of_row w10 h 1 _ _ H10.out.x
    have v2 := cell_of_row w10 h 2 _ _ _ H10.out.x
    have fv2 := frozen_of_row w10 h 2 _ _ H10.out.x
    have v3 := cell_of_row w10 h 3 _ _ _ H10.out.x
    have fv3 := frozen_of_row w10 h 3 _ _ H10.out.x
    have v4 := cell_of_row w10 h 4 _ _ _ H10.out.x
    have fv4 := frozen_of_row w10 h 4 _ _ H10.out.x
    have gh := H10.out.gh
    have H11 := Lib.hid (H10.out.set3 x ⟨x0, x1⟩)
    go_upto_region 11 with fail
    generalize hW : (w10.setCell ⟨h, 3, none⟩ (.int .u64 x)) = w11 at *
    clear hW t0 t1 v0 v1 v2 v3 v4 fv0 fv1 fv2 fv3 fv4 H10
    have t0 := cell_of_row w11 g 0 _ _ _ H11.out.t
    have t1 := cell_of_row w11 g 1 _ _ _ H11.out.t
    have v0 := cell_of_row w11 h 0 _ _ _ H11.out.x
    have v1 := cell_of_row w11 h 1 _ _ _ H11.out.x
    have v2 := cell_of_row w11 h 2 _ _ _ H11.out.x
    have v3 := cell_of_row w11 h 3 _ _ _ H11.out.x
    have v4 := cell_of_row w11 h 4 _ _ _ H11.out.x
    obtain ⟨G11, hL11⟩ := H11.out.led
    go_wp2_with fail
    refine (check_any w11 G11 p s ⟨A1, c1, A2, c2, cl, mk, 0, x, O⟩ hL11 H11.out.r).mono ?_
    rw [C2.out]
    by_cases hxX : x = X
    · subst hxX
      rw [if_neg (by simp), if_neg (by simp)]
      rintro e w12 ⟨rfl, b⟩
      have H12 := Lib.hid (H11.out.below b)
      clear b hL11 t0 t1 v0 v1 v2 v3 v4
      have v0 := cell_of_row w12 h 0 _ _ _ H12.out.x
      have fv0 := frozen_of_row w12 h 0 _ _ H12.out.x
      have v1 := cell_of_row w12 h 1 _ _ _ H12.out.x
      have fv1 := frozen_of_row w12 h 1 _ _ H12.out.x
      have v2 := cell_of_row w12 h 2 _ _ _ H12.out.x
      have fv2 := frozen_of_row w12 h 2 _ _ H12.out.x
      have v3 := cell_of_row w12 h 3 _ _ _ H12.out.x
      have fv3 := frozen_of_row w12 h 3 _ _ H12.out.x
      have v4 := cell_of_row w12 h 4 _ _ _ H12.out.x
      have fv4 := frozen_of_row w12 h 4 _ _ H12.out.x
      go_upto_region 14 with fail
      have H13 := Lib.hid ((H12.out.set3 x XU.out).set4 (!O))
      clear H12
      cases O
      all_goals simp only [Bool.not_false, Bool.not_true] at H13 C3 ⊢
      · generalize hW : ((w12.setCell ⟨h, 3, none⟩ (.int .u64 x)).setCell ⟨h, 4, none⟩ (.bool true)) = w13 at *
        clear hW v0 v1 v2 v3 v4 fv0 fv1 fv2 fv3 fv4
        have t0 := cell_of_row w13 g 0 _ _ _ H13.out.t
        have t1 := cell_of_row w13 g 1 _ _ _ H13.out.t
        have v0 := cell_of_row w13 h 0 _ _ _ H13.out.x
        have v1 := cell_of_row w13 h 1 _ _ _ H13.out.x
        have v2 := cell_of_row w13 h 2 _ _ _ H13.out.x
        have v3 := cell_of_row w13 h 3 _ _ _ H13.out.x
        have v4 := cell_of_row w13 h 4 _ _ _ H13.out.x
        obtain ⟨G13, hL13⟩ := H13.out.led
        go_wp2_with fail
        refine (check_any w13 G13 p s ⟨A1, c1, A2, c2, cl, mk, 0, x, true⟩ hL13 H13.out.r).mono ?_
        rw [C3.out]
        rintro e w14 ⟨rfl, b⟩
        have hb := H13.out.bel.trans (b.mono H13.out.bel.size)
        clear b hL13 t0 t1 v0 v1 v2 v3 v4
        go_wp2
        go_ret
        exact ⟨rfl, hb⟩
      · generalize hW : ((w12.setCell ⟨h, 3, none⟩ (.int .u64 x)).setCell ⟨h, 4, none⟩ (.bool false)) = w13 at *
        clear hW v0 v1 v2 v3 v4 fv0 fv1 fv2 fv3 fv4
        have t0 := cell_of_row w13 g 0 _ _ _ H13.out.t
        have t1 := cell_of_row w13 g 1 _ _ _ H13.out.t
        have v0 := cell_of_row w13 h 0 _ _ _ H13.out.x
        have v1 := cell_of_row w13 h 1 _ _ _ H13.out.x
        have v2 := cell_of_row w13 h 2 _ _ _ H13.out.x
        have v3 := cell_of_row w13 h 3 _ _ _ H13.out.x
        have v4 := cell_of_row w13 h 4 _ _ _ H13.out.x
        obtain ⟨G13, hL13⟩ := H13.out.led
        go_wp2_with fail
        refine (check_any w13 G13 p s ⟨A1, c1, A2, c2, cl, mk, 0, x, false⟩ hL13 H13.out.r).mono ?_
        rw [C3.out]
        rintro e w14 ⟨rfl, b⟩
        have hb := H13.out.bel.trans (b.mono H13.out.bel.size)
        clear b hL13 t0 t1 v0 v1 v2 v3 v4
        go_wp2
        go_ret
        exact ⟨rfl, hb⟩
    · have hne1 : (x == X) = false := by simpa using hxX
      have hne2 : (x != X) = true := by simpa using hxX
      rw [if_pos (fun e => hxX e.symm)]
      rintro e w12 ⟨rfl, b⟩
      have H12 := Lib.hid (H11.out.below b)
      clear b hL11 t0 t1 v0 v1 v2 v3 v4
      have v0 := cell_of_row w12 h 0 _ _ _ H12.out.x
      have fv0 := frozen_of_row w12 h 0 _ _ H12.out.x
      have v1 := cell_of_row w12 h 1 _ _ _ H12.out.x
      have fv1 := frozen_of_row w12 h 1 _ _ H12.out.x
      have v2 := cell_of_row w12 h 2 _ _ _ H12.out.x
      have fv2 := frozen_of_row w12 h 2 _ _ H12.out.x
      have v3 := cell_of_row w12 h 3 _ _ _ H12.out.x
      have fv3 := frozen_of_row w12 h 3 _ _ H12.out.x
      have v4 := cell_of_row w12 h 4 _ _ _ H12.out.x
      have fv4 := frozen_of_row w12 h 4 _ _ H12.out.x
      go_upto_region 14 with fail
      have H13 := Lib.hid ((H12.out.set3 X XU.out).set4 (!O))
      clear H12
      cases O
      all_goals simp only [Bool.not_false, Bool.not_true] at H13 C3 ⊢
      · generalize hW : ((w12.setCell ⟨h, 3, none⟩ (.int .u64 X)).setCell ⟨h, 4, none⟩ (.bool true)) = w13 at *
        clear hW v0 v1 v2 v3 v4 fv0 fv1 fv2 fv3 fv4
        have t0 := cell_of_row w13 g 0 _ _ _ H13.out.t
        have t1 := cell_of_row w13 g 1 _ _ _ H13.out.t
        have v0 := cell_of_row w13 h 0 _ _ _ H13.out.x
        have v1 := cell_of_row w13 h 1 _ _ _ H13.out.x
        have v2 := cell_of_row w13 h 2 _ _ _ H13.out.x
        have v3 := cell_of_row w13 h 3 _ _ _ H13.out.x
        have v4 := cell_of_row w13 h 4 _ _ _ H13.out.x
        obtain ⟨G13, hL13⟩ := H13.out.led
        go_wp2_with fail
        refine (check_any w13 G13 p s ⟨A1, c1, A2, c2, cl, mk, 0, X, true⟩ hL13 H13.out.r).mono ?_
        rw [C3.out]
        rintro e w14 ⟨rfl, b⟩
        have hb := H13.out.bel.trans (b.mono H13.out.bel.size)
        clear b hL13 t0 t1 v0 v1 v2 v3 v4
        go_wp2
        go_ret
        exact ⟨rfl, hb⟩
      · generalize hW : ((w12.setCell ⟨h, 3, none⟩ (.int .u64 X)).setCell ⟨h, 4, none⟩ (.bool false)) = w13 at *
        clear hW v0 v1 v2 v3 v4 fv0 fv1 fv2 fv3 fv4
        have t0 := cell_of_row w13 g 0 _ _ _ H13.out.t
        have t1 := cell_of_row w13 g 1 _ _ _ H13.out.t
        have v0 := cell_of_row w13 h 0 _ _ _ H13.out.x
        have v1 := cell_of_row w13 h 1 _ _ _ H13.out.x
        have v2 := cell_of_row w13 h 2 _ _ _ H13.out.x
        have v3 := cell_of_row w13 h 3 _ _ _ H13.out.x
        have v4 := cell_of_row w13 h 4 _ _ _ H13.out.x
        obtain ⟨G13, hL13⟩ := H13.out.led
        go_wp2_with fail
        refine (check_any w13 G13 p s ⟨A1, c1, A2, c2, cl, mk, 0, X, false⟩ hL13 H13.out.r).mono ?_
        rw [C3.out]
        rintro e w14 ⟨rfl, b⟩
        have hb := H13.out.bel.trans (b.mono H13.out.bel.size)
        clear b hL13 t0 t1 v0 v1 v2 v3 v4
        go_wp2
        go_ret
        exact ⟨rfl, hb⟩

end Go.Proofs.Yteigflkpopcjkaa
