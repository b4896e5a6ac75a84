/-
  A row of spans read from bytes: the reference's getRow. · An acknowledgment read from bytes: the reference's GetAck.
-/
import Derived.Test.YtpfmhkkglaghgaaGreatOct1
import Derived.Test.YtpfmhkkglaghgaaGreatOct5
namespace Go.Proofs.YtpfmhkkglaghgaaGreat
set_option linter.unusedSimpArgs false
set_option linter.unusedVariables false
set_option linter.unnecessarySimpa false
open Go.RowKit

/-- What getRow answers. -/
def RowVal (least : Int) (l : List Int) (at_ : Nat) (w w' : World) (e : Ending) : Prop := match spansP least (l.drop at_) with
  | .error er => ∃ x, e = .returned (.tuple #[.slice none 0 0, .int .i64 x, .int .i64 er]) ∧ Below w.heap.size w w'
  | .ok (L, r) => ∃ (A : Option Addr) (c at2 : Nat), e = .returned (.tuple #[.slice A L.length c, .int .i64 at2, .int .i64 0]) ∧ r = l.drop at2 ∧ at2 ≤ l.length ∧ Rd w' 2 A L.length c (Ss L) ∧ Below w.heap.size w w' ∧ (∀ b off, A = some ⟨b, off, none⟩ → 0 < L.length → w.heap.size ≤ b)
theorem numAt_err {l : List Int} {at_ : Nat} {er : Int} (h : numP (l.drop at_) = .error er) : numAt l at_ = .returned (.tuple #[.int .u64 0, .int .i64 at_, .int .i64 er]) := by unfold numAt; rw [h]
theorem numAt_ok {l : List Int} {at_ k : Nat} {n : Int} (h : numP (l.drop at_) = .ok (n, k)) : numAt l at_ = .returned (.tuple #[.int .u64 n, .int .i64 ((at_ : Int) + k), .int .i64 0]) := by unfold numAt; rw [h]

set_option maxHeartbeats 2000000 in
set_option maxRecDepth 100000 in
theorem refRow (w : World) (A : Option Addr) (c : Nat) (l : List Int) (at_ : Nat) (least : Int) (h : Rd w 1 A l.length c (U8 l)) (hb : ∀ x ∈ l, 0 ≤ x ∧ x ≤ 255) (ha : at_ ≤ l.length) (hll : l.length ≤ 70368744177664) (hl : 0 ≤ least ∧ least ≤ 1) :
    Calls Tryz.prog 93 #[.slice A l.length c, .int .i64 at_, .int .i64 least] w fun e w' => RowVal least l at_ w w' e := by
  obtain ⟨i0, hi0, hz0, hz1, hz2⟩ := info_parts infoSpan
  obtain ⟨l0, l1⟩ := hl
  have H := Lib.hid h
  have HB := Lib.hid hb
  clear h hb
  by_cases h0 : at_ = l.length
  · subst h0
    have HV : Hid (spansP least (l.drop l.length) = .error 2) := Lib.hid (by rw [List.drop_length]; rfl)
    go_enter Tryz.func93, Tryz.ntmps93
    go_wp2
    go_ret3
    unfold RowVal
    rw [HV.out]
    exact ⟨_, rfl, Below.refl _ _⟩
  · have hlt : at_ < l.length := by omega
    obtain ⟨bk, off, eA, d0⟩ := H.out.u8 (k := at_) hlt hlt
    subst eA
    have hd : l.drop at_ = l[at_] :: l.drop (at_ + 1) := List.drop_eq_getElem_cons hlt
    obtain ⟨c00, c01⟩ := HB.out l[at_] (List.getElem_mem hlt)
    have HD := Lib.hid hd
    clear hd
    generalize hb0 : l[at_] = c0 at *
    clear hb0
    have hi0' : (0 : Int) ≤ at_ := by omega
    have hi1 : (at_ : Int) < l.length := by omega
    have wc : IntKind.i64.wrap c0 = c0 := IntWalk.i64_in _ (by omega)
    by_cases hbad : c0 < least ∨ 32 < c0
    · have HV : Hid (spansP least (l.drop at_) = .error 5) := Lib.hid (by rw [HD.out]; unfold spansP; simp only; rw [if_pos hbad])
      go_enter Tryz.func93, Tryz.ntmps93
      by_cases hb1 : c0 < least
      all_goals
        go_wp2_with fail
        go_ret3
        unfold RowVal
        rw [HV.out]
        exact ⟨_, rfl, Below.refl _ _⟩
    · obtain ⟨n, hn⟩ : ∃ n : Nat, (n : Int) = c0 := ⟨c0.toNat, by omega⟩
      have HV : Hid (spansP least (l.drop at_) = spansGo n 0 (l.drop (at_ + 1)) []) := Lib.hid (by rw [HD.out]; unfold spansP; simp only; rw [if_neg hbad, show c0.toNat = n by omega])
      have hn32 : n ≤ 32 := by omega
      subst hn
      have hb1 : ¬ (n : Int) < least := by omega
      have hb2 : ¬ (32 : Int) < n := by omega
      clear hbad HD
      have e1 : decide ((n : Int) < least) = false := decide_eq_false hb1
      have e2 : decide ((32 : Int) < (n : Int)) = false := decide_eq_false hb2
      have B0 : Hid (Below w.heap.size w w) := Lib.hid (Below.refl _ _)
      have O0 : Hid (w.ownsRow w.heap.size 141 2 (.slice none 0 0) 0 (Ss [])) := Lib.hid (World.ownsRow_nil _ _ _ _)
      go_enter Tryz.func93, Tryz.ntmps93
      go_wp2_with fail
      go_loopw [1, 10, 11, 12] (fun p v a i wr => ∃ (j at2 : Nat) (low : Int) (acc : List Sp), j ≤ n ∧ i = .int .i64 j ∧ p = .int .i64 at2 ∧ at2 ≤ l.length ∧ a = .int .u64 low ∧ 0 ≤ low ∧ low ≤ 4611686018427387905 ∧ acc.length = j ∧ Hid (Below w.heap.size w wr) ∧ Hid (wr.ownsRow w.heap.size 141 2 v acc.length (Ss acc)) ∧ Hid (spansP least (l.drop at_) = spansGo (n - j) low (l.drop at2) acc)) (fun _ _ _ i _ => n - (intOf i).toNat)
      case atStart => exact ⟨0, at_ + 1, 0, [], Nat.zero_le _, rfl, by go_num, by omega, rfl, Int.le_refl _, by omega, rfl, B0, O0, HV⟩
      case round =>
        obtain ⟨j, at2, low, acc, hj, rfl, rfl, hat, rfl, ha0, ha1, hal, B, O, G⟩ := hrel
        have hsz := B.out.size
        by_cases hlt2 : j < n
        · obtain ⟨k, hk⟩ : ∃ k, n - j = k + 1 := ⟨n - j - 1, by omega⟩
          have G' := Lib.hid (G.out.trans (by rw [hk]))
          have HK := Lib.hid hk
          have HAL := Lib.hid hal
          clear hk hal
          have hacc : acc.length ≤ 32 := by have := HAL.out; omega
          have C1 := Lib.hid (refNum_any wr (some ⟨bk, off, none⟩) c l at2 (H.out.below B.out) HB.out hat hll)
          cases hn1 : numP (l.drop at2) with
          | error er =>
            rw [numAt_err hn1] at C1
            have HV1 := Lib.hid (G'.out.trans (go_err1 hn1))
            have he : (er != 0) = true := by rcases numP_err hn1 with h | h <;> subst h <;> rfl
            clear hn1 G G' HV
            go_wp2_with fail
            refine C1.out.mono ?_
            rintro e w2 ⟨rfl, rfl⟩
            go_wp2
            go_ret3
            unfold RowVal
            rw [HV1.out]
            exact ⟨_, rfl, B.out⟩
          | ok p =>
            obtain ⟨gap, j1⟩ := p
            rw [numAt_ok hn1] at C1
            have hgap := (numP_ok hn1 (U8b_drop HB.out _))
            have hg0 := hgap.2.2.1
            have hg1 := hgap.2.2.2
            have hj1 : at2 + j1 ≤ l.length := by have h := hgap.2.1; rw [List.length_drop] at h; omega
            have HN1 := Lib.hid hn1
            clear hgap hn1
            by_cases hc : 4611686018427387903 < low ∨ 4611686018427387903 - low < gap
            · have HV1 := Lib.hid (G'.out.trans (go_bad1 HN1.out hc))
              clear G G' HV
              by_cases hca : 4611686018427387903 < low
              all_goals
                go_wp2_with fail
                refine C1.out.mono ?_
                rintro e w2 ⟨rfl, rfl⟩
                go_wp2
                go_ret3
                unfold RowVal
                rw [HV1.out]
                exact ⟨_, rfl, B.out⟩
            · have HCc := Lib.hid hc
              have hca : ¬ 4611686018427387903 < low := fun h => hc (.inl h)
              have hcb : ¬ 4611686018427387903 - low < gap := fun h => hc (.inr h)
              have ea : decide (4611686018427387903 < low) = false := decide_eq_false hca
              have eb : decide (4611686018427387903 - low < gap) = false := decide_eq_false hcb
              clear hc
              have hdd : Hid ((l.drop at2).drop j1 = l.drop (at2 + j1)) := Lib.hid (List.drop_drop ..)
              have C2 := Lib.hid (refNum_any wr (some ⟨bk, off, none⟩) c l (at2 + j1) (H.out.below B.out) HB.out hj1 hll)
              rw [Int.natCast_add] at C2
              cases hn2 : numP (l.drop (at2 + j1)) with
              | error er =>
                rw [numAt_err hn2] at C2
                have HV1 := Lib.hid (G'.out.trans (go_err2 HN1.out HCc.out (by rw [hdd.out]; exact hn2)))
                have he : (er != 0) = true := by rcases numP_err hn2 with h | h <;> subst h <;> rfl
                clear hn2 G G' HV
                go_wp2_with fail
                refine C1.out.mono ?_
                rintro e w2 ⟨rfl, rfl⟩
                go_wp2_with fail
                refine C2.out.mono ?_
                rintro e w2 ⟨rfl, rfl⟩
                go_wp2
                go_ret3
                unfold RowVal
                rw [HV1.out]
                exact ⟨_, rfl, B.out⟩
              | ok p =>
                obtain ⟨long, j2⟩ := p
                rw [numAt_ok hn2] at C2
                have hgap := (numP_ok hn2 (U8b_drop HB.out _))
                have hl0' := hgap.2.2.1
                have hl1' := hgap.2.2.2
                have hj2 : at2 + j1 + j2 ≤ l.length := by have h := hgap.2.1; rw [List.length_drop] at h; omega
                have HN2 := Lib.hid hn2
                clear hgap hn2
                by_cases hcc : 4611686018427387903 - (low + gap) < long
                · have HV1 := Lib.hid (G'.out.trans (go_bad2 HN1.out HCc.out (by rw [hdd.out]; exact HN2.out) hcc))
                  clear G G' HV
                  go_wp2_with fail
                  refine C1.out.mono ?_
                  rintro e w2 ⟨rfl, rfl⟩
                  go_wp2_with fail
                  refine C2.out.mono ?_
                  rintro e w2 ⟨rfl, rfl⟩
                  go_wp2
                  go_ret3
                  unfold RowVal
                  rw [HV1.out]
                  exact ⟨_, rfl, B.out⟩
                · have HV1 := Lib.hid (G'.out.trans (go_ok HN1.out HCc.out (by rw [hdd.out]; exact HN2.out) hcc))
                  have hd2 : Hid (((l.drop at2).drop j1).drop j2 = l.drop (at2 + j1 + j2)) := Lib.hid (by rw [List.drop_drop, List.drop_drop, Nat.add_assoc])
                  have HV2 : Hid (spansP least (l.drop at_) = spansGo k (low + gap + long + 2) (l.drop (at2 + j1 + j2)) (acc ++ [(low + gap, low + gap + long)])) := Lib.hid (by rw [← hd2.out]; exact HV1.out)
                  have hgs : w.heap.size ≤ wr.heap.size := hsz
                  clear G G' HV1 hd2 hdd
                  go_wp2_with fail
                  refine C1.out.mono ?_
                  rintro e w2 ⟨rfl, rfl⟩
                  go_wp2_with fail
                  refine C2.out.mono ?_
                  rintro e w2 ⟨rfl, rfl⟩
                  clear C1 C2
                  go_wp2_with (
                    at_builtin
                    refine wpList_app1 _ rfl (.tmp 86) (.tmp 92) 72 rfl (w.heap.size) 141 i0 (.agg #[.int .u64 0, .int .u64 0]) 2 16 Tryz.underlying72 hi0 hz0 hz1 hz2 rfl (by decide) u10 (acc.length) (Ss acc) rfl O.out #[.int .u64 (low + gap), .int .u64 (low + gap + long)] _ rfl (by simp) rfl (by simp [Value.oneCell']) (by unfold maxLen; omega) (by omega) (by have := hgs; simp; omega) ?_
                    intro v4 w4 ho4 hg4 hk4
                    have B4 : Hid (Below w.heap.size w w4) := Lib.hid (B.out.grown hg4 hsz (fun g hg => (O.out.lt g hg).1))
                    have O4 : Hid (w4.ownsRow w.heap.size 141 2 v4 (acc ++ [(low + gap, low + gap + long)]).length (Ss (acc ++ [(low + gap, low + gap + long)]))) := Lib.hid (by rw [Ss_append, List.length_append]; exact ho4)
                    clear ho4 hg4 hk4)
                  have wa : IntKind.u64.wrap (low + gap + long + 2) = low + gap + long + 2 := IntWalk.u64_in _ (by omega)
                  go_roundw
                  case rel => exact ⟨j + 1, at2 + j1 + j2, _, _, by omega, by go_num, by go_num, hj2, rfl, by omega, by omega, by have := HAL.out; simp; omega, B4, O4, Lib.hid (HV2.out.trans (by have := HK.out; rw [show n - (j + 1) = k by omega]))⟩
                  case measure => simp [intOf]; omega
        · obtain rfl : j = n := by omega
          have HV1 : Hid (spansP least (l.drop at_) = .ok (acc, l.drop at2)) := Lib.hid (G.out.trans (by rw [Nat.sub_self]; rfl))
          have hacc : acc.length ≤ 32 := by omega
          clear G HV hal
          go_wp2
          obtain ⟨A9, c9, ev9, hA9⟩ := own_slice O.out
          subst ev9
          go_ret3
          unfold RowVal
          rw [HV1.out]
          exact ⟨A9, c9, at2, rfl, rfl, hat, Rd.of_own O.out, B.out, fun b off e hn => own_base2 O.out b off e hn⟩

end Go.Proofs.YtpfmhkkglaghgaaGreat

namespace Go.Proofs.YtpfmhkkglaghgaaGreat
set_option linter.unusedSimpArgs false
set_option linter.unusedVariables false
set_option linter.unnecessarySimpa false
open Go.RowKit

/-- Where the walk stands. -/
structure DgS (w : World) (g0 g7 bk off c : Nat) (L : List Int) (a : Ak) (W : World) : Prop where
  rd : Rd W 1 (some ⟨bk, off, none⟩) L.length c (U8 L)
  lb : bk < w.heap.size
  z : W.heap[g0]? = some (.cells zAck 74 (0, 0))
  t : W.heap[g7]? = some (.cells #[.slice a.A a.sp.length a.c, .slice a.B a.mm.length a.d, .int .u64 a.tr, .int .u64 a.xo, .bool a.od] 74 (0, 0))
  rs : Rd W 2 a.A a.sp.length a.c (Ss a.sp)
  rm : Rd W 2 a.B a.mm.length a.d (Ss a.mm)
  na : ∀ b off, a.A = some ⟨b, off, none⟩ → 0 < a.sp.length → g7 < b
  nb : ∀ b off, a.B = some ⟨b, off, none⟩ → 0 < a.mm.length → g7 < b
  bel : Below w.heap.size w W
  l0 : w.heap.size ≤ g0
  l1 : g0 < g7
theorem DgS.below {w W W' : World} {g0 g7 bk off c : Nat} {L : List Int} {a : Ak} (h : DgS w g0 g7 bk off c L a W) (b : Below W.heap.size W W') : DgS w g0 g7 bk off c L a W' :=
  ⟨h.rd.below b, h.lb, (b.block _ (lt_of_block h.z)).trans h.z, (b.block _ (lt_of_block h.t)).trans h.t, h.rs.below b, h.rm.below b, h.na, h.nb, h.bel.trans (b.mono h.bel.size), h.l0, h.l1⟩
/-- One field of the acknowledgment has been stored. -/
theorem DgS.put {w W : World} {g0 g7 bk off c i : Nat} {L : List Int} {a a' : Ak} (v : Value) (h : DgS w g0 g7 bk off c L a W) (hc : a'.cells = a.cells.setIfInBounds i v)
    (h1 : Rd W 2 a'.A a'.sp.length a'.c (Ss a'.sp)) (h2 : Rd W 2 a'.B a'.mm.length a'.d (Ss a'.mm)) (h3 : ∀ b off, a'.A = some ⟨b, off, none⟩ → 0 < a'.sp.length → g7 < b) (h4 : ∀ b off, a'.B = some ⟨b, off, none⟩ → 0 < a'.mm.length → g7 < b) :
    DgS w g0 g7 bk off c L a' (W.setCell ⟨g7, i, none⟩ v) := by
  have e1 := h.l0; have e2 := h.l1; have e3 := h.lb
  have hC : Chg (fun j => j = g7) W (W.setCell ⟨g7, i, none⟩ v) := (Chg.refl (fun j => j = g7) W).setCell (p := ⟨g7, i, none⟩) (.inl rfl) _
  refine ⟨h.rd.chg hC (fun b off e hn hb => by cases e; omega), e3, hC.blk h.z (fun e => by omega), ?_, h1.chg hC (fun b off e hn hb => by have := h3 b off e hn; omega), h2.chg hC (fun b off e hn hb => by have := h4 b off e hn; omega), h3, h4,
    h.bel.trans (hC.below h.bel.size (fun k hk e => by omega)), e1, e2⟩
  show _ = some (Obj.cells a'.cells _ _)
  rw [hc]
  exact heap_setCell_same W g7 i _ _ v h.t
theorem DgS.err {w W W' : World} {g0 g7 bk off c : Nat} {L : List Int} {a : Ak} (h : DgS w g0 g7 bk off c L a W) (b : Below W.heap.size W W') (i : Nat) (v : Value) :
    W'.heap[g7]? = some (.cells #[.slice a.A a.sp.length a.c, .slice a.B a.mm.length a.d, .int .u64 a.tr, .int .u64 a.xo, .bool a.od] 74 (0, 0)) ∧ (W'.setCell ⟨g7, i, none⟩ v).heap[g0]? = some (.cells #[.slice none 0 0, .slice none 0 0, .int .u64 0, .int .u64 0, .bool false] 74 (0, 0)) ∧ Below w.heap.size w (W'.setCell ⟨g7, i, none⟩ v) := by
  have h' := h.below b
  have h1 := h.l0; have h2 := h.l1
  have hC2 : Chg (fun j => j = g7) W' (W'.setCell ⟨g7, i, none⟩ v) := (Chg.refl (fun j => j = g7) W').setCell (p := ⟨g7, i, none⟩) (.inl rfl) _
  exact ⟨h'.t, hC2.blk h'.z (fun e => by omega), h'.bel.trans (hC2.below h'.bel.size (fun k hk e => by omega))⟩
theorem DgS.lt {w W : World} {g0 g7 bk off c : Nat} {L : List Int} {a : Ak} (h : DgS w g0 g7 bk off c L a W) : g0 ≠ g7 ∧ g7 ≠ g0 ∧ g0 < W.heap.size ∧ g7 < W.heap.size := by
  have h2 := h.l1
  have := lt_of_block h.z
  have := lt_of_block h.t
  exact ⟨by omega, by omega, by omega, by omega⟩
theorem wordAt_err {l : List Int} {at_ : Nat} {er : Int} (h : wordP (l.drop at_) = .error er) : wordAt l at_ = .returned (.tuple #[.int .u64 0, .int .i64 at_, .int .i64 er]) := by unfold wordAt; rw [h]
theorem wordAt_ok {l : List Int} {at_ : Nat} {n : Int} (h : wordP (l.drop at_) = .ok n) : wordAt l at_ = .returned (.tuple #[.int .u64 n, .int .i64 ((at_ : Int) + 8), .int .i64 0]) := by unfold wordAt; rw [h]
theorem wordP_len {b : List Int} {n : Int} (h : wordP b = .ok n) : 8 ≤ b.length := by
  unfold wordP at h
  split at h
  · cases h
  · omega

set_option maxHeartbeats 8000000 in
set_option maxRecDepth 100000 in
theorem ref_getAck (w : World) (A : Option Addr) (c : Nat) (l : List Int) (h : Rd w 1 A l.length c (U8 l)) (hb : ∀ x ∈ l, 0 ≤ x ∧ x ≤ 255) (hl : l.length ≤ 70368744177664) :
    Calls Tryz.prog 63 #[.slice A l.length c] w fun e w' => DecVal l w w' e := by
  have H0 := Lib.hid h
  have HB := Lib.hid hb
  clear h hb
  have e0 := box_below w (.cells zAck 74)
  have Z0 := Lib.hid (heap_alloc_new w (.cells zAck 74))
  have B0 := Lib.hid e0
  have H := Lib.hid (H0.out.below e0)
  clear e0
  cases l with
  | nil =>
    have HV := Lib.hid ackP_nil
    have zz : (w.alloc (.cells zAck 74)).heap[w.heap.size]? = some (.cells #[.slice none 0 0, .slice none 0 0, .int .u64 0, .int .u64 0, .bool false] 74 (0, 0)) := Z0.out
    have bb := B0
    clear H H0
    go_enter Tryz.func63, Tryz.ntmps63
    have hW : w.alloc (.cells #[.slice none 0 0, .slice none 0 0, .int .u64 0, .int .u64 0, .bool false] 74) = w.alloc (.cells zAck 74) := rfl
    go_upto_region 1 with fail
    clear hW
    generalize (w.alloc (.cells zAck 74)) = w1 at *
    obtain ⟨s0, s1, s2, s3, s4⟩ := zids (W := w1) zz
    have z0 := cell_of_row (w1) (w.heap.size) 0 _ _ _ zz
    have fz0 := frozen_of_row (w1) (w.heap.size) 0 _ _ zz
    have z1 := cell_of_row (w1) (w.heap.size) 1 _ _ _ zz
    have fz1 := frozen_of_row (w1) (w.heap.size) 1 _ _ zz
    have z2 := cell_of_row (w1) (w.heap.size) 2 _ _ _ zz
    have fz2 := frozen_of_row (w1) (w.heap.size) 2 _ _ zz
    have z3 := cell_of_row (w1) (w.heap.size) 3 _ _ _ zz
    have fz3 := frozen_of_row (w1) (w.heap.size) 3 _ _ zz
    have z4 := cell_of_row (w1) (w.heap.size) 4 _ _ _ zz
    have fz4 := frozen_of_row (w1) (w.heap.size) 4 _ _ zz
    go_wp2
    refine bodyPost_ret (results_cell_tmp_row rfl _ _ (w.heap.size) _ _ _ _ rfl zz Tryz.underlying74 rfl infoAck2) rfl ?_
    unfold DecVal
    rw [HV.out]
    exact ⟨rfl, bb.out⟩
  | cons c0 r0 =>
    generalize hL : c0 :: r0 = L at *
    have hl1 : 1 ≤ L.length := by rw [← hL]; simp
    obtain ⟨b0, h0, h01⟩ : ∃ x, L[0]'hl1 = x ∧ x = c0 := ⟨c0, by subst hL; rfl, rfl⟩
    subst h01
    have hd1 : Hid (L.drop 1 = r0) := Lib.hid (by rw [← hL]; rfl)
    have c00 : 0 ≤ b0 ∧ b0 ≤ 255 := HB.out b0 (by rw [← hL]; exact List.mem_cons_self ..)
    obtain ⟨bk, off, eA, d0⟩ := H.out.u8 (k := 0) hl1 hl1
    subst eA
    have hbk : bk < w.heap.size := H0.out.lt (by omega) hl1 bk off rfl
    rw [h0] at d0
    simp only [Nat.add_zero] at d0
    have hlp : decide ((L.length : Int) = 0) = false := decide_eq_false (by omega)
    have hlq : ((L.length : Int) == 0) = false := hlp
    have hlr : (L.length == 0) = false := beq_eq_false_iff_ne.2 (by omega)
    have HL := Lib.hid hL
    clear hL h0
    by_cases hk : b0 ≠ 2
    · have HV : Hid (ackP L = .error 4) := Lib.hid (by rw [← HL.out]; exact ackP_kind hk)
      have hk2 : (b0 != 2) = true := by simp [hk]
      have hk3 : decide (b0 = 2) = false := decide_eq_false hk
      have zz : (w.alloc (.cells zAck 74)).heap[w.heap.size]? = some (.cells #[.slice none 0 0, .slice none 0 0, .int .u64 0, .int .u64 0, .bool false] 74 (0, 0)) := Z0.out
      have bb := B0
      clear H H0
      go_enter Tryz.func63, Tryz.ntmps63
      have hW : w.alloc (.cells #[.slice none 0 0, .slice none 0 0, .int .u64 0, .int .u64 0, .bool false] 74) = w.alloc (.cells zAck 74) := rfl
      go_upto_region 1 with fail
      clear hW
      generalize (w.alloc (.cells zAck 74)) = w1 at *
      obtain ⟨s0, s1, s2, s3, s4⟩ := zids (W := w1) zz
      have z0 := cell_of_row (w1) (w.heap.size) 0 _ _ _ zz
      have fz0 := frozen_of_row (w1) (w.heap.size) 0 _ _ zz
      have z1 := cell_of_row (w1) (w.heap.size) 1 _ _ _ zz
      have fz1 := frozen_of_row (w1) (w.heap.size) 1 _ _ zz
      have z2 := cell_of_row (w1) (w.heap.size) 2 _ _ _ zz
      have fz2 := frozen_of_row (w1) (w.heap.size) 2 _ _ zz
      have z3 := cell_of_row (w1) (w.heap.size) 3 _ _ _ zz
      have fz3 := frozen_of_row (w1) (w.heap.size) 3 _ _ zz
      have z4 := cell_of_row (w1) (w.heap.size) 4 _ _ _ zz
      have fz4 := frozen_of_row (w1) (w.heap.size) 4 _ _ zz
      go_wp2
      refine bodyPost_ret (results_cell_tmp_row rfl _ _ (w.heap.size) _ _ _ _ rfl zz Tryz.underlying74 rfl infoAck2) rfl ?_
      unfold DecVal
      rw [HV.out]
      exact ⟨rfl, bb.out⟩
    · obtain rfl : b0 = 2 := by omega
      have HA : Hid (∀ x, ackP (2 :: r0) = x → ackP L = x) := Lib.hid (fun x h => by rw [← HL.out]; exact h)
      clear hk
      have hk2 : ((2 : Int) != 2) = false := rfl
      have e1 := box_below (w.alloc (.cells zAck 74)) (.cells zAck 74)
      have H2 := Lib.hid (H.out.below e1)
      have S3 : Hid (DgS w w.heap.size (w.heap.size + 1) bk off c L ⟨none, 0, none, 0, [], [], 0, 0, false⟩ ((w.alloc (.cells zAck 74)).alloc (.cells zAck 74))) :=
        Lib.hid ⟨H2.out, hbk, (e1.block _ (lt_of_block Z0.out)).trans Z0.out, by have := heap_alloc_new (w.alloc (.cells zAck 74)) (.cells zAck 74); rw [World.size_alloc] at this; exact this, Rd.nil_ _ _, Rd.nil_ _ _, (fun b off e => by cases e), (fun b off e => by cases e), B0.out.trans (e1.mono B0.out.size), Nat.le_refl _, Nat.lt_succ_self _⟩
      clear H H0 H2 e1
      go_enter Tryz.func63, Tryz.ntmps63
      have hW : w.alloc (.cells #[.slice none 0 0, .slice none 0 0, .int .u64 0, .int .u64 0, .bool false] 74) = w.alloc (.cells zAck 74) := rfl
      go_upto_region 1 with fail
      clear hW
      generalize hw1 : (w.alloc (.cells zAck 74)) = w1 at *
      have hs1 : w1.heap.size = w.heap.size + 1 := by rw [← hw1]; simp
      clear Z0 B0 hw1
      have hW : w1.alloc (.cells #[.slice none 0 0, .slice none 0 0, .int .u64 0, .int .u64 0, .bool false] 74) = w1.alloc (.cells zAck 74) := rfl
      go_upto_region 6 with fail
      clear hW
      clear d0
      clear hs1
      generalize (w1.alloc (.cells zAck 74)) = w3 at *
      generalize w.heap.size + 1 = g7 at *
      have hne := S3.out.lt
      have C3 := Lib.hid (refRow w3 (some ⟨bk, off, none⟩) c L 1 1 S3.out.rd HB.out hl1 hl ⟨by omega, by omega⟩)
      rw [show ((1 : Nat) : Int) = 1 from rfl] at C3
      go_wp2_with fail
      refine C3.out.mono ?_
      rintro e w4 hv
      unfold RowVal at hv
      rw [hd1.out] at hv
      cases hp1 : spansP 1 r0 with
      | error er =>
        rw [hp1] at hv
        obtain ⟨x4, rfl, hC⟩ := hv
        have HV : Hid (ackP L = .error er) := Lib.hid (HA.out _ (ackP_e1 hp1))
        have he : (er != 0) = true := by rcases spansP_err hp1 with h | h <;> subst h <;> rfl
        obtain ⟨t5, zz, b6⟩ := S3.out.err hC 0 (.slice none 0 0)
        have y0 := cell_of_row w4 g7 0 _ _ _ t5
        have fy0 := frozen_of_row w4 g7 0 _ _ t5
        clear hC C3 hp1 t5
        obtain ⟨s0, s1, s2, s3, s4⟩ := zids (W := w4.setCell ⟨g7, 0, none⟩ (.slice none 0 0)) zz
        have z0 := cell_of_row (w4.setCell ⟨g7, 0, none⟩ (.slice none 0 0)) (w.heap.size) 0 _ _ _ zz
        have fz0 := frozen_of_row (w4.setCell ⟨g7, 0, none⟩ (.slice none 0 0)) (w.heap.size) 0 _ _ zz
        have z1 := cell_of_row (w4.setCell ⟨g7, 0, none⟩ (.slice none 0 0)) (w.heap.size) 1 _ _ _ zz
        have fz1 := frozen_of_row (w4.setCell ⟨g7, 0, none⟩ (.slice none 0 0)) (w.heap.size) 1 _ _ zz
        have z2 := cell_of_row (w4.setCell ⟨g7, 0, none⟩ (.slice none 0 0)) (w.heap.size) 2 _ _ _ zz
        have fz2 := frozen_of_row (w4.setCell ⟨g7, 0, none⟩ (.slice none 0 0)) (w.heap.size) 2 _ _ zz
        have z3 := cell_of_row (w4.setCell ⟨g7, 0, none⟩ (.slice none 0 0)) (w.heap.size) 3 _ _ _ zz
        have fz3 := frozen_of_row (w4.setCell ⟨g7, 0, none⟩ (.slice none 0 0)) (w.heap.size) 3 _ _ zz
        have z4 := cell_of_row (w4.setCell ⟨g7, 0, none⟩ (.slice none 0 0)) (w.heap.size) 4 _ _ _ zz
        have fz4 := frozen_of_row (w4.setCell ⟨g7, 0, none⟩ (.slice none 0 0)) (w.heap.size) 4 _ _ zz
        go_wp2
        refine bodyPost_ret (results_cell_tmp_row rfl _ _ (w.heap.size) _ _ _ _ rfl zz Tryz.underlying74 rfl infoAck2) rfl ?_
        unfold DecVal
        rw [HV.out]
        exact ⟨rfl, b6⟩
      | ok p =>
        obtain ⟨sp, r1⟩ := p
        rw [hp1] at hv
        obtain ⟨A4, c4, p2, rfl, hr1, hp2l, hr4, hC, hbl4⟩ := hv
        obtain ⟨gd4, gn4, -, ln4, j4, hj4⟩ := spansP_ok (fun x hx => HB.out x (by rw [← HL.out]; exact List.mem_cons_of_mem _ hx)) hp1
        have U4 := Lib.hid (gd_u2 gd4 gn4)
        have G4 := Lib.hid gd4
        clear hj4
        have T4 := Lib.hid (S3.out.below hC)
        have g74 := S3.out.lt.2.2.2
        have S4 : Hid (DgS w w.heap.size g7 bk off c L ⟨A4, c4, none, 0, sp, [], 0, 0, false⟩ (w4.setCell ⟨g7, 0, none⟩ (.slice A4 sp.length c4))) := Lib.hid (T4.out.put _ rfl hr4 (Rd.nil_ _ _) (fun b off e hn => by have := hbl4 b off e hn; omega) (fun b off e => by cases e))
        have tt := T4.out.t
        have y0 := cell_of_row w4 g7 0 _ _ _ tt
        have fy0 := frozen_of_row w4 g7 0 _ _ tt
        have HP1 := Lib.hid hp1
        clear hr4 hbl4 hC gd4 gn4 tt T4 S3 C3 hp1 g74
        subst hr1
        have C4 := Lib.hid (refRow _ _ c L p2 0 S4.out.rd HB.out hp2l hl ⟨by omega, by omega⟩)
        go_wp2_with fail
        clear y0 fy0
        refine C4.out.mono ?_
        rintro e w5 hv
        unfold RowVal at hv
        cases hp2 : spansP 0 (L.drop p2) with
        | error er =>
          rw [hp2] at hv
          obtain ⟨x5, rfl, hC⟩ := hv
          have HV : Hid (ackP L = .error er) := Lib.hid (HA.out _ (ackP_e2 HP1.out hp2))
          have he : (er != 0) = true := by rcases spansP_err hp2 with h | h <;> subst h <;> rfl
          obtain ⟨t5, zz, b6⟩ := S4.out.err hC 1 (.slice none 0 0)
          have y0 := cell_of_row w5 g7 1 _ _ _ t5
          have fy0 := frozen_of_row w5 g7 1 _ _ t5
          clear hC C4 hp2 t5
          obtain ⟨s0, s1, s2, s3, s4⟩ := zids (W := w5.setCell ⟨g7, 1, none⟩ (.slice none 0 0)) zz
          have z0 := cell_of_row (w5.setCell ⟨g7, 1, none⟩ (.slice none 0 0)) (w.heap.size) 0 _ _ _ zz
          have fz0 := frozen_of_row (w5.setCell ⟨g7, 1, none⟩ (.slice none 0 0)) (w.heap.size) 0 _ _ zz
          have z1 := cell_of_row (w5.setCell ⟨g7, 1, none⟩ (.slice none 0 0)) (w.heap.size) 1 _ _ _ zz
          have fz1 := frozen_of_row (w5.setCell ⟨g7, 1, none⟩ (.slice none 0 0)) (w.heap.size) 1 _ _ zz
          have z2 := cell_of_row (w5.setCell ⟨g7, 1, none⟩ (.slice none 0 0)) (w.heap.size) 2 _ _ _ zz
          have fz2 := frozen_of_row (w5.setCell ⟨g7, 1, none⟩ (.slice none 0 0)) (w.heap.size) 2 _ _ zz
          have z3 := cell_of_row (w5.setCell ⟨g7, 1, none⟩ (.slice none 0 0)) (w.heap.size) 3 _ _ _ zz
          have fz3 := frozen_of_row (w5.setCell ⟨g7, 1, none⟩ (.slice none 0 0)) (w.heap.size) 3 _ _ zz
          have z4 := cell_of_row (w5.setCell ⟨g7, 1, none⟩ (.slice none 0 0)) (w.heap.size) 4 _ _ _ zz
          have fz4 := frozen_of_row (w5.setCell ⟨g7, 1, none⟩ (.slice none 0 0)) (w.heap.size) 4 _ _ zz
          go_wp2
          refine bodyPost_ret (results_cell_tmp_row rfl _ _ (w.heap.size) _ _ _ _ rfl zz Tryz.underlying74 rfl infoAck2) rfl ?_
          unfold DecVal
          rw [HV.out]
          exact ⟨rfl, b6⟩
        | ok p =>
          obtain ⟨mm, r2⟩ := p
          rw [hp2] at hv
          obtain ⟨A5, c5, p3, rfl, hr2, hp3l, hr5, hC, hbl5⟩ := hv
          obtain ⟨gd5, gn5, -, ln5, j5, hj5⟩ := spansP_ok (U8b_drop HB.out _) hp2
          have U5 := Lib.hid (gd_u2 gd5 gn5)
          have G5 := Lib.hid gd5
          clear hj5
          have T5 := Lib.hid (S4.out.below hC)
          have g75 := S4.out.lt.2.2.2
          have S5 : Hid (DgS w w.heap.size g7 bk off c L ⟨A4, c4, A5, c5, sp, mm, 0, 0, false⟩ (w5.setCell ⟨g7, 1, none⟩ (.slice A5 mm.length c5))) := Lib.hid (T5.out.put _ rfl T5.out.rs hr5 T5.out.na (fun b off e hn => by have := hbl5 b off e hn; omega))
          have tt := T5.out.t
          have y0 := cell_of_row w5 g7 1 _ _ _ tt
          have fy0 := frozen_of_row w5 g7 1 _ _ tt
          subst hr2
          have HP2 : Hid (ackP L = ackTail sp mm (L.drop p3)) := Lib.hid (HA.out _ (ackP_tail HP1.out hp2))
          clear hr5 hbl5 hC gd5 gn5 tt T5 S4 C4 hp2 g75 HP1
          have C5 := Lib.hid (refWord_any _ _ c L p3 S5.out.rd HB.out hp3l hl)
          cases hp3 : wordP (L.drop p3) with
          | error er =>
            rw [wordAt_err hp3] at C5
            have HV := Lib.hid (HP2.out.trans (tail_e1 hp3))
            have he : (er != 0) = true := by rw [wordP_err hp3]; rfl
            obtain ⟨t5, zz, b6⟩ := S5.out.err (Below.refl _ _) 2 (.int .u64 0)
            go_wp2_with fail
            clear y0 fy0
            refine C5.out.mono ?_
            rintro e w6 ⟨rfl, rfl⟩
            generalize (w5.setCell ⟨g7, 1, none⟩ (.slice A5 mm.length c5)) = w6 at *
            have y0 := cell_of_row w6 g7 2 _ _ _ t5
            have fy0 := frozen_of_row w6 g7 2 _ _ t5
            clear C5 hp3 t5
            obtain ⟨s0, s1, s2, s3, s4⟩ := zids (W := w6.setCell ⟨g7, 2, none⟩ (.int .u64 0)) zz
            have z0 := cell_of_row (w6.setCell ⟨g7, 2, none⟩ (.int .u64 0)) (w.heap.size) 0 _ _ _ zz
            have fz0 := frozen_of_row (w6.setCell ⟨g7, 2, none⟩ (.int .u64 0)) (w.heap.size) 0 _ _ zz
            have z1 := cell_of_row (w6.setCell ⟨g7, 2, none⟩ (.int .u64 0)) (w.heap.size) 1 _ _ _ zz
            have fz1 := frozen_of_row (w6.setCell ⟨g7, 2, none⟩ (.int .u64 0)) (w.heap.size) 1 _ _ zz
            have z2 := cell_of_row (w6.setCell ⟨g7, 2, none⟩ (.int .u64 0)) (w.heap.size) 2 _ _ _ zz
            have fz2 := frozen_of_row (w6.setCell ⟨g7, 2, none⟩ (.int .u64 0)) (w.heap.size) 2 _ _ zz
            have z3 := cell_of_row (w6.setCell ⟨g7, 2, none⟩ (.int .u64 0)) (w.heap.size) 3 _ _ _ zz
            have fz3 := frozen_of_row (w6.setCell ⟨g7, 2, none⟩ (.int .u64 0)) (w.heap.size) 3 _ _ zz
            have z4 := cell_of_row (w6.setCell ⟨g7, 2, none⟩ (.int .u64 0)) (w.heap.size) 4 _ _ _ zz
            have fz4 := frozen_of_row (w6.setCell ⟨g7, 2, none⟩ (.int .u64 0)) (w.heap.size) 4 _ _ zz
            go_wp2
            refine bodyPost_ret (results_cell_tmp_row rfl _ _ (w.heap.size) _ _ _ _ rfl zz Tryz.underlying74 rfl infoAck2) rfl ?_
            unfold DecVal
            rw [HV.out]
            exact ⟨rfl, b6⟩
          | ok tr =>
            rw [wordAt_ok hp3] at C5
            have UT := Lib.hid (wordP_ok hp3 (U8b_drop HB.out _))
            have hl3 : p3 + 8 ≤ L.length := by have := wordP_len hp3; rw [List.length_drop] at this; omega
            have S6 : Hid (DgS w w.heap.size g7 bk off c L ⟨A4, c4, A5, c5, sp, mm, tr, 0, false⟩ ((w5.setCell ⟨g7, 1, none⟩ (.slice A5 mm.length c5)).setCell ⟨g7, 2, none⟩ (.int .u64 tr))) := Lib.hid (S5.out.put _ rfl S5.out.rs S5.out.rm S5.out.na S5.out.nb)
            have tt := S5.out.t
            have HP3 := Lib.hid hp3
            have C6 := Lib.hid (refWord_any _ _ c L (p3 + 8) S6.out.rd HB.out hl3 hl)
            have hd8 : Hid ((L.drop p3).drop 8 = L.drop (p3 + 8)) := Lib.hid (List.drop_drop ..)
            rw [Int.natCast_add] at C6
            clear hp3
            go_wp2_with fail
            clear y0 fy0
            refine C5.out.mono ?_
            rintro e w6 ⟨rfl, rfl⟩
            generalize (w5.setCell ⟨g7, 1, none⟩ (.slice A5 mm.length c5)) = w6 at *
            have y0 := cell_of_row w6 g7 2 _ _ _ tt
            have fy0 := frozen_of_row w6 g7 2 _ _ tt
            clear C5 S5 tt
            cases hp4 : wordP (L.drop (p3 + 8)) with
            | error er =>
              rw [wordAt_err hp4] at C6
              rw [Int.natCast_add] at C6
              have HV := Lib.hid (HP2.out.trans (tail_e2 HP3.out (by rw [hd8.out]; exact hp4)))
              have he : (er != 0) = true := by rw [wordP_err hp4]; rfl
              obtain ⟨t5, zz, b6⟩ := S6.out.err (Below.refl _ _) 3 (.int .u64 0)
              go_wp2_with fail
              clear y0 fy0
              refine C6.out.mono ?_
              rintro e w7 ⟨rfl, rfl⟩
              generalize (w6.setCell ⟨g7, 2, none⟩ (.int .u64 tr)) = w7 at *
              have y0 := cell_of_row w7 g7 3 _ _ _ t5
              have fy0 := frozen_of_row w7 g7 3 _ _ t5
              clear C6 hp4 t5
              obtain ⟨s0, s1, s2, s3, s4⟩ := zids (W := w7.setCell ⟨g7, 3, none⟩ (.int .u64 0)) zz
              have z0 := cell_of_row (w7.setCell ⟨g7, 3, none⟩ (.int .u64 0)) (w.heap.size) 0 _ _ _ zz
              have fz0 := frozen_of_row (w7.setCell ⟨g7, 3, none⟩ (.int .u64 0)) (w.heap.size) 0 _ _ zz
              have z1 := cell_of_row (w7.setCell ⟨g7, 3, none⟩ (.int .u64 0)) (w.heap.size) 1 _ _ _ zz
              have fz1 := frozen_of_row (w7.setCell ⟨g7, 3, none⟩ (.int .u64 0)) (w.heap.size) 1 _ _ zz
              have z2 := cell_of_row (w7.setCell ⟨g7, 3, none⟩ (.int .u64 0)) (w.heap.size) 2 _ _ _ zz
              have fz2 := frozen_of_row (w7.setCell ⟨g7, 3, none⟩ (.int .u64 0)) (w.heap.size) 2 _ _ zz
              have z3 := cell_of_row (w7.setCell ⟨g7, 3, none⟩ (.int .u64 0)) (w.heap.size) 3 _ _ _ zz
              have fz3 := frozen_of_row (w7.setCell ⟨g7, 3, none⟩ (.int .u64 0)) (w.heap.size) 3 _ _ zz
              have z4 := cell_of_row (w7.setCell ⟨g7, 3, none⟩ (.int .u64 0)) (w.heap.size) 4 _ _ _ zz
              have fz4 := frozen_of_row (w7.setCell ⟨g7, 3, none⟩ (.int .u64 0)) (w.heap.size) 4 _ _ zz
              go_wp2
              refine bodyPost_ret (results_cell_tmp_row rfl _ _ (w.heap.size) _ _ _ _ rfl zz Tryz.underlying74 rfl infoAck2) rfl ?_
              unfold DecVal
              rw [HV.out]
              exact ⟨rfl, b6⟩
            | ok xo =>
              rw [wordAt_ok hp4] at C6
              rw [Int.natCast_add] at C6
              have UX := Lib.hid (wordP_ok hp4 (U8b_drop HB.out _))
              have hl4 : p3 + 16 ≤ L.length := by have := wordP_len hp4; rw [List.length_drop] at this; omega
              have S7 : Hid (DgS w w.heap.size g7 bk off c L ⟨A4, c4, A5, c5, sp, mm, tr, xo, false⟩ ((w6.setCell ⟨g7, 2, none⟩ (.int .u64 tr)).setCell ⟨g7, 3, none⟩ (.int .u64 xo))) := Lib.hid (S6.out.put _ rfl S6.out.rs S6.out.rm S6.out.na S6.out.nb)
              have tt := S6.out.t
              have HP4 : Hid (wordP ((L.drop p3).drop 8) = .ok xo) := Lib.hid (by rw [hd8.out]; exact hp4)
              have hd16 : Hid (((L.drop p3).drop 8).drop 8 = L.drop (p3 + 16)) := Lib.hid (by rw [List.drop_drop, List.drop_drop])
              clear hp4
              go_wp2_with fail
              clear y0 fy0
              refine C6.out.mono ?_
              rintro e w7 ⟨rfl, rfl⟩
              generalize (w6.setCell ⟨g7, 2, none⟩ (.int .u64 tr)) = w7 at *
              have y0 := cell_of_row w7 g7 3 _ _ _ tt
              have fy0 := frozen_of_row w7 g7 3 _ _ tt
              clear C6 S6 tt
              have T7 : Hid (DgS w w.heap.size g7 bk off c L ⟨A4, c4, A5, c5, sp, mm, tr, xo, false⟩ (w7.setCell ⟨g7, 3, none⟩ (.int .u64 xo))) := S7
              obtain ⟨q3, hq3⟩ : ∃ q : Nat, q = p3 + 16 := ⟨_, rfl⟩
              rw [← hq3] at hd16
              have hq4 : (p3 : Int) + 8 + 8 = q3 := by omega
              have hq6 : q3 ≤ L.length := by omega
              clear hq3
              by_cases hend : q3 = L.length
              · have hr3 : Hid (((L.drop p3).drop 8).drop 8 = []) := Lib.hid (by rw [hd16.out, hend, List.drop_length])
                have HV := Lib.hid (HP2.out.trans (tail_3 HP3.out HP4.out hr3.out))
                have zz := S7.out.z
                have bb := Lib.hid S7.out.bel
                have e5 : decide ((L.length : Int) ≤ (q3 : Int)) = true := decide_eq_true (by omega)
                go_upto_region 19 with fail
                clear y0 fy0
                generalize (w7.setCell ⟨g7, 3, none⟩ (.int .u64 xo)) = w8 at *
                have zz : w8.heap[w.heap.size]? = some (.cells #[.slice none 0 0, .slice none 0 0, .int .u64 0, .int .u64 0, .bool false] 74 (0, 0)) := zz
                obtain ⟨s0, s1, s2, s3, s4⟩ := zids (W := w8) zz
                have z0 := cell_of_row (w8) (w.heap.size) 0 _ _ _ zz
                have fz0 := frozen_of_row (w8) (w.heap.size) 0 _ _ zz
                have z1 := cell_of_row (w8) (w.heap.size) 1 _ _ _ zz
                have fz1 := frozen_of_row (w8) (w.heap.size) 1 _ _ zz
                have z2 := cell_of_row (w8) (w.heap.size) 2 _ _ _ zz
                have fz2 := frozen_of_row (w8) (w.heap.size) 2 _ _ zz
                have z3 := cell_of_row (w8) (w.heap.size) 3 _ _ _ zz
                have fz3 := frozen_of_row (w8) (w.heap.size) 3 _ _ zz
                have z4 := cell_of_row (w8) (w.heap.size) 4 _ _ _ zz
                have fz4 := frozen_of_row (w8) (w.heap.size) 4 _ _ zz
                go_wp2
                refine bodyPost_ret (results_cell_tmp_row rfl _ _ (w.heap.size) _ _ _ _ rfl zz Tryz.underlying74 rfl infoAck2) rfl ?_
                unfold DecVal
                rw [HV.out]
                exact ⟨rfl, bb.out⟩
              · have hq5 : q3 < L.length := by omega
                have hdq : L.drop q3 = L[q3] :: L.drop (q3 + 1) := List.drop_eq_getElem_cons hq5
                have hb8 : 0 ≤ L[q3] ∧ L[q3] ≤ 255 := HB.out _ (List.getElem_mem hq5)
                obtain ⟨cc, hcc⟩ : ∃ x, x = L[q3] := ⟨_, rfl⟩
                rw [← hcc] at hdq hb8
                obtain ⟨bk8, off8, eq8, d8⟩ := S7.out.rd.u8 (k := q3) hq5 hq5
                rw [← hcc] at d8
                clear hcc
                injection eq8 with eq8
                injection eq8 with e81 e82 e83
                subst e81 e82
                have HP5 := Lib.hid (HP2.out.trans (tail_4 HP3.out HP4.out (hd16.out.trans hdq)))
                have hrl : (L.drop (q3 + 1)).length = L.length - (q3 + 1) := List.length_drop ..
                have e5 : decide ((L.length : Int) ≤ (q3 : Int)) = false := decide_eq_false (by omega)
                have e6 : (0 : Int) ≤ (q3 : Int) := by omega
                have e7 : (q3 : Int) < (L.length : Int) := by omega
                have e8 : (q3 : Int).toNat = q3 := by omega
                have wc : IntKind.i64.wrap ((p3 : Int) + 8) = (p3 : Int) + 8 := IntWalk.i64_in _ (by omega)
                clear HP2 HP3 HP4 hdq
                by_cases hc1 : 1 < cc
                · have HV := Lib.hid (HP5.out.trans (if_pos hc1))
                  have hc2 : decide (1 < cc) = true := decide_eq_true hc1
                  have bb := Lib.hid S7.out.bel
                  have zz := S7.out.z
                  go_upto_region 19 with fail
                  clear y0 fy0
                  generalize (w7.setCell ⟨g7, 3, none⟩ (.int .u64 xo)) = w8 at *
                  have zz : w8.heap[w.heap.size]? = some (.cells #[.slice none 0 0, .slice none 0 0, .int .u64 0, .int .u64 0, .bool false] 74 (0, 0)) := zz
                  obtain ⟨s0, s1, s2, s3, s4⟩ := zids (W := w8) zz
                  have z0 := cell_of_row (w8) (w.heap.size) 0 _ _ _ zz
                  have fz0 := frozen_of_row (w8) (w.heap.size) 0 _ _ zz
                  have z1 := cell_of_row (w8) (w.heap.size) 1 _ _ _ zz
                  have fz1 := frozen_of_row (w8) (w.heap.size) 1 _ _ zz
                  have z2 := cell_of_row (w8) (w.heap.size) 2 _ _ _ zz
                  have fz2 := frozen_of_row (w8) (w.heap.size) 2 _ _ zz
                  have z3 := cell_of_row (w8) (w.heap.size) 3 _ _ _ zz
                  have fz3 := frozen_of_row (w8) (w.heap.size) 3 _ _ zz
                  have z4 := cell_of_row (w8) (w.heap.size) 4 _ _ _ zz
                  have fz4 := frozen_of_row (w8) (w.heap.size) 4 _ _ zz
                  go_wp2
                  refine bodyPost_ret (results_cell_tmp_row rfl _ _ (w.heap.size) _ _ _ _ rfl zz Tryz.underlying74 rfl infoAck2) rfl ?_
                  unfold DecVal
                  rw [HV.out]
                  exact ⟨rfl, bb.out⟩
                · have HP6 := Lib.hid (HP5.out.trans (if_neg hc1))
                  have hc2 : decide (1 < cc) = false := decide_eq_false hc1
                  have S8 : Hid (DgS w w.heap.size g7 bk off c L ⟨A4, c4, A5, c5, sp, mm, tr, xo, decide (cc = 1)⟩ ((w7.setCell ⟨g7, 3, none⟩ (.int .u64 xo)).setCell ⟨g7, 4, none⟩ (.bool (decide (cc = 1))))) := Lib.hid (S7.out.put _ rfl S7.out.rs S7.out.rm S7.out.na S7.out.nb)
                  have hodd : (cc == 1) = decide (cc = 1) := rfl
                  have tt := S7.out.t
                  go_upto_region 19 with fail
                  clear y0 fy0
                  generalize (w7.setCell ⟨g7, 3, none⟩ (.int .u64 xo)) = w8 at *
                  have y0 := cell_of_row w8 g7 4 _ _ _ tt
                  have fy0 := frozen_of_row w8 g7 4 _ _ tt
                  generalize hod : decide (cc = 1) = od at *
                  clear tt S7 T7 HP5 hod
                  by_cases hr5 : (L.drop (q3 + 1)).length > 0
                  · have HV := Lib.hid (HP6.out.trans (if_pos hr5))
                    have hr6 : decide ((1 : Int) < (L.length : Int) - ((q3 : Int))) = true := decide_eq_true (by omega)
                    have bb := Lib.hid S8.out.bel
                    have zz := S8.out.z
                    go_upto_region 24 with fail
                    clear y0 fy0 d8
                    generalize (w8.setCell ⟨g7, 4, none⟩ (.bool od)) = w9 at *
                    have zz : w9.heap[w.heap.size]? = some (.cells #[.slice none 0 0, .slice none 0 0, .int .u64 0, .int .u64 0, .bool false] 74 (0, 0)) := zz
                    obtain ⟨s0, s1, s2, s3, s4⟩ := zids (W := w9) zz
                    have z0 := cell_of_row (w9) (w.heap.size) 0 _ _ _ zz
                    have fz0 := frozen_of_row (w9) (w.heap.size) 0 _ _ zz
                    have z1 := cell_of_row (w9) (w.heap.size) 1 _ _ _ zz
                    have fz1 := frozen_of_row (w9) (w.heap.size) 1 _ _ zz
                    have z2 := cell_of_row (w9) (w.heap.size) 2 _ _ _ zz
                    have fz2 := frozen_of_row (w9) (w.heap.size) 2 _ _ zz
                    have z3 := cell_of_row (w9) (w.heap.size) 3 _ _ _ zz
                    have fz3 := frozen_of_row (w9) (w.heap.size) 3 _ _ zz
                    have z4 := cell_of_row (w9) (w.heap.size) 4 _ _ _ zz
                    have fz4 := frozen_of_row (w9) (w.heap.size) 4 _ _ zz
                    go_wp2
                    refine bodyPost_ret (results_cell_tmp_row rfl _ _ (w.heap.size) _ _ _ _ rfl zz Tryz.underlying74 rfl infoAck2) rfl ?_
                    unfold DecVal
                    rw [HV.out]
                    exact ⟨rfl, bb.out⟩
                  · have HP7 := Lib.hid (HP6.out.trans (if_neg hr5))
                    have hr6 : decide ((1 : Int) < (L.length : Int) - ((q3 : Int))) = false := decide_eq_false (by omega)
                    have C9 := Lib.hid (inside_any A5 A4 mm.length sp.length c5 c4 mm sp _ S8.out.rm S8.out.rs U5.out U4.out)
                    rw [← insideB_eq] at C9
                    have tt := S8.out.t
                    go_upto_region 24 with fail
                    clear y0 fy0 d8
                    generalize (w8.setCell ⟨g7, 4, none⟩ (.bool od)) = w9 at *
                    have y0 := cell_of_row w9 g7 0 _ _ _ tt
                    have fy0 := frozen_of_row w9 g7 0 _ _ tt
                    have y1 := cell_of_row w9 g7 1 _ _ _ tt
                    have fy1 := frozen_of_row w9 g7 1 _ _ tt
                    have y2 := cell_of_row w9 g7 2 _ _ _ tt
                    have fy2 := frozen_of_row w9 g7 2 _ _ tt
                    have y3 := cell_of_row w9 g7 3 _ _ _ tt
                    have fy3 := frozen_of_row w9 g7 3 _ _ tt
                    have y4 := cell_of_row w9 g7 4 _ _ _ tt
                    have fy4 := frozen_of_row w9 g7 4 _ _ tt
                    clear tt hr5 HP6
                    go_wp2_with fail
                    refine C9.out.mono ?_
                    rintro e w10 ⟨rfl, hq10⟩
                    have hb10 : Below w9.heap.size w9 w10 := hq10.below
                    have bb := Lib.hid (S8.out.bel.trans (hb10.mono S8.out.bel.size))
                    have zz : w10.heap[w.heap.size]? = some (.cells #[.slice none 0 0, .slice none 0 0, .int .u64 0, .int .u64 0, .bool false] 74 (0, 0)) := (hb10.block _ (lt_of_block S8.out.z)).trans S8.out.z
                    have ttt := (hb10.block _ (lt_of_block S8.out.t)).trans S8.out.t
                    clear C9 y0 y1 y2 y3 y4 fy0 fy1 fy2 fy3 fy4 hq10
                    cases hin : insideB mm sp with
                    | false =>
                      have HV := Lib.hid (HP7.out.trans (if_pos hin))
                      obtain ⟨s0, s1, s2, s3, s4⟩ := zids (W := w10) zz
                      have z0 := cell_of_row (w10) (w.heap.size) 0 _ _ _ zz
                      have fz0 := frozen_of_row (w10) (w.heap.size) 0 _ _ zz
                      have z1 := cell_of_row (w10) (w.heap.size) 1 _ _ _ zz
                      have fz1 := frozen_of_row (w10) (w.heap.size) 1 _ _ zz
                      have z2 := cell_of_row (w10) (w.heap.size) 2 _ _ _ zz
                      have fz2 := frozen_of_row (w10) (w.heap.size) 2 _ _ zz
                      have z3 := cell_of_row (w10) (w.heap.size) 3 _ _ _ zz
                      have fz3 := frozen_of_row (w10) (w.heap.size) 3 _ _ zz
                      have z4 := cell_of_row (w10) (w.heap.size) 4 _ _ _ zz
                      have fz4 := frozen_of_row (w10) (w.heap.size) 4 _ _ zz
                      go_wp2
                      refine bodyPost_ret (results_cell_tmp_row rfl _ _ (w.heap.size) _ _ _ _ rfl zz Tryz.underlying74 rfl infoAck2) rfl ?_
                      unfold DecVal
                      rw [HV.out]
                      exact ⟨rfl, bb.out⟩
                    | true =>
                      have HV := Lib.hid (HP7.out.trans (if_neg (by rw [hin]; simp)))
                      have y0 := cell_of_row w10 g7 0 _ _ _ ttt
                      have fy0 := frozen_of_row w10 g7 0 _ _ ttt
                      have y1 := cell_of_row w10 g7 1 _ _ _ ttt
                      have fy1 := frozen_of_row w10 g7 1 _ _ ttt
                      have y2 := cell_of_row w10 g7 2 _ _ _ ttt
                      have fy2 := frozen_of_row w10 g7 2 _ _ ttt
                      have y3 := cell_of_row w10 g7 3 _ _ _ ttt
                      have fy3 := frozen_of_row w10 g7 3 _ _ ttt
                      have y4 := cell_of_row w10 g7 4 _ _ _ ttt
                      have fy4 := frozen_of_row w10 g7 4 _ _ ttt
                      have z0 := cell_of_row w10 w.heap.size 0 _ _ _ zz
                      have fz0 := frozen_of_row w10 w.heap.size 0 _ _ zz
                      have z1 := cell_of_row w10 w.heap.size 1 _ _ _ zz
                      have fz1 := frozen_of_row w10 w.heap.size 1 _ _ zz
                      have z2 := cell_of_row w10 w.heap.size 2 _ _ _ zz
                      have fz2 := frozen_of_row w10 w.heap.size 2 _ _ zz
                      have z3 := cell_of_row w10 w.heap.size 3 _ _ _ zz
                      have fz3 := frozen_of_row w10 w.heap.size 3 _ _ zz
                      have z4 := cell_of_row w10 w.heap.size 4 _ _ _ zz
                      have fz4 := frozen_of_row w10 w.heap.size 4 _ _ zz
                      have HR : Hid (AkR w10 ⟨A4, c4, A5, c5, sp, mm, tr, xo, od⟩) := Lib.hid (AkR.below ⟨S8.out.rs, S8.out.rm, U4.out, U5.out, UT.out, UX.out⟩ hb10)
                      have NA := Lib.hid (And.intro S8.out.na S8.out.nb)
                      have L0 := Lib.hid (And.intro S8.out.l0 S8.out.l1)
                      clear hin hb10 ttt
                      go_wp2
                      have q1 := heap_setCell_same w10 w.heap.size 0 _ _ (.slice A4 sp.length c4) zz
                      have q2 := heap_setCell_same _ w.heap.size 1 _ _ (.slice A5 mm.length c5) q1
                      have q3 := heap_setCell_same _ w.heap.size 2 _ _ (.int .u64 tr) q2
                      have q4 := heap_setCell_same _ w.heap.size 3 _ _ (.int .u64 xo) q3
                      have q5 := heap_setCell_same _ w.heap.size 4 _ _ (.bool od) q4
                      have hC : Chg (fun j => j = w.heap.size) w10 (((((w10.setCell ⟨w.heap.size, 0, none⟩ (.slice A4 sp.length c4)).setCell ⟨w.heap.size, 1, none⟩ (.slice A5 mm.length c5)).setCell ⟨w.heap.size, 2, none⟩ (.int .u64 tr)).setCell ⟨w.heap.size, 3, none⟩ (.int .u64 xo)).setCell ⟨w.heap.size, 4, none⟩ (.bool od)) :=
                        (((((Chg.refl (fun j => j = w.heap.size) w10).setCell (p := ⟨w.heap.size, 0, none⟩) (.inl rfl) _).setCell (p := ⟨w.heap.size, 1, none⟩) (.inl rfl) _).setCell (p := ⟨w.heap.size, 2, none⟩) (.inl rfl) _).setCell (p := ⟨w.heap.size, 3, none⟩) (.inl rfl) _).setCell (p := ⟨w.heap.size, 4, none⟩) (.inl rfl) _
                      have q6 : _ = some (Obj.cells #[.slice A4 sp.length c4, .slice A5 mm.length c5, .int .u64 tr, .int .u64 xo, .bool od] 74 (0, 0)) := q5.trans (by simp)
                      have lg : w.heap.size < g7 := L0.out.2
                      refine bodyPost_ret (results_cell_tmp_row rfl _ _ (w.heap.size) _ _ _ _ rfl q6 Tryz.underlying74 rfl infoAck2) rfl ?_
                      unfold DecVal
                      rw [HV.out]
                      refine ⟨⟨A4, c4, A5, c5, sp, mm, tr, xo, od⟩, rfl, rfl, rfl, rfl, rfl, rfl, HR.out.chg hC (fun b off e hn hb => by have := NA.out.1 b off e hn; omega) (fun b off e hn hb => by have := NA.out.2 b off e hn; omega), bb.out.trans (hC.below bb.out.size (fun k hk e => by omega)), (fun b off e hn => by have := NA.out.1 b off e hn; omega), (fun b off e hn => by have := NA.out.2 b off e hn; omega)⟩

                    end Go.Proofs.YtpfmhkkglaghgaaGreat
