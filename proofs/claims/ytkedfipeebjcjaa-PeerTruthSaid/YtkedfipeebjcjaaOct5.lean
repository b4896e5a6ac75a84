/-
  An acknowledgment read from bytes: package ack's Decode.
-/
import Derived.Test.YtkedfipeebjcjaaOct1
import Derived.Test.YtkedfipeebjcjaaAck
namespace Go.Proofs.Ytkedfipeebjcjaa
set_option linter.unusedSimpArgs false
set_option linter.unusedVariables false
set_option linter.unnecessarySimpa false
open Go.RowKit

theorem infoAck2 : (Try.prog.info? 48).map (·.size) = some 5 := by kernel_rfl
theorem AkR.chg {w w' : World} {a : Ak} (h : AkR w a) {F : Nat → Prop} (hc : Chg F w w') (h1 : ∀ b off, a.A = some ⟨b, off, none⟩ → 0 < a.sp.length → ¬ F b) (h2 : ∀ b off, a.B = some ⟨b, off, none⟩ → 0 < a.mm.length → ¬ F b) : AkR w' a := ⟨h.rs.chg hc h1, h.rm.chg hc h2, h.us, h.um, h.ut, h.ux⟩
theorem insideB_eq (a b : List Sp) : insideB a b = decide (InsideP a b) := by
  rw [Bool.eq_iff_iff]
  simp only [insideB, List.all_eq_true, List.any_eq_true, Bool.and_eq_true, decide_eq_true_eq]
  exact Iff.rfl
theorem setCell_id {w : World} {g i : Nat} {v : Value} {cs : Array Value} {t : TypeId} {fr : Nat × Nat} (h : w.heap[g]? = some (.cells cs t fr)) (hv : cs[i]? = some v) : w.setCell ⟨g, i, none⟩ v = w := by
  unfold World.setCell
  have e : w.heap.modify g (fun
      | .cells c elem frozen => .cells (if (none : Option Nat).isSome then c else c.setIfInBounds i v) elem frozen
      | o => o) = w.heap := by
    apply Array.ext
    · simp
    · intro j h1 h2
      rw [Array.getElem_modify]
      split
      · rename_i hj
        subst hj
        have : w.heap[g] = .cells cs t fr := by
          rw [Array.getElem?_eq_getElem h2] at h
          injection h
        rw [this]
        simp only [Option.isSome_none, Bool.false_eq_true, if_false]
        congr 1
        apply Array.ext
        · simp
        · intro k k1 k2
          rw [Array.getElem_setIfInBounds]
          split
          · rename_i hk
            subst hk
            rw [Array.getElem?_eq_getElem k2] at hv
            injection hv with hv
            exact hv.symm
          · rfl
      · rfl
  cases w
  simp only [World.mk.injEq, and_true, true_and] at e ⊢
  exact e
def zAck : Array Value := #[.slice none 0 0, .slice none 0 0, .int .u64 0, .int .u64 0, .bool false]
/-- A store of what is there turns nothing. -/
theorem zids {W : World} {g : Nat} (h : W.heap[g]? = some (.cells zAck 48 (0, 0))) :
    W.setCell ⟨g, 0, none⟩ (.slice none 0 0) = W ∧ W.setCell ⟨g, 1, none⟩ (.slice none 0 0) = W ∧ W.setCell ⟨g, 2, none⟩ (.int .u64 0) = W ∧ W.setCell ⟨g, 3, none⟩ (.int .u64 0) = W ∧ W.setCell ⟨g, 4, none⟩ (.bool false) = W :=
  ⟨setCell_id h rfl, setCell_id h rfl, setCell_id h rfl, setCell_id h rfl, setCell_id h rfl⟩

theorem ackP_nil : ackP [] = .error 2 := rfl
theorem ackP_kind {k : Int} {r : List Int} (h : k ≠ 2) : ackP (k :: r) = .error 4 := by unfold ackP; simp only; rw [if_pos h]
theorem ackP_e1 {r : List Int} {e : Int} (h : spansP 1 r = .error e) : ackP (2 :: r) = .error e := by unfold ackP; simp only; rw [if_neg (by decide), h]
theorem ackP_e2 {r r1 : List Int} {sp : List Sp} {e : Int} (h : spansP 1 r = .ok (sp, r1)) (h2 : spansP 0 r1 = .error e) : ackP (2 :: r) = .error e := by unfold ackP; simp only; rw [if_neg (by decide), h]; simp only; rw [h2]
theorem ackP_tail {r r1 r2 : List Int} {sp mm : List Sp} (h : spansP 1 r = .ok (sp, r1)) (h2 : spansP 0 r1 = .ok (mm, r2)) : ackP (2 :: r) = ackTail sp mm r2 := by unfold ackP; simp only; rw [if_neg (by decide), h]; simp only; rw [h2]
theorem tail_e1 {sp mm : List Sp} {b : List Int} {e : Int} (h : wordP b = .error e) : ackTail sp mm b = .error e := by unfold ackTail; rw [h]
theorem tail_e2 {sp mm : List Sp} {b : List Int} {tr e : Int} (h : wordP b = .ok tr) (h2 : wordP (b.drop 8) = .error e) : ackTail sp mm b = .error e := by unfold ackTail; rw [h]; simp only; rw [h2]
theorem tail_3 {sp mm : List Sp} {b : List Int} {tr xo : Int} (h : wordP b = .ok tr) (h2 : wordP (b.drop 8) = .ok xo) (h3 : (b.drop 8).drop 8 = []) : ackTail sp mm b = .error 2 := by unfold ackTail; rw [h]; simp only; rw [h2]; simp only; rw [h3]
theorem tail_4 {sp mm : List Sp} {b r : List Int} {tr xo c : Int} (h : wordP b = .ok tr) (h2 : wordP (b.drop 8) = .ok xo) (h3 : (b.drop 8).drop 8 = c :: r) :
    ackTail sp mm b = if 1 < c then .error 5 else if r.length > 0 then .error 3 else if insideB mm sp = false then .error 5 else .ok ⟨sp, mm, tr, xo, decide (c = 1)⟩ := by unfold ackTail; rw [h]; simp only; rw [h2]; simp only; rw [h3]
theorem wordP_err {b : List Int} {e : Int} (h : wordP b = .error e) : e = 2 := by
  unfold wordP at h
  split at h
  · injection h with h; exact h.symm
  · cases h
theorem wordP_ok {b : List Int} {n : Int} (h : wordP b = .ok n) (hb : ∀ x ∈ b, 0 ≤ x ∧ x ≤ 255) : isU64 n := by
  unfold wordP at h
  split at h
  · cases h
  · rename_i hs
    injection h with h
    subst h
    exact accN_word _ (fun x hx => hb x (List.mem_of_mem_take hx)) (by simp; omega)
theorem spansGo_err : ∀ (k : Nat) (at_ : Int) (b : List Int) (acc : List Sp) (e : Int), spansGo k at_ b acc = .error e → e = 2 ∨ e = 5 := by
  intro k
  induction k with
  | zero => intro at_ b acc e h; cases h
  | succ k ih =>
    intro at_ b acc e h
    unfold spansGo at h
    split at h
    · rename_i e' hn
      injection h with h
      subst h
      exact numP_err hn
    · split at h
      · injection h with h; exact .inr h.symm
      · split at h
        · rename_i e' hn
          injection h with h
          subst h
          exact numP_err hn
        · split at h
          · injection h with h; exact .inr h.symm
          · exact ih _ _ _ _ h
theorem spansP_err {least : Int} {b : List Int} {e : Int} (h : spansP least b = .error e) : e = 2 ∨ e = 5 := by
  unfold spansP at h
  split at h
  · injection h with h; exact .inl h.symm
  · split at h
    · injection h with h; exact .inr h.symm
    · exact spansGo_err _ _ _ _ _ h
theorem gd_u2 {L : List Sp} (h : Gd L) (h0 : ∀ s ∈ L, 0 ≤ s.1) : U2s L := fun s hs => by
  have h1 := h.1 s hs
  have h2 := h0 s hs
  have h3 : s.2 ≤ 4611686018427387903 := h1.2
  have h4 := h1.1
  exact ⟨⟨by omega, by omega⟩, ⟨by omega, by omega⟩⟩

/-- What Decode answers. -/
def DecVal (l : List Int) (w w' : World) (e : Ending) : Prop := match ackP l with
  | .error er => e = .returned (.tuple #[.agg zAck, .int .i64 er]) ∧ Below w.heap.size w w'
  | .ok d => ∃ a : Ak, e = .returned (.tuple #[a.val, .int .i64 0]) ∧ a.sp = d.sp ∧ a.mm = d.mm ∧ a.tr = d.tr ∧ a.xo = d.xo ∧ a.od = d.od ∧ AkR w' a ∧ Below w.heap.size w w' ∧
      (∀ b off, a.A = some ⟨b, off, none⟩ → 0 < a.sp.length → w.heap.size ≤ b) ∧ (∀ b off, a.B = some ⟨b, off, none⟩ → 0 < a.mm.length → w.heap.size ≤ b)

/-- Where the walk stands. -/
structure DcS (w : World) (g0 g7 q B : Nat) (a : Ak) (rest : List Int) (W : World) : Prop where
  z : W.heap[g0]? = some (.cells zAck 48 (0, 0))
  t : W.heap[g7]? = some (.cells #[.slice a.A a.sp.length a.c, .slice a.B a.mm.length a.d, .int .u64 a.tr, .int .u64 a.xo, .bool a.od] 48 (0, 0))
  rd : RdrP W q B rest
  rs : Rd W 2 a.A a.sp.length a.c (Ss a.sp)
  rm : Rd W 2 a.B a.mm.length a.d (Ss a.mm)
  na : ∀ b off, a.A = some ⟨b, off, none⟩ → 0 < a.sp.length → g7 < b
  nb : ∀ b off, a.B = some ⟨b, off, none⟩ → 0 < a.mm.length → g7 < b
  bel : Below w.heap.size w W
  by_ : ∀ x ∈ rest, 0 ≤ x ∧ x ≤ 255
  l0 : w.heap.size ≤ g0
  l1 : g0 < q
  l2 : q < g7
  l3 : B ≤ g7
theorem DcS.chg {w W W' : World} {g0 g7 q B : Nat} {a : Ak} {rest : List Int} {k : Nat} (h : DcS w g0 g7 q B a rest W) (hr : RdrP W' q B (rest.drop k)) (hC : Chg (fun j => j = q) W W') : DcS w g0 g7 q B a (rest.drop k) W' := by
  have h1 := h.l0; have h2 := h.l1; have h3 := h.l2
  exact ⟨hC.blk h.z (fun e => by omega), hC.blk h.t (fun e => by omega), hr, h.rs.chg hC (fun b off e hn hb => by have := h.na b off e hn; omega), h.rm.chg hC (fun b off e hn hb => by have := h.nb b off e hn; omega), h.na, h.nb,
    h.bel.trans (hC.below h.bel.size (fun k hk e => by omega)), U8b_drop h.by_ k, h1, h2, h3, h.l3⟩
theorem DcS.same {w W W' : World} {g0 g7 q B : Nat} {a : Ak} {rest : List Int} (h : DcS w g0 g7 q B a rest W) (hC : Chg (fun j => j = q) W W') : W'.heap[g0]? = some (.cells zAck 48 (0, 0)) ∧ W'.heap[g7]? = some (.cells a.cells 48 (0, 0)) ∧ Below w.heap.size w W' := by
  have h1 := h.l0; have h2 := h.l1; have h3 := h.l2
  exact ⟨hC.blk h.z (fun e => by omega), hC.blk h.t (fun e => by omega), h.bel.trans (hC.below h.bel.size (fun k hk e => by omega))⟩
/-- One field of the acknowledgment has been stored. -/
theorem DcS.put {w W : World} {g0 g7 q B i : Nat} {a a' : Ak} {rest : List Int} (v : Value) (h : DcS w g0 g7 q B a rest W) (hc : a'.cells = a.cells.setIfInBounds i v)
    (h1 : Rd W 2 a'.A a'.sp.length a'.c (Ss a'.sp)) (h2 : Rd W 2 a'.B a'.mm.length a'.d (Ss a'.mm)) (h3 : ∀ b off, a'.A = some ⟨b, off, none⟩ → 0 < a'.sp.length → g7 < b) (h4 : ∀ b off, a'.B = some ⟨b, off, none⟩ → 0 < a'.mm.length → g7 < b) :
    DcS w g0 g7 q B a' rest (W.setCell ⟨g7, i, none⟩ v) := by
  have e1 := h.l0; have e2 := h.l1; have e3 := h.l2
  have hC : Chg (fun j => j = g7) W (W.setCell ⟨g7, i, none⟩ v) := (Chg.refl (fun j => j = g7) W).setCell (p := ⟨g7, i, none⟩) (.inl rfl) _
  obtain ⟨A, c, r1, r2, r3⟩ := h.rd.ex
  refine ⟨hC.blk h.z (fun e => by omega), ?_, ⟨A, c, hC.blk r1 (fun e => by omega), r2.chg hC (fun b off e hn hb => by have := (r3 b off e hn).2; have := h.l3; omega), r3⟩, h1.chg hC (fun b off e hn hb => by have := h3 b off e hn; omega), h2.chg hC (fun b off e hn hb => by have := h4 b off e hn; omega), h3, h4,
    h.bel.trans (hC.below h.bel.size (fun k hk e => by omega)), h.by_, e1, e2, e3, h.l3⟩
  show _ = some (Obj.cells a'.cells _ _)
  rw [hc]
  exact heap_setCell_same W g7 i _ _ v h.t

theorem DcS.err {w W W' : World} {g0 g7 q B : Nat} {a : Ak} {rest : List Int} (h : DcS w g0 g7 q B a rest W) (hC : Chg (fun j => j = q) W W') (i : Nat) (v : Value) :
    W'.heap[g7]? = some (.cells #[.slice a.A a.sp.length a.c, .slice a.B a.mm.length a.d, .int .u64 a.tr, .int .u64 a.xo, .bool a.od] 48 (0, 0)) ∧ (W'.setCell ⟨g7, i, none⟩ v).heap[g0]? = some (.cells #[.slice none 0 0, .slice none 0 0, .int .u64 0, .int .u64 0, .bool false] 48 (0, 0)) ∧ Below w.heap.size w (W'.setCell ⟨g7, i, none⟩ v) := by
  have h1 := h.l0; have h2 := h.l1; have h3 := h.l2
  obtain ⟨e1, e2, e3⟩ := h.same hC
  have hC2 : Chg (fun j => j = g7) W' (W'.setCell ⟨g7, i, none⟩ v) := (Chg.refl (fun j => j = g7) W').setCell (p := ⟨g7, i, none⟩) (.inl rfl) _
  exact ⟨e2, hC2.blk e1 (fun e => by omega), e3.trans (hC2.below e3.size (fun k hk e => by omega))⟩
theorem DcS.lt {w W : World} {g0 g7 q B : Nat} {a : Ak} {rest : List Int} (h : DcS w g0 g7 q B a rest W) : g0 ≠ g7 ∧ g7 ≠ g0 ∧ g0 < W.heap.size ∧ g7 < W.heap.size := by
  have h1 := h.l0; have h2 := h.l1; have h3 := h.l2
  have := lt_of_block h.z
  have := lt_of_block h.t
  exact ⟨by omega, by omega, by omega, by omega⟩

set_option maxHeartbeats 8000000 in
set_option maxRecDepth 100000 in
theorem ack_decode (w : World) (A : Option Addr) (c : Nat) (l : List Int) (h : Rd w 1 A l.length c (U8 l)) (hb : ∀ x ∈ l, 0 ≤ x ∧ x ≤ 255) (hl : l.length ≤ 70368744177664) :
    Calls Try.prog 17 #[.slice A l.length c] w fun e w' => DecVal l w w' e := by
  have H := Lib.hid h
  have HB := Lib.hid hb
  clear h hb
  have e0 := box_below w (.cells zAck 48)
  have Z0 := Lib.hid (heap_alloc_new w (.cells zAck 48))
  have B0 := Lib.hid e0
  have C1 := Lib.hid (rdr_new A c l _ (H.out.below e0) hl)
  clear e0
  go_enter Try.func17, Try.ntmps17
  go_wp2_with fail
  refine C1.out.mono ?_
  rintro e w1 ⟨q, rfl, hq, hb1, hq1⟩
  have Z1 : Hid (w1.heap[w.heap.size]? = some (.cells #[.slice none 0 0, .slice none 0 0, .int .u64 0, .int .u64 0, .bool false] 48 (0, 0))) := Lib.hid ((hb1.block _ (lt_of_block Z0.out)).trans Z0.out)
  have B1 := Lib.hid (B0.out.trans (hb1.mono B0.out.size))
  have hs0 : (w.alloc (.cells zAck 48)).heap.size = w.heap.size + 1 := by simp
  rw [hs0] at hq1
  have Q1 := Lib.hid hq
  have hql := hq.lt
  have LQ : Hid (w.heap.size < q) := Lib.hid (by omega)
  clear C1 Z0 B0 hb1 hq hs0 hq1
  have C2 := Lib.hid (rdr_take w1 q w1.heap.size l 1 Q1.out (by omega))
  go_wp2_with fail
  refine C2.out.mono ?_
  rintro e w2 hv
  unfold TakeVal at hv
  clear C2
  cases l with
  | nil =>
    rw [if_pos (by simp)] at hv
    obtain ⟨rfl, rfl⟩ := hv
    have HV := Lib.hid ackP_nil
    have zz := Z1.out
    obtain ⟨s0, s1, s2, s3, s4⟩ := zids (W := w1) zz
    have z0 := cell_of_row (w1) (w.heap.size) 0 _ _ _ zz
    have fz0 := frozen_of_row (w1) (w.heap.size) 0 _ _ zz
    have z1 := cell_of_row (w1) (w.heap.size) 1 _ _ _ zz
    have fz1 := frozen_of_row (w1) (w.heap.size) 1 _ _ zz
    have z2 := cell_of_row (w1) (w.heap.size) 2 _ _ _ zz
    have fz2 := frozen_of_row (w1) (w.heap.size) 2 _ _ zz
    have z3 := cell_of_row (w1) (w.heap.size) 3 _ _ _ zz
    have fz3 := frozen_of_row (w1) (w.heap.size) 3 _ _ zz
    have z4 := cell_of_row (w1) (w.heap.size) 4 _ _ _ zz
    have fz4 := frozen_of_row (w1) (w.heap.size) 4 _ _ zz
    go_wp2
    refine bodyPost_ret (results_cell_tmp_row rfl _ _ (w.heap.size) _ _ _ _ rfl zz Try.underlying48 rfl infoAck2) rfl ?_
    unfold DecVal
    rw [HV.out]
    exact ⟨rfl, B1.out⟩
  | cons c0 r0 =>
    rw [if_neg (by simp)] at hv
    obtain ⟨A2, c2, rfl, hr, -, hrd, hC⟩ := hv
    have hb0 := HB.out c0 (List.mem_cons_self ..)
    obtain ⟨bk, off, rfl, d0⟩ := hr.u8 (k := 0) (by omega) (by simp)
    simp only [List.take_succ_cons, List.take_zero, List.getElem_cons_zero, Nat.add_zero] at d0
    have hcp := hr.cap
    have R2 : Hid (RdrP w2 q w1.heap.size r0) := Lib.hid hrd
    have Z2 := Lib.hid (hC.blk Z1.out (fun e => by have := LQ.out; omega))
    have B2 := Lib.hid (B1.out.trans (hC.below B1.out.size (fun k hk e => by have := LQ.out; omega)))
    have hsz2 := hC.size
    clear hr hrd hC Z1 B1 Q1
    by_cases hk : c0 ≠ 2
    · have HV := Lib.hid (ackP_kind (r := r0) hk)
      have hk1 : (c0 != 2) = true := by simp; exact hk
      have zz := Z2.out
      obtain ⟨s0, s1, s2, s3, s4⟩ := zids (W := w2) zz
      have z0 := cell_of_row (w2) (w.heap.size) 0 _ _ _ zz
      have fz0 := frozen_of_row (w2) (w.heap.size) 0 _ _ zz
      have z1 := cell_of_row (w2) (w.heap.size) 1 _ _ _ zz
      have fz1 := frozen_of_row (w2) (w.heap.size) 1 _ _ zz
      have z2 := cell_of_row (w2) (w.heap.size) 2 _ _ _ zz
      have fz2 := frozen_of_row (w2) (w.heap.size) 2 _ _ zz
      have z3 := cell_of_row (w2) (w.heap.size) 3 _ _ _ zz
      have fz3 := frozen_of_row (w2) (w.heap.size) 3 _ _ zz
      have z4 := cell_of_row (w2) (w.heap.size) 4 _ _ _ zz
      have fz4 := frozen_of_row (w2) (w.heap.size) 4 _ _ zz
      go_wp2
      refine bodyPost_ret (results_cell_tmp_row rfl _ _ (w.heap.size) _ _ _ _ rfl zz Try.underlying48 rfl infoAck2) rfl ?_
      unfold DecVal
      rw [HV.out]
      exact ⟨rfl, B2.out⟩
    · obtain rfl : c0 = 2 := by omega
      have HBr : Hid (∀ x ∈ r0, 0 ≤ x ∧ x ≤ 255) := Lib.hid (fun x hx => HB.out x (List.mem_cons_of_mem _ hx))
      have e3 := box_below w2 (.cells zAck 48)
      have S3 : Hid (DcS w w.heap.size w2.heap.size q w1.heap.size ⟨none, 0, none, 0, [], [], 0, 0, false⟩ r0 (w2.alloc (.cells zAck 48))) := Lib.hid
        ⟨(e3.block _ (lt_of_block Z2.out)).trans Z2.out, heap_alloc_new w2 _, R2.out.below e3, Rd.nil_ _ _, Rd.nil_ _ _, (fun b off e => by cases e), (fun b off e => by cases e), B2.out.trans (e3.mono B2.out.size), HBr.out, Nat.le_refl _, LQ.out, by omega, hsz2⟩
      clear e3 Z2 B2 R2
      go_wp2_with fail
      have hW : w2.alloc (.cells #[.slice none 0 0, .slice none 0 0, .int .u64 0, .int .u64 0, .bool false] 48) = w2.alloc (.cells zAck 48) := rfl
      rw [hW]
      clear hW d0
      generalize (w2.alloc (.cells zAck 48)) = w3 at *
      generalize w2.heap.size = g7 at *
      generalize w1.heap.size = B at *
      have hne := S3.out.lt
      have C3 := Lib.hid (ack_spans w3 q B r0 1 S3.out.rd HBr.out ⟨by omega, by omega⟩ (by have := S3.out.l3; omega))
      refine C3.out.mono ?_
      rintro e w4 hv
      unfold SpansVal at hv
      cases hp1 : spansP 1 r0 with
      | error er =>
        rw [hp1] at hv
        obtain ⟨rfl, hC⟩ := hv
        have HV := Lib.hid (ackP_e1 hp1)
        have he : (er != 0) = true := by rcases spansP_err hp1 with h | h <;> subst h <;> rfl
        obtain ⟨t5, zz, b6⟩ := S3.out.err hC 0 (.slice none 0 0)
        have y0 := cell_of_row w4 g7 0 _ _ _ t5
        have fy0 := frozen_of_row w4 g7 0 _ _ t5
        clear hC C3 hp1 t5
        obtain ⟨s0, s1, s2, s3, s4⟩ := zids (W := w4.setCell ⟨g7, 0, none⟩ (.slice none 0 0)) zz
        have z0 := cell_of_row (w4.setCell ⟨g7, 0, none⟩ (.slice none 0 0)) (w.heap.size) 0 _ _ _ zz
        have fz0 := frozen_of_row (w4.setCell ⟨g7, 0, none⟩ (.slice none 0 0)) (w.heap.size) 0 _ _ zz
        have z1 := cell_of_row (w4.setCell ⟨g7, 0, none⟩ (.slice none 0 0)) (w.heap.size) 1 _ _ _ zz
        have fz1 := frozen_of_row (w4.setCell ⟨g7, 0, none⟩ (.slice none 0 0)) (w.heap.size) 1 _ _ zz
        have z2 := cell_of_row (w4.setCell ⟨g7, 0, none⟩ (.slice none 0 0)) (w.heap.size) 2 _ _ _ zz
        have fz2 := frozen_of_row (w4.setCell ⟨g7, 0, none⟩ (.slice none 0 0)) (w.heap.size) 2 _ _ zz
        have z3 := cell_of_row (w4.setCell ⟨g7, 0, none⟩ (.slice none 0 0)) (w.heap.size) 3 _ _ _ zz
        have fz3 := frozen_of_row (w4.setCell ⟨g7, 0, none⟩ (.slice none 0 0)) (w.heap.size) 3 _ _ zz
        have z4 := cell_of_row (w4.setCell ⟨g7, 0, none⟩ (.slice none 0 0)) (w.heap.size) 4 _ _ _ zz
        have fz4 := frozen_of_row (w4.setCell ⟨g7, 0, none⟩ (.slice none 0 0)) (w.heap.size) 4 _ _ zz
        go_wp2
        refine bodyPost_ret (results_cell_tmp_row rfl _ _ (w.heap.size) _ _ _ _ rfl zz Try.underlying48 rfl infoAck2) rfl ?_
        unfold DecVal
        rw [HV.out]
        exact ⟨rfl, b6⟩
      | ok p =>
        obtain ⟨sp, r1⟩ := p
        rw [hp1] at hv
        obtain ⟨A4, c4, rfl, hr4, hbl4, hrd4, hC⟩ := hv
        obtain ⟨gd4, gn4, -, ln4, j4, hj4⟩ := spansP_ok HBr.out hp1
        have U4 := Lib.hid (gd_u2 gd4 gn4)
        have G4 := Lib.hid gd4
        subst hj4
        have T4 := Lib.hid (S3.out.chg hrd4 hC)
        have g74 := S3.out.lt.2.2.2
        have S4 : Hid (DcS w w.heap.size g7 q B ⟨A4, c4, none, 0, sp, [], 0, 0, false⟩ (r0.drop j4) (w4.setCell ⟨g7, 0, none⟩ (.slice A4 sp.length c4))) := Lib.hid (T4.out.put _ rfl hr4 (Rd.nil_ _ _) (fun b off e hn => by have := hbl4 b off e hn; omega) (fun b off e => by cases e))
        have tt := T4.out.t
        have y0 := cell_of_row w4 g7 0 _ _ _ tt
        have fy0 := frozen_of_row w4 g7 0 _ _ tt
        have HP1 := Lib.hid hp1
        clear hr4 hbl4 hrd4 hC gd4 gn4 tt T4 S3 C3 hp1 g74
        have C4 := Lib.hid (ack_spans _ q B _ 0 S4.out.rd S4.out.by_ ⟨by omega, by omega⟩ (by have := S4.out.l3; have := S4.out.lt; omega))
        go_wp2_with fail
        clear y0 fy0
        refine C4.out.mono ?_
        rintro e w5 hv
        unfold SpansVal at hv
        cases hp2 : spansP 0 (r0.drop j4) with
        | error er =>
          rw [hp2] at hv
          obtain ⟨rfl, hC⟩ := hv
          have HV := Lib.hid (ackP_e2 HP1.out hp2)
          have he : (er != 0) = true := by rcases spansP_err hp2 with h | h <;> subst h <;> rfl
          obtain ⟨t5, zz, b6⟩ := S4.out.err hC 1 (.slice none 0 0)
          have y0 := cell_of_row w5 g7 1 _ _ _ t5
          have fy0 := frozen_of_row w5 g7 1 _ _ t5
          clear hC C4 hp2 t5
          obtain ⟨s0, s1, s2, s3, s4⟩ := zids (W := w5.setCell ⟨g7, 1, none⟩ (.slice none 0 0)) zz
          have z0 := cell_of_row (w5.setCell ⟨g7, 1, none⟩ (.slice none 0 0)) (w.heap.size) 0 _ _ _ zz
          have fz0 := frozen_of_row (w5.setCell ⟨g7, 1, none⟩ (.slice none 0 0)) (w.heap.size) 0 _ _ zz
          have z1 := cell_of_row (w5.setCell ⟨g7, 1, none⟩ (.slice none 0 0)) (w.heap.size) 1 _ _ _ zz
          have fz1 := frozen_of_row (w5.setCell ⟨g7, 1, none⟩ (.slice none 0 0)) (w.heap.size) 1 _ _ zz
          have z2 := cell_of_row (w5.setCell ⟨g7, 1, none⟩ (.slice none 0 0)) (w.heap.size) 2 _ _ _ zz
          have fz2 := frozen_of_row (w5.setCell ⟨g7, 1, none⟩ (.slice none 0 0)) (w.heap.size) 2 _ _ zz
          have z3 := cell_of_row (w5.setCell ⟨g7, 1, none⟩ (.slice none 0 0)) (w.heap.size) 3 _ _ _ zz
          have fz3 := frozen_of_row (w5.setCell ⟨g7, 1, none⟩ (.slice none 0 0)) (w.heap.size) 3 _ _ zz
          have z4 := cell_of_row (w5.setCell ⟨g7, 1, none⟩ (.slice none 0 0)) (w.heap.size) 4 _ _ _ zz
          have fz4 := frozen_of_row (w5.setCell ⟨g7, 1, none⟩ (.slice none 0 0)) (w.heap.size) 4 _ _ zz
          go_wp2
          refine bodyPost_ret (results_cell_tmp_row rfl _ _ (w.heap.size) _ _ _ _ rfl zz Try.underlying48 rfl infoAck2) rfl ?_
          unfold DecVal
          rw [HV.out]
          exact ⟨rfl, b6⟩
        | ok p =>
          obtain ⟨mm, r2⟩ := p
          rw [hp2] at hv
          obtain ⟨A5, c5, rfl, hr5, hbl5, hrd5, hC⟩ := hv
          obtain ⟨gd5, gn5, -, ln5, j5, hj5⟩ := spansP_ok S4.out.by_ hp2
          have U5 := Lib.hid (gd_u2 gd5 gn5)
          have G5 := Lib.hid gd5
          subst hj5
          have T5 := Lib.hid (S4.out.chg hrd5 hC)
          have g75 := S4.out.lt.2.2.2
          have S5 : Hid (DcS w w.heap.size g7 q B ⟨A4, c4, A5, c5, sp, mm, 0, 0, false⟩ ((r0.drop j4).drop j5) (w5.setCell ⟨g7, 1, none⟩ (.slice A5 mm.length c5))) := Lib.hid (T5.out.put _ rfl T5.out.rs hr5 T5.out.na (fun b off e hn => by have := hbl5 b off e hn; omega))
          have tt := T5.out.t
          have y0 := cell_of_row w5 g7 1 _ _ _ tt
          have fy0 := frozen_of_row w5 g7 1 _ _ tt
          have HP2 : Hid (ackP (2 :: r0) = ackTail sp mm ((r0.drop j4).drop j5)) := Lib.hid (ackP_tail HP1.out hp2)
          generalize (r0.drop j4).drop j5 = r2 at *
          clear hr5 hbl5 hrd5 hC gd5 gn5 tt T5 S4 C4 hp2 g75 HP1
          have C5 := Lib.hid (rdr_word _ q B _ S5.out.rd S5.out.by_)
          go_wp2_with fail
          clear y0 fy0
          refine C5.out.mono ?_
          rintro e w6 hv
          unfold WordVal at hv
          cases hp3 : wordP r2 with
          | error er =>
            rw [hp3] at hv
            obtain ⟨rfl, rfl⟩ := hv
            have HV := Lib.hid (HP2.out.trans (tail_e1 hp3))
            have he : (er != 0) = true := by rw [wordP_err hp3]; rfl
            obtain ⟨t5, zz, b6⟩ := S5.out.err (Chg.refl _ _) 2 (.int .u64 0)
            generalize (w5.setCell ⟨g7, 1, none⟩ (.slice A5 mm.length c5)) = w6 at *
            have y0 := cell_of_row w6 g7 2 _ _ _ t5
            have fy0 := frozen_of_row w6 g7 2 _ _ t5
            clear C5 hp3 t5
            obtain ⟨s0, s1, s2, s3, s4⟩ := zids (W := w6.setCell ⟨g7, 2, none⟩ (.int .u64 0)) zz
            have z0 := cell_of_row (w6.setCell ⟨g7, 2, none⟩ (.int .u64 0)) (w.heap.size) 0 _ _ _ zz
            have fz0 := frozen_of_row (w6.setCell ⟨g7, 2, none⟩ (.int .u64 0)) (w.heap.size) 0 _ _ zz
            have z1 := cell_of_row (w6.setCell ⟨g7, 2, none⟩ (.int .u64 0)) (w.heap.size) 1 _ _ _ zz
            have fz1 := frozen_of_row (w6.setCell ⟨g7, 2, none⟩ (.int .u64 0)) (w.heap.size) 1 _ _ zz
            have z2 := cell_of_row (w6.setCell ⟨g7, 2, none⟩ (.int .u64 0)) (w.heap.size) 2 _ _ _ zz
            have fz2 := frozen_of_row (w6.setCell ⟨g7, 2, none⟩ (.int .u64 0)) (w.heap.size) 2 _ _ zz
            have z3 := cell_of_row (w6.setCell ⟨g7, 2, none⟩ (.int .u64 0)) (w.heap.size) 3 _ _ _ zz
            have fz3 := frozen_of_row (w6.setCell ⟨g7, 2, none⟩ (.int .u64 0)) (w.heap.size) 3 _ _ zz
            have z4 := cell_of_row (w6.setCell ⟨g7, 2, none⟩ (.int .u64 0)) (w.heap.size) 4 _ _ _ zz
            have fz4 := frozen_of_row (w6.setCell ⟨g7, 2, none⟩ (.int .u64 0)) (w.heap.size) 4 _ _ zz
            go_wp2
            refine bodyPost_ret (results_cell_tmp_row rfl _ _ (w.heap.size) _ _ _ _ rfl zz Try.underlying48 rfl infoAck2) rfl ?_
            unfold DecVal
            rw [HV.out]
            exact ⟨rfl, b6⟩
          | ok tr =>
            rw [hp3] at hv
            obtain ⟨rfl, hrd6, hC⟩ := hv
            have UT := Lib.hid (wordP_ok hp3 S5.out.by_)
            have T6 := Lib.hid (S5.out.chg hrd6 hC)
            have S6 : Hid (DcS w w.heap.size g7 q B ⟨A4, c4, A5, c5, sp, mm, tr, 0, false⟩ (r2.drop 8) (w6.setCell ⟨g7, 2, none⟩ (.int .u64 tr))) := Lib.hid (T6.out.put _ rfl T6.out.rs T6.out.rm T6.out.na T6.out.nb)
            have tt := T6.out.t
            have y0 := cell_of_row w6 g7 2 _ _ _ tt
            have fy0 := frozen_of_row w6 g7 2 _ _ tt
            have HP3 := Lib.hid hp3
            clear hrd6 hC tt T6 S5 C5 hp3
            have C6 := Lib.hid (rdr_word _ q B _ S6.out.rd S6.out.by_)
            go_wp2_with fail
            clear y0 fy0
            refine C6.out.mono ?_
            rintro e w7 hv
            unfold WordVal at hv
            cases hp4 : wordP (r2.drop 8) with
            | error er =>
              rw [hp4] at hv
              obtain ⟨rfl, rfl⟩ := hv
              have HV := Lib.hid (HP2.out.trans (tail_e2 HP3.out hp4))
              have he : (er != 0) = true := by rw [wordP_err hp4]; rfl
              obtain ⟨t5, zz, b6⟩ := S6.out.err (Chg.refl _ _) 3 (.int .u64 0)
              generalize (w6.setCell ⟨g7, 2, none⟩ (.int .u64 tr)) = w7 at *
              have y0 := cell_of_row w7 g7 3 _ _ _ t5
              have fy0 := frozen_of_row w7 g7 3 _ _ t5
              clear C6 hp4 t5
              obtain ⟨s0, s1, s2, s3, s4⟩ := zids (W := w7.setCell ⟨g7, 3, none⟩ (.int .u64 0)) zz
              have z0 := cell_of_row (w7.setCell ⟨g7, 3, none⟩ (.int .u64 0)) (w.heap.size) 0 _ _ _ zz
              have fz0 := frozen_of_row (w7.setCell ⟨g7, 3, none⟩ (.int .u64 0)) (w.heap.size) 0 _ _ zz
              have z1 := cell_of_row (w7.setCell ⟨g7, 3, none⟩ (.int .u64 0)) (w.heap.size) 1 _ _ _ zz
              have fz1 := frozen_of_row (w7.setCell ⟨g7, 3, none⟩ (.int .u64 0)) (w.heap.size) 1 _ _ zz
              have z2 := cell_of_row (w7.setCell ⟨g7, 3, none⟩ (.int .u64 0)) (w.heap.size) 2 _ _ _ zz
              have fz2 := frozen_of_row (w7.setCell ⟨g7, 3, none⟩ (.int .u64 0)) (w.heap.size) 2 _ _ zz
              have z3 := cell_of_row (w7.setCell ⟨g7, 3, none⟩ (.int .u64 0)) (w.heap.size) 3 _ _ _ zz
              have fz3 := frozen_of_row (w7.setCell ⟨g7, 3, none⟩ (.int .u64 0)) (w.heap.size) 3 _ _ zz
              have z4 := cell_of_row (w7.setCell ⟨g7, 3, none⟩ (.int .u64 0)) (w.heap.size) 4 _ _ _ zz
              have fz4 := frozen_of_row (w7.setCell ⟨g7, 3, none⟩ (.int .u64 0)) (w.heap.size) 4 _ _ zz
              go_wp2
              refine bodyPost_ret (results_cell_tmp_row rfl _ _ (w.heap.size) _ _ _ _ rfl zz Try.underlying48 rfl infoAck2) rfl ?_
              unfold DecVal
              rw [HV.out]
              exact ⟨rfl, b6⟩
            | ok xo =>
              rw [hp4] at hv
              obtain ⟨rfl, hrd7, hC⟩ := hv
              have UX := Lib.hid (wordP_ok hp4 S6.out.by_)
              have T7 := Lib.hid (S6.out.chg hrd7 hC)
              have S7 : Hid (DcS w w.heap.size g7 q B ⟨A4, c4, A5, c5, sp, mm, tr, xo, false⟩ ((r2.drop 8).drop 8) (w7.setCell ⟨g7, 3, none⟩ (.int .u64 xo))) := Lib.hid (T7.out.put _ rfl T7.out.rs T7.out.rm T7.out.na T7.out.nb)
              have tt := T7.out.t
              have y0 := cell_of_row w7 g7 3 _ _ _ tt
              have fy0 := frozen_of_row w7 g7 3 _ _ tt
              have HP4 := Lib.hid hp4
              clear hrd7 hC tt T7 S6 C6 hp4
              have C7 := Lib.hid (rdr_take _ q B _ 1 S7.out.rd (by omega))
              go_wp2_with fail
              clear y0 fy0
              refine C7.out.mono ?_
              rintro e w8 hv
              unfold TakeVal at hv
              cases hr3 : (r2.drop 8).drop 8 with
              | nil =>
                rw [hr3, if_pos (by simp)] at hv
                obtain ⟨rfl, rfl⟩ := hv
                have HV := Lib.hid (HP2.out.trans (tail_3 HP3.out HP4.out hr3))
                have zz := S7.out.z
                have bb := Lib.hid S7.out.bel
                generalize (w7.setCell ⟨g7, 3, none⟩ (.int .u64 xo)) = w8 at *
                clear C7 hr3
                have zz : w8.heap[w.heap.size]? = some (.cells #[.slice none 0 0, .slice none 0 0, .int .u64 0, .int .u64 0, .bool false] 48 (0, 0)) := zz
                obtain ⟨s0, s1, s2, s3, s4⟩ := zids (W := w8) zz
                have z0 := cell_of_row (w8) (w.heap.size) 0 _ _ _ zz
                have fz0 := frozen_of_row (w8) (w.heap.size) 0 _ _ zz
                have z1 := cell_of_row (w8) (w.heap.size) 1 _ _ _ zz
                have fz1 := frozen_of_row (w8) (w.heap.size) 1 _ _ zz
                have z2 := cell_of_row (w8) (w.heap.size) 2 _ _ _ zz
                have fz2 := frozen_of_row (w8) (w.heap.size) 2 _ _ zz
                have z3 := cell_of_row (w8) (w.heap.size) 3 _ _ _ zz
                have fz3 := frozen_of_row (w8) (w.heap.size) 3 _ _ zz
                have z4 := cell_of_row (w8) (w.heap.size) 4 _ _ _ zz
                have fz4 := frozen_of_row (w8) (w.heap.size) 4 _ _ zz
                go_wp2
                refine bodyPost_ret (results_cell_tmp_row rfl _ _ (w.heap.size) _ _ _ _ rfl zz Try.underlying48 rfl infoAck2) rfl ?_
                unfold DecVal
                rw [HV.out]
                exact ⟨rfl, bb.out⟩
              | cons cc r4 =>
                rw [hr3, if_neg (by simp)] at hv
                obtain ⟨A8, c8, rfl, hr8, -, hrd8, hC⟩ := hv
                have hb8 : 0 ≤ cc ∧ cc ≤ 255 := S7.out.by_ cc (by rw [hr3]; exact List.mem_cons_self ..)
                obtain ⟨bk8, off8, rfl, d8⟩ := hr8.u8 (k := 0) (by omega) (by simp)
                simp only [List.take_succ_cons, List.take_zero, List.getElem_cons_zero, Nat.add_zero] at d8
                have hcp8 := hr8.cap
                have T8 : Hid (DcS w w.heap.size g7 q B ⟨A4, c4, A5, c5, sp, mm, tr, xo, false⟩ r4 w8) := Lib.hid (by have := S7.out.chg (k := 1) (by rw [hr3]; exact hrd8) hC; rw [hr3] at this; exact this)
                have HP5 := Lib.hid (HP2.out.trans (tail_4 HP3.out HP4.out hr3))
                clear hr8 hrd8 hC S7 C7 HP2 HP3 HP4 hr3
                by_cases hc1 : 1 < cc
                · have HV := Lib.hid (HP5.out.trans (if_pos hc1))
                  have hc2 : decide (1 < cc) = true := decide_eq_true hc1
                  have bb := Lib.hid T8.out.bel
                  have zz : w8.heap[w.heap.size]? = some (.cells #[.slice none 0 0, .slice none 0 0, .int .u64 0, .int .u64 0, .bool false] 48 (0, 0)) := T8.out.z
                  obtain ⟨s0, s1, s2, s3, s4⟩ := zids (W := w8) zz
                  have z0 := cell_of_row (w8) (w.heap.size) 0 _ _ _ zz
                  have fz0 := frozen_of_row (w8) (w.heap.size) 0 _ _ zz
                  have z1 := cell_of_row (w8) (w.heap.size) 1 _ _ _ zz
                  have fz1 := frozen_of_row (w8) (w.heap.size) 1 _ _ zz
                  have z2 := cell_of_row (w8) (w.heap.size) 2 _ _ _ zz
                  have fz2 := frozen_of_row (w8) (w.heap.size) 2 _ _ zz
                  have z3 := cell_of_row (w8) (w.heap.size) 3 _ _ _ zz
                  have fz3 := frozen_of_row (w8) (w.heap.size) 3 _ _ zz
                  have z4 := cell_of_row (w8) (w.heap.size) 4 _ _ _ zz
                  have fz4 := frozen_of_row (w8) (w.heap.size) 4 _ _ zz
                  go_wp2
                  refine bodyPost_ret (results_cell_tmp_row rfl _ _ (w.heap.size) _ _ _ _ rfl zz Try.underlying48 rfl infoAck2) rfl ?_
                  unfold DecVal
                  rw [HV.out]
                  exact ⟨rfl, bb.out⟩
                · have HP6 := Lib.hid (HP5.out.trans (if_neg hc1))
                  have hc2 : decide (1 < cc) = false := decide_eq_false hc1
                  have S8 : Hid (DcS w w.heap.size g7 q B ⟨A4, c4, A5, c5, sp, mm, tr, xo, decide (cc = 1)⟩ r4 (w8.setCell ⟨g7, 4, none⟩ (.bool (decide (cc = 1))))) := Lib.hid (T8.out.put _ rfl T8.out.rs T8.out.rm T8.out.na T8.out.nb)
                  have hodd : (cc == 1) = decide (cc = 1) := rfl
                  have tt := T8.out.t
                  have y0 := cell_of_row w8 g7 4 _ _ _ tt
                  have fy0 := frozen_of_row w8 g7 4 _ _ tt
                  generalize hod : decide (cc = 1) = od at *
                  clear tt T8 HP5 hod
                  have C8 := Lib.hid (rdr_left _ q B _ S8.out.rd)
                  go_wp2_with fail
                  clear y0 fy0 d8
                  refine C8.out.mono ?_
                  rintro e w9 ⟨rfl, rfl⟩
                  generalize (w8.setCell ⟨g7, 4, none⟩ (.bool od)) = w9 at *
                  by_cases hr5 : r4.length > 0
                  · have HV := Lib.hid (HP6.out.trans (if_pos hr5))
                    have hr6 : decide ((0 : Int) < (r4.length : Int)) = true := decide_eq_true (by omega)
                    have bb := Lib.hid S8.out.bel
                    have zz : w9.heap[w.heap.size]? = some (.cells #[.slice none 0 0, .slice none 0 0, .int .u64 0, .int .u64 0, .bool false] 48 (0, 0)) := S8.out.z
                    have hr7 : decide (0 < r4.length) = true := decide_eq_true hr5
                    generalize r4.length = m4 at *
                    obtain ⟨s0, s1, s2, s3, s4⟩ := zids (W := w9) zz
                    have z0 := cell_of_row (w9) (w.heap.size) 0 _ _ _ zz
                    have fz0 := frozen_of_row (w9) (w.heap.size) 0 _ _ zz
                    have z1 := cell_of_row (w9) (w.heap.size) 1 _ _ _ zz
                    have fz1 := frozen_of_row (w9) (w.heap.size) 1 _ _ zz
                    have z2 := cell_of_row (w9) (w.heap.size) 2 _ _ _ zz
                    have fz2 := frozen_of_row (w9) (w.heap.size) 2 _ _ zz
                    have z3 := cell_of_row (w9) (w.heap.size) 3 _ _ _ zz
                    have fz3 := frozen_of_row (w9) (w.heap.size) 3 _ _ zz
                    have z4 := cell_of_row (w9) (w.heap.size) 4 _ _ _ zz
                    have fz4 := frozen_of_row (w9) (w.heap.size) 4 _ _ zz
                    go_wp2
                    refine bodyPost_ret (results_cell_tmp_row rfl _ _ (w.heap.size) _ _ _ _ rfl zz Try.underlying48 rfl infoAck2) rfl ?_
                    unfold DecVal
                    rw [HV.out]
                    exact ⟨rfl, bb.out⟩
                  · have HP7 := Lib.hid (HP6.out.trans (if_neg hr5))
                    have hr6 : decide ((0 : Int) < (r4.length : Int)) = false := decide_eq_false (by omega)
                    have hr7 : decide (0 < r4.length) = false := decide_eq_false hr5
                    have C9 := Lib.hid (within_yes A5 A4 mm.length sp.length c5 c4 mm sp w9 S8.out.rm S8.out.rs U5.out U4.out G5.out.good G4.out.good)
                    rw [← insideB_eq] at C9
                    have tt := S8.out.t
                    have y0 := cell_of_row w9 g7 0 _ _ _ tt
                    have fy0 := frozen_of_row w9 g7 0 _ _ tt
                    have y1 := cell_of_row w9 g7 1 _ _ _ tt
                    have fy1 := frozen_of_row w9 g7 1 _ _ tt
                    have y2 := cell_of_row w9 g7 2 _ _ _ tt
                    have fy2 := frozen_of_row w9 g7 2 _ _ tt
                    have y3 := cell_of_row w9 g7 3 _ _ _ tt
                    have fy3 := frozen_of_row w9 g7 3 _ _ tt
                    have y4 := cell_of_row w9 g7 4 _ _ _ tt
                    have fy4 := frozen_of_row w9 g7 4 _ _ tt
                    clear tt hr5 HP6
                    generalize r4.length = m4 at *
                    go_wp2_with fail
                    refine C9.out.mono ?_
                    rintro e w10 ⟨rfl, hb10⟩
                    have bb := Lib.hid (S8.out.bel.trans (hb10.mono S8.out.bel.size))
                    have zz : w10.heap[w.heap.size]? = some (.cells #[.slice none 0 0, .slice none 0 0, .int .u64 0, .int .u64 0, .bool false] 48 (0, 0)) := (hb10.block _ (lt_of_block S8.out.z)).trans S8.out.z
                    have ttt := (hb10.block _ (lt_of_block S8.out.t)).trans S8.out.t
                    clear C9 y0 y1 y2 y3 y4 fy0 fy1 fy2 fy3 fy4
                    cases hin : insideB mm sp with
                    | false =>
                      have HV := Lib.hid (HP7.out.trans (if_pos hin))
                      obtain ⟨s0, s1, s2, s3, s4⟩ := zids (W := w10) zz
                      have z0 := cell_of_row (w10) (w.heap.size) 0 _ _ _ zz
                      have fz0 := frozen_of_row (w10) (w.heap.size) 0 _ _ zz
                      have z1 := cell_of_row (w10) (w.heap.size) 1 _ _ _ zz
                      have fz1 := frozen_of_row (w10) (w.heap.size) 1 _ _ zz
                      have z2 := cell_of_row (w10) (w.heap.size) 2 _ _ _ zz
                      have fz2 := frozen_of_row (w10) (w.heap.size) 2 _ _ zz
                      have z3 := cell_of_row (w10) (w.heap.size) 3 _ _ _ zz
                      have fz3 := frozen_of_row (w10) (w.heap.size) 3 _ _ zz
                      have z4 := cell_of_row (w10) (w.heap.size) 4 _ _ _ zz
                      have fz4 := frozen_of_row (w10) (w.heap.size) 4 _ _ zz
                      go_wp2
                      refine bodyPost_ret (results_cell_tmp_row rfl _ _ (w.heap.size) _ _ _ _ rfl zz Try.underlying48 rfl infoAck2) rfl ?_
                      unfold DecVal
                      rw [HV.out]
                      exact ⟨rfl, bb.out⟩
                    | true =>
                      have HV := Lib.hid (HP7.out.trans (if_neg (by rw [hin]; simp)))
                      have y0 := cell_of_row w10 g7 0 _ _ _ ttt
                      have fy0 := frozen_of_row w10 g7 0 _ _ ttt
                      have y1 := cell_of_row w10 g7 1 _ _ _ ttt
                      have fy1 := frozen_of_row w10 g7 1 _ _ ttt
                      have y2 := cell_of_row w10 g7 2 _ _ _ ttt
                      have fy2 := frozen_of_row w10 g7 2 _ _ ttt
                      have y3 := cell_of_row w10 g7 3 _ _ _ ttt
                      have fy3 := frozen_of_row w10 g7 3 _ _ ttt
                      have y4 := cell_of_row w10 g7 4 _ _ _ ttt
                      have fy4 := frozen_of_row w10 g7 4 _ _ ttt
                      have z0 := cell_of_row w10 w.heap.size 0 _ _ _ zz
                      have fz0 := frozen_of_row w10 w.heap.size 0 _ _ zz
                      have z1 := cell_of_row w10 w.heap.size 1 _ _ _ zz
                      have fz1 := frozen_of_row w10 w.heap.size 1 _ _ zz
                      have z2 := cell_of_row w10 w.heap.size 2 _ _ _ zz
                      have fz2 := frozen_of_row w10 w.heap.size 2 _ _ zz
                      have z3 := cell_of_row w10 w.heap.size 3 _ _ _ zz
                      have fz3 := frozen_of_row w10 w.heap.size 3 _ _ zz
                      have z4 := cell_of_row w10 w.heap.size 4 _ _ _ zz
                      have fz4 := frozen_of_row w10 w.heap.size 4 _ _ zz
                      have HR : Hid (AkR w10 ⟨A4, c4, A5, c5, sp, mm, tr, xo, od⟩) := Lib.hid (AkR.below ⟨S8.out.rs, S8.out.rm, U4.out, U5.out, UT.out, UX.out⟩ hb10)
                      have NA := Lib.hid (And.intro S8.out.na S8.out.nb)
                      have L0 := Lib.hid (And.intro S8.out.l1 S8.out.l2)
                      clear hin hb10 ttt
                      go_wp2
                      have q1 := heap_setCell_same w10 w.heap.size 0 _ _ (.slice A4 sp.length c4) zz
                      have q2 := heap_setCell_same _ w.heap.size 1 _ _ (.slice A5 mm.length c5) q1
                      have q3 := heap_setCell_same _ w.heap.size 2 _ _ (.int .u64 tr) q2
                      have q4 := heap_setCell_same _ w.heap.size 3 _ _ (.int .u64 xo) q3
                      have q5 := heap_setCell_same _ w.heap.size 4 _ _ (.bool od) q4
                      have hC : Chg (fun j => j = w.heap.size) w10 (((((w10.setCell ⟨w.heap.size, 0, none⟩ (.slice A4 sp.length c4)).setCell ⟨w.heap.size, 1, none⟩ (.slice A5 mm.length c5)).setCell ⟨w.heap.size, 2, none⟩ (.int .u64 tr)).setCell ⟨w.heap.size, 3, none⟩ (.int .u64 xo)).setCell ⟨w.heap.size, 4, none⟩ (.bool od)) :=
                        (((((Chg.refl (fun j => j = w.heap.size) w10).setCell (p := ⟨w.heap.size, 0, none⟩) (.inl rfl) _).setCell (p := ⟨w.heap.size, 1, none⟩) (.inl rfl) _).setCell (p := ⟨w.heap.size, 2, none⟩) (.inl rfl) _).setCell (p := ⟨w.heap.size, 3, none⟩) (.inl rfl) _).setCell (p := ⟨w.heap.size, 4, none⟩) (.inl rfl) _
                      have q6 : _ = some (Obj.cells #[.slice A4 sp.length c4, .slice A5 mm.length c5, .int .u64 tr, .int .u64 xo, .bool od] 48 (0, 0)) := q5.trans (by simp)
                      have lg : w.heap.size < g7 := by have := L0.out; omega
                      refine bodyPost_ret (results_cell_tmp_row rfl _ _ (w.heap.size) _ _ _ _ rfl q6 Try.underlying48 rfl infoAck2) rfl ?_
                      unfold DecVal
                      rw [HV.out]
                      refine ⟨⟨A4, c4, A5, c5, sp, mm, tr, xo, od⟩, rfl, rfl, rfl, rfl, rfl, rfl, HR.out.chg hC (fun b off e hn hb => by have := NA.out.1 b off e hn; omega) (fun b off e hn hb => by have := NA.out.2 b off e hn; omega), bb.out.trans (hC.below bb.out.size (fun k hk e => by omega)), (fun b off e hn => by have := NA.out.1 b off e hn; omega), (fun b off e hn => by have := NA.out.2 b off e hn; omega)⟩

end Go.Proofs.Ytkedfipeebjcjaa
