/-
  Part of the proof of EngineRanges.
-/
import Derived.Test.YtpkbimmhimgamaaPAK
namespace Go.Proofs.Ytpkbimmhimgamaa
set_option linter.unusedSimpArgs false
set_option linter.unusedVariables false
set_option linter.unnecessarySimpa false
open Go.RowKit
theorem infoData : (Try.prog.info? 74).map (·.size) = some 6 := by kernel_rfl
def zDat : Array Value := #[.int .u64 0, .int .u64 0, .int .u64 0, .int .u64 0, .int .i64 0, .slice none 0 0]
theorem zidD {W : World} {g : Nat} (h : W.heap[g]? = some (.cells zDat 74 (0, 0))) :
    W.setCell ⟨g, 0, none⟩ (.int .u64 0) = W ∧ W.setCell ⟨g, 1, none⟩ (.int .u64 0) = W ∧ W.setCell ⟨g, 2, none⟩ (.int .u64 0) = W ∧ W.setCell ⟨g, 3, none⟩ (.int .u64 0) = W ∧ W.setCell ⟨g, 4, none⟩ (.int .i64 0) = W ∧ W.setCell ⟨g, 5, none⟩ (.slice none 0 0) = W :=
  ⟨setCell_id h rfl, setCell_id h rfl, setCell_id h rfl, setCell_id h rfl, setCell_id h rfl, setCell_id h rfl⟩

def datR4 (ecn pn least off : Int) (r : List Int) : Except Int DatD := match wordP r with
  | .error e => .error e
  | .ok nonce => datTail ecn pn least off nonce (r.drop 8)
def datR3 (ecn pn least : Int) (r : List Int) : Except Int DatD := match numP r with
  | .error e => .error e
  | .ok (off, j) => datR4 ecn pn least off (r.drop j)
def datR2 (ecn pn : Int) (r : List Int) : Except Int DatD := match numP r with
  | .error e => .error e
  | .ok (least, j) => if pn < least then .error 5 else datR3 ecn pn least (r.drop j)
theorem datP_nil : datP [] = .error 2 := rfl
theorem datP_kind {k : Int} {r : List Int} (h : k ≠ 1) : datP (k :: r) = .error 4 := by unfold datP; simp only; rw [if_pos h]
theorem datP_one : datP [1] = .error 2 := by unfold datP; simp only; rw [if_neg (by decide)]
theorem datP_ecn {c : Int} {r : List Int} (h : c < 1 ∨ 3 < c) : datP (1 :: c :: r) = .error 5 := by unfold datP; simp only; rw [if_neg (by decide), if_pos h]
theorem datP_rest {c : Int} {r : List Int} (h : ¬ (c < 1 ∨ 3 < c)) : datP (1 :: c :: r) = datRest c r := by unfold datP; simp only; rw [if_neg (by decide), if_neg h]
theorem dat1_e {ecn e : Int} {r : List Int} (h : numP r = .error e) : datRest ecn r = .error e := by unfold datRest; rw [h]
theorem dat1_k {ecn pn : Int} {r : List Int} {j : Nat} (h : numP r = .ok (pn, j)) : datRest ecn r = datR2 ecn pn (r.drop j) := by unfold datRest; rw [h]; rfl
theorem dat2_e {ecn pn e : Int} {r : List Int} (h : numP r = .error e) : datR2 ecn pn r = .error e := by unfold datR2; rw [h]
theorem dat2_k {ecn pn least : Int} {r : List Int} {j : Nat} (h : numP r = .ok (least, j)) : datR2 ecn pn r = if pn < least then .error 5 else datR3 ecn pn least (r.drop j) := by unfold datR2; rw [h]
theorem dat3_e {ecn pn least e : Int} {r : List Int} (h : numP r = .error e) : datR3 ecn pn least r = .error e := by unfold datR3; rw [h]
theorem dat3_k {ecn pn least off : Int} {r : List Int} {j : Nat} (h : numP r = .ok (off, j)) : datR3 ecn pn least r = datR4 ecn pn least off (r.drop j) := by unfold datR3; rw [h]
theorem dat4_e {ecn pn least off e : Int} {r : List Int} (h : wordP r = .error e) : datR4 ecn pn least off r = .error e := by unfold datR4; rw [h]
theorem dat4_k {ecn pn least off nonce : Int} {r : List Int} (h : wordP r = .ok nonce) : datR4 ecn pn least off r = datTail ecn pn least off nonce (r.drop 8) := by unfold datR4; rw [h]
theorem dat5_e {ecn pn least off nonce e : Int} {r : List Int} (h : numP r = .error e) : datTail ecn pn least off nonce r = .error e := by unfold datTail; rw [h]
theorem dat5_k {ecn pn least off nonce n : Int} {r : List Int} {j : Nat} (h : numP r = .ok (n, j)) : datTail ecn pn least off nonce r = if n < 1 ∨ 1500 < n ∨ 4611686018427387903 - n < off then .error 5 else
    if ((r.drop j).length : Int) < n then .error 2 else
    if n < ((r.drop j).length : Int) then .error 3 else .ok ⟨pn, least, off, nonce, ecn, r.drop j⟩ := by unfold datTail; rw [h]

/-- A packet's cells. -/
def DatD.cells (d : DatD) (A : Option Addr) (n c : Nat) : Array Value := #[.int .u64 d.pn, .int .u64 d.least, .int .u64 d.off, .int .u64 d.nonce, .int .i64 d.ecn, .slice A n c]
/-- What Decode answers. -/
def DatVal (l : List Int) (w w' : World) (e : Ending) : Prop := match datP l with
  | .error er => e = .returned (.tuple #[.agg zDat, .int .i64 er]) ∧ Below w.heap.size w w'
  | .ok d => ∃ A c, e = .returned (.tuple #[.agg (d.cells A d.body.length c), .int .i64 0]) ∧ Rd w' 1 A d.body.length c (U8 d.body) ∧ Below w.heap.size w w' ∧ (∀ b off, A = some ⟨b, off, none⟩ → 0 < d.body.length → w.heap.size ≤ b)

/-- Where the walk stands. -/
structure DaS (w : World) (g0 g7 q B : Nat) (d : DatD) (rest : List Int) (W : World) : Prop where
  z : W.heap[g0]? = some (.cells zDat 74 (0, 0))
  t : W.heap[g7]? = some (.cells #[.int .u64 d.pn, .int .u64 d.least, .int .u64 d.off, .int .u64 d.nonce, .int .i64 d.ecn, .slice none 0 0] 74 (0, 0))
  rd : RdrP W q B rest
  bel : Below w.heap.size w W
  by_ : ∀ x ∈ rest, 0 ≤ x ∧ x ≤ 255
  l0 : w.heap.size ≤ g0
  l1 : g0 < q
  l2 : q < g7
  l3 : B ≤ g7
theorem DaS.chg {w W W' : World} {g0 g7 q B : Nat} {a : DatD} {rest : List Int} {k : Nat} (h : DaS w g0 g7 q B a rest W) (hr : RdrP W' q B (rest.drop k)) (hC : Chg (fun j => j = q) W W') : DaS w g0 g7 q B a (rest.drop k) W' := by
  have h1 := h.l0; have h2 := h.l1; have h3 := h.l2
  exact ⟨hC.blk h.z (fun e => by omega), hC.blk h.t (fun e => by omega), hr,
    h.bel.trans (hC.below h.bel.size (fun k hk e => by omega)), U8b_drop h.by_ k, h1, h2, h3, h.l3⟩
/-- One field has been stored. -/
theorem DaS.put {w W : World} {g0 g7 q B i : Nat} {a a' : DatD} {rest : List Int} (v : Value) (h : DaS w g0 g7 q B a rest W) (hc : a'.cells none 0 0 = (a.cells none 0 0).setIfInBounds i v) :
    DaS w g0 g7 q B a' rest (W.setCell ⟨g7, i, none⟩ v) := by
  have e1 := h.l0; have e2 := h.l1; have e3 := h.l2
  have hC : Chg (fun j => j = g7) W (W.setCell ⟨g7, i, none⟩ v) := (Chg.refl (fun j => j = g7) W).setCell (p := ⟨g7, i, none⟩) (.inl rfl) _
  obtain ⟨A, c, r1, r2, r3⟩ := h.rd.ex
  refine ⟨hC.blk h.z (fun e => by omega), ?_, ⟨A, c, hC.blk r1 (fun e => by omega), r2.chg hC (fun b off e hn hb => by have := (r3 b off e hn).2; have := h.l3; omega), r3⟩,
    h.bel.trans (hC.below h.bel.size (fun k hk e => by omega)), h.by_, e1, e2, e3, h.l3⟩
  show _ = some (Obj.cells (a'.cells none 0 0) _ _)
  rw [hc]
  exact heap_setCell_same W g7 i _ _ v h.t
theorem DaS.err {w W W' : World} {g0 g7 q B : Nat} {a : DatD} {rest : List Int} (h : DaS w g0 g7 q B a rest W) (hC : Chg (fun j => j = q) W W') (i : Nat) (v : Value) :
    W'.heap[g7]? = some (.cells #[.int .u64 a.pn, .int .u64 a.least, .int .u64 a.off, .int .u64 a.nonce, .int .i64 a.ecn, .slice none 0 0] 74 (0, 0)) ∧ (W'.setCell ⟨g7, i, none⟩ v).heap[g0]? = some (.cells #[.int .u64 0, .int .u64 0, .int .u64 0, .int .u64 0, .int .i64 0, .slice none 0 0] 74 (0, 0)) ∧ Below w.heap.size w (W'.setCell ⟨g7, i, none⟩ v) := by
  have h1 := h.l0; have h2 := h.l1; have h3 := h.l2
  have e1 := hC.blk h.t (fun e => by omega)
  have e2 := hC.blk h.z (fun e => by omega)
  have e3 := h.bel.trans (hC.below h.bel.size (fun k hk e => by omega))
  have hC2 : Chg (fun j => j = g7) W' (W'.setCell ⟨g7, i, none⟩ v) := (Chg.refl (fun j => j = g7) W').setCell (p := ⟨g7, i, none⟩) (.inl rfl) _
  exact ⟨e1, hC2.blk e2 (fun e => by omega), e3.trans (hC2.below e3.size (fun k hk e => by omega))⟩
theorem DaS.lt {w W : World} {g0 g7 q B : Nat} {a : DatD} {rest : List Int} (h : DaS w g0 g7 q B a rest W) : g0 ≠ g7 ∧ g7 ≠ g0 ∧ g0 < W.heap.size ∧ g7 < W.heap.size := by
  have h1 := h.l0; have h2 := h.l1; have h3 := h.l2
  have := lt_of_block h.z
  have := lt_of_block h.t
  exact ⟨by omega, by omega, by omega, by omega⟩
theorem ecn_any (n : Int) (w : World) : Calls Try.prog 46 #[.int .i64 n] w fun e w' => e = .returned (.bool (decide (1 ≤ n ∧ n ≤ 3))) ∧ w = w' := by
  by_cases h1 : n = 1
  · subst h1
    go_enter Try.func46, Try.ntmps46
    go_wp2
    go_ret
    exact ⟨rfl, rfl⟩
  · by_cases h2 : n = 2
    · subst h2
      go_enter Try.func46, Try.ntmps46
      go_wp2
      go_ret
      exact ⟨rfl, rfl⟩
    · by_cases h3 : n = 3
      · subst h3
        go_enter Try.func46, Try.ntmps46
        go_wp2
        go_ret
        exact ⟨rfl, rfl⟩
      · rw [decide_eq_false (show ¬ (1 ≤ n ∧ n ≤ 3) by omega)]
        have e1 : (n == 1) = false := by simp; exact h1
        have e2 : (n == 2) = false := by simp; exact h2
        have e3 : (n == 3) = false := by simp; exact h3
        go_enter Try.func46, Try.ntmps46
        go_wp2
        go_ret
        exact ⟨rfl, rfl⟩
set_option maxHeartbeats 8000000 in
set_option maxRecDepth 100000 in
theorem head_decode (w : World) (A : Option Addr) (c : Nat) (l : List Int) (h : Rd w 1 A l.length c (U8 l)) (hb : ∀ x ∈ l, 0 ≤ x ∧ x ≤ 255) (hl : l.length ≤ 70368744177664) :
    Calls Try.prog 20 #[.slice A l.length c] w fun e w' => DatVal l w w' e := by
  have H := Lib.hid h
  have HB := Lib.hid hb
  clear h hb
  have e0 := box_below w (.cells zDat 74)
  have Z0 := Lib.hid (heap_alloc_new w (.cells zDat 74))
  have B0 := Lib.hid e0
  have C1 := Lib.hid (rdr_new A c l _ (H.out.below e0) hl)
  clear e0
  go_enter Try.func20, Try.ntmps20
  go_wp2_with fail
  refine C1.out.mono ?_
  rintro e w1 ⟨q, rfl, hq, hb1, hq1⟩
  have Z1 : Hid (w1.heap[w.heap.size]? = some (.cells #[.int .u64 0, .int .u64 0, .int .u64 0, .int .u64 0, .int .i64 0, .slice none 0 0] 74 (0, 0))) := Lib.hid ((hb1.block _ (lt_of_block Z0.out)).trans Z0.out)
  have B1 := Lib.hid (B0.out.trans (hb1.mono B0.out.size))
  have hs0 : (w.alloc (.cells zDat 74)).heap.size = w.heap.size + 1 := by simp
  rw [hs0] at hq1
  have Q1 := Lib.hid hq
  have hql := hq.lt
  have LQ : Hid (w.heap.size < q) := Lib.hid (by omega)
  clear C1 Z0 B0 hb1 hq hs0 hq1
  have C2 := Lib.hid (rdr_take w1 q w1.heap.size l 1 Q1.out (by omega))
  go_wp2_with fail
  refine C2.out.mono ?_
  rintro e w2 hv
  unfold TakeVal at hv
  clear C2
  cases l with
  | nil =>
    rw [if_pos (by simp)] at hv
    obtain ⟨rfl, rfl⟩ := hv
    have HV := Lib.hid datP_nil
    have BB := Lib.hid B1.out
    have zz := Z1.out
    obtain ⟨s0, s1, s2, s3, s4, s5⟩ := zidD (W := w1) zz
    have z0 := cell_of_row (w1) (w.heap.size) 0 _ _ _ zz
    have fz0 := frozen_of_row (w1) (w.heap.size) 0 _ _ zz
    have z1 := cell_of_row (w1) (w.heap.size) 1 _ _ _ zz
    have fz1 := frozen_of_row (w1) (w.heap.size) 1 _ _ zz
    have z2 := cell_of_row (w1) (w.heap.size) 2 _ _ _ zz
    have fz2 := frozen_of_row (w1) (w.heap.size) 2 _ _ zz
    have z3 := cell_of_row (w1) (w.heap.size) 3 _ _ _ zz
    have fz3 := frozen_of_row (w1) (w.heap.size) 3 _ _ zz
    have z4 := cell_of_row (w1) (w.heap.size) 4 _ _ _ zz
    have fz4 := frozen_of_row (w1) (w.heap.size) 4 _ _ zz
    have z5 := cell_of_row (w1) (w.heap.size) 5 _ _ _ zz
    have fz5 := frozen_of_row (w1) (w.heap.size) 5 _ _ zz
    go_wp2
    refine bodyPost_ret (results_cell_tmp_row rfl _ _ (w.heap.size) _ _ _ _ rfl zz Try.underlying74 rfl infoData) rfl ?_
    unfold DatVal
    rw [HV.out]
    exact ⟨rfl, BB.out⟩
  | cons c0 r0 =>
    rw [if_neg (by simp)] at hv
    obtain ⟨A2, c2, rfl, hr, -, hrd, hC⟩ := hv
    have hb0 := HB.out c0 (List.mem_cons_self ..)
    obtain ⟨bk, off, rfl, d0⟩ := hr.u8 (k := 0) (by omega) (by simp)
    simp only [List.take_succ_cons, List.take_zero, List.getElem_cons_zero, Nat.add_zero] at d0
    have hcp := hr.cap
    have R2 : Hid (RdrP w2 q w1.heap.size r0) := Lib.hid hrd
    have Z2 := Lib.hid (hC.blk Z1.out (fun e => by have := LQ.out; omega))
    have B2 := Lib.hid (B1.out.trans (hC.below B1.out.size (fun k hk e => by have := LQ.out; omega)))
    have hsz2 := hC.size
    clear hr hrd hC Z1 B1 Q1
    by_cases hk : c0 ≠ 1
    · have HV := Lib.hid (datP_kind (r := r0) hk)
      have hk1 : (c0 != 1) = true := by simp; exact hk
      have zz := Z2.out
      obtain ⟨s0, s1, s2, s3, s4, s5⟩ := zidD (W := w2) zz
      have z0 := cell_of_row (w2) (w.heap.size) 0 _ _ _ zz
      have fz0 := frozen_of_row (w2) (w.heap.size) 0 _ _ zz
      have z1 := cell_of_row (w2) (w.heap.size) 1 _ _ _ zz
      have fz1 := frozen_of_row (w2) (w.heap.size) 1 _ _ zz
      have z2 := cell_of_row (w2) (w.heap.size) 2 _ _ _ zz
      have fz2 := frozen_of_row (w2) (w.heap.size) 2 _ _ zz
      have z3 := cell_of_row (w2) (w.heap.size) 3 _ _ _ zz
      have fz3 := frozen_of_row (w2) (w.heap.size) 3 _ _ zz
      have z4 := cell_of_row (w2) (w.heap.size) 4 _ _ _ zz
      have fz4 := frozen_of_row (w2) (w.heap.size) 4 _ _ zz
      have z5 := cell_of_row (w2) (w.heap.size) 5 _ _ _ zz
      have fz5 := frozen_of_row (w2) (w.heap.size) 5 _ _ zz
      go_wp2
      refine bodyPost_ret (results_cell_tmp_row rfl _ _ (w.heap.size) _ _ _ _ rfl zz Try.underlying74 rfl infoData) rfl ?_
      unfold DatVal
      rw [HV.out]
      exact ⟨rfl, B2.out⟩
    · obtain rfl : c0 = 1 := by omega
      have HBr : Hid (∀ x ∈ r0, 0 ≤ x ∧ x ≤ 255) := Lib.hid (fun x hx => HB.out x (List.mem_cons_of_mem _ hx))
      have e3 := box_below w2 (.cells zDat 74)
      have S0 : Hid (DaS w w.heap.size w2.heap.size q w1.heap.size ⟨0, 0, 0, 0, 0, []⟩ r0 (w2.alloc (.cells zDat 74))) := Lib.hid
        ⟨(e3.block _ (lt_of_block Z2.out)).trans Z2.out, heap_alloc_new w2 _, R2.out.below e3, B2.out.trans (e3.mono B2.out.size), HBr.out, Nat.le_refl _, LQ.out, by omega, hsz2⟩
      clear e3 Z2 B2 R2
      go_wp2_with fail
      have hW : w2.alloc (.cells #[.int .u64 0, .int .u64 0, .int .u64 0, .int .u64 0, .int .i64 0, .slice none 0 0] 74) = w2.alloc (.cells zDat 74) := rfl
      rw [hW]
      clear hW d0
      generalize (w2.alloc (.cells zDat 74)) = w3 at *
      generalize w2.heap.size = g7 at *
      generalize w1.heap.size = B at *
      have hne := S0.out.lt
      have C3 := Lib.hid (rdr_take w3 q B r0 1 S0.out.rd (by omega))
      refine C3.out.mono ?_
      rintro e w4 hv
      unfold TakeVal at hv
      clear C3
      cases r0 with
      | nil =>
        rw [if_pos (by simp)] at hv
        obtain ⟨rfl, rfl⟩ := hv
        have HV := Lib.hid datP_one
        have bb := Lib.hid S0.out.bel
        have zz : w3.heap[w.heap.size]? = some (.cells #[.int .u64 0, .int .u64 0, .int .u64 0, .int .u64 0, .int .i64 0, .slice none 0 0] 74 (0, 0)) := S0.out.z
        obtain ⟨s0, s1, s2, s3, s4, s5⟩ := zidD (W := w3) zz
        have z0 := cell_of_row (w3) (w.heap.size) 0 _ _ _ zz
        have fz0 := frozen_of_row (w3) (w.heap.size) 0 _ _ zz
        have z1 := cell_of_row (w3) (w.heap.size) 1 _ _ _ zz
        have fz1 := frozen_of_row (w3) (w.heap.size) 1 _ _ zz
        have z2 := cell_of_row (w3) (w.heap.size) 2 _ _ _ zz
        have fz2 := frozen_of_row (w3) (w.heap.size) 2 _ _ zz
        have z3 := cell_of_row (w3) (w.heap.size) 3 _ _ _ zz
        have fz3 := frozen_of_row (w3) (w.heap.size) 3 _ _ zz
        have z4 := cell_of_row (w3) (w.heap.size) 4 _ _ _ zz
        have fz4 := frozen_of_row (w3) (w.heap.size) 4 _ _ zz
        have z5 := cell_of_row (w3) (w.heap.size) 5 _ _ _ zz
        have fz5 := frozen_of_row (w3) (w.heap.size) 5 _ _ zz
        go_wp2
        refine bodyPost_ret (results_cell_tmp_row rfl _ _ (w.heap.size) _ _ _ _ rfl zz Try.underlying74 rfl infoData) rfl ?_
        unfold DatVal
        rw [HV.out]
        exact ⟨rfl, bb.out⟩
      | cons cc r1 =>
        rw [if_neg (by simp)] at hv
        obtain ⟨A8, c8, rfl, hr8, -, hrd8, hC⟩ := hv
        have hb8 : 0 ≤ cc ∧ cc ≤ 255 := S0.out.by_ cc (List.mem_cons_self ..)
        obtain ⟨bk8, off8, rfl, d8⟩ := hr8.u8 (k := 0) (by omega) (by simp)
        simp only [List.take_succ_cons, List.take_zero, List.getElem_cons_zero, Nat.add_zero] at d8
        have hcp8 := hr8.cap
        have T0 : Hid (DaS w w.heap.size g7 q B ⟨0, 0, 0, 0, 0, []⟩ r1 w4) := Lib.hid (S0.out.chg (k := 1) hrd8 hC)
        have S1 : Hid (DaS w w.heap.size g7 q B ⟨0, 0, 0, 0, cc, []⟩ r1 (w4.setCell ⟨g7, 4, none⟩ (.int .i64 cc))) := Lib.hid (T0.out.put _ rfl)
        have tt := T0.out.t
        have y4 := cell_of_row w4 g7 4 _ _ _ tt
        have fy4 := frozen_of_row w4 g7 4 _ _ tt
        have wcc : IntKind.i64.wrap cc = cc := by simp [IntKind.wrap, IntKind.bits, IntKind.signed]; omega
        clear hr8 hrd8 hC S0 tt T0
        have tt := S1.out.t
        have x4 := cell_of_row _ g7 4 _ _ _ tt
        clear tt
        have C4 := Lib.hid (ecn_any cc (w4.setCell ⟨g7, 4, none⟩ (.int .i64 cc)))
        go_wp2_with fail
        refine C4.out.mono ?_
        rintro e w5 ⟨rfl, rfl⟩
        clear C4 d8 y4 fy4
        generalize (w4.setCell ⟨g7, 4, none⟩ (.int .i64 cc)) = v1 at *
        by_cases hec : cc < 1 ∨ 3 < cc
        · have HV := Lib.hid (datP_ecn (r := r1) hec)
          have hdc : decide (1 ≤ cc ∧ cc ≤ 3) = false := decide_eq_false (by omega)
          have bb := Lib.hid S1.out.bel
          have zz : v1.heap[w.heap.size]? = some (.cells #[.int .u64 0, .int .u64 0, .int .u64 0, .int .u64 0, .int .i64 0, .slice none 0 0] 74 (0, 0)) := S1.out.z
          clear x4
          rw [hdc]
          obtain ⟨s0, s1, s2, s3, s4, s5⟩ := zidD (W := v1) zz
          have z0 := cell_of_row (v1) (w.heap.size) 0 _ _ _ zz
          have fz0 := frozen_of_row (v1) (w.heap.size) 0 _ _ zz
          have z1 := cell_of_row (v1) (w.heap.size) 1 _ _ _ zz
          have fz1 := frozen_of_row (v1) (w.heap.size) 1 _ _ zz
          have z2 := cell_of_row (v1) (w.heap.size) 2 _ _ _ zz
          have fz2 := frozen_of_row (v1) (w.heap.size) 2 _ _ zz
          have z3 := cell_of_row (v1) (w.heap.size) 3 _ _ _ zz
          have fz3 := frozen_of_row (v1) (w.heap.size) 3 _ _ zz
          have z4 := cell_of_row (v1) (w.heap.size) 4 _ _ _ zz
          have fz4 := frozen_of_row (v1) (w.heap.size) 4 _ _ zz
          have z5 := cell_of_row (v1) (w.heap.size) 5 _ _ _ zz
          have fz5 := frozen_of_row (v1) (w.heap.size) 5 _ _ zz
          go_wp2
          refine bodyPost_ret (results_cell_tmp_row rfl _ _ (w.heap.size) _ _ _ _ rfl zz Try.underlying74 rfl infoData) rfl ?_
          unfold DatVal
          rw [HV.out]
          exact ⟨rfl, bb.out⟩
        · have HP0 := Lib.hid (datP_rest (r := r1) hec)
          have hdc : decide (1 ≤ cc ∧ cc ≤ 3) = true := decide_eq_true (by omega)
          have HEC : Hid (1 ≤ cc ∧ cc ≤ 3) := Lib.hid (by omega)
          rw [hdc]
          clear x4 hec hdc
          have D1 := Lib.hid (rdr_num v1 q B _ S1.out.rd S1.out.by_)
          go_wp2_with fail
          refine D1.out.mono ?_
          rintro e u1 hv
          unfold NumVal at hv
          clear D1
          cases hp : numP r1 with
          | error er =>
            rw [hp] at hv
            obtain ⟨rfl, rfl⟩ := hv
            have HV := Lib.hid (HP0.out.trans (dat1_e hp))
            have he : (er != 0) = true := by rcases numP_err hp with h | h <;> subst h <;> rfl
            obtain ⟨t5, zz, b6⟩ := S1.out.err (Chg.refl _ _) 0 (.int .u64 0)
            have y0 := cell_of_row v1 g7 0 _ _ _ t5
            have fy0 := frozen_of_row v1 g7 0 _ _ t5
            have bb := Lib.hid b6
            clear hp t5 b6
            obtain ⟨s0, s1, s2, s3, s4, s5⟩ := zidD (W := v1.setCell ⟨g7, 0, none⟩ (.int .u64 0)) zz
            have z0 := cell_of_row (v1.setCell ⟨g7, 0, none⟩ (.int .u64 0)) (w.heap.size) 0 _ _ _ zz
            have fz0 := frozen_of_row (v1.setCell ⟨g7, 0, none⟩ (.int .u64 0)) (w.heap.size) 0 _ _ zz
            have z1 := cell_of_row (v1.setCell ⟨g7, 0, none⟩ (.int .u64 0)) (w.heap.size) 1 _ _ _ zz
            have fz1 := frozen_of_row (v1.setCell ⟨g7, 0, none⟩ (.int .u64 0)) (w.heap.size) 1 _ _ zz
            have z2 := cell_of_row (v1.setCell ⟨g7, 0, none⟩ (.int .u64 0)) (w.heap.size) 2 _ _ _ zz
            have fz2 := frozen_of_row (v1.setCell ⟨g7, 0, none⟩ (.int .u64 0)) (w.heap.size) 2 _ _ zz
            have z3 := cell_of_row (v1.setCell ⟨g7, 0, none⟩ (.int .u64 0)) (w.heap.size) 3 _ _ _ zz
            have fz3 := frozen_of_row (v1.setCell ⟨g7, 0, none⟩ (.int .u64 0)) (w.heap.size) 3 _ _ zz
            have z4 := cell_of_row (v1.setCell ⟨g7, 0, none⟩ (.int .u64 0)) (w.heap.size) 4 _ _ _ zz
            have fz4 := frozen_of_row (v1.setCell ⟨g7, 0, none⟩ (.int .u64 0)) (w.heap.size) 4 _ _ zz
            have z5 := cell_of_row (v1.setCell ⟨g7, 0, none⟩ (.int .u64 0)) (w.heap.size) 5 _ _ _ zz
            have fz5 := frozen_of_row (v1.setCell ⟨g7, 0, none⟩ (.int .u64 0)) (w.heap.size) 5 _ _ zz
            go_wp2
            refine bodyPost_ret (results_cell_tmp_row rfl _ _ (w.heap.size) _ _ _ _ rfl zz Try.underlying74 rfl infoData) rfl ?_
            unfold DatVal
            rw [HV.out]
            exact ⟨rfl, bb.out⟩
          | ok p =>
            obtain ⟨pn, j1⟩ := p
            rw [hp] at hv
            obtain ⟨rfl, hrd, hC⟩ := hv
            have N1 := Lib.hid (numP_ok hp S1.out.by_)
            have T := Lib.hid (S1.out.chg hrd hC)
            have HP1 := Lib.hid (HP0.out.trans (dat1_k hp))
            have S2 : Hid (DaS w w.heap.size g7 q B ⟨pn, 0, 0, 0, cc, []⟩ (r1.drop j1) (u1.setCell ⟨g7, 0, none⟩ (.int .u64 pn))) := Lib.hid (T.out.put _ rfl)
            have tt := T.out.t
            have y0 := cell_of_row u1 g7 0 _ _ _ tt
            have fy0 := frozen_of_row u1 g7 0 _ _ tt
            generalize (r1.drop j1) = r2 at *
            clear hp hrd hC tt T S1
            have D2 := Lib.hid (rdr_num (u1.setCell ⟨g7, 0, none⟩ (.int .u64 pn)) q B _ S2.out.rd S2.out.by_)
            go_wp2_with fail
            refine D2.out.mono ?_
            rintro e u2 hv
            unfold NumVal at hv
            clear D2
            cases hp : numP r2 with
            | error er =>
              rw [hp] at hv
              obtain ⟨rfl, rfl⟩ := hv
              have HV := Lib.hid (HP1.out.trans (dat2_e hp))
              have he : (er != 0) = true := by rcases numP_err hp with h | h <;> subst h <;> rfl
              obtain ⟨t5, zz, b6⟩ := S2.out.err (Chg.refl _ _) 1 (.int .u64 0)
              have y0 := cell_of_row (u1.setCell ⟨g7, 0, none⟩ (.int .u64 pn)) g7 1 _ _ _ t5
              have fy0 := frozen_of_row (u1.setCell ⟨g7, 0, none⟩ (.int .u64 pn)) g7 1 _ _ t5
              have bb := Lib.hid b6
              clear hp t5 b6
              obtain ⟨s0, s1, s2, s3, s4, s5⟩ := zidD (W := (u1.setCell ⟨g7, 0, none⟩ (.int .u64 pn)).setCell ⟨g7, 1, none⟩ (.int .u64 0)) zz
              have z0 := cell_of_row ((u1.setCell ⟨g7, 0, none⟩ (.int .u64 pn)).setCell ⟨g7, 1, none⟩ (.int .u64 0)) (w.heap.size) 0 _ _ _ zz
              have fz0 := frozen_of_row ((u1.setCell ⟨g7, 0, none⟩ (.int .u64 pn)).setCell ⟨g7, 1, none⟩ (.int .u64 0)) (w.heap.size) 0 _ _ zz
              have z1 := cell_of_row ((u1.setCell ⟨g7, 0, none⟩ (.int .u64 pn)).setCell ⟨g7, 1, none⟩ (.int .u64 0)) (w.heap.size) 1 _ _ _ zz
              have fz1 := frozen_of_row ((u1.setCell ⟨g7, 0, none⟩ (.int .u64 pn)).setCell ⟨g7, 1, none⟩ (.int .u64 0)) (w.heap.size) 1 _ _ zz
              have z2 := cell_of_row ((u1.setCell ⟨g7, 0, none⟩ (.int .u64 pn)).setCell ⟨g7, 1, none⟩ (.int .u64 0)) (w.heap.size) 2 _ _ _ zz
              have fz2 := frozen_of_row ((u1.setCell ⟨g7, 0, none⟩ (.int .u64 pn)).setCell ⟨g7, 1, none⟩ (.int .u64 0)) (w.heap.size) 2 _ _ zz
              have z3 := cell_of_row ((u1.setCell ⟨g7, 0, none⟩ (.int .u64 pn)).setCell ⟨g7, 1, none⟩ (.int .u64 0)) (w.heap.size) 3 _ _ _ zz
              have fz3 := frozen_of_row ((u1.setCell ⟨g7, 0, none⟩ (.int .u64 pn)).setCell ⟨g7, 1, none⟩ (.int .u64 0)) (w.heap.size) 3 _ _ zz
              have z4 := cell_of_row ((u1.setCell ⟨g7, 0, none⟩ (.int .u64 pn)).setCell ⟨g7, 1, none⟩ (.int .u64 0)) (w.heap.size) 4 _ _ _ zz
              have fz4 := frozen_of_row ((u1.setCell ⟨g7, 0, none⟩ (.int .u64 pn)).setCell ⟨g7, 1, none⟩ (.int .u64 0)) (w.heap.size) 4 _ _ zz
              have z5 := cell_of_row ((u1.setCell ⟨g7, 0, none⟩ (.int .u64 pn)).setCell ⟨g7, 1, none⟩ (.int .u64 0)) (w.heap.size) 5 _ _ _ zz
              have fz5 := frozen_of_row ((u1.setCell ⟨g7, 0, none⟩ (.int .u64 pn)).setCell ⟨g7, 1, none⟩ (.int .u64 0)) (w.heap.size) 5 _ _ zz
              go_wp2
              refine bodyPost_ret (results_cell_tmp_row rfl _ _ (w.heap.size) _ _ _ _ rfl zz Try.underlying74 rfl infoData) rfl ?_
              unfold DatVal
              rw [HV.out]
              exact ⟨rfl, bb.out⟩
            | ok p =>
              obtain ⟨least, j2⟩ := p
              rw [hp] at hv
              obtain ⟨rfl, hrd, hC⟩ := hv
              have N2 := Lib.hid (numP_ok hp S2.out.by_)
              have T := Lib.hid (S2.out.chg hrd hC)
              have HP2 := Lib.hid (HP1.out.trans (dat2_k hp))
              have S3 : Hid (DaS w w.heap.size g7 q B ⟨pn, least, 0, 0, cc, []⟩ (r2.drop j2) (u2.setCell ⟨g7, 1, none⟩ (.int .u64 least))) := Lib.hid (T.out.put _ rfl)
              have tt := T.out.t
              have y0 := cell_of_row u2 g7 1 _ _ _ tt
              have fy0 := frozen_of_row u2 g7 1 _ _ tt
              generalize (r2.drop j2) = r3 at *
              clear hp hrd hC tt T S2
              have tt := S3.out.t
              have x0 := cell_of_row _ g7 0 _ _ _ tt
              have x1 := cell_of_row _ g7 1 _ _ _ tt
              clear tt
              by_cases hlt : pn < least
              · have HV := Lib.hid (HP2.out.trans (if_pos hlt))
                have h1 : decide (pn < least) = true := decide_eq_true hlt
                have h2 : decide (least > pn) = true := decide_eq_true hlt
                have bb := Lib.hid S3.out.bel
                have zz : (u2.setCell ⟨g7, 1, none⟩ (.int .u64 least)).heap[w.heap.size]? = some (.cells #[.int .u64 0, .int .u64 0, .int .u64 0, .int .u64 0, .int .i64 0, .slice none 0 0] 74 (0, 0)) := S3.out.z
                obtain ⟨s0, s1, s2, s3, s4, s5⟩ := zidD (W := (u2.setCell ⟨g7, 1, none⟩ (.int .u64 least))) zz
                have z0 := cell_of_row ((u2.setCell ⟨g7, 1, none⟩ (.int .u64 least))) (w.heap.size) 0 _ _ _ zz
                have fz0 := frozen_of_row ((u2.setCell ⟨g7, 1, none⟩ (.int .u64 least))) (w.heap.size) 0 _ _ zz
                have z1 := cell_of_row ((u2.setCell ⟨g7, 1, none⟩ (.int .u64 least))) (w.heap.size) 1 _ _ _ zz
                have fz1 := frozen_of_row ((u2.setCell ⟨g7, 1, none⟩ (.int .u64 least))) (w.heap.size) 1 _ _ zz
                have z2 := cell_of_row ((u2.setCell ⟨g7, 1, none⟩ (.int .u64 least))) (w.heap.size) 2 _ _ _ zz
                have fz2 := frozen_of_row ((u2.setCell ⟨g7, 1, none⟩ (.int .u64 least))) (w.heap.size) 2 _ _ zz
                have z3 := cell_of_row ((u2.setCell ⟨g7, 1, none⟩ (.int .u64 least))) (w.heap.size) 3 _ _ _ zz
                have fz3 := frozen_of_row ((u2.setCell ⟨g7, 1, none⟩ (.int .u64 least))) (w.heap.size) 3 _ _ zz
                have z4 := cell_of_row ((u2.setCell ⟨g7, 1, none⟩ (.int .u64 least))) (w.heap.size) 4 _ _ _ zz
                have fz4 := frozen_of_row ((u2.setCell ⟨g7, 1, none⟩ (.int .u64 least))) (w.heap.size) 4 _ _ zz
                have z5 := cell_of_row ((u2.setCell ⟨g7, 1, none⟩ (.int .u64 least))) (w.heap.size) 5 _ _ _ zz
                have fz5 := frozen_of_row ((u2.setCell ⟨g7, 1, none⟩ (.int .u64 least))) (w.heap.size) 5 _ _ zz
                go_wp2
                refine bodyPost_ret (results_cell_tmp_row rfl _ _ (w.heap.size) _ _ _ _ rfl zz Try.underlying74 rfl infoData) rfl ?_
                unfold DatVal
                rw [HV.out]
                exact ⟨rfl, bb.out⟩
              · have HPb := Lib.hid (HP2.out.trans (if_neg hlt))
                have HLE : Hid (least ≤ pn) := Lib.hid (by omega)
                have h1 : decide (pn < least) = false := decide_eq_false hlt
                have h2 : decide (least > pn) = false := decide_eq_false hlt
                clear HP2 hlt
                have D3 := Lib.hid (rdr_num (u2.setCell ⟨g7, 1, none⟩ (.int .u64 least)) q B _ S3.out.rd S3.out.by_)
                go_wp2_with fail
                refine D3.out.mono ?_
                rintro e u3 hv
                unfold NumVal at hv
                clear D3
                cases hp : numP r3 with
                | error er =>
                  rw [hp] at hv
                  obtain ⟨rfl, rfl⟩ := hv
                  have HV := Lib.hid (HPb.out.trans (dat3_e hp))
                  have he : (er != 0) = true := by rcases numP_err hp with h | h <;> subst h <;> rfl
                  obtain ⟨t5, zz, b6⟩ := S3.out.err (Chg.refl _ _) 2 (.int .u64 0)
                  have y0 := cell_of_row (u2.setCell ⟨g7, 1, none⟩ (.int .u64 least)) g7 2 _ _ _ t5
                  have fy0 := frozen_of_row (u2.setCell ⟨g7, 1, none⟩ (.int .u64 least)) g7 2 _ _ t5
                  have bb := Lib.hid b6
                  clear hp t5 b6
                  obtain ⟨s0, s1, s2, s3, s4, s5⟩ := zidD (W := (u2.setCell ⟨g7, 1, none⟩ (.int .u64 least)).setCell ⟨g7, 2, none⟩ (.int .u64 0)) zz
                  have z0 := cell_of_row ((u2.setCell ⟨g7, 1, none⟩ (.int .u64 least)).setCell ⟨g7, 2, none⟩ (.int .u64 0)) (w.heap.size) 0 _ _ _ zz
                  have fz0 := frozen_of_row ((u2.setCell ⟨g7, 1, none⟩ (.int .u64 least)).setCell ⟨g7, 2, none⟩ (.int .u64 0)) (w.heap.size) 0 _ _ zz
                  have z1 := cell_of_row ((u2.setCell ⟨g7, 1, none⟩ (.int .u64 least)).setCell ⟨g7, 2, none⟩ (.int .u64 0)) (w.heap.size) 1 _ _ _ zz
                  have fz1 := frozen_of_row ((u2.setCell ⟨g7, 1, none⟩ (.int .u64 least)).setCell ⟨g7, 2, none⟩ (.int .u64 0)) (w.heap.size) 1 _ _ zz
                  have z2 := cell_of_row ((u2.setCell ⟨g7, 1, none⟩ (.int .u64 least)).setCell ⟨g7, 2, none⟩ (.int .u64 0)) (w.heap.size) 2 _ _ _ zz
                  have fz2 := frozen_of_row ((u2.setCell ⟨g7, 1, none⟩ (.int .u64 least)).setCell ⟨g7, 2, none⟩ (.int .u64 0)) (w.heap.size) 2 _ _ zz
                  have z3 := cell_of_row ((u2.setCell ⟨g7, 1, none⟩ (.int .u64 least)).setCell ⟨g7, 2, none⟩ (.int .u64 0)) (w.heap.size) 3 _ _ _ zz
                  have fz3 := frozen_of_row ((u2.setCell ⟨g7, 1, none⟩ (.int .u64 least)).setCell ⟨g7, 2, none⟩ (.int .u64 0)) (w.heap.size) 3 _ _ zz
                  have z4 := cell_of_row ((u2.setCell ⟨g7, 1, none⟩ (.int .u64 least)).setCell ⟨g7, 2, none⟩ (.int .u64 0)) (w.heap.size) 4 _ _ _ zz
                  have fz4 := frozen_of_row ((u2.setCell ⟨g7, 1, none⟩ (.int .u64 least)).setCell ⟨g7, 2, none⟩ (.int .u64 0)) (w.heap.size) 4 _ _ zz
                  have z5 := cell_of_row ((u2.setCell ⟨g7, 1, none⟩ (.int .u64 least)).setCell ⟨g7, 2, none⟩ (.int .u64 0)) (w.heap.size) 5 _ _ _ zz
                  have fz5 := frozen_of_row ((u2.setCell ⟨g7, 1, none⟩ (.int .u64 least)).setCell ⟨g7, 2, none⟩ (.int .u64 0)) (w.heap.size) 5 _ _ zz
                  go_wp2
                  refine bodyPost_ret (results_cell_tmp_row rfl _ _ (w.heap.size) _ _ _ _ rfl zz Try.underlying74 rfl infoData) rfl ?_
                  unfold DatVal
                  rw [HV.out]
                  exact ⟨rfl, bb.out⟩
                | ok p =>
                  obtain ⟨off, j3⟩ := p
                  rw [hp] at hv
                  obtain ⟨rfl, hrd, hC⟩ := hv
                  have N3 := Lib.hid (numP_ok hp S3.out.by_)
                  have T := Lib.hid (S3.out.chg hrd hC)
                  have HP3 := Lib.hid (HPb.out.trans (dat3_k hp))
                  have S4 : Hid (DaS w w.heap.size g7 q B ⟨pn, least, off, 0, cc, []⟩ (r3.drop j3) (u3.setCell ⟨g7, 2, none⟩ (.int .u64 off))) := Lib.hid (T.out.put _ rfl)
                  have tt := T.out.t
                  have y0 := cell_of_row u3 g7 2 _ _ _ tt
                  have fy0 := frozen_of_row u3 g7 2 _ _ tt
                  generalize (r3.drop j3) = r4 at *
                  clear hp hrd hC tt T S3
                  have D4 := Lib.hid (rdr_word (u3.setCell ⟨g7, 2, none⟩ (.int .u64 off)) q B _ S4.out.rd S4.out.by_)
                  go_wp2_with fail
                  refine D4.out.mono ?_
                  rintro e u4 hv
                  unfold WordVal at hv
                  clear D4
                  cases hp : wordP r4 with
                  | error er =>
                    rw [hp] at hv
                    obtain ⟨rfl, rfl⟩ := hv
                    have HV := Lib.hid (HP3.out.trans (dat4_e hp))
                    have he : (er != 0) = true := by rw [wordP_err hp]; rfl
                    obtain ⟨t5, zz, b6⟩ := S4.out.err (Chg.refl _ _) 3 (.int .u64 0)
                    have y0 := cell_of_row (u3.setCell ⟨g7, 2, none⟩ (.int .u64 off)) g7 3 _ _ _ t5
                    have fy0 := frozen_of_row (u3.setCell ⟨g7, 2, none⟩ (.int .u64 off)) g7 3 _ _ t5
                    have bb := Lib.hid b6
                    clear hp t5 b6
                    obtain ⟨s0, s1, s2, s3, s4, s5⟩ := zidD (W := (u3.setCell ⟨g7, 2, none⟩ (.int .u64 off)).setCell ⟨g7, 3, none⟩ (.int .u64 0)) zz
                    have z0 := cell_of_row ((u3.setCell ⟨g7, 2, none⟩ (.int .u64 off)).setCell ⟨g7, 3, none⟩ (.int .u64 0)) (w.heap.size) 0 _ _ _ zz
                    have fz0 := frozen_of_row ((u3.setCell ⟨g7, 2, none⟩ (.int .u64 off)).setCell ⟨g7, 3, none⟩ (.int .u64 0)) (w.heap.size) 0 _ _ zz
                    have z1 := cell_of_row ((u3.setCell ⟨g7, 2, none⟩ (.int .u64 off)).setCell ⟨g7, 3, none⟩ (.int .u64 0)) (w.heap.size) 1 _ _ _ zz
                    have fz1 := frozen_of_row ((u3.setCell ⟨g7, 2, none⟩ (.int .u64 off)).setCell ⟨g7, 3, none⟩ (.int .u64 0)) (w.heap.size) 1 _ _ zz
                    have z2 := cell_of_row ((u3.setCell ⟨g7, 2, none⟩ (.int .u64 off)).setCell ⟨g7, 3, none⟩ (.int .u64 0)) (w.heap.size) 2 _ _ _ zz
                    have fz2 := frozen_of_row ((u3.setCell ⟨g7, 2, none⟩ (.int .u64 off)).setCell ⟨g7, 3, none⟩ (.int .u64 0)) (w.heap.size) 2 _ _ zz
                    have z3 := cell_of_row ((u3.setCell ⟨g7, 2, none⟩ (.int .u64 off)).setCell ⟨g7, 3, none⟩ (.int .u64 0)) (w.heap.size) 3 _ _ _ zz
                    have fz3 := frozen_of_row ((u3.setCell ⟨g7, 2, none⟩ (.int .u64 off)).setCell ⟨g7, 3, none⟩ (.int .u64 0)) (w.heap.size) 3 _ _ zz
                    have z4 := cell_of_row ((u3.setCell ⟨g7, 2, none⟩ (.int .u64 off)).setCell ⟨g7, 3, none⟩ (.int .u64 0)) (w.heap.size) 4 _ _ _ zz
                    have fz4 := frozen_of_row ((u3.setCell ⟨g7, 2, none⟩ (.int .u64 off)).setCell ⟨g7, 3, none⟩ (.int .u64 0)) (w.heap.size) 4 _ _ zz
                    have z5 := cell_of_row ((u3.setCell ⟨g7, 2, none⟩ (.int .u64 off)).setCell ⟨g7, 3, none⟩ (.int .u64 0)) (w.heap.size) 5 _ _ _ zz
                    have fz5 := frozen_of_row ((u3.setCell ⟨g7, 2, none⟩ (.int .u64 off)).setCell ⟨g7, 3, none⟩ (.int .u64 0)) (w.heap.size) 5 _ _ zz
                    go_wp2
                    refine bodyPost_ret (results_cell_tmp_row rfl _ _ (w.heap.size) _ _ _ _ rfl zz Try.underlying74 rfl infoData) rfl ?_
                    unfold DatVal
                    rw [HV.out]
                    exact ⟨rfl, bb.out⟩
                  | ok nonce =>
                    rw [hp] at hv
                    obtain ⟨rfl, hrd, hC⟩ := hv
                    have N4 := Lib.hid (wordP_ok hp S4.out.by_)
                    have T := Lib.hid (S4.out.chg hrd hC)
                    have HP4 := Lib.hid (HP3.out.trans (dat4_k hp))
                    have S5 : Hid (DaS w w.heap.size g7 q B ⟨pn, least, off, nonce, cc, []⟩ (r4.drop 8) (u4.setCell ⟨g7, 3, none⟩ (.int .u64 nonce))) := Lib.hid (T.out.put _ rfl)
                    have tt := T.out.t
                    have y0 := cell_of_row u4 g7 3 _ _ _ tt
                    have fy0 := frozen_of_row u4 g7 3 _ _ tt
                    generalize (r4.drop 8) = r5 at *
                    clear hp hrd hC tt T S4
                    have D5 := Lib.hid (rdr_num (u4.setCell ⟨g7, 3, none⟩ (.int .u64 nonce)) q B _ S5.out.rd S5.out.by_)
                    go_wp2_with fail
                    refine D5.out.mono ?_
                    rintro e u5 hv
                    unfold NumVal at hv
                    clear D5 y0 fy0 x0 x1
                    generalize (u4.setCell ⟨g7, 3, none⟩ (.int .u64 nonce)) = v5 at *
                    cases hp : numP r5 with
                    | error er =>
                      rw [hp] at hv
                      obtain ⟨rfl, rfl⟩ := hv
                      have HV := Lib.hid (HP4.out.trans (dat5_e hp))
                      have he : (er != 0) = true := by rcases numP_err hp with h | h <;> subst h <;> rfl
                      have bb := Lib.hid S5.out.bel
                      have zz : v5.heap[w.heap.size]? = some (.cells #[.int .u64 0, .int .u64 0, .int .u64 0, .int .u64 0, .int .i64 0, .slice none 0 0] 74 (0, 0)) := S5.out.z
                      clear hp
                      obtain ⟨s0, s1, s2, s3, s4, s5⟩ := zidD (W := v5) zz
                      have z0 := cell_of_row (v5) (w.heap.size) 0 _ _ _ zz
                      have fz0 := frozen_of_row (v5) (w.heap.size) 0 _ _ zz
                      have z1 := cell_of_row (v5) (w.heap.size) 1 _ _ _ zz
                      have fz1 := frozen_of_row (v5) (w.heap.size) 1 _ _ zz
                      have z2 := cell_of_row (v5) (w.heap.size) 2 _ _ _ zz
                      have fz2 := frozen_of_row (v5) (w.heap.size) 2 _ _ zz
                      have z3 := cell_of_row (v5) (w.heap.size) 3 _ _ _ zz
                      have fz3 := frozen_of_row (v5) (w.heap.size) 3 _ _ zz
                      have z4 := cell_of_row (v5) (w.heap.size) 4 _ _ _ zz
                      have fz4 := frozen_of_row (v5) (w.heap.size) 4 _ _ zz
                      have z5 := cell_of_row (v5) (w.heap.size) 5 _ _ _ zz
                      have fz5 := frozen_of_row (v5) (w.heap.size) 5 _ _ zz
                      go_wp2
                      refine bodyPost_ret (results_cell_tmp_row rfl _ _ (w.heap.size) _ _ _ _ rfl zz Try.underlying74 rfl infoData) rfl ?_
                      unfold DatVal
                      rw [HV.out]
                      exact ⟨rfl, bb.out⟩
                    | ok p =>
                      obtain ⟨n, j5⟩ := p
                      rw [hp] at hv
                      obtain ⟨rfl, hrd, hC⟩ := hv
                      have N5 := Lib.hid (numP_ok hp S5.out.by_)
                      have S6 : Hid (DaS w w.heap.size g7 q B ⟨pn, least, off, nonce, cc, []⟩ (r5.drop j5) u5) := Lib.hid (S5.out.chg hrd hC)
                      have HP5 := Lib.hid (HP4.out.trans (dat5_k hp))
                      have tt := S6.out.t
                      have x0 := cell_of_row u5 g7 0 _ _ _ tt
                      have fx0 := frozen_of_row u5 g7 0 _ _ tt
                      have x1 := cell_of_row u5 g7 1 _ _ _ tt
                      have fx1 := frozen_of_row u5 g7 1 _ _ tt
                      have x2 := cell_of_row u5 g7 2 _ _ _ tt
                      have fx2 := frozen_of_row u5 g7 2 _ _ tt
                      have x3 := cell_of_row u5 g7 3 _ _ _ tt
                      have fx3 := frozen_of_row u5 g7 3 _ _ tt
                      have x4 := cell_of_row u5 g7 4 _ _ _ tt
                      have fx4 := frozen_of_row u5 g7 4 _ _ tt
                      have x5 := cell_of_row u5 g7 5 _ _ _ tt
                      have fx5 := frozen_of_row u5 g7 5 _ _ tt
                      generalize (r5.drop j5) = r6 at *
                      clear hp hrd hC tt S5
                      have hn0 := N5.out.2.2.1
                      have hn1 := N5.out.2.2.2
                      have ho0 := N3.out.2.2.1
                      have ho1 := N3.out.2.2.2
                      have wsub : IntKind.u64.wrap (4611686018427387903 - n) = 4611686018427387903 - n := IntWalk.u64_in _ (by omega)
                      by_cases hbad : n < 1 ∨ 1500 < n ∨ 4611686018427387903 - n < off
                      · have HV := Lib.hid (HP5.out.trans (if_pos hbad))
                        have bb := Lib.hid S6.out.bel
                        have zz : u5.heap[w.heap.size]? = some (.cells #[.int .u64 0, .int .u64 0, .int .u64 0, .int .u64 0, .int .i64 0, .slice none 0 0] 74 (0, 0)) := S6.out.z
                        obtain ⟨s0, s1, s2, s3, s4, s5⟩ := zidD (W := u5) zz
                        have z0 := cell_of_row u5 (w.heap.size) 0 _ _ _ zz
                        have fz0 := frozen_of_row u5 (w.heap.size) 0 _ _ zz
                        have z1 := cell_of_row u5 (w.heap.size) 1 _ _ _ zz
                        have fz1 := frozen_of_row u5 (w.heap.size) 1 _ _ zz
                        have z2 := cell_of_row u5 (w.heap.size) 2 _ _ _ zz
                        have fz2 := frozen_of_row u5 (w.heap.size) 2 _ _ zz
                        have z3 := cell_of_row u5 (w.heap.size) 3 _ _ _ zz
                        have fz3 := frozen_of_row u5 (w.heap.size) 3 _ _ zz
                        have z4 := cell_of_row u5 (w.heap.size) 4 _ _ _ zz
                        have fz4 := frozen_of_row u5 (w.heap.size) 4 _ _ zz
                        have z5 := cell_of_row u5 (w.heap.size) 5 _ _ _ zz
                        have fz5 := frozen_of_row u5 (w.heap.size) 5 _ _ zz
                        by_cases b1 : n < 1
                        · have h1 : decide (n < 1) = true := decide_eq_true b1
                          go_wp2
                          refine bodyPost_ret (results_cell_tmp_row rfl _ _ (w.heap.size) _ _ _ _ rfl zz Try.underlying74 rfl infoData) rfl ?_
                          unfold DatVal
                          rw [HV.out]
                          exact ⟨rfl, bb.out⟩
                        · have h1 : decide (n < 1) = false := decide_eq_false b1
                          by_cases b2 : 1500 < n
                          · have h2 : decide (1500 < n) = true := decide_eq_true b2
                            have h3 : decide (n > 1500) = true := decide_eq_true b2
                            go_wp2
                            refine bodyPost_ret (results_cell_tmp_row rfl _ _ (w.heap.size) _ _ _ _ rfl zz Try.underlying74 rfl infoData) rfl ?_
                            unfold DatVal
                            rw [HV.out]
                            exact ⟨rfl, bb.out⟩
                          · have h2 : decide (1500 < n) = false := decide_eq_false b2
                            have h3 : decide (n > 1500) = false := decide_eq_false b2
                            have b3 : 4611686018427387903 - n < off := by omega
                            have h4 : decide (4611686018427387903 - n < off) = true := decide_eq_true b3
                            have h5 : decide (off > 4611686018427387903 - n) = true := decide_eq_true b3
                            go_wp2
                            refine bodyPost_ret (results_cell_tmp_row rfl _ _ (w.heap.size) _ _ _ _ rfl zz Try.underlying74 rfl infoData) rfl ?_
                            unfold DatVal
                            rw [HV.out]
                            exact ⟨rfl, bb.out⟩
                      · have HP6 := Lib.hid (HP5.out.trans (if_neg hbad))
                        have b1 : 1 ≤ n := by omega
                        have b2 : n ≤ 1500 := by omega
                        have h1 : decide (n < 1) = false := decide_eq_false (by omega)
                        have h2 : decide (1500 < n) = false := decide_eq_false (by omega)
                        have h3 : decide (n > 1500) = false := decide_eq_false (by omega)
                        have h4 : decide (4611686018427387903 - n < off) = false := decide_eq_false (by omega)
                        have h5 : decide (off > 4611686018427387903 - n) = false := decide_eq_false (by omega)
                        clear hbad HP5
                        obtain ⟨m, rfl⟩ : ∃ m : Nat, n = (m : Int) := ⟨n.toNat, by omega⟩
                        have wm : IntKind.i64.wrap (m : Int) = m := by simp [IntKind.wrap, IntKind.bits, IntKind.signed]; omega
                        have D6 := Lib.hid (rdr_take u5 q B r6 m S6.out.rd (by omega))
                        go_wp2_with fail
                        refine D6.out.mono ?_
                        rintro e u6 hv
                        unfold TakeVal at hv
                        clear D6 h1 h2 h3 h4 h5 wsub x0 x1 x2 x3 x4 x5 fx0 fx1 fx2 fx3 fx4 fx5
                        by_cases hsh : r6.length < m
                        · rw [if_pos hsh] at hv
                          obtain ⟨rfl, rfl⟩ := hv
                          have HV := Lib.hid (HP6.out.trans (if_pos (by omega)))
                          obtain ⟨t5, zz, b6⟩ := S6.out.err (Chg.refl _ _) 5 (.slice none 0 0)
                          have y0 := cell_of_row u5 g7 5 _ _ _ t5
                          have fy0 := frozen_of_row u5 g7 5 _ _ t5
                          have bb := Lib.hid b6
                          clear t5 b6 hsh
                          obtain ⟨s0, s1, s2, s3, s4, s5⟩ := zidD (W := u5.setCell ⟨g7, 5, none⟩ (.slice none 0 0)) zz
                          have z0 := cell_of_row (u5.setCell ⟨g7, 5, none⟩ (.slice none 0 0)) (w.heap.size) 0 _ _ _ zz
                          have fz0 := frozen_of_row (u5.setCell ⟨g7, 5, none⟩ (.slice none 0 0)) (w.heap.size) 0 _ _ zz
                          have z1 := cell_of_row (u5.setCell ⟨g7, 5, none⟩ (.slice none 0 0)) (w.heap.size) 1 _ _ _ zz
                          have fz1 := frozen_of_row (u5.setCell ⟨g7, 5, none⟩ (.slice none 0 0)) (w.heap.size) 1 _ _ zz
                          have z2 := cell_of_row (u5.setCell ⟨g7, 5, none⟩ (.slice none 0 0)) (w.heap.size) 2 _ _ _ zz
                          have fz2 := frozen_of_row (u5.setCell ⟨g7, 5, none⟩ (.slice none 0 0)) (w.heap.size) 2 _ _ zz
                          have z3 := cell_of_row (u5.setCell ⟨g7, 5, none⟩ (.slice none 0 0)) (w.heap.size) 3 _ _ _ zz
                          have fz3 := frozen_of_row (u5.setCell ⟨g7, 5, none⟩ (.slice none 0 0)) (w.heap.size) 3 _ _ zz
                          have z4 := cell_of_row (u5.setCell ⟨g7, 5, none⟩ (.slice none 0 0)) (w.heap.size) 4 _ _ _ zz
                          have fz4 := frozen_of_row (u5.setCell ⟨g7, 5, none⟩ (.slice none 0 0)) (w.heap.size) 4 _ _ zz
                          have z5 := cell_of_row (u5.setCell ⟨g7, 5, none⟩ (.slice none 0 0)) (w.heap.size) 5 _ _ _ zz
                          have fz5 := frozen_of_row (u5.setCell ⟨g7, 5, none⟩ (.slice none 0 0)) (w.heap.size) 5 _ _ zz
                          go_wp2
                          refine bodyPost_ret (results_cell_tmp_row rfl _ _ (w.heap.size) _ _ _ _ rfl zz Try.underlying74 rfl infoData) rfl ?_
                          unfold DatVal
                          rw [HV.out]
                          exact ⟨rfl, bb.out⟩
                        · rw [if_neg hsh] at hv
                          obtain ⟨A9, c9, rfl, hr9, hbl9, hrd9, hC⟩ := hv
                          have HP7 := Lib.hid (HP6.out.trans (if_neg (by omega)))
                          have T := Lib.hid (S6.out.chg hrd9 hC)
                          have tt := T.out.t
                          have y0 := cell_of_row u6 g7 5 _ _ _ tt
                          have fy0 := frozen_of_row u6 g7 5 _ _ tt
                          have L9 := Lib.hid (And.intro hr9 hbl9)
                          have CH9 := Lib.hid hC
                          have qT := Lib.hid (heap_setCell_same u6 g7 5 _ _ (.slice A9 m c9) tt)
                          have hC7 : Hid (Chg (fun j => j = g7) u6 (u6.setCell ⟨g7, 5, none⟩ (.slice A9 m c9))) := Lib.hid ((Chg.refl (fun j => j = g7) u6).setCell (p := ⟨g7, 5, none⟩) (.inl rfl) _)
                          have RD : Hid (RdrP (u6.setCell ⟨g7, 5, none⟩ (.slice A9 m c9)) q B (r6.drop m)) := Lib.hid (by
                            obtain ⟨A, c, r1, r2, r3⟩ := T.out.rd.ex
                            have h1 := T.out.l2
                            exact ⟨A, c, hC7.out.blk r1 (fun e => by omega), r2.chg hC7.out (fun b off e hn hb => by have := (r3 b off e hn).2; have := T.out.l3; omega), r3⟩)
                          have D7 := Lib.hid (rdr_left _ q B _ RD.out)
                          clear hr9 hbl9 hrd9 hC tt
                          go_wp2_with fail
                          refine D7.out.mono ?_
                          rintro e u7 ⟨rfl, rfl⟩
                          clear D7 y0 fy0
                          have l1 := S6.out.l1; have l2 := S6.out.l2; have l0 := S6.out.l0
                          have zz : (u6.setCell ⟨g7, 5, none⟩ (.slice A9 m c9)).heap[w.heap.size]? = some (.cells #[.int .u64 0, .int .u64 0, .int .u64 0, .int .u64 0, .int .i64 0, .slice none 0 0] 74 (0, 0)) := hC7.out.blk T.out.z (fun e => by omega)
                          have bb := Lib.hid (T.out.bel.trans (hC7.out.below T.out.bel.size (fun k hk e => by omega)))
                          have RB : Hid (Rd (u6.setCell ⟨g7, 5, none⟩ (.slice A9 m c9)) 1 A9 m c9 (U8 (r6.take m))) := Lib.hid (L9.out.1.chg hC7.out (fun b off e hn hb => by have := L9.out.2 b off e hn; have := S6.out.lt; omega))
                          have tt := qT.out
                          generalize (u6.setCell ⟨g7, 5, none⟩ (.slice A9 m c9)) = v7 at *
                          by_cases hlg : (m : Int) < (r6.length : Int)
                          · have HV := Lib.hid (HP7.out.trans (if_pos hlg))
                            have h1 : decide ((0 : Int) < ((r6.drop m).length : Int)) = true := decide_eq_true (by rw [List.length_drop]; omega)
                            have h2 : decide (0 < (r6.drop m).length) = true := decide_eq_true (by rw [List.length_drop]; omega)
                            generalize (r6.drop m).length = m9 at *
                            clear hlg tt
                            obtain ⟨s0, s1, s2, s3, s4, s5⟩ := zidD (W := v7) zz
                            have z0 := cell_of_row (v7) (w.heap.size) 0 _ _ _ zz
                            have fz0 := frozen_of_row (v7) (w.heap.size) 0 _ _ zz
                            have z1 := cell_of_row (v7) (w.heap.size) 1 _ _ _ zz
                            have fz1 := frozen_of_row (v7) (w.heap.size) 1 _ _ zz
                            have z2 := cell_of_row (v7) (w.heap.size) 2 _ _ _ zz
                            have fz2 := frozen_of_row (v7) (w.heap.size) 2 _ _ zz
                            have z3 := cell_of_row (v7) (w.heap.size) 3 _ _ _ zz
                            have fz3 := frozen_of_row (v7) (w.heap.size) 3 _ _ zz
                            have z4 := cell_of_row (v7) (w.heap.size) 4 _ _ _ zz
                            have fz4 := frozen_of_row (v7) (w.heap.size) 4 _ _ zz
                            have z5 := cell_of_row (v7) (w.heap.size) 5 _ _ _ zz
                            have fz5 := frozen_of_row (v7) (w.heap.size) 5 _ _ zz
                            go_wp2
                            refine bodyPost_ret (results_cell_tmp_row rfl _ _ (w.heap.size) _ _ _ _ rfl zz Try.underlying74 rfl infoData) rfl ?_
                            unfold DatVal
                            rw [HV.out]
                            exact ⟨rfl, bb.out⟩
                          · have HV := Lib.hid (HP7.out.trans (if_neg hlg))
                            have hme : m = r6.length := by omega
                            have h1 : decide ((0 : Int) < ((r6.drop m).length : Int)) = false := decide_eq_false (by rw [List.length_drop]; omega)
                            have h2 : decide (0 < (r6.drop m).length) = false := decide_eq_false (by rw [List.length_drop]; omega)
                            generalize (r6.drop m).length = m9 at *
                            have tt : v7.heap[g7]? = some (.cells #[.int .u64 pn, .int .u64 least, .int .u64 off, .int .u64 nonce, .int .i64 cc, .slice A9 m c9] 74 (0, 0)) := tt.trans (by simp)
                            have y0 := cell_of_row v7 g7 0 _ _ _ tt
                            have fy0 := frozen_of_row v7 g7 0 _ _ tt
                            have y1 := cell_of_row v7 g7 1 _ _ _ tt
                            have fy1 := frozen_of_row v7 g7 1 _ _ tt
                            have y2 := cell_of_row v7 g7 2 _ _ _ tt
                            have fy2 := frozen_of_row v7 g7 2 _ _ tt
                            have y3 := cell_of_row v7 g7 3 _ _ _ tt
                            have fy3 := frozen_of_row v7 g7 3 _ _ tt
                            have y4 := cell_of_row v7 g7 4 _ _ _ tt
                            have fy4 := frozen_of_row v7 g7 4 _ _ tt
                            have y5 := cell_of_row v7 g7 5 _ _ _ tt
                            have fy5 := frozen_of_row v7 g7 5 _ _ tt
                            have z0 := cell_of_row v7 (w.heap.size) 0 _ _ _ zz
                            have fz0 := frozen_of_row v7 (w.heap.size) 0 _ _ zz
                            have z1 := cell_of_row v7 (w.heap.size) 1 _ _ _ zz
                            have fz1 := frozen_of_row v7 (w.heap.size) 1 _ _ zz
                            have z2 := cell_of_row v7 (w.heap.size) 2 _ _ _ zz
                            have fz2 := frozen_of_row v7 (w.heap.size) 2 _ _ zz
                            have z3 := cell_of_row v7 (w.heap.size) 3 _ _ _ zz
                            have fz3 := frozen_of_row v7 (w.heap.size) 3 _ _ zz
                            have z4 := cell_of_row v7 (w.heap.size) 4 _ _ _ zz
                            have fz4 := frozen_of_row v7 (w.heap.size) 4 _ _ zz
                            have z5 := cell_of_row v7 (w.heap.size) 5 _ _ _ zz
                            have fz5 := frozen_of_row v7 (w.heap.size) 5 _ _ zz
                            have ME := Lib.hid hme
                            have lg : w.heap.size ≠ g7 := by omega
                            have lg2 : g7 ≠ w.heap.size := by omega
                            clear hlg hme tt
                            go_wp2
                            have q1 := heap_setCell_same v7 w.heap.size 0 _ _ (.int .u64 pn) zz
                            have q2 := heap_setCell_same _ w.heap.size 1 _ _ (.int .u64 least) q1
                            have q3 := heap_setCell_same _ w.heap.size 2 _ _ (.int .u64 off) q2
                            have q4 := heap_setCell_same _ w.heap.size 3 _ _ (.int .u64 nonce) q3
                            have q5 := heap_setCell_same _ w.heap.size 4 _ _ (.int .i64 cc) q4
                            have q6 := heap_setCell_same _ w.heap.size 5 _ _ (.slice A9 m c9) q5
                            have hC : Chg (fun j => j = w.heap.size) v7 ((((((v7.setCell ⟨w.heap.size, 0, none⟩ (.int .u64 pn)).setCell ⟨w.heap.size, 1, none⟩ (.int .u64 least)).setCell ⟨w.heap.size, 2, none⟩ (.int .u64 off)).setCell ⟨w.heap.size, 3, none⟩ (.int .u64 nonce)).setCell ⟨w.heap.size, 4, none⟩ (.int .i64 cc)).setCell ⟨w.heap.size, 5, none⟩ (.slice A9 m c9)) :=
                              ((((((Chg.refl (fun j => j = w.heap.size) v7).setCell (p := ⟨w.heap.size, 0, none⟩) (.inl rfl) _).setCell (p := ⟨w.heap.size, 1, none⟩) (.inl rfl) _).setCell (p := ⟨w.heap.size, 2, none⟩) (.inl rfl) _).setCell (p := ⟨w.heap.size, 3, none⟩) (.inl rfl) _).setCell (p := ⟨w.heap.size, 4, none⟩) (.inl rfl) _).setCell (p := ⟨w.heap.size, 5, none⟩) (.inl rfl) _
                            have q7 : _ = some (Obj.cells #[.int .u64 pn, .int .u64 least, .int .u64 off, .int .u64 nonce, .int .i64 cc, .slice A9 m c9] 74 (0, 0)) := q6.trans (by simp)
                            have hw5 := S6.out.bel.size
                            have hs9 := S6.out.lt.2.2.1
                            refine bodyPost_ret (results_cell_tmp_row rfl _ _ (w.heap.size) _ _ _ _ rfl q7 Try.underlying74 rfl infoData) rfl ?_
                            unfold DatVal
                            rw [HV.out]
                            have hm := ME.out
                            have hR := RB.out.chg hC (fun b off e hn hb => by have := L9.out.2 b off e hn; omega)
                            have hL := L9.out.2
                            subst hm
                            rw [List.take_length] at hR
                            exact ⟨A9, c9, rfl, hR, bb.out.trans (hC.below bb.out.size (fun k hk e => by omega)), fun b off e hn => by have := hL b off e hn; omega⟩
end Go.Proofs.Ytpkbimmhimgamaa
