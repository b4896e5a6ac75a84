/-
  Walks of package queue: New, Sent.
-/
import Derived.Test.YtilgekmpkoohaaaQue1
namespace Go.Proofs.Ytilgekmpkoohaaa
set_option linter.unusedSimpArgs false
set_option linter.unusedVariables false
set_option linter.unnecessarySimpa false
open Go.RowKit
attribute [local go_sem ↓] run_min_int run_max_int

theorem rowB_u2 {l : List Bool} (hl : l.length ≤ 1000000) : U2s (rowB l) := by
  obtain ⟨h1, h2, -⟩ := rowB_spec l hl
  have key : ∀ n, Mem n (rowB l) → isU64 n := fun n hn => by
    obtain ⟨i, a, rfl, -⟩ := (h2 n).1 hn
    exact ⟨by omega, by omega⟩
  exact fun s hs => ⟨key _ (Mem_lo h1 hs).1, key _ (Mem_lo h1 hs).2⟩
theorem QS.AkRow.u2 {s : QS} {L : List Sp} (h : QS.AkRow s L) (hf : s.Few) : U2s L ∧ L.length ≤ 1000000 := by
  have key : ∀ n, Mem n L → isU64 n := fun n hn => by
    obtain ⟨i, _, a, rfl, -⟩ := (h.mem n).1 hn
    have : s.b.length ≤ 1000000 := hf
    exact ⟨by omega, by omega⟩
  refine ⟨fun s hs => ⟨key _ (Mem_lo h.gd hs).1, key _ (Mem_lo h.gd hs).2⟩, ?_⟩
  have e : L = rowB (s.ak.mapIdx fun i x => decide (s.base ≤ i ∧ i < s.b.length) && x) ∨ True := .inr trivial
  have hb : s.b.length ≤ 1000000 := hf
  -- each span has a number of its own below the length
  have hp := List.pairwise_iff_getElem.1 h.gd.2
  have low : ∀ i, (hi : i < L.length) → (i : Int) ≤ L[i].1 := by
    intro i
    induction i with
    | zero => intro hi; have := (key _ (Mem_lo h.gd (List.getElem_mem hi)).1).1; omega
    | succ i ih =>
      intro hi
      have h1 := ih (by omega)
      have h2 := hp i (i + 1) (by omega) hi (by omega)
      have h3 := (h.gd.1 _ (List.getElem_mem (show i < L.length by omega))).1
      omega
  rcases Nat.eq_zero_or_pos L.length with h0 | h0
  · omega
  · have h1 := low (L.length - 1) (by omega)
    obtain ⟨j, _, h2, h3, -⟩ := (h.mem _).1 (Mem_lo h.gd (List.getElem_mem (show L.length - 1 < L.length by omega))).1
    omega
theorem RdN.foot {w1 W2 : World} {B : Nat} {A : Option Addr} {n c q : Nat} {xs : List Value} (h : RdN w1 B A n c xs) (hC : Chg (fun j => j = q) w1 W2) (hq : q < B) :
    Rd W2 2 A n c xs ∧ ∀ b off, A = some ⟨b, off, none⟩ → 0 < n → B ≤ b ∧ b ≠ q :=
  ⟨h.rd.chg hC (fun b off e hn e' => by have := h.nw b off e hn; omega), fun b off e hn => ⟨h.nw b off e hn, by have := h.nw b off e hn; omega⟩⟩

theorem RdN.mono {w : World} {B B' : Nat} {A : Option Addr} {n c : Nat} {xs : List Value} (h : RdN w B A n c xs) (hB : B' ≤ B) : RdN w B' A n c xs := ⟨h.rd, fun b off e hn => Nat.le_trans hB (h.nw b off e hn)⟩
/-- Another row of what is owed, another fresh place. -/
theorem QueC.turn2 {w w1 : World} {F : Nat → Prop} {q : Nat} {s t : QS} {A A1 A2 A' : Option Addr} {c c1 c2 c' : Nat} {La : List Sp} (h : QueC w F q s A c La A1 c1 A2 c2) (b : Below w.heap.size w w1)
    (hr : RdN w1 w.heap.size A' (rowB t.ow).length c' (Ss (rowB t.ow))) (e1 : t.b = s.b) (e2 : t.ak = s.ak) (e3 : t.room = s.room) (W2 : World) (hC : Chg (fun j => j = q) w1 W2)
    (ht : W2.heap[q]? = some (.cells #[.int .i64 s.room, .int .u64 s.base, .int .u64 t.fresh, .slice A (s.b.length - s.base) c, .slice A1 La.length c1, .slice A' (rowB t.ow).length c'] 63 (0, 0))) :
    QueC W2 (Grow F w) q t A c La A1 c1 A' c' := by
  have hq := lt_of_block h.t
  have h1 := h.below b
  obtain ⟨g1, g2⟩ := hr.foot hC hq
  have eb : t.base = s.base := by unfold QS.base; rw [e2]
  have hb1 : s.b = t.b := e1.symm
  refine ⟨by rw [e3, eb, e1]; exact ht, by rw [eb, e1]; exact own_chg h1.o hC (fun k hk e => (h1.fo k hk).2 e), h1.r1.chg hC (fun b off e hn e' => (h1.f1 b off e hn).2.1 e'), g1, h1.ak.same e1 e2, .inl h.fq, ?_, ?_, ?_⟩
  · rw [eb, e1]; exact fun g hg => ⟨.inl (h.fo g hg).1, (h.fo g hg).2⟩
  · rw [eb, e1]; exact fun b off e hn => ⟨.inl (h.f1 b off e hn).1, (h.f1 b off e hn).2⟩
  · rw [eb, e1]
    exact fun b off e hn => ⟨.inr (g2 b off e hn).1, (g2 b off e hn).2, fun e' => by have := (h.o.lt b e').2; have := (g2 b off e hn).1; omega⟩

set_option maxHeartbeats 4000000 in
set_option maxRecDepth 100000 in
theorem que_sent (w : World) (F : Nat → Prop) (q : Nat) (s : QS) (off n : Int) (h : QueP w F q s) (ho : isU64 off) (hn : isU64 n) :
    Calls Try.prog 18 #[.pointer (some ⟨q, 0, none⟩), .int .u64 off, .int .u64 n] w fun e w' => e = .returned (.bool (s.sent off n).2) ∧ QueP w' (Grow F w) q (s.sent off n).1 ∧ Chg F w w' := by
  have hf : s.b.length ≤ 1000000 := h.few
  obtain ⟨o0, o1⟩ := ho
  obtain ⟨n0, n1⟩ := hn
  have U1 : Hid (isU64 off) := ⟨o0, o1⟩
  have U2 : Hid (isU64 n) := ⟨n0, n1⟩
  have H := Lib.hid h
  have hfr := h.good.fr
  clear h
  by_cases hw : QS.within off n s.b.length
  · have HA := Lib.hid (decide_eq_true hw)
    have HW := Lib.hid hw
    obtain ⟨w1', w2', w3'⟩ := hw
    by_cases hs : off ≤ s.fresh
    · have HS := Lib.hid (show s.sent off n = ({ s with ow := paint false off.toNat (off + n).toNat s.ow, fresh := max s.fresh (off + n).toNat }, true) from if_pos ⟨HW.out, hs⟩)
      obtain ⟨A, c, La, A1, c1, A2, c2, hC⟩ := H.out.ex
      have HC := Lib.hid hC
      have CUT := Lib.hid (fun W (R : Rd W 2 A2 (rowB s.ow).length c2 (Ss (rowB s.ow))) => cut_yes A2 _ c2 (rowB s.ow) off (off + n - 1) W R (rowB_spec s.ow (by rw [H.out.good.lo]; exact hf)).1.good ⟨by show off ≤ off + n - 1; omega, by show off + n - 1 ≤ maxPn; unfold maxPn; omega⟩ o0 (rowB_u2 (by rw [H.out.good.lo]; exact hf)) (by have := (rowB_spec s.ow (by rw [H.out.good.lo]; exact hf)).2.2; have := H.out.good.lo; omega))
      rw [QS.sent_row H.out.good H.out.few HW.out o0] at CUT
      clear hC
      rw [HS.out]
      go_enter Try.func18, Try.ntmps18
      go_wp2_with fail
      refine (que_end w F q s H.out).mono ?_
      rintro e v1 ⟨rfl, q1⟩
      have H1 := Lib.hid (H.out.below q1.below)
      have C1 := Lib.hid (HC.out.below q1.below)
      have B1 : Hid (Below w.heap.size w v1) := q1.below
      clear q1
      go_wp2_with fail
      refine (ahead_any off n s.b.length _ U1.out U2.out (by omega)).mono ?_
      rw [HA.out]
      rintro e v2 ⟨rfl, rfl⟩
      have t0 := cell_of_row v1 q 0 _ _ _ C1.out.t
      have ft0 := frozen_of_row v1 q 0 _ _ C1.out.t
      have t1 := cell_of_row v1 q 1 _ _ _ C1.out.t
      have ft1 := frozen_of_row v1 q 1 _ _ C1.out.t
      have t2 := cell_of_row v1 q 2 _ _ _ C1.out.t
      have ft2 := frozen_of_row v1 q 2 _ _ C1.out.t
      have t3 := cell_of_row v1 q 3 _ _ _ C1.out.t
      have ft3 := frozen_of_row v1 q 3 _ _ C1.out.t
      have t4 := cell_of_row v1 q 4 _ _ _ C1.out.t
      have ft4 := frozen_of_row v1 q 4 _ _ C1.out.t
      have t5 := cell_of_row v1 q 5 _ _ _ C1.out.t
      have ft5 := frozen_of_row v1 q 5 _ _ C1.out.t
      have hq := lt_of_block C1.out.t
      go_wp2_with fail
      refine (CUT.out _ C1.out.r2).mono ?_
      rintro e v3 ⟨A', c', rfl, hr, b3⟩
      have R3 := Lib.hid hr
      have B3 := Lib.hid b3
      have T3 := Lib.hid ((b3.block q hq).trans C1.out.t)
      clear hr b3 t0 t1 t2 t3 t4 t5 ft0 ft1 ft2 ft3 ft4 ft5
      have t0 := cell_of_row v3 q 0 _ _ _ T3.out
      have ft0 := frozen_of_row v3 q 0 _ _ T3.out
      have t1 := cell_of_row v3 q 1 _ _ _ T3.out
      have ft1 := frozen_of_row v3 q 1 _ _ T3.out
      have t2 := cell_of_row v3 q 2 _ _ _ T3.out
      have ft2 := frozen_of_row v3 q 2 _ _ T3.out
      have t3 := cell_of_row v3 q 3 _ _ _ T3.out
      have ft3 := frozen_of_row v3 q 3 _ _ T3.out
      have t4 := cell_of_row v3 q 4 _ _ _ T3.out
      have ft4 := frozen_of_row v3 q 4 _ _ T3.out
      have t5 := cell_of_row v3 q 5 _ _ _ T3.out
      have ft5 := frozen_of_row v3 q 5 _ _ T3.out
      go_wp2
      go_ret
      have GS : Hid (QS.Good { s with ow := paint false off.toNat (off + n).toNat s.ow, fresh := max s.fresh (off + n).toNat }) := by
        have h := (H.out.good.sent (off := off) (n := n) o0).1
        rw [HS.out] at h
        exact h
      have BB := B1.out.trans (B3.out.mono B1.out.size)
      have ef : ((max s.fresh (off + n).toNat : Nat) : Int) = max (s.fresh : Int) (off + n) := by omega
      have hCq : Chg (fun j => j = q) v3 ((v3.setCell ⟨q, 5, none⟩ (.slice A' (rowB (paint false off.toNat (off + n).toNat s.ow)).length c')).setCell ⟨q, 2, none⟩ (.int .u64 (max (s.fresh : Int) (off + n)))) :=
        ((Chg.refl (fun j => j = q) v3).setCell (p := ⟨q, 5, none⟩) (.inl rfl) _).setCell (p := ⟨q, 2, none⟩) (.inl rfl) _
      have ht : ((v3.setCell ⟨q, 5, none⟩ (.slice A' (rowB (paint false off.toNat (off + n).toNat s.ow)).length c')).setCell ⟨q, 2, none⟩ (.int .u64 (max (s.fresh : Int) (off + n)))).heap[q]? = some (.cells #[.int .i64 s.room, .int .u64 s.base, .int .u64 (max (s.fresh : Int) (off + n)), .slice A (s.b.length - s.base) c, .slice A1 La.length c1, .slice A' (rowB (paint false off.toNat (off + n).toNat s.ow)).length c'] 63 (0, 0)) := by
        simpa using heap_setCell_same _ q 2 _ _ (.int .u64 (max (s.fresh : Int) (off + n))) (heap_setCell_same v3 q 5 _ _ (.slice A' (rowB (paint false off.toNat (off + n).toNat s.ow)).length c') T3.out)
      rw [← ef] at ht hCq ⊢
      refine ⟨rfl, ⟨GS.out, hf, A, c, La, A1, c1, A', c', HC.out.turn2 (t := { s with ow := paint false off.toNat (off + n).toNat s.ow, fresh := max s.fresh (off + n).toNat }) BB (R3.out.mono B1.out.size) rfl rfl rfl _ hCq ht⟩, ?_⟩
      exact ((chg_below BB).setCell (p := ⟨q, 5, none⟩) (.inl HC.out.fq) _).setCell (p := ⟨q, 2, none⟩) (.inl HC.out.fq) _
    · have HS := Lib.hid (show s.sent off n = (s, false) from if_neg (fun e => hs e.2))
      obtain ⟨A, c, La, A1, c1, A2, c2, hC⟩ := H.out.ex
      have HC := Lib.hid hC
      clear hC
      rw [HS.out]
      have hs' : decide ((s.fresh : Int) < off) = true := decide_eq_true (by omega)
      go_enter Try.func18, Try.ntmps18
      go_wp2_with fail
      refine (que_end w F q s H.out).mono ?_
      rintro e v1 ⟨rfl, q1⟩
      have H1 := Lib.hid (H.out.below q1.below)
      have C1 := Lib.hid (HC.out.below q1.below)
      have B1 : Hid (Below w.heap.size w v1) := q1.below
      clear q1
      go_wp2_with fail
      refine (ahead_any off n s.b.length _ U1.out U2.out (by omega)).mono ?_
      rw [HA.out]
      rintro e v2 ⟨rfl, rfl⟩
      have t0 := cell_of_row v1 q 0 _ _ _ C1.out.t
      have t1 := cell_of_row v1 q 1 _ _ _ C1.out.t
      have t2 := cell_of_row v1 q 2 _ _ _ C1.out.t
      have t3 := cell_of_row v1 q 3 _ _ _ C1.out.t
      have t4 := cell_of_row v1 q 4 _ _ _ C1.out.t
      have t5 := cell_of_row v1 q 5 _ _ _ C1.out.t
      go_wp2
      go_ret
      exact ⟨rfl, H1.out.sub (fun k _ h => .inl h), chg_below B1.out⟩
  · have HA := Lib.hid (decide_eq_false hw)
    have HS := Lib.hid (show s.sent off n = (s, false) from if_neg (fun e => hw e.1))
    rw [HS.out]
    go_enter Try.func18, Try.ntmps18
    go_wp2_with fail
    refine (que_end w F q s H.out).mono ?_
    rintro e v1 ⟨rfl, q1⟩
    have H1 := Lib.hid (H.out.below q1.below)
    have B1 : Hid (Below w.heap.size w v1) := q1.below
    clear q1
    go_wp2_with fail
    refine (ahead_any off n s.b.length _ U1.out U2.out (by omega)).mono ?_
    rw [HA.out]
    rintro e v2 ⟨rfl, rfl⟩
    go_wp2
    go_ret
    exact ⟨rfl, H1.out.sub (fun k _ h => .inl h), chg_below B1.out⟩

theorem que_new (room : Int) (w : World) :
    Calls Try.prog 16 #[.int .i64 room] w fun e w' => e = .returned (.pointer (some ⟨w.heap.size, 0, none⟩)) ∧ QueP w' (fun k => w.heap.size ≤ k) w.heap.size (QS.new room) ∧ Below w.heap.size w w' := by
  have hr : ((QS.new room).room : Int) = max 1 (min room 65536) := by simp [QS.new]; omega
  have HR := Lib.hid hr
  clear hr
  go_enter Try.func16, Try.ntmps16
  go_wp2
  go_ret
  refine ⟨rfl, ⟨QS.Good.new room, by simp [QS.Few, QS.new], none, 0, [], none, 0, none, 0, ?_⟩, box_below _ _⟩
  refine ⟨?_, World.ownsRow_nil _ _ _ _, Rd.nil_ _ _, Rd.nil_ _ _, ⟨Gd.nil, fun n => ?_⟩, Nat.le_refl _, (fun g hg => by simp [Value.ownBlock] at hg), (fun b off e => by cases e), (fun b off e => by cases e)⟩
  · rw [HR.out]
    exact heap_alloc_new w _
  · simp [QS.new, Mem]

end Go.Proofs.Ytilgekmpkoohaaa
