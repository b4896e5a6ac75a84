/-
  Walks of package queue: Fork.
-/
import Derived.Test.YtilgekmpkoohaaaQue6
namespace Go.Proofs.Ytilgekmpkoohaaa
set_option linter.unusedSimpArgs false
set_option linter.unusedVariables false
set_option linter.unnecessarySimpa false
open Go.RowKit
attribute [local go_sem ↓] run_min_int run_max_int

/-- The copy on the way. -/
structure FkSt (w : World) (s : QS) (A : Option Addr) (c : Nat) (La : List Sp) (A1 : Option Addr) (c1 : Nat) (A2 : Option Addr) (c2 : Nat) (W : World) : Prop where
  t : W.heap[w.heap.size]? = some (.cells #[.int .i64 s.room, .int .u64 s.base, .int .u64 s.fresh, .slice A (s.b.length - s.base) c, .slice A1 La.length c1, .slice A2 (rowB s.ow).length c2] 63 (0, 0))
  b : Below w.heap.size w W
theorem FkSt.below {w W W' : World} {s : QS} {A A1 A2 : Option Addr} {c c1 c2 : Nat} {La : List Sp} (h : FkSt w s A c La A1 c1 A2 c2 W) (b : Below W.heap.size W W') : FkSt w s A c La A1 c1 A2 c2 W' :=
  ⟨(b.block _ (lt_of_block h.t)).trans h.t, h.b.trans (b.mono h.b.size)⟩
theorem FkSt.set3 {w W : World} {s : QS} {A A1 A2 A' : Option Addr} {c c1 c2 c' : Nat} {La : List Sp} (h : FkSt w s A c La A1 c1 A2 c2 W) : FkSt w s A' c' La A1 c1 A2 c2 (W.setCell ⟨w.heap.size, 3, none⟩ (.slice A' (s.b.length - s.base) c')) :=
  ⟨by simpa using heap_setCell_same W w.heap.size 3 _ _ (.slice A' (s.b.length - s.base) c') h.t, h.b.setCell (p := ⟨w.heap.size, 3, none⟩) (Nat.le_refl _) _⟩
theorem FkSt.set4 {w W : World} {s : QS} {A A1 A2 A' : Option Addr} {c c1 c2 c' : Nat} {La : List Sp} (h : FkSt w s A c La A1 c1 A2 c2 W) : FkSt w s A c La A' c' A2 c2 (W.setCell ⟨w.heap.size, 4, none⟩ (.slice A' La.length c')) :=
  ⟨by simpa using heap_setCell_same W w.heap.size 4 _ _ (.slice A' La.length c') h.t, h.b.setCell (p := ⟨w.heap.size, 4, none⟩) (Nat.le_refl _) _⟩
theorem FkSt.set5 {w W : World} {s : QS} {A A1 A2 A' : Option Addr} {c c1 c2 c' : Nat} {La : List Sp} (h : FkSt w s A c La A1 c1 A2 c2 W) : FkSt w s A c La A1 c1 A' c' (W.setCell ⟨w.heap.size, 5, none⟩ (.slice A' (rowB s.ow).length c')) :=
  ⟨by simpa using heap_setCell_same W w.heap.size 5 _ _ (.slice A' (rowB s.ow).length c') h.t, h.b.setCell (p := ⟨w.heap.size, 5, none⟩) (Nat.le_refl _) _⟩
theorem own_above {w : World} {base size n : Nat} {e : TypeId} {v : Value} {xs : List Value} (h : w.ownsRow base e size v n xs) {W : World} (b : Below w.heap.size w W) : W.ownsRow base e size v n xs :=
  own_chg h (chg_below b (F := fun _ => False)) (fun _ _ h => h)
theorem own_set {w : World} {base size n q k : Nat} {e : TypeId} {v u : Value} {xs : List Value} (h : w.ownsRow base e size v n xs) (hq : q < base) : (w.setCell ⟨q, k, none⟩ u).ownsRow base e size v n xs :=
  own_chg h ((Chg.refl (fun j => j = q) w).setCell (p := ⟨q, k, none⟩) (.inl rfl) _) (fun g hg e => by have := (h.lt g hg).1; omega)

set_option maxHeartbeats 1000000 in
set_option maxRecDepth 100000 in
theorem que_fork (w : World) (F : Nat → Prop) (q : Nat) (s : QS) (h : QueP w F q s) :
    Calls Try.prog 21 #[.pointer (some ⟨q, 0, none⟩)] w fun e w' => e = .returned (.pointer (some ⟨w.heap.size, 0, none⟩)) ∧ QueP w' (fun k => w.heap.size ≤ k) w.heap.size s ∧ Below w.heap.size w w' := by
  obtain ⟨i0, hi0, hz0, hz1, hz2⟩ := info_parts infoSpan
  obtain ⟨iB, hiB, bz0, bz1, bz2⟩ := info_parts infoByte
  have hf : s.b.length ≤ 1000000 := h.few
  have H := Lib.hid h
  obtain ⟨A, c, La, A1, c1, A2, c2, hC⟩ := h.ex
  have HC := Lib.hid hC
  have hla := (hC.ak.u2 h.few).2
  clear hC h
  have t0 := cell_of_row w q 0 _ _ _ HC.out.t
  have ft0 := frozen_of_row w q 0 _ _ HC.out.t
  have t1 := cell_of_row w q 1 _ _ _ HC.out.t
  have ft1 := frozen_of_row w q 1 _ _ HC.out.t
  have t2 := cell_of_row w q 2 _ _ _ HC.out.t
  have ft2 := frozen_of_row w q 2 _ _ HC.out.t
  have t3 := cell_of_row w q 3 _ _ _ HC.out.t
  have ft3 := frozen_of_row w q 3 _ _ HC.out.t
  have t4 := cell_of_row w q 4 _ _ _ HC.out.t
  have ft4 := frozen_of_row w q 4 _ _ HC.out.t
  have t5 := cell_of_row w q 5 _ _ _ HC.out.t
  have ft5 := frozen_of_row w q 5 _ _ HC.out.t
  go_enter Try.func21, Try.ntmps21
  go_upto_region 4 with fail
  have S1 : Hid (FkSt w s A c La A1 c1 A2 c2 (w.alloc (.cells #[.int .i64 s.room, .int .u64 s.base, .int .u64 s.fresh, .slice A (s.b.length - s.base) c, .slice A1 La.length c1, .slice A2 (rowB s.ow).length c2] 63))) := ⟨heap_alloc_new w _, box_below w _⟩
  generalize hW : (w.alloc (.cells #[.int .i64 s.room, .int .u64 s.base, .int .u64 s.fresh, .slice A (s.b.length - s.base) c, .slice A1 La.length c1, .slice A2 (rowB s.ow).length c2] 63)) = w1 at *
  clear hW t0 t1 t2 t3 t4 t5 ft0 ft1 ft2 ft3 ft4 ft5
  have C1 := Lib.hid (HC.out.below S1.out.b)
  have hw1 := lt_of_block S1.out.t
  have t0 := cell_of_row w1 q 0 _ _ _ C1.out.t
  have ft0 := frozen_of_row w1 q 0 _ _ C1.out.t
  have t1 := cell_of_row w1 q 1 _ _ _ C1.out.t
  have ft1 := frozen_of_row w1 q 1 _ _ C1.out.t
  have t2 := cell_of_row w1 q 2 _ _ _ C1.out.t
  have ft2 := frozen_of_row w1 q 2 _ _ C1.out.t
  have t3 := cell_of_row w1 q 3 _ _ _ C1.out.t
  have ft3 := frozen_of_row w1 q 3 _ _ C1.out.t
  have t4 := cell_of_row w1 q 4 _ _ _ C1.out.t
  have ft4 := frozen_of_row w1 q 4 _ _ C1.out.t
  have t5 := cell_of_row w1 q 5 _ _ _ C1.out.t
  have ft5 := frozen_of_row w1 q 5 _ _ C1.out.t
  go_cut [3] (fun s3 wx => ∃ (A' : Option Addr) (c' : Nat), s3 = .pointer (some ⟨w.heap.size, 0, none⟩) ∧ Hid (FkSt w s A' c' La A1 c1 A2 c2 wx) ∧ Hid (wx.ownsRow (w.heap.size + 1) 5 1 (.slice A' (s.b.length - s.base) c') (s.b.length - s.base) (U8 (s.b.drop s.base))))
  case first =>
    go_wp2_with (
      at_builtin
      refine wpList_append_rd _ rfl (.const (.slice none 0 0)) (.tmp 12) 38 rfl (w.heap.size + 1) 5 iB _ 1 1 Try.underlying38 hiB bz0 bz1 bz2 rfl (by decide) (.slice none 0 0) 0 [] rfl (World.ownsRow_nil _ _ _ _) A (s.b.length - s.base) c (U8 (s.b.drop s.base)) rfl (Rd.of_own C1.out.o) (U8_one _) (by unfold maxLen; omega) (by omega) (by omega) ?_
      intro v2 w2 hown2 hg2 _
      have hb2 : Hid (Below w1.heap.size w1 w2) := (Below.refl _ _).grown hg2 (Nat.le_refl _) (fun g hg => by simp [Value.ownBlock] at hg)
      rw [Nat.zero_add, List.nil_append] at hown2
      obtain ⟨A3, c3, hv, hA3⟩ := own_slice hown2
      subst hv
      have O2 := Lib.hid hown2
      have S2 := Lib.hid (S1.out.below hb2.out)
      clear hown2 hg2 hA3
      have y3 := cell_of_row w2 w.heap.size 3 _ _ _ S2.out.t
      have fy3 := frozen_of_row w2 w.heap.size 3 _ _ S2.out.t)
    go_meet
    exact ⟨A3, c3, rfl, Lib.hid S2.out.set3, Lib.hid (own_set O2.out (by omega))⟩
  case rest =>
  obtain ⟨A3, c3, rfl, S3, O3⟩ := hcut
  clear S1 C1 hw1 t0 t1 t2 t3 t4 t5 ft0 ft1 ft2 ft3 ft4 ft5
  generalize wc = w3 at *
  have C3 := Lib.hid (HC.out.below S3.out.b)
  have hw3 := lt_of_block S3.out.t
  have t0 := cell_of_row w3 q 0 _ _ _ C3.out.t
  have ft0 := frozen_of_row w3 q 0 _ _ C3.out.t
  have t1 := cell_of_row w3 q 1 _ _ _ C3.out.t
  have ft1 := frozen_of_row w3 q 1 _ _ C3.out.t
  have t2 := cell_of_row w3 q 2 _ _ _ C3.out.t
  have ft2 := frozen_of_row w3 q 2 _ _ C3.out.t
  have t3 := cell_of_row w3 q 3 _ _ _ C3.out.t
  have ft3 := frozen_of_row w3 q 3 _ _ C3.out.t
  have t4 := cell_of_row w3 q 4 _ _ _ C3.out.t
  have ft4 := frozen_of_row w3 q 4 _ _ C3.out.t
  have t5 := cell_of_row w3 q 5 _ _ _ C3.out.t
  have ft5 := frozen_of_row w3 q 5 _ _ C3.out.t
  go_upto_region 5 with fail
  go_cut [3] (fun s3 wx => ∃ (A' : Option Addr) (c' : Nat), s3 = .pointer (some ⟨w.heap.size, 0, none⟩) ∧ Hid (FkSt w s A3 c3 La A' c' A2 c2 wx) ∧ Hid (wx.ownsRow (w.heap.size + 1) 5 1 (.slice A3 (s.b.length - s.base) c3) (s.b.length - s.base) (U8 (s.b.drop s.base))) ∧ Hid (RdN wx w3.heap.size A' La.length c' (Ss La)))
  case first =>
    go_wp2_with (
      at_builtin
      refine wpList_append_rd _ rfl (.const (.slice none 0 0)) (.tmp 18) 32 rfl w3.heap.size 36 i0 _ 2 16 Try.underlying32 hi0 hz0 hz1 hz2 rfl (by decide) (.slice none 0 0) 0 [] rfl (World.ownsRow_nil _ _ _ _) A1 La.length c1 (Ss La) rfl C3.out.r1 (Ss_one' _) (by unfold maxLen; omega) (by omega) (by omega) ?_
      intro v2 w4 hown2 hg2 _
      have hb2 : Hid (Below w3.heap.size w3 w4) := (Below.refl _ _).grown hg2 (Nat.le_refl _) (fun g hg => by simp [Value.ownBlock] at hg)
      rw [Nat.zero_add, List.nil_append] at hown2
      obtain ⟨A4, c4, hv, hA3⟩ := own_slice hown2
      subst hv
      have R4 : Hid (RdN w4 w3.heap.size A4 La.length c4 (Ss La)) := RdN.of_own hown2 (Nat.le_refl _)
      have S4 := Lib.hid (S3.out.below hb2.out)
      have O4 := Lib.hid (own_above O3.out hb2.out)
      clear hown2 hg2 hA3
      have y4 := cell_of_row w4 w.heap.size 4 _ _ _ S4.out.t
      have fy4 := frozen_of_row w4 w.heap.size 4 _ _ S4.out.t)
    go_meet
    exact ⟨A4, c4, rfl, Lib.hid S4.out.set4, Lib.hid (own_set O4.out (by omega)), Lib.hid (R4.out.set (Below.refl _ _) hw3 4 _)⟩
  case rest =>
  obtain ⟨A4, c4, rfl, S5, O5, R5⟩ := hcut
  clear C3 t0 t1 t2 t3 t4 t5 ft0 ft1 ft2 ft3 ft4 ft5
  generalize wc = w5 at *
  have H5 := Lib.hid (H.out.below S5.out.b)
  have hw5 := lt_of_block S5.out.t
  go_wp2_with fail
  refine (que_owed w5 F q s H5.out).mono ?_
  rintro e w6 ⟨A6, c6, rfl, hr, b6⟩
  have R6 := Lib.hid hr
  have B6 := Lib.hid b6
  have S6 := Lib.hid (S5.out.below b6)
  clear hr b6
  have y5 := cell_of_row w6 w.heap.size 5 _ _ _ S6.out.t
  have fy5 := frozen_of_row w6 w.heap.size 5 _ _ S6.out.t
  go_wp2
  go_ret
  have S7 := S6.out.set5 (A' := A6) (c' := c6)
  have hs5 := S5.out.b.size
  have hs3 := S3.out.b.size
  have O7 := own_set (k := 5) (u := .slice A6 (rowB s.ow).length c6) (own_above O5.out B6.out) (show w.heap.size < w.heap.size + 1 by omega)
  refine ⟨rfl, ⟨H.out.good, H.out.few, A3, c3, La, A4, c4, A6, c6, S7.t, ?_, (R5.out.set B6.out hw3 5 _).rd, (R6.out.set (Below.refl _ _) hw5 5 _).rd, HC.out.ak, Nat.le_refl _, ?_, ?_, ?_⟩, S7.b⟩
  · exact own_base O7 (fun _ _ => Nat.zero_le _)
  · intro g hg; have := (O7.lt g hg).1; exact ⟨by omega, by omega⟩
  · intro b off e hn; have h1 := R5.out.nw b off e hn; exact ⟨by omega, by omega, fun e' => by have := (O3.out.lt b e').2; omega⟩
  · intro b off e hn; have h1 := R6.out.nw b off e hn; exact ⟨by omega, by omega, fun e' => by have := (O5.out.lt b e').2; omega⟩

end Go.Proofs.Ytilgekmpkoohaaa
