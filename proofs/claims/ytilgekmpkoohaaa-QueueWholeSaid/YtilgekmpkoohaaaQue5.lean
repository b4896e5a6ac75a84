/-
  Walks of package queue: Write.
-/
import Derived.Test.YtilgekmpkoohaaaQue4
namespace Go.Proofs.Ytilgekmpkoohaaa
set_option linter.unusedSimpArgs false
set_option linter.unusedVariables false
set_option linter.unnecessarySimpa false
open Go.RowKit
attribute [local go_sem ↓] run_min_int run_max_int

theorem take_run {P : Program} {t : TypeId} {i : TypeInfo} {size : Nat} (ht : P.underlying t = some (.slice (P.elem t))) (hi : P.info? (P.elem t) = some i) (hsz : i.size = size) (A : Option Addr) (n c k : Nat) (hk : k ≤ c) :
    ∀ (kh : IntKind) (w : World), (Instr.slice t (.slice A n c) none (some (.int kh (k : Int))) none).run P w = .ok (.slice A k c) w := by
  intro kh w
  rw [run_slice_h w t A n c ht kh (k : Int) (by omega) (by omega)]
  cases A <;> simp [sizeOf, typeInfo, hi, hsz, sliced, Addr.add]
theorem Rd.take {w : World} {size : Nat} {A : Option Addr} {n c k : Nat} {xs : List Value} (h : Rd w size A n c xs) (hk : k ≤ n) : Rd w size A k c (xs.take (k * size)) := by
  have hl := h.len
  have hm : k * size ≤ n * size := Nat.mul_le_mul_right _ hk
  refine ⟨by rw [List.length_take]; omega, by have := h.cap; omega, h.max, fun hn => ?_⟩
  obtain ⟨b, off, e, hc⟩ := h.on_ (by omega)
  refine ⟨b, off, e, fun j u hu => hc j u ?_⟩
  rw [List.getElem?_take] at hu
  split at hu
  · exact hu
  · cases hu
/-- The body has grown. -/
theorem QueC.grow {w w1 w5 : World} {F : Nat → Prop} {q : Nat} {s t : QS} {A A1 A2 A5 : Option Addr} {c c1 c2 c5 : Nat} {La : List Sp} (h : QueC w F q s A c La A1 c1 A2 c2) (b : Below w.heap.size w w1)
    (hg : w1.grownBy w5 (Value.slice A (s.b.length - s.base) c).ownBlock) (ho : w5.ownsRow 0 5 1 (.slice A5 (t.b.length - t.base) c5) (t.b.length - t.base) (U8 (t.b.drop t.base)))
    (hv : (Value.slice A5 (t.b.length - t.base) c5).ownBlock = (Value.slice A (s.b.length - s.base) c).ownBlock ∨ (Value.slice A5 (t.b.length - t.base) c5).ownBlock = some w1.heap.size)
    (e2 : t.base = s.base) (e3 : t.room = s.room) (e4 : t.fresh = s.fresh) (e5 : rowB t.ow = rowB s.ow) (ak : t.AkRow La) :
    QueC (w5.setCell ⟨q, 3, none⟩ (.slice A5 (t.b.length - t.base) c5)) (Grow F w) q t A5 c5 La A1 c1 A2 c2 ∧ Chg F w (w5.setCell ⟨q, 3, none⟩ (.slice A5 (t.b.length - t.base) c5)) := by
  have hq := lt_of_block h.t
  have h1 := h.below b
  have hs := b.size
  have hq1 : q < w1.heap.size := by omega
  have hT : w5.heap[q]? = _ := (hg.block q hq1 (fun e => (h.fo q e.symm).2 rfl)).trans h1.t
  have hC : Chg (fun j => j = q) w5 (w5.setCell ⟨q, 3, none⟩ (.slice A5 (t.b.length - t.base) c5)) := (Chg.refl (fun j => j = q) w5).setCell (p := ⟨q, 3, none⟩) (.inl rfl) _
  have hfo : ∀ g, (Value.slice A5 (t.b.length - t.base) c5).ownBlock = some g → Grow F w g ∧ g ≠ q := fun g e => by
    rcases hv with e' | e'
    · have := h.fo g (e'.symm.trans e)
      exact ⟨.inl this.1, this.2⟩
    · have h2 : w1.heap.size = g := by rw [e] at e'; exact (Option.some.inj e').symm
      exact ⟨.inr (by omega), by omega⟩
  have hne : ∀ x, x < w.heap.size → (Value.slice A (s.b.length - s.base) c).ownBlock ≠ some x → (Value.slice A5 (t.b.length - t.base) c5).ownBlock ≠ some x := fun x hx h0 e => by
    rcases hv with e' | e'
    · exact h0 (e'.symm.trans e)
    · have h2 : w1.heap.size = x := by rw [e] at e'; exact (Option.some.inj e').symm
      omega
  have r1 := h1.r1.grown hg (fun b off e hn => (h.f1 b off e hn).2.2)
  have r2 := h1.r2.grown hg (fun b off e hn => (h.f2 b off e hn).2.2)
  refine ⟨⟨by simpa [e2, e3, e4, e5] using heap_setCell_same w5 q 3 _ _ (.slice A5 (t.b.length - t.base) c5) hT, own_chg ho hC (fun k hk e => (hfo k hk).2 e), r1.chg hC (fun b off e hn e' => (h.f1 b off e hn).2.1 e'), by rw [e5]; exact r2.chg hC (fun b off e hn e' => (h.f2 b off e hn).2.1 e'), ak, .inl h.fq, hfo, ?_, ?_⟩, ?_⟩
  · exact fun b off e hn => ⟨.inl (h.f1 b off e hn).1, (h.f1 b off e hn).2.1, hne b (h.r1.lt (by omega) hn b off e) (h.f1 b off e hn).2.2⟩
  · rw [e5]
    exact fun b off e hn => ⟨.inl (h.f2 b off e hn).1, (h.f2 b off e hn).2.1, hne b (h.r2.lt (by omega) hn b off e) (h.f2 b off e hn).2.2⟩
  · exact ((chg_below b).grown hg (fun k hk => .inl (h.fo k hk).1)).setCell (p := ⟨q, 3, none⟩) (.inl h.fq) _

set_option maxHeartbeats 1000000 in
set_option maxRecDepth 100000 in
theorem que_write (w : World) (F : Nat → Prop) (q : Nat) (s : QS) (l : List Int) (Ab : Option Addr) (cb : Nat) (h : QueP w F q s) (hr : Rd w 1 Ab l.length cb (U8 l)) (hb : ∀ x ∈ l, 0 ≤ x ∧ x ≤ 255) (hl : s.b.length + l.length ≤ 1000000) :
    Calls Try.prog 17 #[.pointer (some ⟨q, 0, none⟩), .slice Ab l.length cb] w fun e w' => e = .returned (.int .i64 (s.write l).2) ∧ QueP w' (Grow F w) q (s.write l).1 ∧ Chg F w w' := by
  have hf : s.b.length ≤ 1000000 := h.few
  have H := Lib.hid h
  have R := Lib.hid hr
  have hcap := hr.cap
  have hfit := h.good.fit
  have hbl := s.base_le h.good
  have hroom := h.good.room2
  have GW := Lib.hid (h.good.write hb)
  clear h hr
  obtain ⟨A, c, La, A1, c1, A2, c2, hC⟩ := H.out.ex
  have HC := Lib.hid hC
  have AK := Lib.hid (QS.AkRow.write H.out.good hC.ak l)
  clear hC
  obtain ⟨k, hk⟩ : ∃ k, k = min l.length (s.room - (s.b.length - s.base)) := ⟨_, rfl⟩
  have HW1 : Hid ((s.write l).1 = { s with b := s.b ++ l.take k, ak := s.ak ++ List.replicate k false, ow := s.ow ++ List.replicate k false }) := by subst hk; rfl
  have HW2 : Hid ((s.write l).2 = (k : Int)) := by subst hk; rfl
  have HK : Hid ((k : Int) = min (l.length : Int) ((s.room : Int) - ((s.b.length - s.base : Nat) : Int))) := by show _ = _; omega
  have hkl : k ≤ l.length := by omega
  clear hk
  obtain ⟨iB, hiB, bz0, bz1, bz2⟩ := info_parts infoByte
  have hrunT := take_run (P := Try.prog) (t := 38) Try.underlying38 hiB bz1 Ab l.length cb k (by omega)
  rw [HW2.out]
  rw [HW1.out] at GW AK ⊢
  have t0 := cell_of_row w q 0 _ _ _ HC.out.t
  have ft0 := frozen_of_row w q 0 _ _ HC.out.t
  have t1 := cell_of_row w q 1 _ _ _ HC.out.t
  have ft1 := frozen_of_row w q 1 _ _ HC.out.t
  have t2 := cell_of_row w q 2 _ _ _ HC.out.t
  have ft2 := frozen_of_row w q 2 _ _ HC.out.t
  have t3 := cell_of_row w q 3 _ _ _ HC.out.t
  have ft3 := frozen_of_row w q 3 _ _ HC.out.t
  have t4 := cell_of_row w q 4 _ _ _ HC.out.t
  have ft4 := frozen_of_row w q 4 _ _ HC.out.t
  have t5 := cell_of_row w q 5 _ _ _ HC.out.t
  have ft5 := frozen_of_row w q 5 _ _ HC.out.t
  go_enter Try.func17, Try.ntmps17
  go_upto_region 3 with fail
  refine wp_region_qt (by kernel_rfl) (by kernel_rfl) ?_
  repeat (go_big_quiet_step (fail))
  refine wpQuiet_nil ?_
  intro w3 q3
  rw [← HK.out]
  have H3 := Lib.hid (H.out.below q3.below)
  have B3 : Hid (Below w.heap.size w w3) := q3.below
  clear q3 t0 t1 t2 t3 t4 t5 ft0 ft1 ft2 ft3 ft4 ft5
  go_wp2_with fail
  refine (que_end w3 F q s H3.out).mono ?_
  rintro e v1 ⟨rfl, q1⟩
  have B1 : Hid (Below w.heap.size w v1) := B3.out.trans (q1.below (B := w3.heap.size) |>.mono B3.out.size)
  have C1 := Lib.hid (HC.out.below B1.out)
  clear q1 H3 B3
  have h1 : decide (4611686018427387903 - (s.b.length : Int) < (k : Int)) = false := decide_eq_false (by omega)
  have h2 : decide ((k : Int) > 4611686018427387903 - (s.b.length : Int)) = false := decide_eq_false (by omega)
  have t0 := cell_of_row v1 q 0 _ _ _ C1.out.t
  have ft0 := frozen_of_row v1 q 0 _ _ C1.out.t
  have t1 := cell_of_row v1 q 1 _ _ _ C1.out.t
  have ft1 := frozen_of_row v1 q 1 _ _ C1.out.t
  have t2 := cell_of_row v1 q 2 _ _ _ C1.out.t
  have ft2 := frozen_of_row v1 q 2 _ _ C1.out.t
  have t3 := cell_of_row v1 q 3 _ _ _ C1.out.t
  have ft3 := frozen_of_row v1 q 3 _ _ C1.out.t
  have t4 := cell_of_row v1 q 4 _ _ _ C1.out.t
  have ft4 := frozen_of_row v1 q 4 _ _ C1.out.t
  have t5 := cell_of_row v1 q 5 _ _ _ C1.out.t
  have ft5 := frozen_of_row v1 q 5 _ _ C1.out.t
  go_upto_region 7 with fail
  have OWN := Lib.hid (own_chg C1.out.o (chg_below (Below.refl v1.heap.size v1).drew (F := fun _ => False)) (fun _ _ h => h))
  have RT := Lib.hid ((R.out.below (B1.out.drew)).take hkl)
  rw [Nat.mul_one] at RT
  go_region_law
    ((refine step_append_rd _ (by rfl) (.tmp 35) (.tmp 38) 38 (by rfl) 0 5 iB _ 1 1 Try.underlying38 hiB bz0 bz1 bz2 rfl (by decide) (.slice A (s.b.length - s.base) c) (s.b.length - s.base) (U8 (s.b.drop s.base)) (by rfl) OWN.out
          Ab k cb ((U8 l).take k) (by rfl) RT.out (fun u hu => U8_one l u (List.mem_of_mem_take hu)) (by unfold maxLen; omega) (by omega) (Nat.zero_le _) ?_; intro v5 w5 ho5 hg5 hv5
      obtain ⟨A9, c9, ev9, hA9⟩ := own_slice ho5
      subst ev9
      have HV9 := Lib.hid hv5
      have HO9 := Lib.hid ho5
      have HG9 := Lib.hid hg5
      have T9 := Lib.hid ((hg5.block q (lt_of_block C1.out.t) (fun e => (HC.out.fo q e.symm).2 rfl)).trans C1.out.t)
      clear ho5 hg5 hv5 hA9
      have y5 := cell_of_row w5 q 3 _ _ _ T9.out
      have fy5 := frozen_of_row w5 q 3 _ _ T9.out))
  all_goals go_wp2_with fail
  all_goals go_ret
  obtain ⟨t, ht⟩ : ∃ t : QS, t = { s with b := s.b ++ l.take k, ak := s.ak ++ List.replicate k false, ow := s.ow ++ List.replicate k false } := ⟨_, rfl⟩
  rw [← ht] at GW AK ⊢
  have e2 : t.base = s.base := GW.out.2.1
  have eb : t.b = s.b ++ l.take k := by rw [ht]
  have e5 : rowB t.ow = rowB s.ow := by rw [ht]; exact rowB_append_false _ _ (by have := H.out.good.lo; simp; omega)
  have hm : s.b.length - s.base + k = t.b.length - t.base := by rw [e2, eb, List.length_append, List.length_take]; omega
  have hx : U8 (s.b.drop s.base) ++ (U8 l).take k = U8 (t.b.drop t.base) := by
    rw [e2, eb, List.drop_append_of_le_length hbl, U8_append]
    simp [U8, List.map_take]
  have HO := HO9.out
  have HV := HV9.out
  rw [hx, hm] at HO
  rw [hm] at HV ⊢
  obtain ⟨g1, g2⟩ := HC.out.grow (B1.out.drew) HG9.out HO HV e2 (by rw [ht]) (by rw [ht]) e5 AK.out
  exact ⟨rfl, ⟨GW.out.1, by show t.b.length ≤ 1000000; rw [eb, List.length_append, List.length_take]; omega, _, _, _, _, _, _, _, g1⟩, g2⟩

end Go.Proofs.Ytilgekmpkoohaaa
