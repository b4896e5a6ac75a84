/-
  The reference's queue: Owed.
-/
import Derived.Test.YtilgekmpkoohaaaQuR5
namespace Go.Proofs.Ytilgekmpkoohaaa
set_option linter.unusedSimpArgs false
set_option linter.unusedVariables false
set_option linter.unnecessarySimpa false
open Go.RowKit
attribute [local go_sem ↓] run_min_int run_max_int

set_option maxHeartbeats 1000000 in
set_option maxRecDepth 100000 in
theorem quR_owed (w : World) (F : Nat → Prop) (q : Nat) (s : QS) (h : QuRP w F q s) :
    Calls Try.prog 28 #[.pointer (some ⟨q, 0, none⟩)] w fun e w' => ∃ A c, e = .returned (.slice A (rowB s.ow).length c) ∧ Rd w' 2 A (rowB s.ow).length c (Ss (rowB s.ow)) ∧ Below w.heap.size w w' := by
  have hf : s.b.length ≤ 1000000 := h.few
  have hlo := h.good.lo
  obtain ⟨A, c, A1, c1, A2, c2, hC⟩ := h.ex
  have HC := Lib.hid hC
  have HB := Lib.hid (show rowTo s.ow s.b.length = rowB s.ow by unfold rowB; rw [hlo])
  clear hC h
  go_enter Try.func28, Try.ntmps28
  go_wp2_with fail
  go_loopw [3, 4] (fun out i wr => ∃ (k : Nat) (A' : Option Addr) (c' : Nat), k ≤ s.b.length ∧ out = .slice A' (rowTo s.ow k).length c' ∧ i = .int .i64 k ∧ Hid (Rd wr 2 A' (rowTo s.ow k).length c' (Ss (rowTo s.ow k))) ∧ Below w.heap.size w wr) (fun _ i _ => s.b.length - (intOf i).toNat)
  case atStart => exact ⟨0, none, 0, Nat.zero_le _, rfl, rfl, Lib.hid (Rd.nil_ _ _), Below.refl _ _⟩
  case round =>
    obtain ⟨k, A', c', hk, rfl, rfl, R, b⟩ := hrel
    have C1 := Lib.hid (HC.out.below b)
    have t0 := cell_of_row wr q 0 _ _ _ C1.out.t
    have ft0 := frozen_of_row wr q 0 _ _ C1.out.t
    have t1 := cell_of_row wr q 1 _ _ _ C1.out.t
    have ft1 := frozen_of_row wr q 1 _ _ C1.out.t
    have t2 := cell_of_row wr q 2 _ _ _ C1.out.t
    have ft2 := frozen_of_row wr q 2 _ _ C1.out.t
    have t3 := cell_of_row wr q 3 _ _ _ C1.out.t
    have ft3 := frozen_of_row wr q 3 _ _ C1.out.t
    have t4 := cell_of_row wr q 4 _ _ _ C1.out.t
    have ft4 := frozen_of_row wr q 4 _ _ C1.out.t
    by_cases hlt : k < s.b.length
    · obtain ⟨g2, rfl, x2, fx2⟩ := own_cell C1.out.o2 (k := k) (by omega)
      obtain ⟨gd, gm, gl⟩ := rowTo_spec s.ow k (by omega)
      have ub : U2s (rowTo s.ow k) := u2_of_mem gd fun m hm => by
        obtain ⟨i, h1, rfl, -⟩ := (gm m).1 hm
        exact ⟨by omega, by omega⟩
      have ADD := Lib.hid (fun W (R : Rd W 2 A' (rowTo s.ow k).length c' (Ss (rowTo s.ow k))) => addSpan_any A' (rowTo s.ow k).length c' _ (k : Int) (k : Int) W R gd.good ⟨Int.le_refl _, by show (k : Int) ≤ maxPn; unfold maxPn; omega⟩ (by omega) ub (by omega))
      have wk : IntKind.u64.wrap (k : Int) = (k : Int) := IntWalk.u64_in _ (by omega)
      have hgs := b.size
      clear gd gm gl ub
      by_cases ho : s.ow.getD k false = true
      · have HN := Lib.hid (show rowTo s.ow (k + 1) = addP (rowTo s.ow k) ((k : Int), (k : Int)) by simp only [rowTo]; rw [if_pos ho])
        simp only [ho] at x2
        clear ho
        go_wp2_with fail
        refine (ADD.out _ R.out).mono ?_
        rintro e w2 ⟨A5, c5, rfl, hr5, b5⟩
        rw [← HN.out] at hr5
        go_wp2_with fail
        refine ⟨⟨k + 1, A5, c5, by omega, by rw [HN.out], by go_num, Lib.hid hr5, b.trans (b5.mono hgs)⟩, ?_⟩
        simp [intOf]
        omega
      · have HN := Lib.hid (show rowTo s.ow (k + 1) = rowTo s.ow k by simp only [rowTo]; rw [if_neg ho])
        have ho' : s.ow.getD k false = false := by simpa using ho
        simp only [ho'] at x2
        clear ho ho'
        go_wp2_with fail
        refine ⟨⟨k + 1, A', c', by omega, by rw [HN.out], by go_num, by rw [HN.out]; exact R, b⟩, ?_⟩
        simp [intOf]
        omega
    · obtain rfl : k = s.b.length := by omega
      rw [HB.out] at R
      simp only [HB.out]
      go_wp2
      go_ret
      exact ⟨_, _, rfl, R.out, b⟩

end Go.Proofs.Ytilgekmpkoohaaa
