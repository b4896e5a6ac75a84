/-
  Walks of package ledger: Fork.
-/
import Derived.Test.YteigflkpopcjkaaLed5
namespace Go.Proofs.Yteigflkpopcjkaa
set_option linter.unusedSimpArgs false
set_option linter.unusedVariables false
set_option linter.unnecessarySimpa false
open Go.RowKit

set_option maxHeartbeats 1600000 in
theorem led_fork (w : World) (F : Nat → Prop) (b : Nat) (s : LS) (h : LedP w F b s) :
    Calls Try.prog 39 #[.pointer (some ⟨b, 0, none⟩)] w fun e w' => ∃ b', e = .returned (.pointer (some ⟨b', 0, none⟩)) ∧
      LedP w' (fun k => w.heap.size ≤ k) b' s ∧ Below w.heap.size w w' := by
  obtain ⟨A, c, Hb, c0, c1, c2, c3, ho, -⟩ := h.cells
  have H := Lib.hid h
  have hblt := block_lt_of_cell c0
  simp only at hblt
  clear h ho c3
  go_enter Try.func39, Try.ntmps39
  go_wp2
  go_region_held3 (fun W => W.cell? ⟨b, 0, none⟩ = some (.int .i64 s.ring) ∧ W.cell? ⟨b, 1, none⟩ = some (.int .u64 s.limit) ∧ W.cell? ⟨b, 2, none⟩ = some (.int .u64 s.all.length))
    (first
      | go_keep
      | (go_split_ands
         refine ⟨?_, ?_, ?_⟩ <;> (refine (b2.cell ?_).trans ?_ <;> first | assumption | (exact block_lt_of_cell (by assumption)))))
    (first | (go_at_call 33; refine (led_all _ F b s (by first | exact H.out | exact H.out.qt ⟨1, rfl⟩)).mono ?_; rintro e w2 ⟨A2, c2', rfl, R2, b2⟩))
  go_wp2
  go_ret
  have hb2 : Below w.heap.size w w2 := Below.trans ((Below.refl w.heap.size w).drew) (b2.mono (Nat.le_refl _))
  refine ⟨w2.heap.size, rfl, ⟨H.out.good, A2, c2', heap_alloc_new w2 _, (own_base R2 (fun _ _ => Nat.zero_le _)).alloc _, hb2.size, fun k hk => ?_⟩, hb2.alloc hb2.size _⟩
  have := R2.lt k hk
  exact ⟨this.1, by omega⟩

end Go.Proofs.Yteigflkpopcjkaa
