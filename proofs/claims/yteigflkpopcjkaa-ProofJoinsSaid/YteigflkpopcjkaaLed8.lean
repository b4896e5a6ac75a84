/-
  Walks of package ledger: Send, Skip.
-/
import Derived.Test.YteigflkpopcjkaaLed7
import Derived.Test.YteigflkpopcjkaaTail
namespace Go.Proofs.Yteigflkpopcjkaa
set_option linter.unusedSimpArgs false
set_option linter.unusedVariables false
set_option linter.unnecessarySimpa false
open Go.RowKit

set_option maxHeartbeats 1600000 in
theorem led_send (w : World) (F : Nat → Prop) (b : Nat) (s : LS) (x : Snt) (h : LedP w F b s) (hx : x.ok) :
    Calls Try.prog 24 #[.pointer (some ⟨b, 0, none⟩), x.val] w fun e w' => e = .returned (.tuple #[.int .u64 (s.send x).2.1, .int .i64 (s.send x).2.2]) ∧
      LedP w' (Grow F w) b (s.send x).1 ∧ Chg F w w' := by
  obtain ⟨hl0, hl1⟩ := hx.len
  obtain ⟨ho0, ho1⟩ := hx.off
  by_cases hbad : x.len < 1 ∨ 1500 < x.len ∨ 4611686018427387903 < x.off
  · have Hg : Hid (s.send x = (s, 0, 1)) := if_pos hbad
    have HR : Hid (∀ w', Below w.heap.size w w' → LedP w' (Grow F w) b s ∧ Chg F w w') := fun w' hb =>
      ⟨(h.below hb).chg (Chg.refl (fun _ => False) _) (fun _ _ _ h => h) (fun _ _ h => .inl h), chg_below hb⟩
    clear h hx
    unfold Snt.val
    by_cases h1 : x.len < 1
    · go_enter Try.func24, Try.ntmps24
      go_wp2
      go_ret2
      rw [Hg.out]
      exact ⟨rfl, HR.out _ (box_below _ _)⟩
    · by_cases h2 : 1500 < x.len
      · go_enter Try.func24, Try.ntmps24
        go_wp2
        go_ret2
        rw [Hg.out]
        exact ⟨rfl, HR.out _ (box_below _ _)⟩
      · have h3 : 4611686018427387903 < x.off := by omega
        go_enter Try.func24, Try.ntmps24
        go_wp2
        go_ret2
        rw [Hg.out]
        exact ⟨rfl, HR.out _ (box_below _ _)⟩
  · have Hg : Hid (s.send x = s.give { x with state := 1, used := false }) := if_neg hbad
    have h1 : 1 ≤ x.len := by omega
    have h2 : x.len ≤ 1500 := by omega
    have h3 : x.off ≤ 4611686018427387903 := by omega
    have HX : Hid (({ x with state := 1, used := false } : Snt).ok) := ⟨hx.pn, hx.off, hx.len, hx.nonce, hx.at_, by unfold isI64; simp⟩
    have H := Lib.hid h
    clear h hx hbad
    unfold Snt.val
    have hbl : b < w.heap.size := by obtain ⟨A, c, Hb, c0, -⟩ := H.out.cells; exact block_lt_of_cell c0
    go_enter Try.func24, Try.ntmps24
    go_wp2_with fail
    have hb1 := box_below w (.cells #[.int .u64 x.pn, .int .u64 x.off, .int .u64 x.len, .int .u64 x.nonce, .int .u64 x.at_, .bool x.coin, .bool false, .int .i64 1] 32)
    refine (led_give _ F b s { x with state := 1, used := false } (H.out.below hb1) HX.out (fun _ => ⟨h1, h2⟩)).mono ?_
    rintro e w2 ⟨rfl, hL, hC⟩
    have HL := Lib.hid hL
    clear hL
    go_wp2
    go_ret2
    rw [Hg.out]
    refine ⟨rfl, HL.out.chg (Chg.refl (fun _ => False) _) (fun _ _ _ h => h) (fun k _ hk => ?_), (chg_below hb1).step hC (fun _ _ h => h)⟩
    rcases hk with hk | hk
    · exact .inl hk
    · exact .inr (Nat.le_trans hb1.size hk)

set_option maxHeartbeats 1600000 in
theorem led_skip (w : World) (F : Nat → Prop) (b : Nat) (s : LS) (h : LedP w F b s) :
    Calls Try.prog 23 #[.pointer (some ⟨b, 0, none⟩)] w fun e w' => e = .returned (.tuple #[.int .u64 s.skip.2.1, .int .i64 s.skip.2.2]) ∧
      LedP w' (Grow F w) b s.skip.1 ∧ Chg F w w' := by
  have H := Lib.hid h
  clear h
  have Hg : Hid (s.skip = s.give LS.skipped) := rfl
  have HX : Hid LS.skipped.ok := ⟨by unfold isU64 LS.skipped; simp, by unfold isU64 LS.skipped; simp, by unfold isU64 LS.skipped; simp, by unfold isU64 LS.skipped; simp, by unfold isU64 LS.skipped; simp, by unfold isI64 LS.skipped; simp⟩
  go_enter Try.func23, Try.ntmps23
  go_wp2_with fail
  refine (led_give _ F b s LS.skipped H.out HX.out (fun e => by simp [LS.skipped] at e)).mono ?_
  rintro e w2 ⟨rfl, hL, hC⟩
  have HL := Lib.hid hL
  clear hL
  go_wp2
  go_ret2
  rw [Hg.out]
  exact ⟨rfl, HL.out, hC⟩

end Go.Proofs.Yteigflkpopcjkaa
