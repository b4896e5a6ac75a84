/-
  Walks of package sat: Add.
-/
import Derived.Test.YteigflkpopcjkaaObj
import Derived.Laws.Externs
namespace Go.Proofs.Yteigflkpopcjkaa
set_option linter.unusedSimpArgs false
set_option linter.unusedVariables false
set_option linter.unnecessarySimpa false
open Go.RowKit

theorem sat_add64 (a b : Int) (ha : 0 ≤ a) (hb : 0 ≤ b) (w : World) : (callFunc 90 #[.int .u64 a, .int .u64 b, .int .u64 0]).run Try.prog w =
    .ok (.value (.tuple #[.int .u64 ((a + b) % 18446744073709551616), .int .u64 ((a + b) / 18446744073709551616)])) w := by
  rw [run_callFunc_extern Try.func90 (by kernel_rfl) (by kernel_rfl) (by kernel_rfl) (e := add64Entry) (by kernel_rfl), run_add64 a b 0 ha hb (by omega) (by omega)]
  simp [Result.andThen]

set_option maxHeartbeats 800000 in
theorem sat_add (a b : Int) (w : World) (ha : isU64 a) (hb : isU64 b) :
    Calls Try.prog 73 #[.int .u64 a, .int .u64 b] w fun e w' => e = .returned (.int .u64 (min (a + b) 18446744073709551615)) ∧ Qt w w' := by
  obtain ⟨h1, h2⟩ := ha
  obtain ⟨h3, h4⟩ := hb
  by_cases hc : a + b < 18446744073709551616
  · have hr : ∀ w, (callFunc 90 #[.int .u64 a, .int .u64 b, .int .u64 0]).run Try.prog w = .ok (.value (.tuple #[.int .u64 (a + b), .int .u64 0])) w := fun w => by
      rw [sat_add64 a b h1 h3, show (a + b) % 18446744073709551616 = a + b by omega, show (a + b) / 18446744073709551616 = 0 by omega]
    have HM := Lib.hid (show min (a + b) 18446744073709551615 = a + b by omega)
    go_enter Try.func73, Try.ntmps73
    go_wp2
    go_ret
    exact ⟨ret_int HM.out.symm, Qt.refl _⟩
  · have hr : ∀ w, (callFunc 90 #[.int .u64 a, .int .u64 b, .int .u64 0]).run Try.prog w = .ok (.value (.tuple #[.int .u64 (a + b - 18446744073709551616), .int .u64 1])) w := fun w => by
      rw [sat_add64 a b h1 h3, show (a + b) % 18446744073709551616 = a + b - 18446744073709551616 by omega, show (a + b) / 18446744073709551616 = 1 by omega]
    have HM := Lib.hid (show min (a + b) 18446744073709551615 = 18446744073709551615 by omega)
    go_enter Try.func73, Try.ntmps73
    go_wp2
    go_ret
    exact ⟨ret_int HM.out.symm, Qt.refl _⟩
end Go.Proofs.Yteigflkpopcjkaa
