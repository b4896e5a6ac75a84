/-
  Two lists of numbers compared.
-/
import Derived.Test.YteigflkpopcjkaaBase
namespace Go.Proofs.Yteigflkpopcjkaa
set_option linter.unusedSimpArgs false
set_option linter.unusedVariables false
set_option linter.unnecessarySimpa false
open Go.RowKit

theorem infoU64 : (Try.prog.info? 25).map (fun i => (i.zero, i.size, i.bytes)) = some (some (.int .u64 0), 1, 8) := by kernel_rfl

set_option maxHeartbeats 800000 in
theorem sameNums_any (A B : Option Addr) (n m c d : Nat) (a b : List Int) (w : World) (ha : Rd w 1 A n c (Us a)) (hb : Rd w 1 B m d (Us b)) :
    Calls Try.prog 45 #[.slice A n c, .slice B m d] w fun e w' => e = .returned (.bool (decide (a = b))) ∧ Qt w w' := by
  have hl := ha.len
  have hm := hb.len
  simp only [Us_length, Nat.mul_one] at hl hm
  subst hl
  subst hm
  have hmax := ha.cap
  have hmax' := ha.max
  unfold maxLen at hmax'
  by_cases hne : a.length = b.length
  · have heq : ((a.length : Int) != b.length) = false := by simp [hne]
    have Hne := Lib.hid hne
    clear hne
    go_enter Try.func45, Try.ntmps45
    go_wp2
    go_loopw [5] (fun i wr => ∃ k : Nat, k ≤ a.length ∧ i = .int .i64 k ∧ a.take k = b.take k ∧ Qt w wr) (fun i _ => a.length - (intOf i).toNat)
    case atStart => exact ⟨0, Nat.zero_le _, rfl, by simp, Qt.refl w⟩
    case round =>
      obtain ⟨k, hk, rfl, ht, hq⟩ := hrel
      have Ht := Lib.hid ht
      clear ht
      by_cases hlt : k < a.length
      · have hlb : k < b.length := by rw [← Hne.out]; exact hlt
        obtain ⟨b1, o1, rfl, hc1⟩ := (ha.qt hq).u64 hlt
        obtain ⟨b2, o2, rfl, hc2⟩ := (hb.qt hq).u64 hlb
        by_cases he : a[k] = b[k]
        · have he' : (a[k] != b[k]) = false := by simp [he]
          have He := Lib.hid he
          clear he
          go_wp2
          go_quiet (fail)
          go_wp2
          go_roundw
          case rel => exact ⟨k + 1, by omega, by go_num, take_snoc_eq k hlt hlb Ht.out He.out, hq.drewN _⟩
          case measure => simp [intOf]; omega
        · have he' : (a[k] != b[k]) = true := by simp [he]
          have He := Lib.hid he
          clear he
          go_wp2
          go_quiet (fail)
          go_wp2
          go_ret
          exact ⟨ret_bool (by rw [eq_comm, decide_eq_false_iff_not]; intro e; subst e; exact He.out rfl), hq.drewN _⟩
      · go_wp2
        go_ret
        obtain rfl : k = a.length := by omega
        refine ⟨ret_bool ?_, hq⟩
        rw [eq_comm, decide_eq_true_eq]
        exact eq_of_take a.length rfl Hne.out.symm Ht.out
  · have heq : ((a.length : Int) != b.length) = true := by simp; omega
    have Hne := Lib.hid hne
    clear hne
    go_enter Try.func45, Try.ntmps45
    go_wp2
    go_ret
    exact ⟨ret_bool (by rw [eq_comm, decide_eq_false_iff_not]; intro e; exact Hne.out (by rw [e])), Qt.refl w⟩

end Go.Proofs.Yteigflkpopcjkaa
