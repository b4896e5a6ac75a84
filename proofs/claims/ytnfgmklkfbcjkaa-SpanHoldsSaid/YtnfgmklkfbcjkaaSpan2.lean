/-
  Walks: SameSpans, sat.Add, span.Count.
-/
import Derived.Test.YtnfgmklkfbcjkaaSpanAdd
import Derived.Laws.Externs
namespace Go.Proofs.Ytnfgmklkfbcjkaa
set_option linter.unusedSimpArgs false
set_option linter.unusedVariables false
set_option linter.unnecessarySimpa false
open Go.RowKit

theorem add64_run (a b : Int) (ha : 0 ≤ a) (hb : 0 ≤ b) (w : World) : (callFunc 43 #[.int .u64 a, .int .u64 b, .int .u64 0]).run Try.prog w =
    .ok (.value (.tuple #[.int .u64 ((a + b) % 18446744073709551616), .int .u64 ((a + b) / 18446744073709551616)])) w := by
  rw [run_callFunc_extern Try.func43 (by kernel_rfl) (by kernel_rfl) (by kernel_rfl) (e := add64Entry) (by kernel_rfl), run_add64 a b 0 ha hb (by omega) (by omega)]
  simp [Result.andThen]

set_option maxHeartbeats 800000 in
theorem satAdd_any (a b : Int) (w : World) (ha : isU64 a) (hb : isU64 b) :
    Calls Try.prog 42 #[.int .u64 a, .int .u64 b] w fun e w' => e = .returned (.int .u64 (min (a + b) 18446744073709551615)) ∧ w = w' := by
  obtain ⟨h1, h2⟩ := ha
  obtain ⟨h3, h4⟩ := hb
  by_cases hc : a + b < 18446744073709551616
  · have hr : ∀ w, (callFunc 43 #[.int .u64 a, .int .u64 b, .int .u64 0]).run Try.prog w = .ok (.value (.tuple #[.int .u64 (a + b), .int .u64 0])) w := fun w => by
      rw [add64_run a b h1 h3, show (a + b) % 18446744073709551616 = a + b by omega, show (a + b) / 18446744073709551616 = 0 by omega]
    have HM := Lib.hid (show min (a + b) 18446744073709551615 = a + b by omega)
    go_enter Try.func42, Try.ntmps42
    go_wp2
    go_ret
    exact ⟨ret_int HM.out.symm, rfl⟩
  · have hr : ∀ w, (callFunc 43 #[.int .u64 a, .int .u64 b, .int .u64 0]).run Try.prog w = .ok (.value (.tuple #[.int .u64 (a + b - 18446744073709551616), .int .u64 1])) w := fun w => by
      rw [add64_run a b h1 h3, show (a + b) % 18446744073709551616 = a + b - 18446744073709551616 by omega, show (a + b) / 18446744073709551616 = 1 by omega]
    have HM := Lib.hid (show min (a + b) 18446744073709551615 = 18446744073709551615 by omega)
    go_enter Try.func42, Try.ntmps42
    go_wp2
    go_ret
    exact ⟨ret_int HM.out.symm, rfl⟩

set_option maxHeartbeats 800000 in
theorem sameSpans_any (A B : Option Addr) (n m c d : Nat) (a b : List Sp) (w : World) (ha : Rd w 2 A n c (Ss a)) (hb : Rd w 2 B m d (Ss b)) :
    Calls Try.prog 22 #[.slice A n c, .slice B m d] w fun e w' => e = .returned (.bool (decide (a = b))) ∧ Qt w w' := by
  have hl := ha.len
  have hm := hb.len
  rw [Ss_length] at hl hm
  obtain rfl : a.length = n := by omega
  obtain rfl : b.length = m := by omega
  clear hl hm
  have hmax := ha.cap
  have hmax' := ha.max
  unfold maxLen at hmax'
  by_cases hne : a.length = b.length
  · have heq : ((a.length : Int) != b.length) = false := by simp [hne]
    have Hne := Lib.hid hne
    clear hne
    go_enter Try.func22, Try.ntmps22
    go_wp2
    go_loopw [5] (fun i wr => ∃ k : Nat, k ≤ a.length ∧ i = .int .i64 k ∧ a.take k = b.take k ∧ Qt w wr) (fun i _ => a.length - (intOf i).toNat)
    case atStart => exact ⟨0, Nat.zero_le _, rfl, by simp, Qt.refl w⟩
    case round =>
      obtain ⟨k, hk, rfl, ht, hq⟩ := hrel
      have Ht := Lib.hid ht
      clear ht
      by_cases hlt : k < a.length
      · have hlb : k < b.length := by rw [← Hne.out]; exact hlt
        obtain ⟨b1, o1, rfl, hc1, hc2⟩ := (ha.qt hq).span hlt
        obtain ⟨b2, o2, rfl, hc3, hc4⟩ := (hb.qt hq).span hlb
        generalize hp : a[k] = p at *
        generalize hr : b[k] = r at *
        have Hp := Lib.hid hp
        have Hr := Lib.hid hr
        clear hp hr
        obtain ⟨p1, p2⟩ := p
        obtain ⟨r1, r2⟩ := r
        simp only at hc1 hc2 hc3 hc4
        by_cases he : p1 = r1 ∧ p2 = r2
        · obtain ⟨rfl, rfl⟩ := he
          go_wp2
          refine wp_region_qt (by kernel_rfl) (by kernel_rfl) ?_
          repeat (go_big_quiet_step (fail))
          refine wpQuiet_nil ?_
          intro wd qd
          go_wp2
          go_roundw
          case rel => exact ⟨k + 1, by omega, by go_num, take_snoc_eq k hlt hlb Ht.out (by rw [Hp.out, Hr.out]), hq.trans qd⟩
          case measure => simp [intOf]; omega
        · have He : Hid (¬ (p1 = r1 ∧ p2 = r2)) := he
          have he1 : ((p1 == r1) && (p2 == r2)) = false := by
            rw [Bool.and_eq_false_iff]
            by_cases h1 : p1 = r1
            · right; simp; intro h2; exact he ⟨h1, h2⟩
            · left; simpa using h1
          clear he
          by_cases h1 : p1 = r1
          · have h2 : (p2 == r2) = false := by simp; intro h2; exact He.out ⟨h1, h2⟩
            subst h1
            clear he1
            go_wp2
            refine wp_region_qt (by kernel_rfl) (by kernel_rfl) ?_
            repeat (go_big_quiet_step (fail))
            refine wpQuiet_nil ?_
            intro wd qd
            go_wp2
            go_ret
            exact ⟨ret_bool (by rw [eq_comm, decide_eq_false_iff_not]; intro e; subst e; rw [Hr.out] at Hp; injection Hp.out with _ e2; exact He.out ⟨trivial, e2.symm⟩), hq.trans qd⟩
          · have h2 : (p1 == r1) = false := by simpa using h1
            clear he1 h1
            go_wp2
            refine wp_region_qt (by kernel_rfl) (by kernel_rfl) ?_
            repeat (go_big_quiet_step (fail))
            refine wpQuiet_nil ?_
            intro wd qd
            go_wp2
            go_ret
            exact ⟨ret_bool (by rw [eq_comm, decide_eq_false_iff_not]; intro e; subst e; rw [Hr.out] at Hp; injection Hp.out with e1 e2; exact He.out ⟨e1.symm, e2.symm⟩), hq.trans qd⟩
      · go_wp2
        go_ret
        obtain rfl : k = a.length := by omega
        refine ⟨ret_bool ?_, hq⟩
        rw [eq_comm, decide_eq_true_eq]
        exact eq_of_take a.length rfl Hne.out.symm Ht.out
  · have heq : ((a.length : Int) != b.length) = true := by simp; omega
    have Hne := Lib.hid hne
    clear hne
    go_enter Try.func22, Try.ntmps22
    go_wp2
    go_ret
    exact ⟨ret_bool (by rw [eq_comm, decide_eq_false_iff_not]; intro e; exact Hne.out (by rw [e])), Qt.refl w⟩

theorem add_no (A : Option Addr) (n c : Nat) (l : List Sp) (lo hi : Int) (w : World) (h : Rd w 2 A n c (Ss l)) (hu : U2s l) (h1 : 0 ≤ lo) (h2 : lo < 18446744073709551616) (h3 : 0 ≤ hi) (h4 : hi < 18446744073709551616) (hno : ¬ (Good l ∧ IsSpan (lo, hi))) :
    Calls Try.prog 21 #[.slice A n c, .agg #[.int .u64 lo, .int .u64 hi]] w fun e w' => e = .returned (.tuple #[.slice none 0 0, .bool false]) ∧ Below w.heap.size w w' := by
  have hw0 := (Below.refl w.heap.size w).alloc (Nat.le_refl _) (.cells #[.int .u64 lo, .int .u64 hi] 43)
  have hw1 := heap_alloc_new w (.cells #[.int .u64 lo, .int .u64 hi] 43)
  by_cases hg : Good l
  · have Hno : Hid (¬ IsSpan (lo, hi)) := fun h => hno ⟨hg, h⟩
    have Hgb := Lib.hid (goodB_true hg)
    clear hno hg
    go_enter Try.func21, Try.ntmps21
    go_wp2_with fail
    refine (good_any A n c l _ (h.below hw0) hu).mono ?_
    rw [Hgb.out]
    rintro e wa ⟨rfl, ba⟩
    have hwa := hw0.trans (ba.mono (by simp))
    have HBa := Lib.hid ((ba.block w.heap.size (by simp)).trans hw1)
    have a1 := cell_of_row wa w.heap.size 0 _ _ _ HBa.out
    have a2 := cell_of_row wa w.heap.size 1 _ _ _ HBa.out
    clear hw0 hw1
    go_wp2_with fail
    refine (right_no lo hi wa h1 h2 h3 h4 Hno.out).mono ?_
    rintro e wb ⟨rfl, bb⟩
    have hwb := hwa.trans (bb.mono hwa.size)
    go_wp2
    go_ret2
    exact ⟨rfl, hwb⟩
  · have Hgb := Lib.hid (show goodB l = false from decide_eq_false hg)
    clear hno hg
    go_enter Try.func21, Try.ntmps21
    go_wp2_with fail
    refine (good_any A n c l _ (h.below hw0) hu).mono ?_
    rw [Hgb.out]
    rintro e wa ⟨rfl, ba⟩
    have hwa := hw0.trans (ba.mono (by simp))
    clear hw0 hw1
    go_wp2
    go_ret2
    exact ⟨rfl, hwa⟩
end Go.Proofs.Ytnfgmklkfbcjkaa
