/-
  Walks of spans that the trigger and the proof reach: Good, Has, HasNum (picked out of the texts of rows 5-9). · Within and Inside (picked out of the texts of rows 5-9).
-/
import Derived.Test.YtkedfipeebjcjaaSpan
import Derived.StillTailTactics
namespace Go.Proofs.Ytkedfipeebjcjaa
set_option linter.unusedSimpArgs false
set_option linter.unusedVariables false
set_option linter.unnecessarySimpa false
open Go.RowKit
attribute [local go_sem ↓] run_min_int run_max_int

theorem U2s.lo {l : List Sp} (h : U2s l) : ∀ s ∈ l, 0 ≤ s.1 := fun s hs => (h s hs).1.1

theorem U2s_of {l : List Sp} (h : (l.all fun s => decide (0 ≤ s.1) && decide (s.1 < 18446744073709551616) && decide (0 ≤ s.2) && decide (s.2 < 18446744073709551616)) = true) : U2s l := by
  intro s hs
  have := List.all_eq_true.1 h s hs
  simp only [Bool.and_eq_true, decide_eq_true_eq] at this
  exact ⟨⟨this.1.1.1, this.1.1.2⟩, ⟨this.1.2, this.2⟩⟩

set_option maxHeartbeats 800000 in
theorem has_yes (A : Option Addr) (n c : Nat) (l : List Sp) (q : Int) (w : World) (h : Rd w 2 A n c (Ss l)) (hu : U2s l) (hg : Good l) (hq0 : 0 ≤ q) (hq1 : q < 18446744073709551616) :
    Calls Try.prog 29 #[.slice A n c, .int .u64 q] w fun e w' => e = .returned (.bool (hasP l q)) ∧ Below w.heap.size w w' := by
  have hl := h.len
  rw [Ss_length] at hl
  obtain rfl : l.length = n := by omega
  clear hl
  have hmax := h.cap
  have hmax' := h.max
  unfold maxLen at hmax'
  have Hgb := Lib.hid (goodB_true hg)
  clear hg
  go_enter Try.func29, Try.ntmps29
  go_wp2_with fail
  refine (good_any A l.length c l _ h hu).mono ?_
  rw [Hgb.out]
  rintro e w1 ⟨rfl, hb1⟩
  go_wp2
  go_loopw [12] (fun i wr => ∃ k : Nat, k ≤ l.length ∧ i = .int .i64 k ∧ Hid (NoneTo l q k) ∧ Below w.heap.size w wr) (fun i _ => l.length - (intOf i).toNat)
  case atStart => exact ⟨0, Nat.zero_le _, rfl, NoneTo.zero _ _, hb1⟩
  case round =>
    obtain ⟨k, hk, rfl, Hno, hb⟩ := hrel
    by_cases hlt : k < l.length
    · obtain ⟨b, off, x, y, rfl, He, hc1, hc2, u1, u2, u3, u4⟩ := (h.below hb).sp hu hlt
      by_cases k1 : x ≤ q
      · by_cases k2 : q ≤ y
        · have Hn : Hid (hasP l q = true) := hasP_yes hlt (by rw [He.out]; exact ⟨k1, k2⟩)
          have t1 : decide (x ≤ q) = true := by simpa using k1
          have t2 : decide (q ≤ y) = true := by simpa using k2
          go_wp2
          go_ret
          exact ⟨ret_bool Hn.out.symm, hb.alloc hb.size _⟩
        · have Hn : Hid (NoneTo l q (k + 1)) := Hno.out.step hlt (by rw [He.out]; simp only; omega)
          have t1 : decide (x ≤ q) = true := by simpa using k1
          have t2 : decide (q ≤ y) = false := by simpa using k2
          go_wp2
          go_roundw
          case rel => exact ⟨k + 1, by omega, by go_num, Hn, hb.alloc hb.size _⟩
          case measure => simp [intOf]; omega
      · have Hn : Hid (NoneTo l q (k + 1)) := Hno.out.step hlt (by rw [He.out]; simp only; omega)
        have t1 : decide (x ≤ q) = false := by simpa using k1
        go_wp2
        go_roundw
        case rel => exact ⟨k + 1, by omega, by go_num, Hn, hb.alloc hb.size _⟩
        case measure => simp [intOf]; omega
    · obtain rfl : k = l.length := by omega
      have Hn : Hid (hasP l q = false) := hasP_no Hno.out
      go_wp2
      go_ret
      exact ⟨ret_bool Hn.out.symm, hb⟩
theorem has_no (A : Option Addr) (n c : Nat) (l : List Sp) (q : Int) (w : World) (h : Rd w 2 A n c (Ss l)) (hu : U2s l) (hg : ¬ Good l) :
    Calls Try.prog 29 #[.slice A n c, .int .u64 q] w fun e w' => e = .returned (.bool false) ∧ Below w.heap.size w w' := by
  have Hgb := Lib.hid (show goodB l = false from decide_eq_false hg)
  clear hg
  go_enter Try.func29, Try.ntmps29
  go_wp2_with fail
  refine (good_any A n c l _ h hu).mono ?_
  rw [Hgb.out]
  rintro e w1 ⟨rfl, hb1⟩
  go_wp2
  go_ret
  exact ⟨rfl, hb1⟩
set_option maxHeartbeats 800000 in
theorem hasNum_any (A : Option Addr) (n c : Nat) (l : List Sp) (q : Int) (w : World) (h : Rd w 2 A n c (Ss l)) (hu : U2s l) (hq0 : 0 ≤ q) (hq1 : q < 18446744073709551616) :
    Calls Try.prog 18 #[.slice A n c, .int .u64 q] w fun e w' => e = .returned (.bool (hasP l q)) ∧ Qt w w' := by
  have hl := h.len
  rw [Ss_length] at hl
  obtain rfl : l.length = n := by omega
  clear hl
  have hmax := h.cap
  have hmax' := h.max
  unfold maxLen at hmax'
  go_enter Try.func18, Try.ntmps18
  go_wp2
  go_loopw [5] (fun i wr => ∃ k : Nat, k ≤ l.length ∧ i = .int .i64 k ∧ Hid (NoneTo l q k) ∧ Qt w wr) (fun i _ => l.length - (intOf i).toNat)
  case atStart => exact ⟨0, Nat.zero_le _, rfl, NoneTo.zero _ _, Qt.refl w⟩
  case round =>
    obtain ⟨k, hk, rfl, Hno, hb⟩ := hrel
    by_cases hlt : k < l.length
    · obtain ⟨b, off, x, y, rfl, He, hc1, hc2, u1, u2, u3, u4⟩ := (h.qt hb).sp hu hlt
      by_cases k1 : x ≤ q
      · by_cases k2 : q ≤ y
        · have Hn : Hid (hasP l q = true) := hasP_yes hlt (by rw [He.out]; exact ⟨k1, k2⟩)
          have t1 : decide (x ≤ q) = true := by simpa using k1
          have t2 : decide (q ≤ y) = true := by simpa using k2
          go_wp2
          go_ret
          exact ⟨ret_bool Hn.out.symm, hb⟩
        · have Hn : Hid (NoneTo l q (k + 1)) := Hno.out.step hlt (by rw [He.out]; simp only; omega)
          have t1 : decide (x ≤ q) = true := by simpa using k1
          have t2 : decide (q ≤ y) = false := by simpa using k2
          go_wp2
          go_roundw
          case rel => exact ⟨k + 1, by omega, by go_num, Hn, hb⟩
          case measure => simp [intOf]; omega
      · have Hn : Hid (NoneTo l q (k + 1)) := Hno.out.step hlt (by rw [He.out]; simp only; omega)
        have t1 : decide (x ≤ q) = false := by simpa using k1
        go_wp2
        go_roundw
        case rel => exact ⟨k + 1, by omega, by go_num, Hn, hb⟩
        case measure => simp [intOf]; omega
    · obtain rfl : k = l.length := by omega
      have Hn : Hid (hasP l q = false) := hasP_no Hno.out
      go_wp2
      go_ret
      exact ⟨ret_bool Hn.out.symm, hb⟩
end Go.Proofs.Ytkedfipeebjcjaa

namespace Go.Proofs.Ytkedfipeebjcjaa
set_option linter.unusedSimpArgs false
set_option linter.unusedVariables false
set_option linter.unnecessarySimpa false
open Go.RowKit

/-! One row within another. -/
def InB (s : Sp) (b : List Sp) : Prop := ∃ t ∈ b, t.1 ≤ s.1 ∧ s.2 ≤ t.2
def InsideP (a b : List Sp) : Prop := ∀ s ∈ a, InB s b
instance (s : Sp) (b : List Sp) : Decidable (InB s b) := by unfold InB; infer_instance
instance (a b : List Sp) : Decidable (InsideP a b) := by unfold InsideP; infer_instance
def InTo (a b : List Sp) (i : Nat) : Prop := ∀ j, (h : j < a.length) → j < i → InB a[j] b
theorem InTo.zero (a b : List Sp) : InTo a b 0 := fun j _ h => absurd h (by omega)
theorem InTo.step {a b : List Sp} {i : Nat} (h : InTo a b i) (hi : i < a.length) (h1 : InB a[i] b) : InTo a b (i + 1) := by
  intro j hj hji
  by_cases e : j = i
  · subst e; exact h1
  · exact h j hj (by omega)
theorem InTo.all {a b : List Sp} (h : InTo a b a.length) : decide (InsideP a b) = true := by
  rw [decide_eq_true_eq]
  intro s hs
  obtain ⟨i, hi, rfl⟩ := List.getElem_of_mem hs
  exact h i hi hi
theorem In_no {a b : List Sp} {i : Nat} (hi : i < a.length) (h : ¬ InB a[i] b) : decide (InsideP a b) = false := by
  rw [decide_eq_false_iff_not]
  exact fun h' => h (h' _ (List.getElem_mem hi))
/-- The first k of b lie below all of a from i on. -/
def Low (a b : List Sp) (i k : Nat) : Prop := ∀ j, (hj : j < b.length) → j < k → ∀ i', (hi : i' < a.length) → i ≤ i' → b[j].2 < a[i'].1
theorem Low.zero (a b : List Sp) (i : Nat) : Low a b i 0 := fun j _ h => absurd h (by omega)
theorem Low.later {a b : List Sp} {i k : Nat} (h : Low a b i k) : Low a b (i + 1) k := fun j hj hk i' hi hi' => h j hj hk i' hi (by omega)
theorem Low.step {a b : List Sp} {i k : Nat} (ha : Gd a) (h : Low a b i k) (hi : i < a.length) (hk : k < b.length) (h1 : b[k].2 < a[i].1) : Low a b i (k + 1) := by
  intro j hj hjk i' hi' hii
  by_cases e : j = k
  · subst e
    by_cases e2 : i' = i
    · subst e2; exact h1
    · have h2 := List.pairwise_iff_getElem.1 ha.2 i i' hi hi' (by omega)
      have h3 := (ha.1 _ (List.getElem_mem hi)).1
      omega
  · exact h j hj (by omega) i' hi' hii
/-- Where the first that is not below s stands: s is in some of b just where it is in that one. -/
theorem InB_at {a b : List Sp} {i k : Nat} (ha : Gd a) (hb : Gd b) (h : Low a b i k) (hi : i < a.length) (hk : k < b.length) (h1 : ¬ b[k].2 < a[i].1) : InB a[i] b ↔ b[k].1 ≤ a[i].1 ∧ a[i].2 ≤ b[k].2 := by
  have hs := (ha.1 _ (List.getElem_mem hi)).1
  constructor
  · rintro ⟨t, ht, h2, h3⟩
    obtain ⟨j, hj, rfl⟩ := List.getElem_of_mem ht
    rcases Nat.lt_trichotomy j k with e | e | e
    · have := h j hj e i hi (Nat.le_refl _)
      omega
    · subst e; exact ⟨h2, h3⟩
    · have := List.pairwise_iff_getElem.1 hb.2 k j hk hj e
      omega
  · rintro ⟨h2, h3⟩
    exact ⟨_, List.getElem_mem hk, h2, h3⟩
theorem InB_end {a b : List Sp} {i : Nat} (ha : Gd a) (h : Low a b i b.length) (hi : i < a.length) : ¬ InB a[i] b := by
  have hs := (ha.1 _ (List.getElem_mem hi)).1
  rintro ⟨t, ht, h2, h3⟩
  obtain ⟨j, hj, rfl⟩ := List.getElem_of_mem ht
  have := h j hj hj i hi (Nat.le_refl _)
  omega

set_option maxHeartbeats 3200000 in
theorem within_yes (A B : Option Addr) (n m c d : Nat) (a b : List Sp) (w : World) (ha : Rd w 2 A n c (Ss a)) (hb : Rd w 2 B m d (Ss b)) (hua : U2s a) (hub : U2s b) (hga : Good a) (hgb : Good b) :
    Calls Try.prog 50 #[.slice A n c, .slice B m d] w fun e w' => e = .returned (.bool (decide (InsideP a b))) ∧ Below w.heap.size w w' := by
  have hl := ha.len
  have hm := hb.len
  rw [Ss_length] at hl hm
  obtain rfl : a.length = n := by omega
  obtain rfl : b.length = m := by omega
  clear hl hm
  have hmax := ha.cap
  have hmax' := ha.max
  have hmaxb := hb.cap
  have hmaxb' := hb.max
  unfold maxLen at hmax' hmaxb'
  have Ga := Lib.hid hga.gd
  have Gb := Lib.hid hgb.gd
  have Hga := Lib.hid (goodB_true hga)
  have Hgb := Lib.hid (goodB_true hgb)
  clear hga hgb
  go_enter Try.func50, Try.ntmps50
  go_wp2_with fail
  refine (good_any A a.length c a _ ha hua).mono ?_
  rw [Hga.out]
  rintro e w1 ⟨rfl, b1⟩
  go_wp2_with fail
  refine (good_any B b.length d b _ (hb.below b1) hub).mono ?_
  rw [Hgb.out]
  rintro e w2 ⟨rfl, b2⟩
  have hb2 := b1.trans (b2.mono b1.size)
  clear b1 b2
  go_wp2
  go_loopw [5, 18] (fun kk ii wr => ∃ i k : Nat, i ≤ a.length ∧ k ≤ b.length ∧ ii = .int .i64 i ∧ kk = .int .i64 k ∧ Hid (InTo a b i) ∧ Hid (Low a b i k) ∧ Below w.heap.size w wr) (fun _ ii _ => a.length - (intOf ii).toNat)
  case atStart => exact ⟨0, 0, Nat.zero_le _, Nat.zero_le _, rfl, rfl, InTo.zero _ _, Low.zero _ _ _, hb2⟩
  case round =>
    obtain ⟨i, k, hi, hk, rfl, rfl, HI, HL, hbr⟩ := hrel
    by_cases hlt : i < a.length
    · obtain ⟨p1, o1, x, y, rfl, He, hc1, hc2, u1, u2, u3, u4⟩ := (ha.below hbr).sp hua hlt
      go_wp2
      have hw1 := hbr.alloc hbr.size (.cells #[.int .u64 x, .int .u64 y] 68)
      have HX := Lib.hid (heap_alloc_new wr (.cells #[.int .u64 x, .int .u64 y] 68))
      obtain ⟨g, hg⟩ : ∃ g, g = wr.heap.size := ⟨_, rfl⟩
      rw [← hg] at HX ⊢
      generalize wr.alloc (.cells #[.int .u64 x, .int .u64 y] 68) = wx at *
      clear hg hc1 hc2
      go_loopw [5] (fun kk wq => ∃ k' : Nat, k' ≤ b.length ∧ kk = .int .i64 k' ∧ Hid (Low a b i k') ∧ Qt wx wq) (fun kk _ => b.length - (intOf kk).toNat)
      case atStart => exact ⟨k, hk, rfl, HL, Qt.refl _⟩
      case round =>
        obtain ⟨k', hk', rfl, HL', q1⟩ := hrel
        have d1 := cell_of_row _ g 0 _ _ _ (q1.blk HX.out)
        have d2 := cell_of_row _ g 1 _ _ _ (q1.blk HX.out)
        have hbq := hw1.trans q1.below
        by_cases hkl : k' < b.length
        · obtain ⟨p2, o2, z, p, rfl, He2, hc3, hc4, v1, v2, v3, v4⟩ := (hb.below hbq).sp hub hkl
          by_cases hp : p < x
          · have t1 : decide (p < x) = true := by simpa using hp
            have HL2 : Hid (Low a b i (k' + 1)) := HL'.out.step Ga.out hlt hkl (by rw [He.out, He2.out]; exact hp)
            go_wp2
            refine wp_region_qt (by kernel_rfl) (by kernel_rfl) ?_
            repeat (go_big_quiet_step (fail))
            refine wpQuiet_nil ?_
            intro wd qd
            go_wp2
            go_roundw
            case rel => exact ⟨k' + 1, by omega, by go_num, HL2, q1.trans qd⟩
            case measure => simp [intOf]; omega
          · have t1 : decide (p < x) = false := by simpa using hp
            have hat := InB_at Ga.out Gb.out HL'.out hlt hkl (by rw [He.out, He2.out]; exact hp)
            rw [He2.out] at hat
            have Hat := Lib.hid hat
            clear hat
            have t0 : ((k' : Int) == (b.length : Int)) = false := by simp; omega
            by_cases hx : x < z
            · have t2 : decide (x < z) = true := by simpa using hx
              have Hn : Hid (decide (InsideP a b) = false) := In_no hlt (by rw [Hat.out, He.out]; simp only; omega)
              go_wp2
              refine wp_region_qt (by kernel_rfl) (by kernel_rfl) ?_
              repeat (go_big_quiet_step (fail))
              refine wpQuiet_nil ?_
              intro wd qd
              have d1 := qd.cell d1
              have d2 := qd.cell d2
              have hc3 := qd.cell hc3
              have hc4 := qd.cell hc4
              go_wp2
              refine wp_region_qt (by kernel_rfl) (by kernel_rfl) ?_
              repeat (go_big_quiet_step (fail))
              refine wpQuiet_nil ?_
              intro we qe
              go_wp2
              go_ret
              exact ⟨ret_bool Hn.out.symm, (hbq.trans qd.below).trans qe.below⟩
            · have t2 : decide (x < z) = false := by simpa using hx
              by_cases hy : p < y
              · have t3 : decide (p < y) = true := by simpa using hy
                have Hn : Hid (decide (InsideP a b) = false) := In_no hlt (by rw [Hat.out, He.out]; simp only; omega)
                go_wp2
                refine wp_region_qt (by kernel_rfl) (by kernel_rfl) ?_
                repeat (go_big_quiet_step (fail))
                refine wpQuiet_nil ?_
                intro wd qd
                have d1 := qd.cell d1
                have d2 := qd.cell d2
                have hc3 := qd.cell hc3
                have hc4 := qd.cell hc4
                go_wp2
                refine wp_region_qt (by kernel_rfl) (by kernel_rfl) ?_
                repeat (go_big_quiet_step (fail))
                refine wpQuiet_nil ?_
                intro we qe
                go_wp2
                go_ret
                exact ⟨ret_bool Hn.out.symm, (hbq.trans qd.below).trans qe.below⟩
              · have t3 : decide (p < y) = false := by simpa using hy
                have HI2 : Hid (InTo a b (i + 1)) := HI.out.step hlt (by rw [Hat.out, He.out]; simp only; omega)
                go_wp2
                refine wp_region_qt (by kernel_rfl) (by kernel_rfl) ?_
                repeat (go_big_quiet_step (fail))
                refine wpQuiet_nil ?_
                intro wd qd
                have d1 := qd.cell d1
                have d2 := qd.cell d2
                have hc3 := qd.cell hc3
                have hc4 := qd.cell hc4
                go_wp2
                refine wp_region_qt (by kernel_rfl) (by kernel_rfl) ?_
                repeat (go_big_quiet_step (fail))
                refine wpQuiet_nil ?_
                intro we qe
                go_wp2
                go_roundw
                case rel => exact ⟨i + 1, k', by omega, by omega, by go_num, rfl, HI2, HL'.out.later, (hbq.trans qd.below).trans qe.below⟩
                case measure => simp [intOf]; omega
        · obtain rfl : k' = b.length := by omega
          have t0 : ((b.length : Int) == (b.length : Int)) = true := by simp
          have Hn : Hid (decide (InsideP a b) = false) := In_no hlt (InB_end Ga.out HL'.out hlt)
          go_wp2
          refine wp_region_qt (by kernel_rfl) (by kernel_rfl) ?_
          repeat (go_big_quiet_step (fail))
          refine wpQuiet_nil ?_
          intro wd qd
          go_wp2
          refine wp_region_qt (by kernel_rfl) (by kernel_rfl) ?_
          repeat (go_big_quiet_step (fail))
          refine wpQuiet_nil ?_
          intro we qe
          go_wp2
          go_ret
          exact ⟨ret_bool Hn.out.symm, (hbq.trans qd.below).trans qe.below⟩
    · obtain rfl : i = a.length := by omega
      have Hn := Lib.hid HI.out.all
      go_wp2
      go_ret
      exact ⟨ret_bool Hn.out.symm, hbr⟩

theorem within_no (A B : Option Addr) (n m c d : Nat) (a b : List Sp) (w : World) (ha : Rd w 2 A n c (Ss a)) (hb : Rd w 2 B m d (Ss b)) (hua : U2s a) (hub : U2s b) (hno : ¬ (Good a ∧ Good b)) :
    Calls Try.prog 50 #[.slice A n c, .slice B m d] w fun e w' => e = .returned (.bool false) ∧ Below w.heap.size w w' := by
  by_cases hga : Good a
  · have Hga := Lib.hid (goodB_true hga)
    have Hgb := Lib.hid (show goodB b = false from decide_eq_false (fun h => hno ⟨hga, h⟩))
    clear hga hno
    go_enter Try.func50, Try.ntmps50
    go_wp2_with fail
    refine (good_any A n c a _ ha hua).mono ?_
    rw [Hga.out]
    rintro e w1 ⟨rfl, b1⟩
    go_wp2_with fail
    refine (good_any B m d b _ (hb.below b1) hub).mono ?_
    rw [Hgb.out]
    rintro e w2 ⟨rfl, b2⟩
    go_wp2
    go_ret
    exact ⟨rfl, b1.trans (b2.mono b1.size)⟩
  · have Hga := Lib.hid (show goodB a = false from decide_eq_false hga)
    clear hga hno
    go_enter Try.func50, Try.ntmps50
    go_wp2_with fail
    refine (good_any A n c a _ ha hua).mono ?_
    rw [Hga.out]
    rintro e w1 ⟨rfl, b1⟩
    go_wp2
    go_ret
    exact ⟨rfl, b1⟩

/-- Is s in one of the first k? -/
def inTo (s : Sp) (b : List Sp) (k : Nat) : Bool := (b.take k).any fun t => decide (t.1 ≤ s.1) && decide (s.2 ≤ t.2)
theorem inTo_zero (s : Sp) (b : List Sp) : inTo s b 0 = false := by simp [inTo]
theorem inTo_succ (s : Sp) (b : List Sp) (k : Nat) (h : k < b.length) : inTo s b (k + 1) = (inTo s b k || (decide (b[k].1 ≤ s.1) && decide (s.2 ≤ b[k].2))) := any_take_succ _ b k h
theorem inTo_all (s : Sp) (b : List Sp) : inTo s b b.length = true ↔ InB s b := by
  simp [inTo, InB, List.any_eq_true]

end Go.Proofs.Ytkedfipeebjcjaa
