/-
  Walks: Last, LastSpans, Within, Inside.
-/
import Derived.Test.YtnfgmklkfbcjkaaSpan5
namespace Go.Proofs.Ytnfgmklkfbcjkaa
set_option linter.unusedSimpArgs false
set_option linter.unusedVariables false
set_option linter.unnecessarySimpa false
open Go.RowKit
attribute [local go_sem ↓] run_min_int run_max_int

theorem lastP_no {l : List Sp} {q : Int} (h : q < 1) : lastP l q = [] := by simp [lastP, h]
theorem lastP_yes {l : List Sp} {q : Int} (h : ¬ q < 1) : lastP l q = l.drop (l.length - q.toNat) := by simp [lastP, h]

set_option maxHeartbeats 800000 in
theorem last_yes (A : Option Addr) (n c : Nat) (l : List Sp) (q : Int) (w : World) (h : Rd w 2 A n c (Ss l)) (hu : U2s l) (hg : Good l) (hq0 : -9223372036854775808 ≤ q) (hq1 : q ≤ 9223372036854775807) (hn : n ≤ 8796093021952) :
    Calls Try.prog 33 #[.slice A n c, .int .i64 q] w fun e w' => ∃ A' c', e = .returned (.slice A' (lastP l q).length c') ∧ Rd w' 2 A' (lastP l q).length c' (Ss (lastP l q)) ∧ Below w.heap.size w w' := by
  obtain ⟨i0, hi0, hz0, hz1, hz2⟩ := info_parts infoSpan
  have hl := h.len
  rw [Ss_length] at hl
  obtain rfl : l.length = n := by omega
  clear hl
  have hmax := h.cap
  have hmax' := h.max
  unfold maxLen at hmax'
  have Hgb := Lib.hid (goodB_true hg)
  clear hg
  by_cases hq : q < 1
  · have HL := Lib.hid (lastP_no (l := l) hq)
    go_enter Try.func33, Try.ntmps33
    go_wp2_with fail
    refine (good_any A l.length c l _ h hu).mono ?_
    rw [Hgb.out]
    rintro e w1 ⟨rfl, hb1⟩
    go_wp2
    go_ret
    rw [HL.out]
    exact ⟨none, 0, rfl, Rd.nil_ _ _, hb1⟩
  · have HL := Lib.hid (lastP_yes (l := l) hq)
    have em : max 0 ((l.length : Int) - q) = ((l.length - q.toNat : Nat) : Int) := by omega
    have hj : l.length - q.toNat ≤ l.length := by omega
    obtain ⟨A9, hrun9, hcut9⟩ := h.cut_run (P := Try.prog) (t := 39) Try.underlying39 hi0 hz1 hj
    generalize l.length - q.toNat = j at *
    go_enter Try.func33, Try.ntmps33
    go_wp2_with fail
    refine (good_any A l.length c l _ h hu).mono ?_
    rw [Hgb.out]
    rintro e w1 ⟨rfl, hb1⟩
    have R9 := hcut9 _ _ (h.below hb1)
    rw [Ss_drop] at R9
    go_wp2_with (
      at_builtin
      refine wpList_append_rd _ rfl (.const (.slice none 0 0)) (.tmp 18) 39 rfl w.heap.size 43 i0 (.agg #[.int .u64 0, .int .u64 0]) 2 16 Try.underlying39 hi0 hz0 hz1 hz2 rfl (by decide) (.slice none 0 0) 0 [] rfl (World.ownsRow_nil _ _ _ _) A9 (l.length - j) (c - j) (Ss (l.drop j)) rfl R9 (Ss_one _) (by unfold maxLen; omega) (by omega) hb1.size ?_
      intro v2 w2 hown2 hg2 _)
    go_ret
    obtain ⟨A5, c5, e5, _⟩ := own_slice hown2
    subst e5
    have R5 := Rd.of_own hown2
    rw [HL.out]
    have e6 : (l.drop j).length = 0 + (l.length - j) := by simp
    rw [e6]
    exact ⟨A5, c5, rfl, by simpa using R5, hb1.grown hg2 hb1.size (fun g hg => by simp [Value.ownBlock] at hg)⟩

theorem last_no (A : Option Addr) (n c : Nat) (l : List Sp) (q : Int) (w : World) (h : Rd w 2 A n c (Ss l)) (hu : U2s l) (hg : ¬ Good l) :
    Calls Try.prog 33 #[.slice A n c, .int .i64 q] w fun e w' => e = .returned (.slice none 0 0) ∧ Below w.heap.size w w' := by
  have Hgb := Lib.hid (show goodB l = false from decide_eq_false hg)
  clear hg
  go_enter Try.func33, Try.ntmps33
  go_wp2_with fail
  refine (good_any A n c l _ h hu).mono ?_
  rw [Hgb.out]
  rintro e w1 ⟨rfl, hb1⟩
  go_wp2
  go_ret
  exact ⟨rfl, hb1⟩

set_option maxHeartbeats 800000 in
theorem lastSpans_any (A : Option Addr) (n c : Nat) (l : List Sp) (q : Int) (w : World) (h : Rd w 2 A n c (Ss l)) (hq0 : -9223372036854775808 ≤ q) (hq1 : q ≤ 9223372036854775807) (hn : n ≤ 8796093021952) :
    Calls Try.prog 37 #[.slice A n c, .int .i64 q] w fun e w' => ∃ A' c', e = .returned (.slice A' (lastP l q).length c') ∧ Rd w' 2 A' (lastP l q).length c' (Ss (lastP l q)) ∧ Below w.heap.size w w' := by
  obtain ⟨i0, hi0, hz0, hz1, hz2⟩ := info_parts infoSpan
  have hl := h.len
  rw [Ss_length] at hl
  obtain rfl : l.length = n := by omega
  clear hl
  have hmax := h.cap
  have hmax' := h.max
  unfold maxLen at hmax'
  by_cases hq : q < 1
  · have HL := Lib.hid (lastP_no (l := l) hq)
    go_enter Try.func37, Try.ntmps37
    go_wp2
    go_ret
    rw [HL.out]
    exact ⟨none, 0, rfl, Rd.nil_ _ _, Below.refl _ _⟩
  · have HL := Lib.hid (lastP_yes (l := l) hq)
    have hj : l.length - q.toNat ≤ l.length := by omega
    obtain ⟨A9, hrun9, hcut9⟩ := h.cut_run (P := Try.prog) (t := 39) Try.underlying39 hi0 hz1 hj
    have R9 := hcut9 _ _ h
    rw [Ss_drop] at R9
    by_cases hge : (l.length : Int) ≤ q
    · obtain hj0 : l.length - q.toNat = 0 := by omega
      rw [hj0] at HL R9 hrun9
      have hr0 : ∀ (kl : IntKind) (w : World), (Instr.slice 39 (.slice A l.length c) (some (.int kl 0)) none none).run Try.prog w = .ok (.slice A9 (l.length - 0) (c - 0)) w := fun kl w => by simpa using hrun9 kl w
      simp only [Nat.sub_zero] at hr0 R9
      clear hrun9 hcut9 hj0 hj
      go_enter Try.func37, Try.ntmps37
      go_wp2_with (
        at_builtin
        refine wpList_append_rd _ rfl (.const (.slice none 0 0)) (.tmp 18) 39 rfl w.heap.size 43 i0 (.agg #[.int .u64 0, .int .u64 0]) 2 16 Try.underlying39 hi0 hz0 hz1 hz2 rfl (by decide) (.slice none 0 0) 0 [] rfl (World.ownsRow_nil _ _ _ _) A9 l.length c (Ss (l.drop 0)) rfl R9 (Ss_one _) (by unfold maxLen; omega) (by omega) (Nat.le_refl _) ?_
        intro v2 w2 hown2 hg2 _)
      go_ret
      obtain ⟨A5, c5, e5, _⟩ := own_slice hown2
      subst e5
      have R5 := Rd.of_own hown2
      rw [HL.out]
      have e6 : (l.drop 0).length = 0 + l.length := by simp
      rw [e6]
      exact ⟨A5, c5, rfl, by simpa using R5, (Below.refl _ _).grown hg2 (Nat.le_refl _) (fun g hg => by simp [Value.ownBlock] at hg)⟩
    · have em : ((l.length : Int) - q) = ((l.length - q.toNat : Nat) : Int) := by omega
      generalize l.length - q.toNat = j at *
      go_enter Try.func37, Try.ntmps37
      go_wp2_with (
        at_builtin
        refine wpList_append_rd _ rfl (.const (.slice none 0 0)) (.tmp 18) 39 rfl w.heap.size 43 i0 (.agg #[.int .u64 0, .int .u64 0]) 2 16 Try.underlying39 hi0 hz0 hz1 hz2 rfl (by decide) (.slice none 0 0) 0 [] rfl (World.ownsRow_nil _ _ _ _) A9 (l.length - j) (c - j) (Ss (l.drop j)) rfl R9 (Ss_one _) (by unfold maxLen; omega) (by omega) (Nat.le_refl _) ?_
        intro v2 w2 hown2 hg2 _)
      go_ret
      obtain ⟨A5, c5, e5, _⟩ := own_slice hown2
      subst e5
      have R5 := Rd.of_own hown2
      rw [HL.out]
      have e6 : (l.drop j).length = 0 + (l.length - j) := by simp
      rw [e6]
      exact ⟨A5, c5, rfl, by simpa using R5, (Below.refl _ _).grown hg2 (Nat.le_refl _) (fun g hg => by simp [Value.ownBlock] at hg)⟩

/-! One row within another. -/
def InB (s : Sp) (b : List Sp) : Prop := ∃ t ∈ b, t.1 ≤ s.1 ∧ s.2 ≤ t.2
def InsideP (a b : List Sp) : Prop := ∀ s ∈ a, InB s b
instance (s : Sp) (b : List Sp) : Decidable (InB s b) := by unfold InB; infer_instance
instance (a b : List Sp) : Decidable (InsideP a b) := by unfold InsideP; infer_instance
def InTo (a b : List Sp) (i : Nat) : Prop := ∀ j, (h : j < a.length) → j < i → InB a[j] b
theorem InTo.zero (a b : List Sp) : InTo a b 0 := fun j _ h => absurd h (by omega)
theorem InTo.step {a b : List Sp} {i : Nat} (h : InTo a b i) (hi : i < a.length) (h1 : InB a[i] b) : InTo a b (i + 1) := by
  intro j hj hji
  by_cases e : j = i
  · subst e; exact h1
  · exact h j hj (by omega)
theorem InTo.all {a b : List Sp} (h : InTo a b a.length) : decide (InsideP a b) = true := by
  rw [decide_eq_true_eq]
  intro s hs
  obtain ⟨i, hi, rfl⟩ := List.getElem_of_mem hs
  exact h i hi hi
theorem In_no {a b : List Sp} {i : Nat} (hi : i < a.length) (h : ¬ InB a[i] b) : decide (InsideP a b) = false := by
  rw [decide_eq_false_iff_not]
  exact fun h' => h (h' _ (List.getElem_mem hi))
/-- The first k of b lie below all of a from i on. -/
def Low (a b : List Sp) (i k : Nat) : Prop := ∀ j, (hj : j < b.length) → j < k → ∀ i', (hi : i' < a.length) → i ≤ i' → b[j].2 < a[i'].1
theorem Low.zero (a b : List Sp) (i : Nat) : Low a b i 0 := fun j _ h => absurd h (by omega)
theorem Low.later {a b : List Sp} {i k : Nat} (h : Low a b i k) : Low a b (i + 1) k := fun j hj hk i' hi hi' => h j hj hk i' hi (by omega)
theorem Low.step {a b : List Sp} {i k : Nat} (ha : Gd a) (h : Low a b i k) (hi : i < a.length) (hk : k < b.length) (h1 : b[k].2 < a[i].1) : Low a b i (k + 1) := by
  intro j hj hjk i' hi' hii
  by_cases e : j = k
  · subst e
    by_cases e2 : i' = i
    · subst e2; exact h1
    · have h2 := List.pairwise_iff_getElem.1 ha.2 i i' hi hi' (by omega)
      have h3 := (ha.1 _ (List.getElem_mem hi)).1
      omega
  · exact h j hj (by omega) i' hi' hii
/-- Where the first that is not below s stands: s is in some of b just where it is in that one. -/
theorem InB_at {a b : List Sp} {i k : Nat} (ha : Gd a) (hb : Gd b) (h : Low a b i k) (hi : i < a.length) (hk : k < b.length) (h1 : ¬ b[k].2 < a[i].1) : InB a[i] b ↔ b[k].1 ≤ a[i].1 ∧ a[i].2 ≤ b[k].2 := by
  have hs := (ha.1 _ (List.getElem_mem hi)).1
  constructor
  · rintro ⟨t, ht, h2, h3⟩
    obtain ⟨j, hj, rfl⟩ := List.getElem_of_mem ht
    rcases Nat.lt_trichotomy j k with e | e | e
    · have := h j hj e i hi (Nat.le_refl _)
      omega
    · subst e; exact ⟨h2, h3⟩
    · have := List.pairwise_iff_getElem.1 hb.2 k j hk hj e
      omega
  · rintro ⟨h2, h3⟩
    exact ⟨_, List.getElem_mem hk, h2, h3⟩
theorem InB_end {a b : List Sp} {i : Nat} (ha : Gd a) (h : Low a b i b.length) (hi : i < a.length) : ¬ InB a[i] b := by
  have hs := (ha.1 _ (List.getElem_mem hi)).1
  rintro ⟨t, ht, h2, h3⟩
  obtain ⟨j, hj, rfl⟩ := List.getElem_of_mem ht
  have := h j hj hj i hi (Nat.le_refl _)
  omega
end Go.Proofs.Ytnfgmklkfbcjkaa
