/-
  A queue whose pieces all are sent, and acknowledged or lost: plainly.
-/
import Derived.Test.YtilgekmpkoohaaaDoQ
namespace Go.Proofs.Ytilgekmpkoohaaa
set_option linter.unusedSimpArgs false
set_option linter.unusedVariables false
set_option linter.unnecessarySimpa false
open Go.RowKit

theorem count_le2 : ∀ (l m : List Bool), l.length = m.length → (∀ i, l.getD i false = true → m.getD i false = true) → l.count true ≤ m.count true := by
  intro l
  induction l with
  | nil => intro m _ _; simp
  | cons x l ih =>
    intro m hl h
    cases m with
    | nil => simp at hl
    | cons y m =>
      have h0 := h 0
      have h1 := ih m (by simpa using hl) (fun i hi => by simpa using h (i + 1) (by simpa using hi))
      simp only [List.getD_cons_zero] at h0
      simp only [List.count_cons]
      cases x <;> cases y <;> simp_all <;> omega
theorem count_lt2 : ∀ (l m : List Bool) (a : Nat), l.length = m.length → (∀ i, l.getD i false = true → m.getD i false = true) → l.getD a false = false → m.getD a false = true → l.count true + 1 ≤ m.count true := by
  intro l
  induction l with
  | nil => intro m a hl _ _ h; cases m with
    | nil => simp at h
    | cons y m => simp at hl
  | cons x l ih =>
    intro m a hl h h1 h2
    cases m with
    | nil => simp at hl
    | cons y m =>
      have hle := count_le2 l m (by simpa using hl) (fun i hi => by simpa using h (i + 1) (by simpa using hi))
      have h0 := h 0
      simp only [List.getD_cons_zero] at h0
      simp only [List.count_cons]
      cases a with
      | zero =>
        simp only [List.getD_cons_zero] at h1 h2
        subst h1 h2
        simp
        omega
      | succ a =>
        have h3 := ih m a (by simpa using hl) (fun i hi => by simpa using h (i + 1) (by simpa using hi)) (by simpa using h1) (by simpa using h2)
        cases x <;> cases y <;> simp_all <;> omega
namespace QS
theorem ends_ak {s : QS} (g : s.Good) : s.ak.getD s.ends.1 false = false := by
  unfold ends
  split
  · cases h : s.ak.getD s.fresh false with
    | false => simpa using h
    | true => exact absurd (g.ab _ h) (by omega)
  · rename_i h
    have h2 := firstOf_le s.ow
    exact (g.ob _ (firstOf_at (l := s.ow) (by omega))).2
/-- Nothing is next: nothing is owed, and all was sent. -/
theorem none_next {s : QS} (g : s.Good) {most : Int} (hm : 1 ≤ most) (h : s.nOk most = false) : firstOf s.ow = s.ow.length ∧ s.fresh = s.b.length := by
  unfold nOk at h
  rw [next_eq, if_neg (by omega)] at h
  have he : s.ends.2 = s.ends.1 := by
    by_cases he : s.ends.2 = s.ends.1
    · exact he
    · rw [if_neg he] at h; cases h
  unfold ends at he
  split at he
  · rename_i h1; exact ⟨h1, he.symm⟩
  · rename_i h1
    exfalso
    have h2 := firstOf_le s.ow
    have h3 := firstOf_at (l := s.ow) (by omega)
    have h4 := runTo_at (l := s.ow) (f := firstOf s.ow) h2
    simp only at he
    rw [he, h3] at h4
    cases h4
theorem some_next {s : QS} {most : Int} (h : s.nOk most = true) : s.nOff most = s.ends.1 ∧ 1 ≤ most := by
  unfold nOk at h
  unfold nOff
  rw [next_eq] at h ⊢
  split at h
  · cases h
  · rename_i h1
    rw [if_neg h1]
    split at h
    · cases h
    · rename_i h2
      rw [if_neg h2]
      exact ⟨rfl, by omega⟩
theorem none_owed {s : QS} (g : s.Good) (hf : s.Few) (h : firstOf s.ow = s.ow.length) : (rowB s.ow).length = 0 := by
  rcases Nat.eq_zero_or_pos (rowB s.ow).length with h0 | h0
  · exact h0
  · have := (next_owed g hf h0).2.2.1
    omega

structure Arr (bl ll i : Nat) (s : QS) : Prop where
  good : s.Good
  len : s.b.length = bl
  all : ∀ k, k < s.fresh → s.ak.getD k false = true ∨ s.ow.getD k false = true
  cnt : i ≤ ll + s.ak.count true
theorem Arr.bound {bl ll i : Nat} {s : QS} (h : Arr bl ll i s) : i ≤ ll + bl := by
  have h1 := h.cnt
  have h2 : s.ak.count true ≤ s.ak.length := List.count_le_length
  have h3 := h.good.la
  have h4 := h.len
  omega
theorem Arr.done {bl ll i : Nat} {s : QS} (h : Arr bl ll i s) (hf : s.Few) {most : Int} (hm : 1 ≤ most) (hn : s.nOk most = false) : s.base = bl ∧ (rowB s.ow).length = 0 := by
  obtain ⟨h1, h2⟩ := none_next h.good hm hn
  refine ⟨?_, none_owed h.good hf h1⟩
  rw [← h.len]
  refine base_eq h.good (Nat.le_refl _) (fun k hk => ?_) ?_
  · rcases h.all k (by omega) with h3 | h3
    · exact h3
    · have h4 := getD_len h3
      have := firstOf_lt (l := s.ow) (i := k) (by omega)
      rw [this] at h3
      cases h3
  · cases h3 : s.ak.getD s.b.length false with
    | false => rfl
    | true =>
      have := getD_len h3
      have := h.good.la
      omega
theorem Arr.step {bl ll i : Nat} {s : QS} (h : Arr bl ll i s) {most : Int} (hn : s.nOk most = true) (ok : Bool) :
    let a := s.nOff most
    let n := (s.nBody most).length
    (s.sent a n).2 = true ∧ ((s.sent a n).1.lost a n).2 = true ∧ ((s.sent a n).1.acked a n).2 = true ∧
      (i < ll → Arr bl ll (i + 1) ((s.sent a n).1.lost a n).1) ∧ Arr bl ll (i + 1) ((s.sent a n).1.acked a n).1 := by
  intro a n
  obtain ⟨s1, s2, s3, -⟩ := next_sent h.good hn
  obtain ⟨e1, e2⟩ := some_next hn
  have hak : s.ak.getD a false = false := by show s.ak.getD (s.nOff most) false = false; rw [e1]; exact ends_ak h.good
  have hn0 : 0 < n := by have := s1.1; omega
  have hcond : within a n s.b.length ∧ (a : Int) ≤ s.fresh := ⟨s1, s2⟩
  have es : s.sent a n = ({ s with ow := paint false a (a + n) s.ow, fresh := max s.fresh (a + n) }, true) := by
    unfold sent
    rw [if_pos hcond]
    have t1 : ((a : Int)).toNat = a := by omega
    have t2 : ((a : Int) + (n : Int)).toNat = a + n := by omega
    rw [t1, t2]
  have gs := (Good.sent h.good (off := a) (n := n) (by omega)).1
  rw [es] at gs ⊢
  simp only at gs ⊢
  have hlen := h.len
  have hlo := h.good.lo
  have hla := h.good.la
  have hfr := h.good.fr
  have hfr' : (max s.fresh (a + n)) ≤ s.b.length := gs.fr
  have hw : within a n (max s.fresh (a + n)) := by unfold within; omega
  have gl := (Good.lost gs (off := a) (n := n) (by omega)).1
  have ga := (Good.acked gs (off := a) (n := n) (by omega)).1
  have t1 : ((a : Int)).toNat = a := by omega
  have t2 : ((a : Int) + (n : Int)).toNat = a + n := by omega
  unfold lost at gl ⊢
  unfold acked at ga ⊢
  simp only at gl ga ⊢
  rw [if_pos hw, t1, t2] at gl ga
  rw [if_pos hw, if_pos hw, t1, t2]
  refine ⟨trivial, rfl, rfl, fun hi => ⟨gl, hlen, fun k hk => ?_, ?_⟩, ⟨ga, hlen, fun k hk => ?_, ?_⟩⟩
  · simp only at hk ⊢
    have hkb : k < (paint false a (a + n) s.ow).length := by simp; omega
    have hk1 : k < s.ow.length := by omega
    rw [owe_get _ _ _ _ _ hkb]
    by_cases hr : a ≤ k ∧ k < a + n
    · cases hv : s.ak.getD k false with
      | true => exact .inl rfl
      | false => exact .inr (by rw [if_pos ⟨hr.1, hr.2, rfl⟩])
    · rw [if_neg (fun h => hr ⟨h.1, h.2.1⟩), paint_get _ _ _ _ _ hk1, if_neg hr]
      exact h.all k (by omega)
  · simp only
    have := h.cnt
    omega
  · simp only at hk ⊢
    have hk1 : k < s.ow.length := by omega
    have hk2 : k < s.ak.length := by omega
    rw [paint_get _ _ _ _ _ hk2]
    by_cases hr : a ≤ k ∧ k < a + n
    · rw [if_pos hr]; exact .inl rfl
    · rw [if_neg hr, paint_get _ _ _ _ _ (by simpa using hk1), if_neg hr, paint_get _ _ _ _ _ hk1, if_neg hr]
      exact h.all k (by omega)
  · simp only
    have h1 := h.cnt
    have ha : a < s.ak.length := by omega
    have h2 := count_lt2 s.ak (paint true a (a + n) s.ak) a (by simp) (fun k hk => by
      have hk2 := getD_len hk
      rw [paint_get _ _ _ _ _ hk2]
      split
      · rfl
      · exact hk) hak (by rw [paint_get _ _ _ _ _ ha, if_pos ⟨Nat.le_refl _, by omega⟩])
    omega
theorem Arr.new {ll : Nat} (room : Int) (l : List Int) (hl : ∀ x ∈ l, 0 ≤ x ∧ x ≤ 255) (hr : (l.length : Int) ≤ room) (hm : room ≤ 65536) : Arr l.length ll 0 ((QS.new room).write l).1 := by
  refine ⟨(Good.write (Good.new room) hl).1, ?_, fun k hk => ?_, Nat.zero_le _⟩
  · have e1 : (QS.new room).base = 0 := rfl
    have e2 : (QS.new room).b = [] := rfl
    have e3 : (QS.new room).room = (max 1 (min room 65536)).toNat := rfl
    simp only [write, e1, e2, e3, List.length_append, List.length_take, List.length_nil]
    omega
  · exact absurd (show k < 0 from hk) (by omega)
end QS
end Go.Proofs.Ytilgekmpkoohaaa
