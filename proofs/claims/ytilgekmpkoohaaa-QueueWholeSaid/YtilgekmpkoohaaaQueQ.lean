/-
  A queue's steps, plainly: what the program's rows of spans come to.
-/
import Derived.Test.YtilgekmpkoohaaaQueP
namespace Go.Proofs.Ytilgekmpkoohaaa
set_option linter.unusedSimpArgs false
set_option linter.unusedVariables false
set_option linter.unnecessarySimpa false
open Go.RowKit

theorem Mem_lo {l : List Sp} (h : Gd l) {s : Sp} (hs : s ∈ l) : Mem s.1 l ∧ Mem s.2 l := by
  have := (h.1 s hs).1
  exact ⟨⟨s, hs, Int.le_refl _, this⟩, ⟨s, hs, this, Int.le_refl _⟩⟩
theorem cut1_mem (s x : Sp) (hs : s.1 ≤ s.2) (hx : x.1 ≤ x.2) (n : Int) : Mem n (cut1 s x) ↔ (x.1 ≤ n ∧ n ≤ x.2) ∧ ¬ (s.1 ≤ n ∧ n ≤ s.2) := by
  have h0 := Mem_nil n
  unfold cut1
  split
  · rw [Mem_cons]
    constructor
    · rintro (h | h)
      · exact ⟨h, by omega⟩
      · exact absurd h h0
    · rintro ⟨h, _⟩; exact .inl h
  · rw [Mem_append]
    split <;> split <;> simp only [Mem_cons, h0, or_false, false_or] <;> constructor <;> intro h <;> first | omega | cases h
theorem cut1_in (s x : Sp) (hs : s.1 ≤ s.2) (hx : x.1 ≤ x.2) : ∀ y ∈ cut1 s x, x.1 ≤ y.1 ∧ y.1 ≤ y.2 ∧ y.2 ≤ x.2 := by
  intro y hy
  unfold cut1 at hy
  split at hy
  · obtain rfl := List.mem_singleton.1 hy; omega
  · rcases List.mem_append.1 hy with hy | hy <;> split at hy
    · obtain rfl := List.mem_singleton.1 hy; simp only; omega
    · cases hy
    · obtain rfl := List.mem_singleton.1 hy; simp only; omega
    · cases hy
theorem cut1_pw (s x : Sp) (hs : s.1 ≤ s.2) (hx : x.1 ≤ x.2) : (cut1 s x).Pairwise (fun a b => a.2 + 1 < b.1) := by
  unfold cut1
  split
  · exact List.pairwise_singleton _ _
  · split <;> split <;> simp
    omega
theorem cut_parts (l : List Sp) (s : Sp) (hl : Gd l) (hs : s.1 ≤ s.2) : Gd (cutP l s) ∧ ∀ n, Mem n (cutP l s) ↔ Mem n l ∧ ¬ (s.1 ≤ n ∧ n ≤ s.2) := by
  induction l with
  | nil => exact ⟨Gd.nil, fun n => by simp [cutP, Mem_nil]⟩
  | cons x r ih =>
    obtain ⟨i1, i2⟩ := ih hl.tail
    have hx := hl.1 x (List.mem_cons_self ..)
    have e : cutP (x :: r) s = cut1 s x ++ cutP r s := by simp [cutP]
    rw [e]
    refine ⟨⟨fun y hy => ?_, ?_⟩, fun n => ?_⟩
    · rcases List.mem_append.1 hy with hy | hy
      · have := cut1_in s x hs hx.1 y hy
        exact ⟨this.2.1, by have := hx.2; omega⟩
      · exact i1.1 y hy
    · rw [List.pairwise_append]
      refine ⟨cut1_pw s x hs hx.1, i1.2, fun a ha b hb => ?_⟩
      have h1 := cut1_in s x hs hx.1 a ha
      obtain ⟨z, hz, hb⟩ := List.mem_flatMap.1 hb
      have h2 := (List.pairwise_cons.1 hl.2).1 z hz
      have h3 := cut1_in s z hs (hl.1 z (List.mem_cons_of_mem _ hz)).1 b hb
      omega
    · rw [Mem_append, cut1_mem s x hs hx.1, i2 n, Mem_cons]
      constructor
      · rintro (⟨h, h'⟩ | ⟨h, h'⟩)
        · exact ⟨.inl h, h'⟩
        · exact ⟨.inr h, h'⟩
      · rintro ⟨h | h, h'⟩
        · exact .inl ⟨h, h'⟩
        · exact .inr ⟨h, h'⟩

/-! How many. -/
theorem from_parts (l : List Sp) (q : Int) (hl : Gd l) : (Gd (fromP l q) ∧ ∀ y ∈ fromP l q, ∃ x ∈ l, x.1 ≤ y.1 ∧ y.2 = x.2) ∧ ∀ n, Mem n (fromP l q) ↔ Mem n l ∧ q ≤ n := by
  induction l with
  | nil => exact ⟨⟨Gd.nil, fun y hy => by cases hy⟩, fun n => by simp [fromP, Mem]⟩
  | cons x r ih =>
    obtain ⟨⟨i1, i2⟩, i3⟩ := ih hl.tail
    have hx := hl.1 x (by simp)
    have hp := (List.pairwise_cons.1 hl.2).1
    have e : fromP (x :: r) q = from1 q x ++ fromP r q := rfl
    rw [e]
    by_cases h : q ≤ x.2
    · rw [from1_yes h]
      refine ⟨⟨⟨fun y hy => ?_, ?_⟩, fun y hy => ?_⟩, fun n => ?_⟩
      · rcases List.mem_cons.1 hy with rfl | hy
        · exact ⟨by have := hx.1; show max x.1 q ≤ x.2; omega, hx.2⟩
        · exact i1.1 y hy
      · refine List.pairwise_cons.2 ⟨fun y hy => ?_, i1.2⟩
        obtain ⟨z, hz, h1, h2⟩ := i2 y hy
        have := hp z hz
        show x.2 + 1 < y.1
        omega
      · rcases List.mem_cons.1 hy with rfl | hy
        · exact ⟨x, by simp, by show x.1 ≤ max x.1 q; omega, rfl⟩
        · obtain ⟨z, hz, h1⟩ := i2 y hy
          exact ⟨z, List.mem_cons_of_mem _ hz, h1⟩
      · rw [List.singleton_append, Mem_cons, Mem_cons, i3 n]
        have hr : Mem n r → q ≤ n := fun ⟨z, hz, h1, h2⟩ => by have := hp z hz; omega
        constructor
        · rintro (⟨h1, h2⟩ | ⟨h1, h2⟩)
          · simp only at h1 h2; exact ⟨.inl ⟨by omega, h2⟩, by omega⟩
          · exact ⟨.inr h1, h2⟩
        · rintro ⟨h1 | h1, h2⟩
          · exact .inl ⟨by show max x.1 q ≤ n; omega, h1.2⟩
          · exact .inr ⟨h1, h2⟩
    · rw [from1_no h, List.nil_append]
      refine ⟨⟨i1, fun y hy => ?_⟩, fun n => ?_⟩
      · obtain ⟨z, hz, h1⟩ := i2 y hy
        exact ⟨z, List.mem_cons_of_mem _ hz, h1⟩
      · rw [Mem_cons, i3 n]
        constructor
        · rintro ⟨h1, h2⟩; exact ⟨.inr h1, h2⟩
        · rintro ⟨h1 | h1, h2⟩
          · omega
          · exact ⟨h1, h2⟩

theorem getD_set {l : List Bool} {i j : Nat} {v : Bool} : (l.set i v).getD j false = if i = j ∧ j < l.length then v else l.getD j false := by
  by_cases h : j < l.length
  · rw [getD_at (show j < (l.set i v).length by simpa using h), List.getElem_set, getD_at h]
    by_cases e : i = j <;> simp [e, h]
  · rw [if_neg (fun e => h e.2)]
    simp [List.getD, h]
theorem getD_len {l : List Bool} {i : Nat} (h : l.getD i false = true) : i < l.length := by
  apply Nat.lt_of_not_le
  intro h1
  simp [List.getD, h1] at h

/-- Rows cut by all of a list, one after the other. -/
def cutAll (l : List Sp) (m : List Sp) : List Sp := m.foldl cutP l
def addAll' (l : List Sp) (m : List Sp) : List Sp := m.foldl addP l
theorem cutAll_spec (m l : List Sp) (hl : Gd l) (hm : ∀ s ∈ m, s.1 ≤ s.2) : Gd (cutAll l m) ∧ ∀ n, Mem n (cutAll l m) ↔ Mem n l ∧ ¬ Mem n m := by
  induction m generalizing l with
  | nil => exact ⟨hl, fun n => by simp [cutAll, Mem]⟩
  | cons s m ih =>
    obtain ⟨c1, c2⟩ := cut_parts l s hl (hm s (by simp))
    obtain ⟨h1, h2⟩ := ih (cutP l s) c1 (fun x hx => hm x (List.mem_cons_of_mem _ hx))
    refine ⟨h1, fun n => (h2 n).trans ?_⟩
    rw [c2 n, Mem_cons]
    constructor
    · rintro ⟨⟨a, b⟩, c⟩; exact ⟨a, fun e => e.elim b c⟩
    · rintro ⟨a, b⟩; exact ⟨⟨a, fun e => b (.inl e)⟩, fun e => b (.inr e)⟩
theorem addAll_spec (m l : List Sp) (hl : Gd l) (hm : ∀ s ∈ m, IsSpan s) : Gd (addAll' l m) ∧ ∀ n, Mem n (addAll' l m) ↔ Mem n l ∨ Mem n m := by
  induction m generalizing l with
  | nil => exact ⟨hl, fun n => by simp [addAll', Mem]⟩
  | cons s m ih =>
    obtain ⟨c1, c2⟩ := add_parts l s hl (hm s (by simp))
    obtain ⟨h1, h2⟩ := ih (addP l s) c1 (fun x hx => hm x (List.mem_cons_of_mem _ hx))
    refine ⟨h1, fun n => (h2 n).trans ?_⟩
    rw [c2 n, Mem_cons]
    constructor
    · rintro ((a | b) | c)
      · exact .inl a
      · exact .inr (.inl b)
      · exact .inr (.inr c)
    · rintro (a | b | c)
      · exact .inl (.inl a)
      · exact .inl (.inr b)
      · exact .inr c
theorem cutAll_len (m l : List Sp) (hl : Gd l) (hm : ∀ s ∈ m, s.1 ≤ s.2) : (cutAll l m).length ≤ l.length + m.length := by
  induction m generalizing l with
  | nil => simp [cutAll]
  | cons s m ih =>
    obtain ⟨c1, c2⟩ := cut_parts l s hl (hm s (by simp))
    have h1 := ih (cutP l s) c1 (fun x hx => hm x (List.mem_cons_of_mem _ hx))
    have h2 := cut_len l s (hm s (by simp)) (fun x hx => (hl.1 x hx).1) hl.2
    have e : cutAll l (s :: m) = cutAll (cutP l s) m := rfl
    rw [e]
    simp only [List.length_cons]
    omega

namespace QS
/-- Lengths that the program's scripts keep. -/
def Few (s : QS) : Prop := s.b.length ≤ 1000000
/-- The acknowledged places behind the base, as a row. -/
structure AkRow (s : QS) (L : List Sp) : Prop where
  gd : Gd L
  mem : ∀ n, Mem n L ↔ ∃ i : Nat, s.base ≤ i ∧ i < s.b.length ∧ n = i ∧ s.ak.getD i false = true
theorem base_le (s : QS) (g : s.Good) : s.base ≤ s.b.length := by have := lead_le s.ak; have := g.la; unfold base; omega
theorem base_fresh (s : QS) (g : s.Good) : s.base ≤ s.fresh := by
  apply Nat.le_of_not_lt
  intro h
  have h1 := s.base_le g
  have h2 := g.la
  have e := lead_lt (l := s.ak) (i := s.fresh) h (by omega)
  have := g.ab s.fresh (by rw [getD_at (by omega)]; exact e)
  omega
theorem below_base {s : QS} (g : s.Good) {i : Nat} (h : i < s.base) : s.ak.getD i false = true := by
  have h1 := s.base_le g
  have h2 := g.la
  rw [getD_at (by omega)]
  exact lead_lt h (by omega)
theorem at_base {s : QS} (g : s.Good) : s.ak.getD s.base false = false := by
  rcases Nat.lt_or_ge s.base s.ak.length with h | h
  · rw [getD_at h]; exact lead_at h
  · simp [List.getD, h]
theorem Good.new (room : Int) : (QS.new room).Good := by
  refine ⟨?_, ?_, rfl, rfl, ?_, ?_, ?_, ?_, ?_⟩ <;> simp [QS.new, QS.base, lead] <;> omega
theorem base_eq {s : QS} (g : s.Good) {k : Nat} (hk : k ≤ s.b.length) (h1 : ∀ i, i < k → s.ak.getD i false = true) (h2 : s.ak.getD k false = false) : s.base = k :=
  lead_eq (fun i hi hik => by have := h1 i hik; rwa [getD_at hi] at this) (by rw [g.la]; exact hk) (fun h => by rwa [getD_at h] at h2)

/-! Sent. -/
theorem sent_row {s : QS} (g : s.Good) (hf : s.Few) {off n : Int} (h : within off n s.b.length) (h0 : 0 ≤ off) : cutP (rowB s.ow) (off, off + n - 1) = rowB (paint false off.toNat (off + n).toNat s.ow) := by
  obtain ⟨h1, h2, h3⟩ := h
  have hl : s.ow.length ≤ 1000000 := by rw [g.lo]; exact hf
  obtain ⟨r1, r2, -⟩ := rowB_spec s.ow hl
  obtain ⟨c1, c2⟩ := cut_parts (rowB s.ow) (off, off + n - 1) r1 (by show off ≤ off + n - 1; omega)
  refine rowB_eq (by simpa using hl) c1 (fun m => ?_)
  rw [c2 m, r2 m]
  simp only [paint_length]
  constructor
  · rintro ⟨⟨i, hi, rfl, ho⟩, hn⟩
    refine ⟨i, hi, rfl, ?_⟩
    rw [paint_get _ _ _ _ _ hi, if_neg (by omega)]
    exact ho
  · rintro ⟨i, hi, rfl, ho⟩
    rw [paint_get _ _ _ _ _ hi] at ho
    by_cases e : off.toNat ≤ i ∧ i < (off + n).toNat
    · rw [if_pos e] at ho; cases ho
    · rw [if_neg e] at ho
      exact ⟨⟨i, hi, rfl, ho⟩, by omega⟩
theorem Good.sent {s : QS} (g : s.Good) {off n : Int} (h0 : 0 ≤ off) : (s.sent off n).1.Good ∧ (s.sent off n).1.b = s.b ∧ (s.sent off n).1.ak = s.ak := by
  unfold QS.sent
  split
  · rename_i h
    obtain ⟨⟨h1, h2, h3⟩, h4⟩ := h
    refine ⟨⟨g.room1, g.room2, g.la, by simpa using g.lo, ?_, ?_, ?_, g.by_, g.fit⟩, rfl, rfl⟩
    · have := g.fr
      show max s.fresh (off + n).toNat ≤ s.b.length
      omega
    · intro i hi
      have hl := getD_len hi
      simp only [paint_length] at hl
      simp only at hi
      rw [paint_get _ _ _ _ _ hl] at hi
      split at hi
      · cases hi
      · obtain ⟨a, b⟩ := g.ob i hi
        exact ⟨by show i < max _ _; omega, b⟩
    · intro i hi
      have := g.ab i hi
      show i < max _ _
      omega
  · exact ⟨g, rfl, rfl⟩

/-! Lost. -/
theorem lost_row {s : QS} (g : s.Good) (hf : s.Few) {off n : Int} (h : within off n s.fresh) (h0 : 0 ≤ off) {La : List Sp} (ha : AkRow s La) :
    addAll' (rowB s.ow) (cutAll (fromP [(off, off + n - 1)] s.base) La) = rowB (owe s.ak off.toNat (off + n).toNat s.ow) ∧
    (∀ x ∈ cutAll (fromP [(off, off + n - 1)] s.base) La, IsSpan x ∧ 0 ≤ x.1) := by
  obtain ⟨h1, h2, h3⟩ := h
  have hfr := g.fr
  have hl : s.ow.length ≤ 1000000 := by rw [g.lo]; exact hf
  have hb : s.b.length ≤ 1000000 := hf
  have g0 : Gd [((off, off + n - 1) : Sp)] := ⟨fun x hx => by
    obtain rfl := List.mem_singleton.1 hx
    exact ⟨by show off ≤ off + n - 1; omega, by show off + n - 1 ≤ maxPn; unfold maxPn; omega⟩, by simp⟩
  obtain ⟨⟨f1, -⟩, f2⟩ := from_parts [(off, off + n - 1)] s.base g0
  obtain ⟨c1, c2⟩ := cutAll_spec La _ f1 (fun x hx => (ha.gd.1 x hx).1)
  have mem1 : ∀ m, Mem m (cutAll (fromP [(off, off + n - 1)] s.base) La) ↔ (off ≤ m ∧ m ≤ off + n - 1) ∧ (s.base : Int) ≤ m ∧ ¬ Mem m La := fun m => by
    rw [c2 m, f2 m, Mem_cons]
    constructor
    · rintro ⟨⟨a | a, b⟩, c⟩
      · exact ⟨a, b, c⟩
      · exact absurd a (Mem_nil m)
    · rintro ⟨a, b, c⟩; exact ⟨⟨.inl a, b⟩, c⟩
  obtain ⟨r1, r2, -⟩ := rowB_spec s.ow hl
  obtain ⟨d1, d2⟩ := addAll_spec (cutAll (fromP [(off, off + n - 1)] s.base) La) _ r1 (fun x hx => c1.1 x hx)
  refine ⟨rowB_eq (by simpa using hl) d1 (fun m => ?_), fun x hx => ⟨c1.1 x hx, by have := (mem1 _).1 (Mem_lo c1 hx).1; omega⟩⟩
  rw [d2 m, r2 m, mem1 m]
  simp only [owe_length]
  constructor
  · rintro (⟨i, hi, rfl, ho⟩ | ⟨⟨a1, a2⟩, a3, a4⟩)
    · refine ⟨i, hi, rfl, ?_⟩
      rw [owe_get _ _ _ _ _ hi, ho]
      split <;> rfl
    · have hi : m.toNat < s.ow.length := by rw [g.lo]; omega
      refine ⟨m.toNat, hi, by omega, ?_⟩
      rw [owe_get _ _ _ _ _ hi, if_pos]
      refine ⟨by omega, by omega, ?_⟩
      cases hk : s.ak.getD m.toNat false with
      | false => rfl
      | true => exact absurd ((ha.mem m).2 ⟨m.toNat, by omega, by omega, by omega, hk⟩) a4
  · rintro ⟨i, hi, rfl, ho⟩
    rw [owe_get _ _ _ _ _ hi] at ho
    by_cases e : off.toNat ≤ i ∧ i < (off + n).toNat ∧ s.ak.getD i false = false
    · refine .inr ⟨by omega, ?_, fun hm => ?_⟩
      · apply Int.not_lt.1
        intro hlt
        rw [below_base g (by omega)] at e
        exact absurd e.2.2 (by simp)
      · obtain ⟨j, -, -, ej, hj⟩ := (ha.mem _).1 hm
        obtain rfl : i = j := by omega
        rw [e.2.2] at hj
        cases hj
    · rw [if_neg e] at ho
      exact .inl ⟨i, hi, rfl, ho⟩
theorem Good.lost {s : QS} (g : s.Good) {off n : Int} (h0 : 0 ≤ off) : (s.lost off n).1.Good ∧ (s.lost off n).1.b = s.b ∧ (s.lost off n).1.ak = s.ak := by
  unfold QS.lost
  split
  · rename_i h
    obtain ⟨h1, h2, h3⟩ := h
    have hfr := g.fr
    refine ⟨⟨g.room1, g.room2, g.la, by simpa using g.lo, g.fr, ?_, g.ab, g.by_, g.fit⟩, rfl, rfl⟩
    intro i hi
    have hl := getD_len hi
    simp only [owe_length] at hl
    simp only at hi
    rw [owe_get _ _ _ _ _ hl] at hi
    split at hi
    · rename_i e
      exact ⟨by show i < s.fresh; omega, e.2.2⟩
    · exact g.ob i hi
  · exact ⟨g, rfl, rfl⟩
theorem AkRow.same {s t : QS} {L : List Sp} (h : AkRow s L) (e1 : t.b = s.b) (e2 : t.ak = s.ak) : AkRow t L := by
  refine ⟨h.gd, fun n => ?_⟩
  have : t.base = s.base := by unfold base; rw [e2]
  rw [this, e1, e2]
  exact h.mem n

/-! Acked. -/
theorem Good.acked {s : QS} (g : s.Good) {off n : Int} (h0 : 0 ≤ off) : (s.acked off n).1.Good ∧ (s.acked off n).1.b = s.b ∧ s.base ≤ (s.acked off n).1.base := by
  unfold QS.acked
  split
  · rename_i h
    obtain ⟨h1, h2, h3⟩ := h
    have hfr := g.fr
    have hb : s.base ≤ lead (paint true off.toNat (off + n).toNat s.ak) := by
      apply Nat.le_of_not_lt
      intro hlt
      have h5 := s.base_le g
      have h6 := g.la
      have e := lead_at (l := paint true off.toNat (off + n).toNat s.ak) (by simp; omega)
      rw [paint_getE _ _ _ _ _ (by omega)] at e
      split at e
      · cases e
      · have := below_base g hlt
        rw [getD_at (by omega), e] at this
        cases this
    refine ⟨⟨g.room1, g.room2, by simpa using g.la, by simpa using g.lo, g.fr, ?_, ?_, g.by_, ?_⟩, rfl, hb⟩
    · intro i hi
      have hl := getD_len hi
      simp only [paint_length] at hl
      simp only at hi ⊢
      rw [paint_get _ _ _ _ _ hl] at hi
      split at hi
      · cases hi
      · rename_i e
        obtain ⟨a, b⟩ := g.ob i hi
        refine ⟨a, ?_⟩
        rw [paint_get _ _ _ _ _ (by have := g.la; have := g.lo; omega), if_neg e]
        exact b
    · intro i hi
      have hl := getD_len hi
      simp only [paint_length] at hl
      simp only at hi
      rw [paint_get _ _ _ _ _ hl] at hi
      split at hi
      · rename_i e; show i < s.fresh; omega
      · exact g.ab i hi
    · have := g.fit
      show s.b.length - lead (paint true off.toNat (off + n).toNat s.ak) ≤ s.room
      omega
  · exact ⟨g, rfl, Nat.le_refl _⟩
/-- The row behind span.Add and span.From. -/
theorem acked_mem {s : QS} (g : s.Good) (hf : s.Few) {off n : Int} (h : within off n s.fresh) (h0 : 0 ≤ off) {La : List Sp} (ha : AkRow s La) :
    IsSpan (off, off + n - 1) ∧ Gd (fromP (addP La (off, off + n - 1)) s.base) ∧ ∀ m, Mem m (fromP (addP La (off, off + n - 1)) s.base) ↔ ∃ i : Nat, s.base ≤ i ∧ i < s.b.length ∧ m = i ∧ (paint true off.toNat (off + n).toNat s.ak).getD i false = true := by
  obtain ⟨h1, h2, h3⟩ := h
  have hfr := g.fr
  have hb : s.b.length ≤ 1000000 := hf
  have hs : IsSpan (off, off + n - 1) := ⟨by show off ≤ off + n - 1; omega, by show off + n - 1 ≤ maxPn; unfold maxPn; omega⟩
  obtain ⟨a1, a2⟩ := add_parts La _ ha.gd hs
  obtain ⟨⟨f1, -⟩, f2⟩ := from_parts (addP La (off, off + n - 1)) s.base a1
  refine ⟨hs, f1, fun m => ?_⟩
  rw [f2 m, a2 m, ha.mem m]
  have hla := g.la
  constructor
  · rintro ⟨⟨i, e1, e2, rfl, e3⟩ | ⟨e1, e2⟩, e4⟩
    · refine ⟨i, e1, e2, rfl, ?_⟩
      rw [paint_get _ _ _ _ _ (by omega), e3]
      split <;> rfl
    · refine ⟨m.toNat, by omega, by omega, by omega, ?_⟩
      rw [paint_get _ _ _ _ _ (by omega), if_pos (by omega)]
  · rintro ⟨i, e1, e2, rfl, e3⟩
    rw [paint_get _ _ _ _ _ (by omega)] at e3
    by_cases e : off.toNat ≤ i ∧ i < (off + n).toNat
    · exact ⟨.inr ⟨by omega, by omega⟩, by omega⟩
    · rw [if_neg e] at e3
      exact ⟨.inl ⟨i, e1, e2, rfl, e3⟩, by omega⟩
theorem head_min {L : List Sp} (h : Gd L) (h0 : 0 < L.length) {n : Int} (hn : Mem n L) : L[0].1 ≤ n := by
  obtain ⟨t, ht, t1, t2⟩ := hn
  obtain ⟨i, hi, rfl⟩ := List.mem_iff_getElem.1 ht
  rcases Nat.eq_zero_or_pos i with rfl | hp
  · exact t1
  · have := List.pairwise_iff_getElem.1 h.2 0 i h0 hi hp
    have := (h.1 _ (List.getElem_mem h0)).1
    omega
theorem head_end {L : List Sp} (h : Gd L) (h0 : 0 < L.length) : ¬ Mem (L[0].2 + 1) L ∧ (∀ n, L[0].1 ≤ n → n ≤ L[0].2 → Mem n L) ∧ ∀ n, Mem n L ↔ (L[0].1 ≤ n ∧ n ≤ L[0].2) ∨ (Mem n L.tail ∧ L[0].2 + 1 < n) := by
  cases L with
  | nil => simp at h0
  | cons x r =>
    have hp := (List.pairwise_cons.1 h.2).1
    have hr : ∀ n, Mem n r → x.2 + 1 < n := fun n ⟨t, ht, t1, t2⟩ => by have := hp t ht; omega
    simp only [List.getElem_cons_zero, List.tail_cons]
    refine ⟨fun hm => ?_, fun n a b => ⟨x, by simp, a, b⟩, fun n => ?_⟩
    · rcases (Mem_cons _ _ _).1 hm with e | e
      · omega
      · have := hr _ e; omega
    · rw [Mem_cons]
      constructor
      · rintro (e | e)
        · exact .inl e
        · exact .inr ⟨e, hr n e⟩
      · rintro (e | e)
        · exact .inl e
        · exact .inr e.1
theorem acked_off {s : QS} (g : s.Good) (hf : s.Few) {off n : Int} (h : within off n s.fresh) (h0 : 0 ≤ off) {L1 : List Sp} (gd : Gd L1)
    (hm : ∀ m, Mem m L1 ↔ ∃ i : Nat, s.base ≤ i ∧ i < s.b.length ∧ m = i ∧ (paint true off.toNat (off + n).toNat s.ak).getD i false = true) (hno : ∀ h : 0 < L1.length, L1[0].1 ≠ s.base) :
    (s.acked off n).1.base = s.base ∧ AkRow (s.acked off n).1 L1 := by
  have hg := (g.acked (off := off) (n := n) h0).1
  have hbl := s.base_le g
  have hb : (s.acked off n).1.base = s.base := by
    refine base_eq hg (by rw [(g.acked h0).2.1]; exact hbl) (fun i hi => ?_) ?_
    · have h1 := below_base g hi
      unfold QS.acked
      rw [if_pos h]
      simp only
      rw [paint_get _ _ _ _ _ (getD_len h1), h1]
      split <;> rfl
    · unfold QS.acked
      rw [if_pos h]
      simp only
      cases hk : (paint true off.toNat (off + n).toNat s.ak).getD s.base false with
      | false => rfl
      | true =>
        exfalso
        have hl := getD_len hk
        have hla := g.la
        simp only [paint_length] at hl
        have hM := (hm s.base).2 ⟨s.base, Nat.le_refl _, by omega, rfl, hk⟩
        have h0' : 0 < L1.length := by
          obtain ⟨t, ht, -⟩ := hM
          exact List.length_pos_of_mem ht
        have e1 := head_min gd h0' hM
        obtain ⟨i, e2, -, e3, -⟩ := (hm _).1 (Mem_lo gd (List.getElem_mem h0')).1
        exact hno h0' (by omega)
  refine ⟨hb, gd, fun m => ?_⟩
  rw [hb, hm m]
  unfold QS.acked
  rw [if_pos h]
theorem acked_on {s : QS} (g : s.Good) (hf : s.Few) {off n : Int} (h : within off n s.fresh) (h0 : 0 ≤ off) {L1 : List Sp} (gd : Gd L1)
    (hm : ∀ m, Mem m L1 ↔ ∃ i : Nat, s.base ≤ i ∧ i < s.b.length ∧ m = i ∧ (paint true off.toNat (off + n).toNat s.ak).getD i false = true) (hl : 0 < L1.length) (hb : L1[0].1 = s.base) :
    ((s.acked off n).1.base : Int) = L1[0].2 + 1 ∧ AkRow (s.acked off n).1 L1.tail ∧ (s.base : Int) < L1[0].2 + 1 ∧ L1[0].2 + 1 ≤ s.b.length := by
  have hg := (g.acked (off := off) (n := n) h0).1
  have hsp := (gd.1 _ (List.getElem_mem hl)).1
  obtain ⟨e1, e2, e3⟩ := head_end gd hl
  obtain ⟨j, -, hj, ej, -⟩ := (hm _).1 (Mem_lo gd (List.getElem_mem hl)).2
  have hnb : (s.acked off n).1.base = (L1[0].2 + 1).toNat := by
    refine base_eq hg (by rw [(g.acked h0).2.1]; omega) (fun i hi => ?_) ?_
    · unfold QS.acked
      rw [if_pos h]
      simp only
      rcases Nat.lt_or_ge i s.base with hlt | hge
      · have h1 := below_base g hlt
        rw [paint_get _ _ _ _ _ (getD_len h1), h1]
        split <;> rfl
      · obtain ⟨k, -, -, ek, hk⟩ := (hm i).1 (e2 i (by omega) (by omega))
        obtain rfl : i = k := by omega
        exact hk
    · unfold QS.acked
      rw [if_pos h]
      simp only
      cases hk : (paint true off.toNat (off + n).toNat s.ak).getD (L1[0].2 + 1).toNat false with
      | false => rfl
      | true =>
        exfalso
        have hl' := getD_len hk
        have hla := g.la
        simp only [paint_length] at hl'
        refine e1 ((hm _).2 ⟨(L1[0].2 + 1).toNat, by omega, by omega, by omega, hk⟩)
  refine ⟨by omega, ⟨?_, fun m => ?_⟩, by omega, by omega⟩
  · exact gd.sub (List.tail_sublist _)
  · have hb' : (s.acked off n).1.b = s.b := (g.acked h0).2.1
    have ha' : (s.acked off n).1.ak = paint true off.toNat (off + n).toNat s.ak := by unfold QS.acked; rw [if_pos h]
    rw [hnb, hb', ha']
    constructor
    · intro hmm
      have hM : Mem m L1 := by
        obtain ⟨t, ht, h1⟩ := hmm
        exact ⟨t, List.mem_of_mem_tail ht, h1⟩
      rcases (e3 m).1 hM with e | e
      · exfalso
        obtain ⟨t, ht, t1, t2⟩ := hmm
        cases hL : L1 with
        | nil => rw [hL] at ht; cases ht
        | cons x r =>
          subst hL
          have := (List.pairwise_cons.1 gd.2).1 t ht
          simp only [List.getElem_cons_zero] at e
          omega
      · obtain ⟨i, f1, f2, f3, f4⟩ := (hm m).1 hM
        exact ⟨i, by omega, f2, f3, f4⟩
    · rintro ⟨i, f1, f2, f3, f4⟩
      have hM := (hm m).2 ⟨i, by omega, f2, f3, f4⟩
      rcases (e3 m).1 hM with e | e
      · omega
      · exact e.1
end QS
end Go.Proofs.Ytilgekmpkoohaaa
