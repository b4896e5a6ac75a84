/-
  Rows that are made, plainly: many spans added, the parts of a row in another one, what a cut leaves, how many numbers.
-/
import Derived.Test.YtnfgmklkfbcjkaaSpanL
namespace Go.Proofs.Ytnfgmklkfbcjkaa
set_option linter.unusedSimpArgs false
set_option linter.unusedVariables false
set_option linter.unnecessarySimpa false
open Go.RowKit

def addList (L : List Sp) : List Sp := L.foldl addP []
theorem addList_snoc (L : List Sp) (s : Sp) : addList (L ++ [s]) = addP (addList L) s := by simp [addList]
theorem addList_nil : addList [] = [] := rfl
theorem addList_gd (L : List Sp) (h : ∀ s ∈ L, IsSpan s) : Gd (addList L) ∧ (addList L).length ≤ L.length ∧ ∀ n, Mem n (addList L) ↔ Mem n L := by
  induction hk : L.length generalizing L with
  | zero =>
    obtain rfl := List.eq_nil_of_length_eq_zero hk
    exact ⟨Gd.nil, Nat.le_refl _, fun n => Iff.rfl⟩
  | succ k ih =>
    rcases List.eq_nil_or_concat L with rfl | ⟨M, s, rfl⟩
    · simp at hk
    · rw [List.concat_eq_append] at h hk ⊢
      have hM : M.length = k := by simpa using hk
      obtain ⟨i1, i2, i3⟩ := ih M (fun x hx => h x (List.mem_append.2 (.inl hx))) hM
      obtain ⟨a1, a2⟩ := add_parts _ s i1 (h s (List.mem_append.2 (.inr (List.mem_singleton.2 rfl))))
      rw [addList_snoc]
      refine ⟨a1, by have := addP_le (addList M) s; omega, fun n => ?_⟩
      rw [a2 n, i3 n, Mem_append, Mem_cons]
      have := Mem_nil n
      constructor
      · rintro (h | h)
        · exact .inl h
        · exact .inr (.inl h)
      · rintro (h | h | h)
        · exact .inl h
        · exact .inr h
        · exact absurd h this

/-- Ends that lie between 0 and some bound. -/
def Within (l : List Sp) (B : Int) : Prop := ∀ s ∈ l, 0 ≤ s.1 ∧ s.2 ≤ B
theorem Mem_lo {l : List Sp} (h : Gd l) {s : Sp} (hs : s ∈ l) : Mem s.1 l ∧ Mem s.2 l := by
  have := (h.1 s hs).1
  exact ⟨⟨s, hs, Int.le_refl _, this⟩, ⟨s, hs, this, Int.le_refl _⟩⟩
theorem Within.of_mem {l : List Sp} (hl : Gd l) {B : Int} (h : ∀ n, Mem n l → 0 ≤ n ∧ n ≤ B) : Within l B := by
  intro s hs
  obtain ⟨h1, h2⟩ := Mem_lo hl hs
  exact ⟨(h _ h1).1, (h _ h2).2⟩
theorem Within.u2 {l : List Sp} (hl : Gd l) {B : Int} (h : Within l B) : U2s l := by
  intro s hs
  have h1 := h s hs
  have h2 := hl.1 s hs
  have h3 := h2.1
  have h4 := h2.2
  rw [maxPn_eq] at h4
  exact ⟨⟨by omega, by omega⟩, ⟨by omega, by omega⟩⟩
theorem addList_within (L : List Sp) (B : Int) (h : ∀ s ∈ L, IsSpan s) (hw : Within L B) : Within (addList L) B := by
  obtain ⟨h1, _, h3⟩ := addList_gd L h
  refine Within.of_mem h1 (fun n hn => ?_)
  obtain ⟨s, hs, h4, h5⟩ := (h3 n).1 hn
  have := hw s hs
  omega

theorem lastP_sub (l : List Sp) (n : Int) : (lastP l n).Sublist l := by
  unfold lastP
  split
  · exact List.nil_sublist _
  · exact List.drop_sublist _ _
theorem lastP_len (l : List Sp) (n : Nat) : (lastP l (n : Int)).length ≤ n := by
  unfold lastP
  split
  · simp
  · simp; omega
theorem Within.sub {l m : List Sp} {B : Int} (h : Within l B) (hs : m.Sublist l) : Within m B := fun s hm => h s (hs.subset hm)
theorem Mem_sub {l m : List Sp} {n : Int} (hs : m.Sublist l) (h : Mem n m) : Mem n l := by
  obtain ⟨s, h1, h2⟩ := h
  exact ⟨s, hs.subset h1, h2⟩

/-! Row. -/
def rp (l : List Int) (j : Nat) : Sp := (l.getD (2 * j) 0 % 200, l.getD (2 * j) 0 % 200 + l.getD (2 * j + 1) 0 % 6)
def rowAll (l : List Int) (j : Nat) : List Sp := addList ((List.range j).map (rp l))
def rowP (l : List Int) : List Sp := lastP (rowAll l (min (l.length / 2) 60)) 32
theorem rowAll_succ (l : List Int) (j : Nat) : rowAll l (j + 1) = addP (rowAll l j) (rp l j) := by
  unfold rowAll
  rw [List.range_succ, List.map_append, List.map_singleton, addList_snoc]
theorem rp_ok (l : List Int) (j : Nat) : IsSpan (rp l j) ∧ 0 ≤ (rp l j).1 ∧ (rp l j).2 ≤ 204 := by
  simp only [rp, IsSpan, maxPn_eq]
  omega
theorem rowAll_ok (l : List Int) (j : Nat) : Gd (rowAll l j) ∧ (rowAll l j).length ≤ j ∧ Within (rowAll l j) 204 := by
  have h1 : ∀ s ∈ (List.range j).map (rp l), IsSpan s := by
    intro s hs
    obtain ⟨i, _, rfl⟩ := List.mem_map.1 hs
    exact (rp_ok l i).1
  have h2 : Within ((List.range j).map (rp l)) 204 := by
    intro s hs
    obtain ⟨i, _, rfl⟩ := List.mem_map.1 hs
    exact (rp_ok l i).2
  obtain ⟨g1, g2, _⟩ := addList_gd _ h1
  exact ⟨g1, by simpa [rowAll] using g2, addList_within _ _ h1 h2⟩
theorem rowP_ok (l : List Int) : Gd (rowP l) ∧ (rowP l).length ≤ 32 ∧ Within (rowP l) 204 := by
  obtain ⟨h1, _, h3⟩ := rowAll_ok l (min (l.length / 2) 60)
  exact ⟨h1.sub (lastP_sub _ _), lastP_len _ 32, h3.sub (lastP_sub _ _)⟩

/-! Part. -/
def cand (x y : Sp) : List Sp := if max x.1 y.1 ≤ min x.2 y.2 then [(max x.1 y.1, min x.2 y.2)] else []
def cands (a b : List Sp) : List Sp := a.flatMap fun x => b.flatMap (cand x)
def partP (a b : List Sp) : List Sp := lastP (addList (cands a b)) 32
theorem cand_mem (x y : Sp) (n : Int) : Mem n (cand x y) ↔ (x.1 ≤ n ∧ n ≤ x.2) ∧ (y.1 ≤ n ∧ n ≤ y.2) := by
  unfold cand
  split
  · rw [Mem_cons]
    have := Mem_nil n
    constructor
    · rintro (h | h)
      · simp only at h; omega
      · exact absurd h this
    · intro h; left; simp only; omega
  · constructor
    · intro h; exact absurd h (Mem_nil n)
    · intro h; omega
theorem Mem_flatMap {α : Type} (f : α → List Sp) (l : List α) (n : Int) : Mem n (l.flatMap f) ↔ ∃ x ∈ l, Mem n (f x) := by
  unfold Mem
  constructor
  · rintro ⟨s, hs, h⟩
    obtain ⟨x, hx, hs⟩ := List.mem_flatMap.1 hs
    exact ⟨x, hx, s, hs, h⟩
  · rintro ⟨x, hx, s, hs, h⟩
    exact ⟨s, List.mem_flatMap.2 ⟨x, hx, hs⟩, h⟩
theorem cands_mem (a b : List Sp) (n : Int) : Mem n (cands a b) ↔ Mem n a ∧ Mem n b := by
  unfold cands
  rw [Mem_flatMap]
  constructor
  · rintro ⟨x, hx, h⟩
    obtain ⟨y, hy, h⟩ := (Mem_flatMap ..).1 h
    rw [cand_mem] at h
    exact ⟨⟨x, hx, h.1⟩, ⟨y, hy, h.2⟩⟩
  · rintro ⟨⟨x, hx, h1⟩, ⟨y, hy, h2⟩⟩
    exact ⟨x, hx, (Mem_flatMap ..).2 ⟨y, hy, (cand_mem ..).2 ⟨h1, h2⟩⟩⟩
theorem cand_ok {x y : Sp} (hx : IsSpan x) : ∀ s ∈ cand x y, IsSpan s := by
  intro s hs
  have := hx.2
  unfold cand at hs
  split at hs
  · obtain rfl := List.mem_singleton.1 hs
    exact ⟨by simpa using (by assumption), by simp only; omega⟩
  · cases hs
theorem cands_ok {a : List Sp} (b : List Sp) (ha : ∀ x ∈ a, IsSpan x) : ∀ s ∈ cands a b, IsSpan s := by
  intro s hs
  obtain ⟨x, hx, hs⟩ := List.mem_flatMap.1 hs
  obtain ⟨y, _, hs⟩ := List.mem_flatMap.1 hs
  exact cand_ok (ha x hx) s hs
theorem cand_len (x y : Sp) : (cand x y).length ≤ 1 := by unfold cand; split <;> simp
theorem cands_len (a b : List Sp) : (cands a b).length ≤ a.length * b.length :=
  flatMap_len _ _ _ (fun x _ => by have := flatMap_len (cand x) b 1 (fun y _ => cand_len x y); omega)
theorem partP_ok (a b : List Sp) (ha : Gd a) {B : Int} (hw : Within a B) : Gd (partP a b) ∧ (partP a b).length ≤ 32 ∧ Within (partP a b) B ∧ ∀ n, Mem n (partP a b) → Mem n a ∧ Mem n b := by
  obtain ⟨h1, _, h3⟩ := addList_gd _ (cands_ok b ha.1)
  have hm : ∀ n, Mem n (addList (cands a b)) → Mem n a ∧ Mem n b := fun n hn => (cands_mem a b n).1 ((h3 n).1 hn)
  have hW : Within (addList (cands a b)) B := Within.of_mem h1 (fun n hn => by
    obtain ⟨s, hs, h4, h5⟩ := (hm n hn).1
    have := hw s hs
    omega)
  exact ⟨h1.sub (lastP_sub _ _), lastP_len _ 32, hW.sub (lastP_sub _ _), fun n hn => hm n (Mem_sub (lastP_sub _ _) hn)⟩

/-! Cut. -/
theorem cut1_mem (s x : Sp) (hs : s.1 ≤ s.2) (hx : x.1 ≤ x.2) (n : Int) : Mem n (cut1 s x) ↔ (x.1 ≤ n ∧ n ≤ x.2) ∧ ¬ (s.1 ≤ n ∧ n ≤ s.2) := by
  have h0 := Mem_nil n
  unfold cut1
  split
  · rw [Mem_cons]
    constructor
    · rintro (h | h)
      · exact ⟨h, by omega⟩
      · exact absurd h h0
    · rintro ⟨h, _⟩; exact .inl h
  · rw [Mem_append]
    split <;> split <;> simp only [Mem_cons, h0, or_false, false_or] <;> constructor <;> intro h <;> first | omega | cases h
theorem cut1_in (s x : Sp) (hs : s.1 ≤ s.2) (hx : x.1 ≤ x.2) : ∀ y ∈ cut1 s x, x.1 ≤ y.1 ∧ y.1 ≤ y.2 ∧ y.2 ≤ x.2 := by
  intro y hy
  unfold cut1 at hy
  split at hy
  · obtain rfl := List.mem_singleton.1 hy; omega
  · rcases List.mem_append.1 hy with hy | hy <;> split at hy
    · obtain rfl := List.mem_singleton.1 hy; simp only; omega
    · cases hy
    · obtain rfl := List.mem_singleton.1 hy; simp only; omega
    · cases hy
theorem cut1_pw (s x : Sp) (hs : s.1 ≤ s.2) (hx : x.1 ≤ x.2) : (cut1 s x).Pairwise (fun a b => a.2 + 1 < b.1) := by
  unfold cut1
  split
  · exact List.pairwise_singleton _ _
  · split <;> split <;> simp
    omega
theorem cut_parts (l : List Sp) (s : Sp) (hl : Gd l) (hs : s.1 ≤ s.2) : Gd (cutP l s) ∧ ∀ n, Mem n (cutP l s) ↔ Mem n l ∧ ¬ (s.1 ≤ n ∧ n ≤ s.2) := by
  induction l with
  | nil => exact ⟨Gd.nil, fun n => by simp [cutP, Mem_nil]⟩
  | cons x r ih =>
    obtain ⟨i1, i2⟩ := ih hl.tail
    have hx := hl.1 x (List.mem_cons_self ..)
    have e : cutP (x :: r) s = cut1 s x ++ cutP r s := by simp [cutP]
    rw [e]
    refine ⟨⟨fun y hy => ?_, ?_⟩, fun n => ?_⟩
    · rcases List.mem_append.1 hy with hy | hy
      · have := cut1_in s x hs hx.1 y hy
        exact ⟨this.2.1, by have := hx.2; omega⟩
      · exact i1.1 y hy
    · rw [List.pairwise_append]
      refine ⟨cut1_pw s x hs hx.1, i1.2, fun a ha b hb => ?_⟩
      have h1 := cut1_in s x hs hx.1 a ha
      obtain ⟨z, hz, hb⟩ := List.mem_flatMap.1 hb
      have h2 := (List.pairwise_cons.1 hl.2).1 z hz
      have h3 := cut1_in s z hs (hl.1 z (List.mem_cons_of_mem _ hz)).1 b hb
      omega
    · rw [Mem_append, cut1_mem s x hs hx.1, i2 n, Mem_cons]
      constructor
      · rintro (⟨h, h'⟩ | ⟨h, h'⟩)
        · exact ⟨.inl h, h'⟩
        · exact ⟨.inr h, h'⟩
      · rintro ⟨h | h, h'⟩
        · exact .inl ⟨h, h'⟩
        · exact .inr ⟨h, h'⟩

/-! How many. -/
def sz (l : List Sp) : Int := (l.map fun s => s.2 - s.1 + 1).sum
theorem sumTo_sz (l : List Sp) : sumTo l l.length = sz l := by
  unfold sumTo sz
  rw [List.take_length]
  have : ∀ (z : Int), l.foldl (fun n s => n + (s.2 - s.1 + 1)) z = z + (l.map fun s => s.2 - s.1 + 1).sum := by
    induction l with
    | nil => intro z; simp
    | cons a l ih => intro z; simp only [List.foldl_cons, List.map_cons, List.sum_cons, ih]; omega
  rw [this]; omega
theorem sz_append (a b : List Sp) : sz (a ++ b) = sz a + sz b := by simp [sz]
theorem sz_cons (a : Sp) (b : List Sp) : sz (a :: b) = (a.2 - a.1 + 1) + sz b := by simp [sz]
/-- Spans that touch s and have none of its numbers, taken in one by one. -/
theorem eat_sz (s : Sp) (r : List Sp) (hg : Gd r) (hs : s.1 ≤ s.2) (ht : ∀ x ∈ r, s.2 < x.1) :
    (eaten s r (eatN s r)).2 - (eaten s r (eatN s r)).1 + 1 = (s.2 - s.1 + 1) + sz (r.take (eatN s r)) := by
  induction r generalizing s with
  | nil => simp [eatN, eaten, sz]
  | cons x r ih =>
    have hx := hg.1 x (List.mem_cons_self ..)
    have htx := ht x (List.mem_cons_self ..)
    have hp := (List.pairwise_cons.1 hg.2).1
    have hx1 := hx.1
    by_cases hc : x.1 ≤ s.2 + 1
    · have e : eatN s (x :: r) = eatN (mrg s x) r + 1 := by simp [eatN, hc]
      have e2 : eaten s (x :: r) (eatN (mrg s x) r + 1) = eaten (mrg s x) r (eatN (mrg s x) r) := by simp [eaten]
      rw [e, e2, ih (mrg s x) hg.tail (by simp only [mrg]; omega) (fun y hy => by have := hp y hy; simp only [mrg]; omega), List.take_succ_cons, sz_cons]
      simp only [mrg]
      omega
    · have e : eatN s (x :: r) = 0 := by simp [eatN, hc]
      rw [e]
      simp [eaten, sz]
theorem add_sz (l : List Sp) (s : Sp) (hl : Gd l) (hs : s.1 ≤ s.2) (hd : ∀ n, Mem n l → ¬ (s.1 ≤ n ∧ n ≤ s.2)) : sz (addP l s) = sz l + (s.2 - s.1 + 1) := by
  have hno : ∀ x ∈ l, ¬ (x.2 + 1 < s.1) → s.2 < x.1 ∨ x.2 + 1 = s.1 := by
    intro x hx hc
    have hx1 := (hl.1 x hx).1
    have h1 := hd x.1 ⟨x, hx, Int.le_refl _, hx1⟩
    have h2 := hd x.2 ⟨x, hx, hx1, Int.le_refl _⟩
    by_cases h3 : s.2 < x.1
    · exact .inl h3
    · right
      by_cases h4 : x.2 < s.1
      · omega
      · -- x reaches into s: then s.1 is one of x
        have h5 := hd s.1 ⟨x, hx, by omega, by omega⟩
        omega
  have hr : Gd (l.drop (skipN s l)) := hl.sub (List.drop_sublist _ _)
  unfold addP
  have hsplit : l = l.take (skipN s l) ++ (l.drop (skipN s l)).take (eatN s (l.drop (skipN s l))) ++ l.drop (skipN s l + eatN s (l.drop (skipN s l))) := by
    rw [List.append_assoc, ← List.drop_drop, List.take_append_drop, List.take_append_drop]
  rw [sz_append, sz_append, sz_cons]
  conv => rhs; rw [hsplit, sz_append, sz_append]
  have hz : sz ([] : List Sp) = 0 := rfl
  rw [hz]
  suffices h : (eaten s (l.drop (skipN s l)) (eatN s (l.drop (skipN s l)))).2 - (eaten s (l.drop (skipN s l)) (eatN s (l.drop (skipN s l)))).1 + 1 = (s.2 - s.1 + 1) + sz ((l.drop (skipN s l)).take (eatN s (l.drop (skipN s l)))) by omega
  have hsub : ∀ x ∈ l.drop (skipN s l), x ∈ l := fun x hx => List.mem_of_mem_drop hx
  have hskip := skipN_end s l
  have hdl : ∀ x0 r0, l.drop (skipN s l) = x0 :: r0 → ¬ x0.2 + 1 < s.1 := by
    intro x0 r0 e
    have hlt : skipN s l < l.length := by
      rcases Nat.lt_or_ge (skipN s l) l.length with h | h
      · exact h
      · rw [List.drop_eq_nil_of_le h] at e; cases e
    have e2 : x0 = l[skipN s l] := by rw [List.drop_eq_getElem_cons hlt] at e; injection e with e _; exact e.symm
    rw [e2]
    exact hskip hlt
  generalize l.drop (skipN s l) = r at *
  cases r with
  | nil => simp [eatN, eaten, sz]
  | cons x r0 =>
    have hx := hr.1 x (List.mem_cons_self ..)
    have hx1 := hx.1
    have hp := (List.pairwise_cons.1 hr.2).1
    have h0 := hdl x r0 rfl
    have hrest : ∀ y ∈ r0, s.2 < y.1 := by
      intro y hy
      have h1 := hp y hy
      have h2 := (hr.1 y (List.mem_cons_of_mem _ hy)).1
      rcases hno y (hsub y (List.mem_cons_of_mem _ hy)) (by omega) with h3 | h3
      · exact h3
      · omega
    rcases hno x (hsub x (List.mem_cons_self ..)) h0 with h1 | h1
    · exact eat_sz s (x :: r0) hr hs (fun y hy => by
        rcases List.mem_cons.1 hy with rfl | hy
        · exact h1
        · exact hrest y hy)
    · have hc : x.1 ≤ s.2 + 1 := by omega
      have e : eatN s (x :: r0) = eatN (mrg s x) r0 + 1 := by simp [eatN, hc]
      have e2 : eaten s (x :: r0) (eatN (mrg s x) r0 + 1) = eaten (mrg s x) r0 (eatN (mrg s x) r0) := by simp [eaten]
      rw [e, e2, eat_sz (mrg s x) r0 hr.tail (by simp only [mrg]; omega) (fun y hy => by have := hrest y hy; have := hp y hy; simp only [mrg]; omega), List.take_succ_cons, sz_cons]
      simp only [mrg]
      omega
theorem count_law (l : List Sp) (s : Sp) (hl : Gd l) (hs : IsSpan s) : sz (addP l s) = sz (cutP l s) + (s.2 - s.1 + 1) := by
  obtain ⟨c1, c2⟩ := cut_parts l s hl hs.1
  obtain ⟨a1, a2⟩ := add_parts l s hl hs
  obtain ⟨b1, b2⟩ := add_parts (cutP l s) s c1 hs
  have e : addP l s = addP (cutP l s) s := by
    refine Gd.ext a1 b1 (fun n => ?_)
    rw [a2 n, b2 n, c2 n]
    by_cases h : s.1 ≤ n ∧ n ≤ s.2
    · simp [h]
    · simp [h]
  rw [e, add_sz _ s c1 hs.1 (fun n hn => ((c2 n).1 hn).2)]
end Go.Proofs.Ytnfgmklkfbcjkaa
