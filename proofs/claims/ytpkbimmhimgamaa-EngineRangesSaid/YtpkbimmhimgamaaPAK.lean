/-
  Part of the proof of EngineRanges.
-/
import Derived.Test.YtpkbimmhimgamaaPAC
import Derived.Test.YtpkbimmhimgamaaPAJ
import Derived.Laws.BitsAllLaws
namespace Go.Proofs.Ytpkbimmhimgamaa
set_option linter.unusedSimpArgs false
set_option linter.unusedVariables false
set_option linter.unnecessarySimpa false
open Go.RowKit
/-- How many of the first are true, in a row. -/
def lead : List Bool → Nat
  | [] => 0
  | x :: r => if x = true then lead r + 1 else 0
theorem lead_le (l : List Bool) : lead l ≤ l.length := by
  induction l with
  | nil => simp [lead]
  | cons x r ih => simp only [lead, List.length_cons]; split <;> omega
theorem lead_lt {l : List Bool} {i : Nat} (h : i < lead l) (hi : i < l.length) : l[i] = true := by
  induction l generalizing i with
  | nil => simp at hi
  | cons x r ih =>
    by_cases hx : x = true
    · simp only [lead, hx, if_true] at h
      cases i with
      | zero => simpa using hx
      | succ i => simpa using ih (by omega) (by simpa using hi)
    · simp [lead, hx] at h
theorem lead_at {l : List Bool} (h : lead l < l.length) : l[lead l] = false := by
  induction l with
  | nil => simp at h
  | cons x r ih =>
    by_cases hx : x = true
    · have hr : lead r < r.length := by simpa [lead, hx] using h
      simpa [lead, hx] using ih hr
    · have e : lead (x :: r) = 0 := by simp [lead, hx]
      simp only [e, List.getElem_cons_zero]
      simpa using hx
/-- The places of a list that hold. -/
def rowTo (l : List Bool) : Nat → List Sp
  | 0 => []
  | k + 1 => if l.getD k false = true then addP (rowTo l k) ((k : Int), (k : Int)) else rowTo l k
def rowB (l : List Bool) : List Sp := rowTo l l.length
theorem rowTo_spec (l : List Bool) (k : Nat) (hk : k ≤ 1000000) : Gd (rowTo l k) ∧ (∀ n, Mem n (rowTo l k) ↔ ∃ i : Nat, i < k ∧ n = i ∧ l.getD i false = true) ∧ (rowTo l k).length ≤ k := by
  induction k with
  | zero => exact ⟨Gd.nil, fun n => by simp [rowTo, Mem], by simp [rowTo]⟩
  | succ k ih =>
    obtain ⟨i1, i2, i3⟩ := ih (by omega)
    unfold rowTo
    split
    · rename_i h
      obtain ⟨a1, a2⟩ := add_parts (rowTo l k) ((k : Int), (k : Int)) i1 ⟨Int.le_refl _, by show (k : Int) ≤ maxPn; unfold maxPn; omega⟩
      refine ⟨a1, fun n => ?_, by have := addP_le (rowTo l k) ((k : Int), (k : Int)); omega⟩
      rw [a2 n, i2 n]
      constructor
      · rintro (⟨i, h1, h2⟩ | ⟨h1, h2⟩)
        · exact ⟨i, by omega, h2⟩
        · simp only at h1 h2
          exact ⟨k, by omega, by omega, h⟩
      · rintro ⟨i, h1, h2, h3⟩
        by_cases e : i = k
        · subst e; exact .inr ⟨by simp only; omega, by simp only; omega⟩
        · exact .inl ⟨i, by omega, h2, h3⟩
    · rename_i h
      refine ⟨i1, fun n => ?_, by omega⟩
      rw [i2 n]
      constructor
      · rintro ⟨i, h1, h2⟩; exact ⟨i, by omega, h2⟩
      · rintro ⟨i, h1, h2, h3⟩
        by_cases e : i = k
        · subst e; exact absurd h3 h
        · exact ⟨i, by omega, h2, h3⟩
theorem rowB_spec (l : List Bool) (hl : l.length ≤ 1000000) : Gd (rowB l) ∧ (∀ n, Mem n (rowB l) ↔ ∃ i : Nat, i < l.length ∧ n = i ∧ l.getD i false = true) ∧ (rowB l).length ≤ l.length := rowTo_spec l l.length hl
theorem rowB_eq {l : List Bool} (hl : l.length ≤ 1000000) {L : List Sp} (hL : Gd L) (h : ∀ n, Mem n L ↔ ∃ i : Nat, i < l.length ∧ n = i ∧ l.getD i false = true) : L = rowB l := by
  obtain ⟨h1, h2, -⟩ := rowB_spec l hl
  exact hL.ext h1 (fun n => (h n).trans (h2 n).symm)

/-- Set from f on, so many. -/
def paint (v : Bool) (f t : Nat) (l : List Bool) : List Bool := l.mapIdx fun i x => if f ≤ i ∧ i < t then v else x
@[simp] theorem paint_length (v : Bool) (f t : Nat) (l : List Bool) : (paint v f t l).length = l.length := by simp [paint]
theorem paint_get (v : Bool) (f t : Nat) (l : List Bool) (i : Nat) (h : i < l.length) : (paint v f t l).getD i false = if f ≤ i ∧ i < t then v else l.getD i false := by
  simp [paint, List.getD, h]
theorem paint_getE (v : Bool) (f t : Nat) (l : List Bool) (i : Nat) (h : i < l.length) : (paint v f t l)[i]'(by simpa using h) = if f ≤ i ∧ i < t then v else l[i] := by
  simp [paint]
/-- Owed from f on, but what is acknowledged. -/
def owe (ak : List Bool) (f t : Nat) (l : List Bool) : List Bool := l.mapIdx fun i x => if f ≤ i ∧ i < t ∧ ak.getD i false = false then true else x
@[simp] theorem owe_length (ak : List Bool) (f t : Nat) (l : List Bool) : (owe ak f t l).length = l.length := by simp [owe]
theorem getD_at {l : List Bool} {i : Nat} (h : i < l.length) : l.getD i false = l[i] := by simp [List.getD, h]
theorem owe_getE (ak : List Bool) (f t : Nat) (l : List Bool) (i : Nat) (h : i < l.length) : (owe ak f t l)[i]'(by simpa using h) = if f ≤ i ∧ i < t ∧ ak.getD i false = false then true else l[i] := by
  simp only [owe, List.getElem_mapIdx]
theorem owe_get (ak : List Bool) (f t : Nat) (l : List Bool) (i : Nat) (h : i < l.length) : (owe ak f t l).getD i false = if f ≤ i ∧ i < t ∧ ak.getD i false = false then true else l.getD i false := by
  rw [getD_at (show i < (owe ak f t l).length by simpa using h), owe_getE _ _ _ _ _ h, getD_at h]
structure QS where
  room : Nat
  b : List Int
  ak : List Bool
  ow : List Bool
  fresh : Nat
namespace QS
def base (s : QS) : Nat := lead s.ak
def new (room : Int) : QS := ⟨(max 1 (min room 65536)).toNat, [], [], [], 0⟩
structure Good (s : QS) : Prop where
  room1 : 1 ≤ s.room
  room2 : s.room ≤ 65536
  la : s.ak.length = s.b.length
  lo : s.ow.length = s.b.length
  fr : s.fresh ≤ s.b.length
  ob : ∀ i, s.ow.getD i false = true → i < s.fresh ∧ s.ak.getD i false = false
  ab : ∀ i, s.ak.getD i false = true → i < s.fresh
  by_ : ∀ x ∈ s.b, 0 ≤ x ∧ x ≤ 255
  fit : s.b.length - s.base ≤ s.room
def within (off n : Int) (e : Nat) : Prop := 0 < n ∧ off ≤ e ∧ n ≤ e - off
instance (off n : Int) (e : Nat) : Decidable (within off n e) := by unfold within; exact inferInstance
def write (s : QS) (l : List Int) : QS × Int :=
  let n := min l.length (s.room - (s.b.length - s.base))
  ({ s with b := s.b ++ l.take n, ak := s.ak ++ List.replicate n false, ow := s.ow ++ List.replicate n false }, (n : Int))
def sent (s : QS) (off n : Int) : QS × Bool :=
  if within off n s.b.length ∧ off ≤ s.fresh then ({ s with ow := paint false off.toNat (off + n).toNat s.ow, fresh := max s.fresh (off + n).toNat }, true) else (s, false)
def acked (s : QS) (off n : Int) : QS × Bool :=
  if within off n s.fresh then ({ s with ak := paint true off.toNat (off + n).toNat s.ak, ow := paint false off.toNat (off + n).toNat s.ow }, true) else (s, false)
def lost (s : QS) (off n : Int) : QS × Bool :=
  if within off n s.fresh then ({ s with ow := owe s.ak off.toNat (off + n).toNat s.ow }, true) else (s, false)
/-- How far the owed places go from f on. -/
def runTo (l : List Bool) (f : Nat) : Nat := f + lead (l.drop f)
def firstOf (l : List Bool) : Nat := lead (l.map not)
/-- What is next: from where to where. -/
def next (s : QS) (most : Int) : Option (Nat × Nat) :=
  if most < 1 then none else
  let f := firstOf s.ow
  let (a, e) := if f = s.ow.length then (s.fresh, s.b.length) else (f, runTo s.ow f)
  if e = a then none else some (a, min e (a + (min most s.b.length).toNat))
end QS
end Go.Proofs.Ytpkbimmhimgamaa
namespace Go.Proofs.Ytpkbimmhimgamaa
set_option linter.unusedSimpArgs false
set_option linter.unusedVariables false
set_option linter.unnecessarySimpa false
open Go.RowKit
theorem Mem_lo {l : List Sp} (h : Gd l) {s : Sp} (hs : s ∈ l) : Mem s.1 l ∧ Mem s.2 l := by
  have := (h.1 s hs).1
  exact ⟨⟨s, hs, Int.le_refl _, this⟩, ⟨s, hs, this, Int.le_refl _⟩⟩
theorem cut1_mem (s x : Sp) (hs : s.1 ≤ s.2) (hx : x.1 ≤ x.2) (n : Int) : Mem n (cut1 s x) ↔ (x.1 ≤ n ∧ n ≤ x.2) ∧ ¬ (s.1 ≤ n ∧ n ≤ s.2) := by
  have h0 := Mem_nil n
  unfold cut1
  split
  · rw [Mem_cons]
    constructor
    · rintro (h | h)
      · exact ⟨h, by omega⟩
      · exact absurd h h0
    · rintro ⟨h, _⟩; exact .inl h
  · rw [Mem_append]
    split <;> split <;> simp only [Mem_cons, h0, or_false, false_or] <;> constructor <;> intro h <;> first | omega | cases h
theorem cut1_in (s x : Sp) (hs : s.1 ≤ s.2) (hx : x.1 ≤ x.2) : ∀ y ∈ cut1 s x, x.1 ≤ y.1 ∧ y.1 ≤ y.2 ∧ y.2 ≤ x.2 := by
  intro y hy
  unfold cut1 at hy
  split at hy
  · obtain rfl := List.mem_singleton.1 hy; omega
  · rcases List.mem_append.1 hy with hy | hy <;> split at hy
    · obtain rfl := List.mem_singleton.1 hy; simp only; omega
    · cases hy
    · obtain rfl := List.mem_singleton.1 hy; simp only; omega
    · cases hy
theorem cut1_pw (s x : Sp) (hs : s.1 ≤ s.2) (hx : x.1 ≤ x.2) : (cut1 s x).Pairwise (fun a b => a.2 + 1 < b.1) := by
  unfold cut1
  split
  · exact List.pairwise_singleton _ _
  · split <;> split <;> simp
    omega
theorem cut_parts (l : List Sp) (s : Sp) (hl : Gd l) (hs : s.1 ≤ s.2) : Gd (cutP l s) ∧ ∀ n, Mem n (cutP l s) ↔ Mem n l ∧ ¬ (s.1 ≤ n ∧ n ≤ s.2) := by
  induction l with
  | nil => exact ⟨Gd.nil, fun n => by simp [cutP, Mem_nil]⟩
  | cons x r ih =>
    obtain ⟨i1, i2⟩ := ih hl.tail
    have hx := hl.1 x (List.mem_cons_self ..)
    have e : cutP (x :: r) s = cut1 s x ++ cutP r s := by simp [cutP]
    rw [e]
    refine ⟨⟨fun y hy => ?_, ?_⟩, fun n => ?_⟩
    · rcases List.mem_append.1 hy with hy | hy
      · have := cut1_in s x hs hx.1 y hy
        exact ⟨this.2.1, by have := hx.2; omega⟩
      · exact i1.1 y hy
    · rw [List.pairwise_append]
      refine ⟨cut1_pw s x hs hx.1, i1.2, fun a ha b hb => ?_⟩
      have h1 := cut1_in s x hs hx.1 a ha
      obtain ⟨z, hz, hb⟩ := List.mem_flatMap.1 hb
      have h2 := (List.pairwise_cons.1 hl.2).1 z hz
      have h3 := cut1_in s z hs (hl.1 z (List.mem_cons_of_mem _ hz)).1 b hb
      omega
    · rw [Mem_append, cut1_mem s x hs hx.1, i2 n, Mem_cons]
      constructor
      · rintro (⟨h, h'⟩ | ⟨h, h'⟩)
        · exact ⟨.inl h, h'⟩
        · exact ⟨.inr h, h'⟩
      · rintro ⟨h | h, h'⟩
        · exact .inl ⟨h, h'⟩
        · exact .inr ⟨h, h'⟩

/-! How many. -/
theorem from_parts (l : List Sp) (q : Int) (hl : Gd l) : (Gd (fromP l q) ∧ ∀ y ∈ fromP l q, ∃ x ∈ l, x.1 ≤ y.1 ∧ y.2 = x.2) ∧ ∀ n, Mem n (fromP l q) ↔ Mem n l ∧ q ≤ n := by
  induction l with
  | nil => exact ⟨⟨Gd.nil, fun y hy => by cases hy⟩, fun n => by simp [fromP, Mem]⟩
  | cons x r ih =>
    obtain ⟨⟨i1, i2⟩, i3⟩ := ih hl.tail
    have hx := hl.1 x (by simp)
    have hp := (List.pairwise_cons.1 hl.2).1
    have e : fromP (x :: r) q = from1 q x ++ fromP r q := rfl
    rw [e]
    by_cases h : q ≤ x.2
    · rw [from1_yes h]
      refine ⟨⟨⟨fun y hy => ?_, ?_⟩, fun y hy => ?_⟩, fun n => ?_⟩
      · rcases List.mem_cons.1 hy with rfl | hy
        · exact ⟨by have := hx.1; show max x.1 q ≤ x.2; omega, hx.2⟩
        · exact i1.1 y hy
      · refine List.pairwise_cons.2 ⟨fun y hy => ?_, i1.2⟩
        obtain ⟨z, hz, h1, h2⟩ := i2 y hy
        have := hp z hz
        show x.2 + 1 < y.1
        omega
      · rcases List.mem_cons.1 hy with rfl | hy
        · exact ⟨x, by simp, by show x.1 ≤ max x.1 q; omega, rfl⟩
        · obtain ⟨z, hz, h1⟩ := i2 y hy
          exact ⟨z, List.mem_cons_of_mem _ hz, h1⟩
      · rw [List.singleton_append, Mem_cons, Mem_cons, i3 n]
        have hr : Mem n r → q ≤ n := fun ⟨z, hz, h1, h2⟩ => by have := hp z hz; omega
        constructor
        · rintro (⟨h1, h2⟩ | ⟨h1, h2⟩)
          · simp only at h1 h2; exact ⟨.inl ⟨by omega, h2⟩, by omega⟩
          · exact ⟨.inr h1, h2⟩
        · rintro ⟨h1 | h1, h2⟩
          · exact .inl ⟨by show max x.1 q ≤ n; omega, h1.2⟩
          · exact .inr ⟨h1, h2⟩
    · rw [from1_no h, List.nil_append]
      refine ⟨⟨i1, fun y hy => ?_⟩, fun n => ?_⟩
      · obtain ⟨z, hz, h1⟩ := i2 y hy
        exact ⟨z, List.mem_cons_of_mem _ hz, h1⟩
      · rw [Mem_cons, i3 n]
        constructor
        · rintro ⟨h1, h2⟩; exact ⟨.inr h1, h2⟩
        · rintro ⟨h1 | h1, h2⟩
          · omega
          · exact ⟨h1, h2⟩

theorem getD_len {l : List Bool} {i : Nat} (h : l.getD i false = true) : i < l.length := by
  apply Nat.lt_of_not_le
  intro h1
  simp [List.getD, h1] at h

namespace QS
/-- Lengths that the program's scripts keep. -/
def Few (s : QS) : Prop := s.b.length ≤ 1000000
/-- The acknowledged places behind the base, as a row. -/
structure AkRow (s : QS) (L : List Sp) : Prop where
  gd : Gd L
  mem : ∀ n, Mem n L ↔ ∃ i : Nat, s.base ≤ i ∧ i < s.b.length ∧ n = i ∧ s.ak.getD i false = true
theorem base_le (s : QS) (g : s.Good) : s.base ≤ s.b.length := by have := lead_le s.ak; have := g.la; unfold base; omega
theorem below_base {s : QS} (g : s.Good) {i : Nat} (h : i < s.base) : s.ak.getD i false = true := by
  have h1 := s.base_le g
  have h2 := g.la
  rw [getD_at (by omega)]
  exact lead_lt h (by omega)
theorem Good.new (room : Int) : (QS.new room).Good := by
  refine ⟨?_, ?_, rfl, rfl, ?_, ?_, ?_, ?_, ?_⟩ <;> simp [QS.new, QS.base, lead] <;> omega
/-! Sent. -/
theorem sent_row {s : QS} (g : s.Good) (hf : s.Few) {off n : Int} (h : within off n s.b.length) (h0 : 0 ≤ off) : cutP (rowB s.ow) (off, off + n - 1) = rowB (paint false off.toNat (off + n).toNat s.ow) := by
  obtain ⟨h1, h2, h3⟩ := h
  have hl : s.ow.length ≤ 1000000 := by rw [g.lo]; exact hf
  obtain ⟨r1, r2, -⟩ := rowB_spec s.ow hl
  obtain ⟨c1, c2⟩ := cut_parts (rowB s.ow) (off, off + n - 1) r1 (by show off ≤ off + n - 1; omega)
  refine rowB_eq (by simpa using hl) c1 (fun m => ?_)
  rw [c2 m, r2 m]
  simp only [paint_length]
  constructor
  · rintro ⟨⟨i, hi, rfl, ho⟩, hn⟩
    refine ⟨i, hi, rfl, ?_⟩
    rw [paint_get _ _ _ _ _ hi, if_neg (by omega)]
    exact ho
  · rintro ⟨i, hi, rfl, ho⟩
    rw [paint_get _ _ _ _ _ hi] at ho
    by_cases e : off.toNat ≤ i ∧ i < (off + n).toNat
    · rw [if_pos e] at ho; cases ho
    · rw [if_neg e] at ho
      exact ⟨⟨i, hi, rfl, ho⟩, by omega⟩
theorem Good.sent {s : QS} (g : s.Good) {off n : Int} (h0 : 0 ≤ off) : (s.sent off n).1.Good ∧ (s.sent off n).1.b = s.b ∧ (s.sent off n).1.ak = s.ak := by
  unfold QS.sent
  split
  · rename_i h
    obtain ⟨⟨h1, h2, h3⟩, h4⟩ := h
    refine ⟨⟨g.room1, g.room2, g.la, by simpa using g.lo, ?_, ?_, ?_, g.by_, g.fit⟩, rfl, rfl⟩
    · have := g.fr
      show max s.fresh (off + n).toNat ≤ s.b.length
      omega
    · intro i hi
      have hl := getD_len hi
      simp only [paint_length] at hl
      simp only at hi
      rw [paint_get _ _ _ _ _ hl] at hi
      split at hi
      · cases hi
      · obtain ⟨a, b⟩ := g.ob i hi
        exact ⟨by show i < max _ _; omega, b⟩
    · intro i hi
      have := g.ab i hi
      show i < max _ _
      omega
  · exact ⟨g, rfl, rfl⟩

theorem Good.lost {s : QS} (g : s.Good) {off n : Int} (h0 : 0 ≤ off) : (s.lost off n).1.Good ∧ (s.lost off n).1.b = s.b ∧ (s.lost off n).1.ak = s.ak := by
  unfold QS.lost
  split
  · rename_i h
    obtain ⟨h1, h2, h3⟩ := h
    have hfr := g.fr
    refine ⟨⟨g.room1, g.room2, g.la, by simpa using g.lo, g.fr, ?_, g.ab, g.by_, g.fit⟩, rfl, rfl⟩
    intro i hi
    have hl := getD_len hi
    simp only [owe_length] at hl
    simp only at hi
    rw [owe_get _ _ _ _ _ hl] at hi
    split at hi
    · rename_i e
      exact ⟨by show i < s.fresh; omega, e.2.2⟩
    · exact g.ob i hi
  · exact ⟨g, rfl, rfl⟩
theorem AkRow.same {s t : QS} {L : List Sp} (h : AkRow s L) (e1 : t.b = s.b) (e2 : t.ak = s.ak) : AkRow t L := by
  refine ⟨h.gd, fun n => ?_⟩
  have : t.base = s.base := by unfold base; rw [e2]
  rw [this, e1, e2]
  exact h.mem n

/-! Acked. -/
theorem Good.acked {s : QS} (g : s.Good) {off n : Int} (h0 : 0 ≤ off) : (s.acked off n).1.Good ∧ (s.acked off n).1.b = s.b ∧ s.base ≤ (s.acked off n).1.base := by
  unfold QS.acked
  split
  · rename_i h
    obtain ⟨h1, h2, h3⟩ := h
    have hfr := g.fr
    have hb : s.base ≤ lead (paint true off.toNat (off + n).toNat s.ak) := by
      apply Nat.le_of_not_lt
      intro hlt
      have h5 := s.base_le g
      have h6 := g.la
      have e := lead_at (l := paint true off.toNat (off + n).toNat s.ak) (by simp; omega)
      rw [paint_getE _ _ _ _ _ (by omega)] at e
      split at e
      · cases e
      · have := below_base g hlt
        rw [getD_at (by omega), e] at this
        cases this
    refine ⟨⟨g.room1, g.room2, by simpa using g.la, by simpa using g.lo, g.fr, ?_, ?_, g.by_, ?_⟩, rfl, hb⟩
    · intro i hi
      have hl := getD_len hi
      simp only [paint_length] at hl
      simp only at hi ⊢
      rw [paint_get _ _ _ _ _ hl] at hi
      split at hi
      · cases hi
      · rename_i e
        obtain ⟨a, b⟩ := g.ob i hi
        refine ⟨a, ?_⟩
        rw [paint_get _ _ _ _ _ (by have := g.la; have := g.lo; omega), if_neg e]
        exact b
    · intro i hi
      have hl := getD_len hi
      simp only [paint_length] at hl
      simp only at hi
      rw [paint_get _ _ _ _ _ hl] at hi
      split at hi
      · rename_i e; show i < s.fresh; omega
      · exact g.ab i hi
    · have := g.fit
      show s.b.length - lead (paint true off.toNat (off + n).toNat s.ak) ≤ s.room
      omega
  · exact ⟨g, rfl, Nat.le_refl _⟩
theorem head_min {L : List Sp} (h : Gd L) (h0 : 0 < L.length) {n : Int} (hn : Mem n L) : L[0].1 ≤ n := by
  obtain ⟨t, ht, t1, t2⟩ := hn
  obtain ⟨i, hi, rfl⟩ := List.mem_iff_getElem.1 ht
  rcases Nat.eq_zero_or_pos i with rfl | hp
  · exact t1
  · have := List.pairwise_iff_getElem.1 h.2 0 i h0 hi hp
    have := (h.1 _ (List.getElem_mem h0)).1
    omega
theorem head_end {L : List Sp} (h : Gd L) (h0 : 0 < L.length) : ¬ Mem (L[0].2 + 1) L ∧ (∀ n, L[0].1 ≤ n → n ≤ L[0].2 → Mem n L) ∧ ∀ n, Mem n L ↔ (L[0].1 ≤ n ∧ n ≤ L[0].2) ∨ (Mem n L.tail ∧ L[0].2 + 1 < n) := by
  cases L with
  | nil => simp at h0
  | cons x r =>
    have hp := (List.pairwise_cons.1 h.2).1
    have hr : ∀ n, Mem n r → x.2 + 1 < n := fun n ⟨t, ht, t1, t2⟩ => by have := hp t ht; omega
    simp only [List.getElem_cons_zero, List.tail_cons]
    refine ⟨fun hm => ?_, fun n a b => ⟨x, by simp, a, b⟩, fun n => ?_⟩
    · rcases (Mem_cons _ _ _).1 hm with e | e
      · omega
      · have := hr _ e; omega
    · rw [Mem_cons]
      constructor
      · rintro (e | e)
        · exact .inl e
        · exact .inr ⟨e, hr n e⟩
      · rintro (e | e)
        · exact .inl e
        · exact .inr e.1
end QS
end Go.Proofs.Ytpkbimmhimgamaa
namespace Go.Proofs.Ytpkbimmhimgamaa
set_option linter.unusedSimpArgs false
set_option linter.unusedVariables false
set_option linter.unnecessarySimpa false
open Go.RowKit
/-- A packet. -/
structure DatD where
  pn : Int
  least : Int
  off : Int
  nonce : Int
  ecn : Int
  body : List Int
def datTail (ecn pn least off nonce : Int) (b : List Int) : Except Int DatD := match numP b with
  | .error e => .error e
  | .ok (n, k) =>
    if n < 1 ∨ 1500 < n ∨ 4611686018427387903 - n < off then .error 5 else
    if ((b.drop k).length : Int) < n then .error 2 else
    if n < ((b.drop k).length : Int) then .error 3 else .ok ⟨pn, least, off, nonce, ecn, b.drop k⟩
def datRest (ecn : Int) (r : List Int) : Except Int DatD := match numP r with
  | .error e => .error e
  | .ok (pn, j) => match numP (r.drop j) with
    | .error e => .error e
    | .ok (least, j2) => if pn < least then .error 5 else match numP ((r.drop j).drop j2) with
      | .error e => .error e
      | .ok (off, j3) => match wordP (((r.drop j).drop j2).drop j3) with
        | .error e => .error e
        | .ok nonce => datTail ecn pn least off nonce ((((r.drop j).drop j2).drop j3).drop 8)
def datP (b : List Int) : Except Int DatD := match b with
  | [] => .error 2
  | k :: r => if k ≠ 1 then .error 4 else match r with
    | [] => .error 2
    | c :: r => if c < 1 ∨ 3 < c then .error 5 else datRest c r
structure DatD.Ok (d : DatD) : Prop where
  pn : d.pn ≤ 4611686018427387903
  le : 0 ≤ d.least ∧ d.least ≤ d.pn
  off : 0 ≤ d.off ∧ d.off + d.body.length ≤ 4611686018427387903
  nonce : isU64 d.nonce
  ecn : 1 ≤ d.ecn ∧ d.ecn ≤ 3
  len : 1 ≤ d.body.length ∧ d.body.length ≤ 1500
  u8 : ∀ x ∈ d.body, 0 ≤ x ∧ x ≤ 255
/-- A packet that is kept. -/
structure Hp where
  pn : Int
  nonce : Int
  coin : Bool
  marked : Bool
def gotL (l : List Hp) : List Sp := l.foldl (fun a h => addP a (h.pn, h.pn)) []
def markL (l : List Hp) : List Sp := gotL (l.filter (·.marked))
theorem gotL_snoc (l : List Hp) (h : Hp) : gotL (l ++ [h]) = addP (gotL l) (h.pn, h.pn) := by simp [gotL]
theorem gotL_go (l : List Hp) (hl : ∀ h ∈ l, h.pn ≤ maxPn) : ∀ a, Gd a → Gd (l.foldl (fun a h => addP a (h.pn, h.pn)) a) ∧ ∀ n, Mem n (l.foldl (fun a h => addP a (h.pn, h.pn)) a) ↔ Mem n a ∨ ∃ h ∈ l, h.pn = n := by
  induction l with
  | nil => exact fun a ha => ⟨ha, fun n => by simp⟩
  | cons h l ih =>
    intro a ha
    obtain ⟨a1, a2⟩ := add_parts a (h.pn, h.pn) ha ⟨Int.le_refl _, hl h (by simp)⟩
    obtain ⟨i1, i2⟩ := ih (fun x hx => hl x (by simp [hx])) _ a1
    rw [List.foldl_cons]
    refine ⟨i1, fun n => ?_⟩
    rw [i2, a2]
    constructor
    · rintro ((e | ⟨e1, e2⟩) | ⟨x, hx, e⟩)
      · exact .inl e
      · exact .inr ⟨h, by simp, by dsimp only at e1 e2; omega⟩
      · exact .inr ⟨x, by simp [hx], e⟩
    · rintro (e | ⟨x, hx, e⟩)
      · exact .inl (.inl e)
      · rcases List.mem_cons.1 hx with hx | hx
        · subst hx
          exact .inl (.inr ⟨by dsimp only; omega, by dsimp only; omega⟩)
        · exact .inr ⟨x, hx, e⟩
theorem gotL_spec (l : List Hp) (hl : ∀ h ∈ l, h.pn ≤ maxPn) : Gd (gotL l) ∧ ∀ n, Mem n (gotL l) ↔ ∃ h ∈ l, h.pn = n := by
  obtain ⟨h1, h2⟩ := gotL_go l hl [] Gd.nil
  exact ⟨h1, fun n => by rw [show gotL l = l.foldl (fun a h => addP a (h.pn, h.pn)) [] from rfl, h2]; simp [Mem]⟩
theorem gotL_from (l : List Hp) (hl : ∀ h ∈ l, h.pn ≤ maxPn) (f : Int) : fromP (gotL l) f = gotL (l.filter fun h => decide (f ≤ h.pn)) := by
  have h1 := gotL_spec l hl
  have h2 := gotL_spec (l.filter fun h => decide (f ≤ h.pn)) (fun h hh => hl h (List.mem_filter.1 hh).1)
  have h3 := from_parts (gotL l) f h1.1
  refine Gd.ext h3.1.1 h2.1 fun n => ?_
  rw [h3.2, h1.2, h2.2]
  constructor
  · rintro ⟨⟨x, hx, e⟩, hn⟩
    exact ⟨x, List.mem_filter.2 ⟨hx, by simp only [decide_eq_true_eq]; omega⟩, e⟩
  · rintro ⟨x, hx, e⟩
    have := List.mem_filter.1 hx
    have h5 := this.2
    simp only [decide_eq_true_eq] at h5
    exact ⟨⟨x, this.1, e⟩, by omega⟩

/-- A receiver. -/
structure PS where
  delay : Int
  floor : Int
  next : Int
  bytes : Int
  l : List Hp
  s : List (Int × List Int)
  waits : Int
  trigger : Int
  due : Int
namespace PS
def new (delay : Int) : PS := ⟨delay, 0, 0, 0, [], [], 0, 0, 18446744073709551615⟩
def got (p : PS) : List Sp := gotL p.l
def marked (p : PS) : List Sp := markL p.l
def raise (p : PS) (t : Int) : PS := { p with floor := max p.floor t, l := p.l.filter fun h => decide (max p.floor t ≤ h.pn) }
/-- No more than 32 spans: one raise is enough, for a packet adds no more than one. -/
def capG (p : PS) : PS := if 32 < p.got.length then p.raise (p.got.getD 1 (0, 0)).1 else p
def capM (p : PS) : PS := if 32 < p.marked.length then p.raise (p.marked.getD 1 (0, 0)).1 else p
def xor (p : PS) : Int := p.l.foldl (fun a h => bits .xor .u64 a h.nonce) 0
def odd (p : PS) : Bool := p.l.foldl (fun a h => if h.coin && !h.marked then !a else a) false
def told (p : PS) : AckD := ⟨p.got, p.marked, p.trigger, p.xor, p.odd⟩
def still (p : PS) : PS := { p with waits := 0, due := 18446744073709551615 }
def laid (p : PS) (d : DatD) : PS := { p with bytes := p.bytes + d.body.length, s := p.s ++ [(d.off, d.body)], l := p.l ++ [⟨d.pn, d.nonce, decide (d.ecn = 1), decide (d.ecn = 3)⟩] }
def kept (p : PS) (d : DatD) : PS := (((p.laid d).raise d.least).capG).capM
/-- What a packet does: the receiver behind it, and whether it tells. -/
def take (p : PS) (d : DatD) (now : Int) : PS × Option AckD :=
  if d.pn < p.floor ∨ hasP p.got d.pn = true then (p, none) else
  if d.pn < (p.kept d).floor then (p.kept d, none) else
  if 2 ≤ p.waits + 1 ∨ d.ecn = 3 ∨ d.pn ≠ p.next then
    let q := { p.kept d with next := max p.next (d.pn + 1), waits := p.waits + 1, trigger := d.nonce }
    (q.still, some q.told)
  else ({ p.kept d with next := max p.next (d.pn + 1), waits := p.waits + 1, trigger := d.nonce, due := min (now + p.delay) 18446744073709551615 }, none)
/-- The byte at a place: of the first that has it. -/
def at_ (s : List (Int × List Int)) (k : Int) : Option Int := s.findSome? fun x => if x.1 ≤ k ∧ k - x.1 < (x.2.length : Int) then some (x.2.getD (k - x.1).toNat 0) else none
structure Good (p : PS) : Prop where
  pn : ∀ h ∈ p.l, p.floor ≤ h.pn ∧ 0 ≤ h.pn ∧ h.pn ≤ maxPn ∧ isU64 h.nonce
  own : (p.l.map (·.pn)).Nodup
  few : p.got.length ≤ 32 ∧ p.marked.length ≤ 32
  wt : (p.waits = 0 ∧ p.due = 18446744073709551615) ∨ p.waits = 1
  num : isU64 p.delay ∧ isU64 p.trigger ∧ isU64 p.due ∧ 0 ≤ p.floor ∧ p.floor ≤ maxPn ∧ 0 ≤ p.next ∧ p.next ≤ maxPn + 1
end PS
end Go.Proofs.Ytpkbimmhimgamaa
namespace Go.Proofs.Ytpkbimmhimgamaa
set_option linter.unusedSimpArgs false
set_option linter.unusedVariables false
set_option linter.unnecessarySimpa false
open Go.RowKit
theorem fromP_second {L : List Sp} (h : Gd L) (h2 : 2 ≤ L.length) : fromP L (L.getD 1 (0, 0)).1 = L.drop 1 := by
  match L, h, h2 with
  | a :: b :: r, h, _ =>
    have p1 := List.pairwise_cons.1 h.2
    have p2 := List.pairwise_cons.1 p1.2
    have hab := p1.1 b (by simp)
    have hb := (h.1 b (by simp)).1
    have hr : r.flatMap (from1 b.1) = r := by
      have : ∀ x ∈ r, from1 b.1 x = [x] := fun x hx => by
        have e1 := p2.1 x hx
        have e2 := (h.1 x (by simp [hx])).1
        rw [from1_yes (by omega)]
        simp only [List.cons.injEq, and_true]
        exact Prod.ext (by show max x.1 b.1 = x.1; omega) rfl
      clear p1 p2 h
      induction r with
      | nil => rfl
      | cons x r ih => rw [List.flatMap_cons, this x (by simp), ih (by simp) (fun y hy => this y (by simp [hy]))]; rfl
    show fromP (a :: b :: r) b.1 = b :: r
    unfold fromP
    rw [List.flatMap_cons, List.flatMap_cons, hr, from1_no (by omega), from1_yes hb]
    simp only [List.nil_append, List.singleton_append, List.cons.injEq, and_true]
    exact Prod.ext (by show max b.1 b.1 = b.1; omega) rfl
theorem filter_marked (l : List Hp) (f : Int) : (l.filter fun h => decide (f ≤ h.pn)).filter (·.marked) = (l.filter (·.marked)).filter fun h => decide (f ≤ h.pn) := by
  rw [List.filter_filter, List.filter_filter]
  congr 1
  funext h
  exact Bool.and_comm _ _
theorem markL_from (l : List Hp) (hl : ∀ h ∈ l, h.pn ≤ maxPn) (f : Int) : fromP (markL l) f = markL (l.filter fun h => decide (f ≤ h.pn)) := by
  unfold markL
  rw [filter_marked]
  exact gotL_from _ (fun h hh => hl h (List.mem_filter.1 hh).1) f
namespace PS
/-- What holds within Take, too: the rows may have one span more. -/
structure Mid (p : PS) (a b : Nat) : Prop where
  pn : ∀ h ∈ p.l, p.floor ≤ h.pn ∧ 0 ≤ h.pn ∧ h.pn ≤ maxPn ∧ isU64 h.nonce
  own : (p.l.map (·.pn)).Nodup
  few : p.got.length ≤ a ∧ p.marked.length ≤ b
  fl : 0 ≤ p.floor ∧ p.floor ≤ maxPn
theorem Mid.le {p : PS} {a b : Nat} (h : p.Mid a b) : ∀ x ∈ p.l, x.pn ≤ maxPn := fun x hx => (h.pn x hx).2.2.1
theorem Mid.gd {p : PS} {a b : Nat} (h : p.Mid a b) : Gd p.got := (gotL_spec p.l h.le).1
theorem Mid.gm {p : PS} {a b : Nat} (h : p.Mid a b) : Gd p.marked := (gotL_spec _ fun x hx => h.le x (List.mem_filter.1 hx).1).1
theorem raise_l {p : PS} {a b : Nat} (h : p.Mid a b) (t : Int) : (p.raise t).l = p.l.filter fun h => decide (t ≤ h.pn) := by
  show p.l.filter _ = _
  refine List.filter_congr fun x hx => ?_
  have := (h.pn x hx).1
  exact decide_eq_decide.2 ⟨fun h => by omega, fun h => by omega⟩
theorem raise_got {p : PS} {a b : Nat} (h : p.Mid a b) (t : Int) : (p.raise t).got = fromP p.got t ∧ (p.raise t).marked = fromP p.marked t := by
  unfold got marked
  rw [raise_l h t, gotL_from _ h.le, markL_from _ h.le]
  exact ⟨rfl, rfl⟩
theorem Mid.raise {p : PS} {a b : Nat} (h : p.Mid a b) {t : Int} (ht : t ≤ maxPn) : (p.raise t).Mid a b := by
  refine ⟨fun x hx => ?_, ?_, ?_, ?_⟩
  · have := List.mem_filter.1 hx
    have h2 := h.pn x this.1
    have h3 := this.2
    simp only [decide_eq_true_eq] at h3
    exact ⟨h3, h2.2⟩
  · exact h.own.sublist (List.Sublist.map _ List.filter_sublist)
  · rw [(raise_got h t).1, (raise_got h t).2]
    have e1 := fromP_len p.got t
    have e2 := fromP_len p.marked t
    have := h.few
    omega
  · show 0 ≤ max p.floor t ∧ max p.floor t ≤ maxPn
    have := h.fl
    omega
theorem getD_le {L : List Sp} (h : Gd L) : (L.getD 1 (0, 0)).1 ≤ maxPn := by
  match L, h with
  | [], _ => show (0 : Int) ≤ maxPn; decide
  | [a], _ => show (0 : Int) ≤ maxPn; decide
  | a :: b :: r, h =>
    have e := h.1 b (by simp)
    have e1 := e.1
    have e2 := e.2
    show b.1 ≤ maxPn
    omega
theorem Mid.capG {p : PS} {b : Nat} (h : p.Mid 33 b) : (p.capG).Mid 32 b := by
  unfold PS.capG
  split
  · rename_i h1
    have k := h.raise (getD_le h.gd)
    refine ⟨k.pn, k.own, ⟨?_, k.few.2⟩, k.fl⟩
    rw [(raise_got h _).1, fromP_second h.gd (by omega)]
    have := h.few.1
    simp only [List.length_drop]
    omega
  · exact ⟨h.pn, h.own, ⟨by omega, h.few.2⟩, h.fl⟩
theorem Mid.capM {p : PS} {a : Nat} (h : p.Mid a 33) : (p.capM).Mid a 32 := by
  unfold PS.capM
  split
  · rename_i h1
    have k := h.raise (getD_le h.gm)
    refine ⟨k.pn, k.own, ⟨k.few.1, ?_⟩, k.fl⟩
    rw [(raise_got h _).2, fromP_second h.gm (by omega)]
    have := h.few.2
    simp only [List.length_drop]
    omega
  · exact ⟨h.pn, h.own, ⟨h.few.1, by omega⟩, h.fl⟩
theorem Mid.laid {p : PS} {d : DatD} (h : p.Mid 32 32) (hd : d.Ok) (h0 : 0 ≤ d.pn) (h1 : ¬ d.pn < p.floor) (h2 : ¬ hasP p.got d.pn = true) : (p.laid d).Mid 33 33 := by
  have hm : d.pn ≤ maxPn := by have := hd.pn; rw [maxPn_eq]; exact this
  refine ⟨fun x hx => ?_, ?_, ⟨?_, ?_⟩, h.fl⟩
  · rcases List.mem_append.1 hx with hx | hx
    · exact h.pn x hx
    · rw [List.mem_singleton] at hx
      subst hx
      exact ⟨by show p.floor ≤ d.pn; omega, h0, hm, hd.nonce⟩
  · show ((p.l ++ [(⟨d.pn, d.nonce, decide (d.ecn = 1), decide (d.ecn = 3)⟩ : Hp)]).map (fun h : Hp => h.pn)).Nodup
    rw [List.map_append, List.nodup_append]
    refine ⟨h.own, by simp, ?_⟩
    intro a ha b hb e
    simp only [List.map_cons, List.map_nil, List.mem_singleton] at hb
    subst e
    obtain ⟨x, hx, e⟩ := List.mem_map.1 ha
    exact h2 ((hasP_iff _ _).2 (((gotL_spec p.l h.le).2 d.pn).2 ⟨x, hx, by rw [e, hb]⟩))
  · show (gotL (p.l ++ [_])).length ≤ 33
    rw [gotL_snoc]
    have := addP_le (gotL p.l) (d.pn, d.pn)
    have h3 : (gotL p.l).length ≤ 32 := h.few.1
    show (addP (gotL p.l) (d.pn, d.pn)).length ≤ 33
    omega
  · show (gotL ((p.l ++ [_]).filter (·.marked))).length ≤ 33
    have h3 : (gotL (p.l.filter (·.marked))).length ≤ 32 := h.few.2
    rw [List.filter_append]
    by_cases hk : d.ecn = 3
    · have e : List.filter (fun x : Hp => x.marked) [⟨d.pn, d.nonce, decide (d.ecn = 1), decide (d.ecn = 3)⟩] = [⟨d.pn, d.nonce, decide (d.ecn = 1), decide (d.ecn = 3)⟩] := by simp [hk]
      rw [e, gotL_snoc]
      have := addP_le (gotL (p.l.filter (·.marked))) (d.pn, d.pn)
      show (addP (gotL (p.l.filter (·.marked))) (d.pn, d.pn)).length ≤ 33
      omega
    · have e : List.filter (fun x : Hp => x.marked) [⟨d.pn, d.nonce, decide (d.ecn = 1), decide (d.ecn = 3)⟩] = [] := by simp [hk]
      rw [e, List.append_nil]
      omega
theorem Mid.kept {p : PS} {d : DatD} (h : p.Mid 32 32) (hd : d.Ok) (h0 : 0 ≤ d.pn) (h1 : ¬ d.pn < p.floor) (h2 : ¬ hasP p.got d.pn = true) : (p.kept d).Mid 32 32 :=
  (((h.laid hd h0 h1 h2).raise (by have := hd.pn; have := hd.le; rw [maxPn_eq]; omega)).capG).capM
theorem Good.mid {p : PS} (h : p.Good) : p.Mid 32 32 := ⟨h.pn, h.own, h.few, ⟨h.num.2.2.2.1, h.num.2.2.2.2.1⟩⟩
theorem Good.take {p : PS} {d : DatD} (h : p.Good) (hd : d.Ok) (now : Int) (hn : 0 ≤ now) : (p.take d now).1.Good := by
  have h0 : 0 ≤ d.pn := by have := hd.le; omega
  have hm : d.pn ≤ maxPn := by have := hd.pn; rw [maxPn_eq]; exact this
  have hu : isU64 (18446744073709551615 : Int) := by unfold isU64; omega
  unfold PS.take
  split
  · exact h
  · rename_i hc
    have hk := h.mid.kept hd h0 (fun e => hc (.inl e)) (fun e => hc (.inr e))
    have hf : (gotL (p.kept d).l).length ≤ 32 ∧ (markL (p.kept d).l).length ≤ 32 := hk.few
    have c1 : (p.kept d).delay = p.delay ∧ (p.kept d).next = p.next ∧ (p.kept d).waits = p.waits ∧ (p.kept d).trigger = p.trigger ∧ (p.kept d).due = p.due := by
      unfold PS.kept PS.capM PS.capG PS.raise PS.laid
      split <;> split <;> exact ⟨rfl, rfl, rfl, rfl, rfl⟩
    have hx : 0 ≤ max p.next (d.pn + 1) ∧ max p.next (d.pn + 1) ≤ maxPn + 1 := by have := h.num.2.2.2.2.2; omega
    split
    · refine ⟨hk.pn, hk.own, hf, ?_, ?_⟩
      · rw [c1.2.2.1, c1.2.2.2.2]; exact h.wt
      · rw [c1.1, c1.2.1, c1.2.2.2.1, c1.2.2.2.2]; exact ⟨h.num.1, h.num.2.1, h.num.2.2.1, hk.fl.1, hk.fl.2, h.num.2.2.2.2.2⟩
    · split
      · refine ⟨hk.pn, hk.own, hf, .inl ⟨rfl, rfl⟩, ?_⟩
        show isU64 (p.kept d).delay ∧ isU64 d.nonce ∧ isU64 (18446744073709551615 : Int) ∧ 0 ≤ (p.kept d).floor ∧ (p.kept d).floor ≤ maxPn ∧ 0 ≤ max p.next (d.pn + 1) ∧ max p.next (d.pn + 1) ≤ maxPn + 1
        rw [c1.1]
        exact ⟨h.num.1, hd.nonce, hu, hk.fl.1, hk.fl.2, hx⟩
      · rename_i hw
        refine ⟨hk.pn, hk.own, hf, .inr ?_, ?_⟩
        · show p.waits + 1 = 1
          rcases h.wt with e | e
          · omega
          · exact absurd (.inl (by omega)) hw
        · show isU64 (p.kept d).delay ∧ isU64 d.nonce ∧ isU64 (min (now + p.delay) 18446744073709551615) ∧ 0 ≤ (p.kept d).floor ∧ (p.kept d).floor ≤ maxPn ∧ 0 ≤ max p.next (d.pn + 1) ∧ max p.next (d.pn + 1) ≤ maxPn + 1
          rw [c1.1]
          refine ⟨h.num.1, hd.nonce, ?_, hk.fl.1, hk.fl.2, hx⟩
          have := h.num.1
          unfold isU64 at this ⊢
          omega
end PS
end Go.Proofs.Ytpkbimmhimgamaa
namespace Go.Proofs.Ytpkbimmhimgamaa
set_option linter.unusedSimpArgs false
set_option linter.unusedVariables false
set_option linter.unnecessarySimpa false
open Go.RowKit
/-- A row whose numbers are all of another one lies inside it. -/
theorem inside_mem {a b : List Sp} (ha : Gd a) (hb : Gd b) (h : ∀ n, Mem n a → Mem n b) : InsideP a b := by
  intro s hs
  have hsp := (ha.1 s hs).1
  obtain ⟨t, ht, t1, t2⟩ := h s.1 ⟨s, hs, Int.le_refl _, hsp⟩
  refine ⟨t, ht, t1, ?_⟩
  apply Int.not_lt.1
  intro hlt
  obtain ⟨u, hu, u1, u2⟩ := h (t.2 + 1) ⟨s, hs, by omega, by omega⟩
  obtain ⟨i, hi, rfl⟩ := List.mem_iff_getElem.1 ht
  obtain ⟨j, hj, rfl⟩ := List.mem_iff_getElem.1 hu
  have pw := List.pairwise_iff_getElem.1 hb.2
  rcases Nat.lt_trichotomy i j with h1 | h1 | h1
  · have := pw i j hi hj h1; omega
  · subst h1; omega
  · have := pw j i hj hi h1
    have := (hb.1 _ (List.getElem_mem hi)).1
    omega
theorem gotL_pos {l : List Hp} (hl : ∀ h ∈ l, h.pn ≤ maxPn) (h : l ≠ []) : 1 ≤ (gotL l).length := by
  match l, hl, h with
  | x :: r, hl, _ =>
    obtain ⟨s, hs, _⟩ := ((gotL_spec (x :: r) hl).2 x.pn).2 ⟨x, by simp, rfl⟩
    exact List.length_pos_of_mem hs
theorem gotL_lo {l : List Hp} (hl : ∀ h ∈ l, h.pn ≤ maxPn) (h0 : ∀ h ∈ l, 0 ≤ h.pn) : ∀ s ∈ gotL l, 0 ≤ s.1 := fun s hs => by
  have g := (gotL_spec l hl)
  obtain ⟨x, hx, e⟩ := (g.2 s.1).1 ⟨s, hs, Int.le_refl _, (g.1.1 s hs).1⟩
  have := h0 x hx
  omega
namespace PS
theorem Mid.mem_marked {p : PS} {a b : Nat} (h : p.Mid a b) {n : Int} (hn : Mem n p.marked) : Mem n p.got := by
  have g1 := gotL_spec p.l h.le
  have g2 := gotL_spec (p.l.filter (·.marked)) fun x hx => h.le x (List.mem_filter.1 hx).1
  obtain ⟨x, hx, e⟩ := (g2.2 n).1 hn
  exact (g1.2 n).2 ⟨x, (List.mem_filter.1 hx).1, e⟩
theorem Mid.lo {p : PS} {a b : Nat} (h : p.Mid a b) : (∀ s ∈ p.got, 0 ≤ s.1) ∧ ∀ s ∈ p.marked, 0 ≤ s.1 :=
  ⟨gotL_lo h.le fun x hx => (h.pn x hx).2.1, gotL_lo (fun x hx => h.le x (List.mem_filter.1 hx).1) fun x hx => (h.pn x (List.mem_filter.1 hx).1).2.1⟩
theorem Mid.may {p : PS} (h : p.Mid 32 32) (hne : p.l ≠ []) : mayB p.got p.marked = true :=
  decide_eq_true ⟨⟨gotL_pos h.le hne, h.few.1, h.few.2⟩, h.gd.good, h.gm.good, inside_mem h.gm h.gd fun _ hn => h.mem_marked hn⟩
theorem raise_ne {p : PS} {a b : Nat} (h : p.Mid a b) {t : Int} {x : Hp} (hx : x ∈ p.l) (ht : t ≤ x.pn) : (p.raise t).l ≠ [] := by
  rw [raise_l h t]
  exact List.ne_nil_of_mem (List.mem_filter.2 ⟨hx, decide_eq_true ht⟩)
theorem second_mem {L : List Sp} (h : Gd L) (h2 : 32 < L.length) : Mem (L.getD 1 (0, 0)).1 L := by
  match L, h, h2 with
  | a :: b :: r, h, _ => exact ⟨b, by simp, Int.le_refl _, (h.1 b (by simp)).1⟩
theorem Mid.capG_ne {p : PS} {a b : Nat} (h : p.Mid a b) (hne : p.l ≠ []) : p.capG.l ≠ [] := by
  unfold PS.capG
  split
  · rename_i h1
    obtain ⟨x, hx, e⟩ := ((gotL_spec p.l h.le).2 _).1 (second_mem h.gd h1)
    exact raise_ne h hx (by show (p.got.getD 1 (0, 0)).1 ≤ x.pn; rw [e]; exact Int.le_refl _)
  · exact hne
theorem Mid.capM_ne {p : PS} {a b : Nat} (h : p.Mid a b) (hne : p.l ≠ []) : p.capM.l ≠ [] := by
  unfold PS.capM
  split
  · rename_i h1
    obtain ⟨x, hx, e⟩ := ((gotL_spec (p.l.filter (·.marked)) fun x hx => h.le x (List.mem_filter.1 hx).1).2 _).1 (second_mem h.gm h1)
    exact raise_ne h (List.mem_filter.1 hx).1 (by show (p.marked.getD 1 (0, 0)).1 ≤ x.pn; rw [e]; exact Int.le_refl _)
  · exact hne
/-- Behind each packet that is taken, something is kept. -/
theorem Mid.kept_ne {p : PS} {d : DatD} (h : p.Mid 32 32) (hd : d.Ok) (h0 : 0 ≤ d.pn) (h1 : ¬ d.pn < p.floor) (h2 : ¬ hasP p.got d.pn = true) : (p.kept d).l ≠ [] := by
  have m1 := h.laid hd h0 h1 h2
  have m2 := m1.raise (t := d.least) (by have := hd.pn; have := hd.le; rw [maxPn_eq]; omega)
  have n2 : ((p.laid d).raise d.least).l ≠ [] := raise_ne m1 (x := ⟨d.pn, d.nonce, decide (d.ecn = 1), decide (d.ecn = 3)⟩) (by show _ ∈ p.l ++ [_]; simp) hd.le.2
  exact m2.capG.capM_ne (m2.capG_ne n2)
/-- Where it waits, something is kept. -/
def Waits (p : PS) : Prop := p.waits = 1 → p.l ≠ []
theorem Good.waits {p : PS} {d : DatD} (h : p.Good) (hw : p.Waits) (hd : d.Ok) (now : Int) : (p.take d now).1.Waits := by
  have h0 : 0 ≤ d.pn := by have := hd.le; omega
  unfold PS.take
  split
  · exact hw
  · rename_i hc
    have hk := h.mid.kept_ne hd h0 (fun e => hc (.inl e)) (fun e => hc (.inr e))
    split
    · exact fun _ => hk
    · split
      · exact fun _ => hk
      · exact fun _ => hk
end PS
end Go.Proofs.Ytpkbimmhimgamaa
namespace Go.Proofs.Ytpkbimmhimgamaa
set_option linter.unusedSimpArgs false
set_option linter.unusedVariables false
set_option linter.unnecessarySimpa false
open Go.RowKit
namespace PS
/-- The byte at place k of a piece. -/
def cov (x : Int × List Int) (k : Int) : Option Int := if x.1 ≤ k ∧ k - x.1 < (x.2.length : Int) then some (x.2.getD (k - x.1).toNat 0) else none
theorem at_nil (k : Int) : at_ [] k = none := rfl
theorem at_snoc (s : List (Int × List Int)) (x : Int × List Int) (k : Int) : at_ (s ++ [x]) k = (at_ s k).or (cov x k) := by
  unfold at_
  rw [List.findSome?_append]
  congr 1
  show List.findSome? (fun x => cov x k) [x] = cov x k
  cases h : cov x k <;> simp [List.findSome?, h]
theorem cov_some {x : Int × List Int} {k : Int} : (cov x k).isSome = true ↔ x.1 ≤ k ∧ k < x.1 + x.2.length := by
  unfold cov
  split
  · rename_i h; simp only [Option.isSome_some, true_iff]; omega
  · rename_i h; simp only [Option.isSome_none, Bool.false_eq_true, false_iff]; omega
/-- The program's pieces: each place that came lies in just one of them. -/
structure PcOk (s : List (Int × List Int)) (have_ : List Sp) (pc : List (Int × List Int)) : Prop where
  gd : Gd have_
  mem : ∀ n, Mem n have_ ↔ (at_ s n).isSome = true
  pos : ∀ x ∈ pc, 0 ≤ x.1 ∧ 1 ≤ x.2.length
  eq : ∀ x ∈ pc, ∀ n, (cov x n).isSome = true → at_ s n = cov x n
  all : ∀ n, (at_ s n).isSome = true → ∃ x ∈ pc, (cov x n).isSome = true
  dis : pc.Pairwise fun x y => ∀ n, (cov x n).isSome = true → ¬ (cov y n).isSome = true
theorem PcOk.new : PcOk [] [] [] := ⟨Gd.nil, fun n => by simp [Mem, at_nil], by simp, by simp, fun n h => by simp [at_nil] at h, List.Pairwise.nil⟩
/-- The pieces, sorted: the bytes of the first k follow one another from place 0 on. -/
structure Run (s : List (Int × List Int)) (l : List (Int × List Int)) (k : Nat) (out : List Int) : Prop where
  at_ : ∀ i, (h : i < out.length) → PS.at_ s i = some out[i]
  done : ∀ j, (h : j < l.length) → j < k → l[j].1 + l[j].2.length ≤ out.length
  src : ∀ i, i < out.length → ∃ j, ∃ h : j < l.length, j < k ∧ (cov l[j] (i : Nat)).isSome = true
theorem Run.zero (s l : List (Int × List Int)) : Run s l 0 [] := ⟨fun i h => by simp at h, fun j _ h => by omega, fun i h => by simp at h⟩
theorem Run.step {s l : List (Int × List Int)} {k : Nat} {out : List Int} (h : Run s l k out) (hk : k < l.length) (h1 : l[k].1 = out.length) (he : ∀ n, (cov l[k] n).isSome = true → PS.at_ s n = cov l[k] n) : Run s l (k + 1) (out ++ l[k].2) := by
  refine ⟨fun i hi => ?_, fun j hj hjk => ?_, fun i hi => ?_⟩
  · rw [List.length_append] at hi
    by_cases h2 : i < out.length
    · rw [List.getElem_append_left h2]; exact h.at_ i h2
    · have c : l[k].1 ≤ (i : Int) ∧ (i : Int) - l[k].1 < (l[k].2.length : Int) := by omega
      have e : cov l[k] (i : Int) = some (l[k].2.getD ((i : Int) - l[k].1).toNat 0) := by unfold cov; rw [if_pos c]
      rw [he i (by rw [e]; rfl), e, List.getElem_append_right (by omega)]
      have e2 : ((i : Int) - l[k].1).toNat = i - out.length := by omega
      rw [e2]
      simp only [List.getD_eq_getElem?_getD]
      rw [List.getElem?_eq_getElem (by omega)]
      rfl
  · rw [List.length_append]
    by_cases h2 : j < k
    · have := h.done j hj h2; omega
    · have e : j = k := by omega
      subst e
      omega
  · rw [List.length_append] at hi
    by_cases h2 : i < out.length
    · obtain ⟨j, hj, h3, h4⟩ := h.src i h2
      exact ⟨j, hj, by omega, h4⟩
    · exact ⟨k, hk, by omega, cov_some.2 ⟨by omega, by omega⟩⟩
/-- A part of a packet's bytes. -/
def pieceOf (off : Int) (body : List Int) (x : Sp) : Int × List Int := (x.1, (body.drop (x.1 - off).toNat).take (x.2 - x.1 + 1).toNat)
theorem piece_len {off : Int} {body : List Int} {x : Sp} (h1 : off ≤ x.1) (h2 : x.1 ≤ x.2) (h3 : x.2 ≤ off + body.length - 1) : ((pieceOf off body x).2.length : Int) = x.2 - x.1 + 1 := by
  show (((body.drop (x.1 - off).toNat).take (x.2 - x.1 + 1).toNat).length : Int) = _
  rw [List.length_take, List.length_drop]
  omega
theorem piece_some {off : Int} {body : List Int} {x : Sp} (h1 : off ≤ x.1) (h2 : x.1 ≤ x.2) (h3 : x.2 ≤ off + body.length - 1) {n : Int} : (cov (pieceOf off body x) n).isSome = true ↔ x.1 ≤ n ∧ n ≤ x.2 := by
  rw [cov_some, piece_len h1 h2 h3]
  show x.1 ≤ n ∧ n < x.1 + _ ↔ _
  omega
theorem piece_eq {off : Int} {body : List Int} {x : Sp} (h1 : off ≤ x.1) (h2 : x.1 ≤ x.2) (h3 : x.2 ≤ off + body.length - 1) {n : Int} (h4 : x.1 ≤ n ∧ n ≤ x.2) : cov (pieceOf off body x) n = cov (off, body) n := by
  have hl := piece_len h1 h2 h3
  have c1 : (pieceOf off body x).1 ≤ n ∧ n - (pieceOf off body x).1 < ((pieceOf off body x).2.length : Int) := by
    rw [hl]; show x.1 ≤ n ∧ n - x.1 < _; omega
  have c2 : (off, body).1 ≤ n ∧ n - (off, body).1 < ((off, body).2.length : Int) := by show off ≤ n ∧ n - off < (body.length : Int); omega
  unfold cov
  rw [if_pos c1, if_pos c2]
  congr 1
  show ((body.drop (x.1 - off).toNat).take (x.2 - x.1 + 1).toNat).getD (n - x.1).toNat 0 = body.getD (n - off).toNat 0
  simp only [List.getD_eq_getElem?_getD]
  congr 1
  rw [List.getElem?_take, if_pos (by omega), List.getElem?_drop]
  congr 1
  omega
theorem PcOk.lay {s pc : List (Int × List Int)} {hv L : List Sp} (h : PcOk s hv pc) {off : Int} {body : List Int} (h0 : 0 ≤ off) (h1 : 1 ≤ body.length) (h2 : off + body.length ≤ maxPn)
    (gl : Gd L) (ml : ∀ n, Mem n L ↔ (off ≤ n ∧ n ≤ off + body.length - 1) ∧ ¬ Mem n hv) :
    PcOk (s ++ [(off, body)]) (addP hv (off, off + body.length - 1)) (pc ++ L.map (pieceOf off body)) := by
  have a := add_parts hv (off, off + body.length - 1) h.gd ⟨by show off ≤ off + (body.length : Int) - 1; omega, by show off + (body.length : Int) - 1 ≤ maxPn; omega⟩
  have bd : ∀ x ∈ L, off ≤ x.1 ∧ x.1 ≤ x.2 ∧ x.2 ≤ off + body.length - 1 := fun x hx => by
    have m := Mem_lo gl hx
    have e1 := ((ml x.1).1 m.1).1
    have e2 := ((ml x.2).1 m.2).1
    exact ⟨e1.1, (gl.1 x hx).1, e2.2⟩
  have no : ∀ n, Mem n L → at_ s n = none := fun n hn => by
    cases hc : at_ s n with
    | none => rfl
    | some v => exact absurd ((h.mem n).2 (by rw [hc]; rfl)) ((ml n).1 hn).2
  have yes : ∀ x ∈ L, ∀ n, (cov (pieceOf off body x) n).isSome = true → Mem n L ∧ cov (pieceOf off body x) n = cov (off, body) n := fun x hx n hn => by
    obtain ⟨b1, b2, b3⟩ := bd x hx
    have e := (piece_some b1 b2 b3).1 hn
    exact ⟨⟨x, hx, e⟩, piece_eq b1 b2 b3 e⟩
  refine ⟨a.1, fun n => ?_, fun x hx => ?_, fun x hx n hn => ?_, fun n hn => ?_, ?_⟩
  · rw [a.2, h.mem, at_snoc, Option.isSome_or, Bool.or_eq_true, cov_some]
    show _ ∨ (off ≤ n ∧ n ≤ off + (body.length : Int) - 1) ↔ _ ∨ (off ≤ n ∧ n < off + (body.length : Int))
    have : (off ≤ n ∧ n ≤ off + (body.length : Int) - 1) ↔ (off ≤ n ∧ n < off + (body.length : Int)) := by omega
    rw [this]
  · rcases List.mem_append.1 hx with hx | hx
    · exact h.pos x hx
    · obtain ⟨y, hy, rfl⟩ := List.mem_map.1 hx
      obtain ⟨b1, b2, b3⟩ := bd y hy
      have := piece_len b1 b2 b3
      exact ⟨by show 0 ≤ y.1; omega, by omega⟩
  · rcases List.mem_append.1 hx with hx | hx
    · have e := h.eq x hx n hn
      rw [at_snoc, e]
      cases hc : cov x n with
      | none => rw [hc] at hn; cases hn
      | some v => rfl
    · obtain ⟨y, hy, rfl⟩ := List.mem_map.1 hx
      obtain ⟨e1, e2⟩ := yes y hy n hn
      rw [at_snoc, no n e1, e2]
      rfl
  · rw [at_snoc, Option.isSome_or, Bool.or_eq_true] at hn
    by_cases hs : (at_ s n).isSome = true
    · obtain ⟨x, hx, e⟩ := h.all n hs
      exact ⟨x, List.mem_append.2 (.inl hx), e⟩
    · rcases hn with hn | hn
      · exact absurd hn hs
      · have e := cov_some.1 hn
        have e' : off ≤ n ∧ n < off + (body.length : Int) := e
        obtain ⟨x, hx, hxn⟩ := (ml n).2 ⟨by omega, fun hm => hs ((h.mem n).1 hm)⟩
        obtain ⟨b1, b2, b3⟩ := bd x hx
        exact ⟨_, List.mem_append.2 (.inr (List.mem_map.2 ⟨x, hx, rfl⟩)), (piece_some b1 b2 b3).2 hxn⟩
  · rw [List.pairwise_append]
    refine ⟨h.dis, ?_, fun x hx y hy n hn hm => ?_⟩
    · rw [List.pairwise_map]
      refine gl.2.imp_of_mem fun {x y} hx hy hxy n hn hm => ?_
      obtain ⟨b1, b2, b3⟩ := bd x hx
      obtain ⟨c1, c2, c3⟩ := bd y hy
      have e1 := (piece_some b1 b2 b3).1 hn
      have e2 := (piece_some c1 c2 c3).1 hm
      omega
    · obtain ⟨z, hz, rfl⟩ := List.mem_map.1 hy
      have e1 := (yes z hz n hm).1
      have e2 := h.eq x hx n hn
      rw [no n e1] at e2
      rw [← e2] at hn
      cases hn
end PS
end Go.Proofs.Ytpkbimmhimgamaa
