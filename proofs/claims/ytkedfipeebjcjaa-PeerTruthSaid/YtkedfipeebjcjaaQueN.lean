/-
  A queue's writes and what is next, plainly. · Walks of package queue: what only reads. · Walks of package queue: New, Sent. · Walks of package queue: Acked. · Walks of package queue: Lost. · Walks of package queue: Write. · Walks of package queue: Next. · Walks of package queue: Fork.
-/
import Derived.Test.YtkedfipeebjcjaaPeeP
import Derived.Test.YtkedfipeebjcjaaSpanN
import Derived.Test.YtkedfipeebjcjaaSeq
import Derived.Deep.RegionHeld3
import Derived.Deep.RegionWith
import Derived.Deep.RegionLaw
import Derived.Deep.DeepCutAuto
namespace Go.Proofs.Ytkedfipeebjcjaa
set_option linter.unusedSimpArgs false
set_option linter.unusedVariables false
set_option linter.unnecessarySimpa false
open Go.RowKit

theorem lead_append_false (l : List Bool) (n : Nat) : lead (l ++ List.replicate n false) = lead l := by
  induction l with
  | nil => cases n <;> simp [lead, List.replicate_succ]
  | cons x r ih => simp [lead, ih]
theorem getD_append_false (l : List Bool) (n i : Nat) : (l ++ List.replicate n false).getD i false = l.getD i false := by
  by_cases h : i < l.length
  · simp [List.getD, List.getElem?_append_left h]
  · have h1 : l.getD i false = false := by simp [List.getD, h]
    rw [h1]
    simp only [List.getD, List.getElem?_append_right (show l.length ≤ i by omega), List.getElem?_replicate]
    split <;> rfl
theorem rowB_append_false (l : List Bool) (n : Nat) (h : (l ++ List.replicate n false).length ≤ 1000000) : rowB (l ++ List.replicate n false) = rowB l := by
  have hl : l.length ≤ 1000000 := by simp at h; omega
  obtain ⟨h1, h2, -⟩ := rowB_spec l hl
  refine (rowB_eq h h1 (fun m => ?_)).symm
  rw [h2 m]
  constructor
  · rintro ⟨i, a, b, c⟩
    exact ⟨i, by simp; omega, b, by rw [getD_append_false]; exact c⟩
  · rintro ⟨i, a, b, c⟩
    rw [getD_append_false] at c
    exact ⟨i, getD_len c, b, c⟩

namespace QS
theorem Good.write {s : QS} (g : s.Good) {l : List Int} (hl : ∀ x ∈ l, 0 ≤ x ∧ x ≤ 255) : (s.write l).1.Good ∧ (s.write l).1.base = s.base ∧ (s.write l).1.b.length ≤ s.b.length + l.length := by
  have hb : (s.write l).1.base = s.base := lead_append_false _ _
  refine ⟨⟨g.room1, g.room2, ?_, ?_, ?_, ?_, ?_, ?_, ?_⟩, hb, ?_⟩
  · have := g.la; simp [QS.write]; omega
  · have := g.lo; simp [QS.write]; omega
  · have := g.fr; simp [QS.write]; omega
  · intro i hi
    simp only [QS.write] at hi ⊢
    rw [getD_append_false] at hi ⊢
    exact g.ob i hi
  · intro i hi
    simp only [QS.write] at hi ⊢
    rw [getD_append_false] at hi
    exact g.ab i hi
  · intro x hx
    simp only [QS.write, List.mem_append] at hx
    rcases hx with hx | hx
    · exact g.by_ x hx
    · exact hl x (List.mem_of_mem_take hx)
  · rw [hb]
    have := g.fit
    simp [QS.write]
    omega
  · simp [QS.write]
    omega
theorem AkRow.write {s : QS} {L : List Sp} (g : s.Good) (h : AkRow s L) (l : List Int) : AkRow (s.write l).1 L := by
  have hb : (s.write l).1.base = s.base := lead_append_false _ _
  refine ⟨h.gd, fun n => ?_⟩
  rw [h.mem n, hb]
  simp only [QS.write]
  constructor
  · rintro ⟨i, a, b, c, d⟩
    exact ⟨i, a, by simp; omega, c, by rw [getD_append_false]; exact d⟩
  · rintro ⟨i, a, b, c, d⟩
    rw [getD_append_false] at d
    exact ⟨i, a, by have := getD_len d; have := g.la; omega, c, d⟩

theorem firstOf_le (l : List Bool) : firstOf l ≤ l.length := by have := lead_le (l.map not); simpa [firstOf] using this
theorem firstOf_lt {l : List Bool} {i : Nat} (h : i < firstOf l) : l.getD i false = false := by
  have h1 := firstOf_le l
  have := lead_lt (l := l.map not) (i := i) h (by simp; omega)
  rw [getD_at (by omega)]
  simpa using this
theorem firstOf_at {l : List Bool} (h : firstOf l < l.length) : l.getD (firstOf l) false = true := by
  have := lead_at (l := l.map not) (by simpa [firstOf] using h)
  rw [getD_at h]
  simpa [firstOf] using this
theorem runTo_le {l : List Bool} {f : Nat} (h : f ≤ l.length) : f ≤ runTo l f ∧ runTo l f ≤ l.length := by
  have := lead_le (l.drop f)
  simp at this
  unfold runTo
  omega
theorem runTo_lt {l : List Bool} {f i : Nat} (h1 : f ≤ i) (h2 : i < runTo l f) : l.getD i false = true := by
  unfold runTo at h2
  have hl := lead_le (l.drop f)
  simp at hl
  have := lead_lt (l := l.drop f) (i := i - f) (by omega) (by simp; omega)
  rw [getD_at (by omega)]
  simpa [show f + (i - f) = i by omega] using this
theorem runTo_at {l : List Bool} {f : Nat} (h : f ≤ l.length) : l.getD (runTo l f) false = false := by
  rcases Nat.lt_or_ge (runTo l f) l.length with h1 | h1
  · have := lead_at (l := l.drop f) (by unfold runTo at h1; simp; omega)
    rw [getD_at h1]
    simpa [runTo] using this
  · simp [List.getD, h1]
/-- The first owed row is the first run. -/
theorem next_owed {s : QS} (g : s.Good) (hf : s.Few) (h : 0 < (rowB s.ow).length) : ((rowB s.ow)[0].1 = firstOf s.ow) ∧ ((rowB s.ow)[0].2 + 1 = runTo s.ow (firstOf s.ow)) ∧ firstOf s.ow < s.ow.length ∧ firstOf s.ow < runTo s.ow (firstOf s.ow) := by
  have hl : s.ow.length ≤ 1000000 := by rw [g.lo]; exact hf
  obtain ⟨r1, r2, -⟩ := rowB_spec s.ow hl
  have hsp := (r1.1 _ (List.getElem_mem h)).1
  obtain ⟨i, hi, ei, ti⟩ := (r2 _).1 (Mem_lo r1 (List.getElem_mem h)).1
  obtain ⟨j, hj, ej, tj⟩ := (r2 _).1 (Mem_lo r1 (List.getElem_mem h)).2
  obtain ⟨e1, e2, e3⟩ := head_end r1 h
  have hfi : firstOf s.ow = i := by
    rcases Nat.lt_trichotomy (firstOf s.ow) i with h1 | h1 | h1
    · have hM := (r2 (firstOf s.ow)).2 ⟨_, by omega, rfl, firstOf_at (by omega)⟩
      have := head_min r1 h hM
      omega
    · exact h1
    · rw [firstOf_lt h1] at ti; cases ti
  have hrt : runTo s.ow (firstOf s.ow) = j + 1 := by
    have hle := firstOf_le s.ow
    have h2 := runTo_le hle
    rcases Nat.lt_trichotomy (runTo s.ow (firstOf s.ow)) (j + 1) with h1 | h1 | h1
    · obtain ⟨k, -, ek, tk⟩ := (r2 _).1 (e2 (runTo s.ow (firstOf s.ow)) (by omega) (by omega))
      obtain rfl : runTo s.ow (firstOf s.ow) = k := by omega
      rw [runTo_at hle] at tk
      cases tk
    · exact h1
    · exfalso
      refine e1 ((r2 _).2 ⟨j + 1, by omega, by omega, runTo_lt (by omega) h1⟩)
  refine ⟨by omega, by omega, by omega, ?_⟩
  omega
theorem next_none {s : QS} (g : s.Good) (hf : s.Few) (h : (rowB s.ow).length = 0) : firstOf s.ow = s.ow.length := by
  have hl : s.ow.length ≤ 1000000 := by rw [g.lo]; exact hf
  obtain ⟨r1, r2, -⟩ := rowB_spec s.ow hl
  have hle := firstOf_le s.ow
  apply Nat.le_antisymm hle
  apply Nat.le_of_not_lt
  intro hlt
  obtain ⟨t, ht, -⟩ := (r2 (firstOf s.ow)).2 ⟨_, hlt, rfl, firstOf_at hlt⟩
  have := List.length_pos_of_mem ht
  omega
/-- All that is next lies from the base on. -/
theorem next_base {s : QS} (g : s.Good) : s.base ≤ firstOf s.ow ∨ firstOf s.ow = s.ow.length := by
  rcases Nat.lt_or_ge (firstOf s.ow) s.ow.length with h | h
  · left
    apply Nat.le_of_not_lt
    intro hlt
    have h1 := g.ob _ (firstOf_at h)
    rw [below_base g hlt] at h1
    cases h1.2
  · exact .inr (Nat.le_antisymm (firstOf_le _) h)
end QS
end Go.Proofs.Ytkedfipeebjcjaa

namespace Go.Proofs.Ytkedfipeebjcjaa
set_option linter.unusedSimpArgs false
set_option linter.unusedVariables false
set_option linter.unnecessarySimpa false
open Go.RowKit

end Go.Proofs.Ytkedfipeebjcjaa

namespace Go.Proofs.Ytkedfipeebjcjaa
set_option linter.unusedSimpArgs false
set_option linter.unusedVariables false
set_option linter.unnecessarySimpa false
open Go.RowKit
attribute [local go_sem ↓] run_min_int run_max_int

theorem rowB_u2 {l : List Bool} (hl : l.length ≤ 1000000) : U2s (rowB l) := by
  obtain ⟨h1, h2, -⟩ := rowB_spec l hl
  have key : ∀ n, Mem n (rowB l) → isU64 n := fun n hn => by
    obtain ⟨i, a, rfl, -⟩ := (h2 n).1 hn
    exact ⟨by omega, by omega⟩
  exact fun s hs => ⟨key _ (Mem_lo h1 hs).1, key _ (Mem_lo h1 hs).2⟩
theorem QS.AkRow.u2 {s : QS} {L : List Sp} (h : QS.AkRow s L) (hf : s.Few) : U2s L ∧ L.length ≤ 1000000 := by
  have key : ∀ n, Mem n L → isU64 n := fun n hn => by
    obtain ⟨i, _, a, rfl, -⟩ := (h.mem n).1 hn
    have : s.b.length ≤ 1000000 := hf
    exact ⟨by omega, by omega⟩
  refine ⟨fun s hs => ⟨key _ (Mem_lo h.gd hs).1, key _ (Mem_lo h.gd hs).2⟩, ?_⟩
  have e : L = rowB (s.ak.mapIdx fun i x => decide (s.base ≤ i ∧ i < s.b.length) && x) ∨ True := .inr trivial
  have hb : s.b.length ≤ 1000000 := hf
  -- each span has a number of its own below the length
  have hp := List.pairwise_iff_getElem.1 h.gd.2
  have low : ∀ i, (hi : i < L.length) → (i : Int) ≤ L[i].1 := by
    intro i
    induction i with
    | zero => intro hi; have := (key _ (Mem_lo h.gd (List.getElem_mem hi)).1).1; omega
    | succ i ih =>
      intro hi
      have h1 := ih (by omega)
      have h2 := hp i (i + 1) (by omega) hi (by omega)
      have h3 := (h.gd.1 _ (List.getElem_mem (show i < L.length by omega))).1
      omega
  rcases Nat.eq_zero_or_pos L.length with h0 | h0
  · omega
  · have h1 := low (L.length - 1) (by omega)
    obtain ⟨j, _, h2, h3, -⟩ := (h.mem _).1 (Mem_lo h.gd (List.getElem_mem (show L.length - 1 < L.length by omega))).1
    omega
theorem RdN.foot {w1 W2 : World} {B : Nat} {A : Option Addr} {n c q : Nat} {xs : List Value} (h : RdN w1 B A n c xs) (hC : Chg (fun j => j = q) w1 W2) (hq : q < B) :
    Rd W2 2 A n c xs ∧ ∀ b off, A = some ⟨b, off, none⟩ → 0 < n → B ≤ b ∧ b ≠ q :=
  ⟨h.rd.chg hC (fun b off e hn e' => by have := h.nw b off e hn; omega), fun b off e hn => ⟨h.nw b off e hn, by have := h.nw b off e hn; omega⟩⟩

theorem RdN.mono {w : World} {B B' : Nat} {A : Option Addr} {n c : Nat} {xs : List Value} (h : RdN w B A n c xs) (hB : B' ≤ B) : RdN w B' A n c xs := ⟨h.rd, fun b off e hn => Nat.le_trans hB (h.nw b off e hn)⟩
end Go.Proofs.Ytkedfipeebjcjaa

namespace Go.Proofs.Ytkedfipeebjcjaa
set_option linter.unusedSimpArgs false
set_option linter.unusedVariables false
set_option linter.unnecessarySimpa false
open Go.RowKit
theorem Ss_tail {L : List Sp} : (Ss L).drop (1 * 2) = Ss L.tail := by cases L <;> simp [Ss]
end Go.Proofs.Ytkedfipeebjcjaa

namespace Go.Proofs.Ytkedfipeebjcjaa
set_option linter.unusedSimpArgs false
set_option linter.unusedVariables false
set_option linter.unnecessarySimpa false
open Go.RowKit
attribute [local go_sem ↓] run_min_int run_max_int

theorem addAll_len (m l : List Sp) : (addAll' l m).length ≤ l.length + m.length := by
  induction m generalizing l with
  | nil => simp [addAll']
  | cons s m ih =>
    have e : addAll' l (s :: m) = addAll' (addP l s) m := rfl
    have h1 := ih (addP l s)
    have h2 := addP_le l s
    rw [e, List.length_cons]
    omega
theorem cutAll_succ (l m : List Sp) {k : Nat} (h : k < m.length) : cutAll l (m.take (k + 1)) = cutP (cutAll l (m.take k)) m[k] := by
  unfold cutAll
  rw [take_snoc _ _ h, List.foldl_append]
  rfl
theorem addAll_succ (l m : List Sp) {k : Nat} (h : k < m.length) : addAll' l (m.take (k + 1)) = addP (addAll' l (m.take k)) m[k] := by
  unfold addAll'
  rw [take_snoc _ _ h, List.foldl_append]
  rfl
theorem u2_of_mem {L : List Sp} (h : Gd L) (hm : ∀ m, Mem m L → isU64 m) : U2s L := fun z hz => ⟨hm _ (Mem_lo h hz).1, hm _ (Mem_lo h hz).2⟩
theorem QS.lost_d {s : QS} {off n : Int} (h : QS.within off n s.fresh) (h0 : 0 ≤ off) (hf : s.fresh ≤ 1000000) : Gd [((off, off + n - 1) : Sp)] := by
  obtain ⟨h1, h2, h3⟩ := h
  exact ⟨fun x hx => by
    have : x = (off, off + n - 1) := by simpa using hx
    subst this
    exact ⟨by show off ≤ off + n - 1; omega, by show off + n - 1 ≤ maxPn; unfold maxPn; omega⟩, by simp⟩
theorem QS.lost_pre {s : QS} {off n : Int} (h : QS.within off n s.fresh) (h0 : 0 ≤ off) (hf : s.fresh ≤ 1000000) {La : List Sp} (ha : QS.AkRow s La) (k : Nat) :
    Gd (cutAll (fromP [(off, off + n - 1)] s.base) (La.take k)) ∧ U2s (cutAll (fromP [(off, off + n - 1)] s.base) (La.take k)) ∧ (cutAll (fromP [(off, off + n - 1)] s.base) (La.take k)).length ≤ 1 + k ∧
      ∀ m, Mem m (cutAll (fromP [(off, off + n - 1)] s.base) (La.take k)) → 0 ≤ m ∧ m ≤ 1000000 := by
  have gd := QS.lost_d h h0 hf
  obtain ⟨⟨f1, -⟩, f2⟩ := from_parts [((off, off + n - 1) : Sp)] s.base gd
  have hm : ∀ x ∈ La.take k, x.1 ≤ x.2 := fun x hx => (ha.gd.1 x (List.mem_of_mem_take hx)).1
  obtain ⟨c1, c2⟩ := cutAll_spec (La.take k) _ f1 hm
  have hl := cutAll_len (La.take k) _ f1 hm
  have hl2 := fromP_len [((off, off + n - 1) : Sp)] s.base
  have key : ∀ m, Mem m (cutAll (fromP [(off, off + n - 1)] s.base) (La.take k)) → 0 ≤ m ∧ m ≤ 1000000 := fun m hm => by
    obtain ⟨t, ht, t1, t2⟩ := ((f2 m).1 ((c2 m).1 hm).1).1
    have : t = (off, off + n - 1) := by simpa using ht
    subst this
    obtain ⟨h1, h2, h3⟩ := h
    simp only at t1 t2
    omega
  refine ⟨c1, u2_of_mem c1 fun m hm => by have := key m hm; exact ⟨by omega, by omega⟩, ?_, key⟩
  simp only [List.length_take, List.length_singleton] at hl hl2
  omega
theorem lost_add {R M : List Sp} (hR : Gd R) (uR : ∀ m, Mem m R → 0 ≤ m ∧ m ≤ 1000000) (hM : ∀ x ∈ M, IsSpan x) (uM : ∀ m, Mem m M → 0 ≤ m ∧ m ≤ 1000000) (k : Nat) :
    Gd (addAll' R (M.take k)) ∧ U2s (addAll' R (M.take k)) ∧ (addAll' R (M.take k)).length ≤ R.length + k := by
  obtain ⟨c1, c2⟩ := addAll_spec (M.take k) R hR (fun x hx => hM x (List.mem_of_mem_take hx))
  refine ⟨c1, u2_of_mem c1 fun m hm => ?_, ?_⟩
  · have h1 : 0 ≤ m ∧ m ≤ 1000000 := by
      rcases (c2 m).1 hm with h | ⟨t, ht, h⟩
      · exact uR m h
      · exact uM m ⟨t, List.mem_of_mem_take ht, h⟩
    exact ⟨by omega, by omega⟩
  · have h1 := addAll_len (M.take k) R
    simp only [List.length_take] at h1
    omega

theorem RdN.below {w w' : World} {B : Nat} {A : Option Addr} {n c : Nat} {xs : List Value} (h : RdN w B A n c xs) (b : Below w.heap.size w w') : RdN w' B A n c xs := ⟨h.rd.below b, h.nw⟩
theorem RdN.set {w w1 : World} {B q : Nat} {A : Option Addr} {n c : Nat} {xs : List Value} (h : RdN w B A n c xs) (b : Below w.heap.size w w1) (hq : q < B) (k : Nat) (v : Value) : RdN (w1.setCell ⟨q, k, none⟩ v) B A n c xs := by
  obtain ⟨h1, h2⟩ := (h.below b).foot ((Chg.refl (fun j => j = q) w1).setCell (p := ⟨q, k, none⟩) (.inl rfl) v) hq
  exact ⟨h1, fun b off e hn => (h2 b off e hn).1⟩
end Go.Proofs.Ytkedfipeebjcjaa

namespace Go.Proofs.Ytkedfipeebjcjaa
set_option linter.unusedSimpArgs false
set_option linter.unusedVariables false
set_option linter.unnecessarySimpa false
open Go.RowKit
end Go.Proofs.Ytkedfipeebjcjaa

namespace Go.Proofs.Ytkedfipeebjcjaa
set_option linter.unusedSimpArgs false
set_option linter.unusedVariables false
set_option linter.unnecessarySimpa false
open Go.RowKit
attribute [local go_sem ↓] run_min_int run_max_int

theorem infoPiece : (Try.prog.info? 82).map (·.size) = some 2 := by kernel_rfl
def QS.ends (s : QS) : Nat × Nat := if QS.firstOf s.ow = s.ow.length then (s.fresh, s.b.length) else (QS.firstOf s.ow, QS.runTo s.ow (QS.firstOf s.ow))
theorem QS.next_eq (s : QS) (most : Int) : s.next most = if most < 1 then none else if s.ends.2 = s.ends.1 then none else some (s.ends.1, min s.ends.2 (s.ends.1 + (min most s.b.length).toNat)) := by
  unfold QS.next QS.ends
  split <;> rfl
theorem QS.ends_in {s : QS} (g : s.Good) : s.base ≤ s.ends.1 ∧ s.ends.1 ≤ s.ends.2 ∧ s.ends.2 ≤ s.b.length := by
  have hbf : s.base ≤ s.fresh := by
    apply Nat.le_of_not_lt
    intro hlt
    have := (g.ab _ (QS.below_base g hlt))
    omega
  have hfr := g.fr
  have hlo := g.lo
  have hle := QS.firstOf_le s.ow
  have hb := QS.next_base g
  have hr := QS.runTo_le hle
  unfold QS.ends
  split
  · exact ⟨hbf, hfr, Nat.le_refl _⟩
  · simp only
    omega
/-- What Next hands out. -/
def QS.NextVal (s : QS) (most : Int) (w w' : World) (e : Ending) : Prop := match s.next most with
  | none => e = .returned (.tuple #[.agg #[.int .u64 0, .slice none 0 0], .bool false])
  | some (a, z) => ∃ A' c', e = .returned (.tuple #[.agg #[.int .u64 a, .slice A' (z - a) c'], .bool true]) ∧ Rd w' 1 A' (z - a) c' (U8 ((s.b.drop a).take (z - a))) ∧ ∀ b off, A' = some ⟨b, off, none⟩ → 0 < z - a → w.heap.size ≤ b

end Go.Proofs.Ytkedfipeebjcjaa

namespace Go.Proofs.Ytkedfipeebjcjaa
set_option linter.unusedSimpArgs false
set_option linter.unusedVariables false
set_option linter.unnecessarySimpa false
open Go.RowKit
theorem own_above {w : World} {base size n : Nat} {e : TypeId} {v : Value} {xs : List Value} (h : w.ownsRow base e size v n xs) {W : World} (b : Below w.heap.size w W) : W.ownsRow base e size v n xs :=
  own_chg h (chg_below b (F := fun _ => False)) (fun _ _ h => h)
theorem own_set {w : World} {base size n q k : Nat} {e : TypeId} {v u : Value} {xs : List Value} (h : w.ownsRow base e size v n xs) (hq : q < base) : (w.setCell ⟨q, k, none⟩ u).ownsRow base e size v n xs :=
  own_chg h ((Chg.refl (fun j => j = q) w).setCell (p := ⟨q, k, none⟩) (.inl rfl) _) (fun g hg e => by have := (h.lt g hg).1; omega)

end Go.Proofs.Ytkedfipeebjcjaa
