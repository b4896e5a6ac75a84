/-
  Words for objects in memory: which blocks may turn, and rows whose elements are structs.
-/
import Derived.Test.YtkedfipeebjcjaaBase
namespace Go.Proofs.Ytkedfipeebjcjaa
set_option linter.unusedSimpArgs false
set_option linter.unusedVariables false
set_option linter.unnecessarySimpa false
open Go.RowKit

/-- The blocks of F and those that are new. -/
def Grow (F : Nat → Prop) (w : World) : Nat → Prop := fun k => F k ∨ w.heap.size ≤ k
theorem Grow.sub {F : Nat → Prop} {w : World} {k : Nat} (h : F k) : Grow F w k := .inl h
theorem Grow.new {F : Nat → Prop} {w : World} {k : Nat} (h : w.heap.size ≤ k) : Grow F w k := .inr h
theorem Grow.mono {F G : Nat → Prop} {w w' : World} (hs : ∀ k, F k → G k) (hw : w.heap.size ≤ w'.heap.size) {k : Nat} (h : Grow F w' k) : Grow G w k := by
  rcases h with h | h
  · exact .inl (hs _ h)
  · exact .inr (Nat.le_trans hw h)

/-- Of the blocks that there were none but those of F may have turned. -/
structure Chg (F : Nat → Prop) (w w' : World) : Prop where
  os : w'.os = w.os
  tape : w'.tape = w.tape
  output : w'.output = w.output
  size : w.heap.size ≤ w'.heap.size
  block : ∀ k, k < w.heap.size → ¬ F k → w'.heap[k]? = w.heap[k]?

theorem Chg.refl (F : Nat → Prop) (w : World) : Chg F w w := ⟨rfl, rfl, rfl, Nat.le_refl _, fun _ _ _ => rfl⟩
theorem Chg.mono {F G : Nat → Prop} {w w' : World} (h : Chg F w w') (hs : ∀ k, k < w.heap.size → F k → G k) : Chg G w w' :=
  ⟨h.os, h.tape, h.output, h.size, fun k hk hn => h.block k hk fun hf => hn (hs k hk hf)⟩
theorem Chg.trans {F : Nat → Prop} {a b c : World} (h : Chg F a b) (k : Chg (Grow F a) b c) : Chg F a c :=
  ⟨k.os.trans h.os, k.tape.trans h.tape, k.output.trans h.output, Nat.le_trans h.size k.size,
   fun i hi hn => (k.block i (Nat.lt_of_lt_of_le hi h.size) (fun hg => hg.elim hn (fun h' => by omega))).trans (h.block i hi hn)⟩
/-- The second step turns old blocks of F alone, or what came behind the first world. -/
theorem Chg.step {F G : Nat → Prop} {a b c : World} (h : Chg F a b) (k : Chg G b c) (hs : ∀ i, i < a.heap.size → G i → F i) : Chg F a c :=
  h.trans (k.mono fun i _ hg => by
    rcases Nat.lt_or_ge i a.heap.size with h1 | h1
    · exact .inl (hs i h1 hg)
    · exact .inr h1)
theorem Chg.thenBelow {F : Nat → Prop} {B : Nat} {a b c : World} (h : Chg F a b) (k : Below B b c) (hB : a.heap.size ≤ B) : Chg F a c :=
  ⟨k.os.trans h.os, k.tape.trans h.tape, k.output.trans h.output, Nat.le_trans h.size k.size, fun i hi hn => (k.block i (Nat.lt_of_lt_of_le hi hB)).trans (h.block i hi hn)⟩
theorem Chg.of_below {F : Nat → Prop} {B : Nat} {w w' : World} (h : Below B w w') (hB : w.heap.size ≤ B) : Chg F w w' := (Chg.refl F w).thenBelow h hB
theorem Chg.below {F : Nat → Prop} {B : Nat} {w w' : World} (h : Chg F w w') (hB : B ≤ w.heap.size) (hF : ∀ k, k < B → ¬ F k) : Below B w w' :=
  ⟨h.os, h.tape, h.output, h.size, fun k hk => h.block k (Nat.lt_of_lt_of_le hk hB) (hF k hk)⟩
theorem Chg.none_ {w w' : World} (h : Chg (fun _ => False) w w') : Below w.heap.size w w' := h.below (Nat.le_refl _) fun _ _ h => h
theorem chg_below {w w' : World} (h : Below w.heap.size w w') {F : Nat → Prop} : Chg F w w' := Chg.of_below h (Nat.le_refl _)
theorem Qt.chg {w w' : World} (h : Qt w w') {F : Nat → Prop} : Chg F w w' := chg_below (h.below (B := w.heap.size))
theorem Chg.qt {F : Nat → Prop} {a b c : World} (h : Chg F a b) (k : Qt b c) : Chg F a c := h.thenBelow (k.below (B := b.heap.size)) h.size
theorem Chg.drew {F : Nat → Prop} {a w : World} (h : Chg F a w) : Chg F a w.drew := h.qt ⟨1, rfl⟩
theorem Chg.setCell {F : Nat → Prop} {a w : World} (h : Chg F a w) {p : Addr} (hp : F p.block ∨ a.heap.size ≤ p.block) (u : Value) : Chg F a (w.setCell p u) :=
  h.trans ⟨rfl, rfl, rfl, by simp [World.setCell], fun k hk hn => Below.heap_setCell _ _ _ _ (fun e => hn (by subst e; exact hp))⟩
theorem Chg.alloc {F : Nat → Prop} {a w : World} (h : Chg F a w) (o : Obj) : Chg F a (w.alloc o) :=
  h.thenBelow ((Below.refl w.heap.size w).alloc (Nat.le_refl _) o) h.size
theorem Chg.grown {F : Nat → Prop} {a w w' : World} {row : Option Nat} (h : Chg F a w) (hg : w.grownBy w' row) (hr : ∀ k, row = some k → F k ∨ a.heap.size ≤ k) : Chg F a w' :=
  h.trans ⟨hg.os, hg.tape, hg.output, hg.size, fun k hk hn => hg.block k hk (fun e => hn (hr k e.symm))⟩
theorem Chg.cell {F : Nat → Prop} {w w' : World} (h : Chg F w w') {p : Addr} {v : Value} (hc : w.cell? p = some v) (hp : ¬ F p.block) : w'.cell? p = some v :=
  (World.cell?_of_block (w := w) (h.block p.block (block_lt_of_cell hc) hp)).trans hc
theorem Chg.blk {F : Nat → Prop} {w w' : World} (h : Chg F w w') {k : Nat} {o : Obj} (hc : w.heap[k]? = some o) (hp : ¬ F k) : w'.heap[k]? = some o :=
  (h.block k (Array.getElem?_eq_some_iff.1 hc).1 hp).trans hc
theorem Rd.chg {w w' : World} {size : Nat} {A : Option Addr} {n c : Nat} {xs : List Value} (h : Rd w size A n c xs) {F : Nat → Prop} (hc : Chg F w w')
    (hA : ∀ b off, A = some ⟨b, off, none⟩ → 0 < n → ¬ F b) : Rd w' size A n c xs :=
  ⟨h.len, h.cap, h.max, fun hn => by
    obtain ⟨b, off, e, hk⟩ := h.on_ hn
    exact ⟨b, off, e, fun j u hu => hc.cell (hk j u hu) (hA b off e hn)⟩⟩
theorem own_chg {w w' : World} {base : Nat} {e : TypeId} {size n : Nat} {v : Value} {xs : List Value} (h : w.ownsRow base e size v n xs) {F : Nat → Prop} (hc : Chg F w w')
    (hv : ∀ k, v.ownBlock = some k → ¬ F k) : w'.ownsRow base e size v n xs := by
  refine ⟨h.1, ?_⟩
  rcases h.2 with h2 | ⟨g, cap, cur, rfl, hb, hg, r⟩
  · exact .inl h2
  · exact .inr ⟨g, cap, cur, rfl, hb, hc.blk hg (hv g rfl), r⟩
theorem own_base {w : World} {base : Nat} {e : TypeId} {size n : Nat} {v : Value} {xs : List Value} (h : w.ownsRow base e size v n xs) {base' : Nat} (hb : ∀ k, v.ownBlock = some k → base' ≤ k) : w.ownsRow base' e size v n xs := by
  refine ⟨h.1, ?_⟩
  rcases h.2 with h2 | ⟨g, cap, cur, rfl, _, hg, r⟩
  · exact .inl h2
  · exact .inr ⟨g, cap, cur, rfl, hb g rfl, hg, r⟩

/-- For a call inside a region that only reads, some draws behind its beginning. -/
theorem Qt.callN {P : Program} {f : FuncId} {args : Array Value} {w : World} {k : Nat} {v : Value} (h : Calls P f args (w.drewN k) fun e w' => e = .returned v ∧ Qt (w.drewN k) w') :
    Calls P f args (w.drewN k) fun e w' => e = .returned v ∧ ∃ m, w' = w.drewN m :=
  h.mono fun _ _ ⟨he, hq⟩ => ⟨he, (show Qt w (w.drewN k) from ⟨k, rfl⟩).trans hq⟩
theorem Rd.dn {w : World} {size : Nat} {A : Option Addr} {n c : Nat} {xs : List Value} (h : Rd w size A n c xs) {k : Nat} : Rd (w.drewN k) size A n c xs := h.drewN k

/-! Rows of structs: each element is k cells. -/
theorem flat_len {α : Type} (f : α → List Value) (k : Nat) (hf : ∀ x, (f x).length = k) (l : List α) : (l.flatMap f).length = l.length * k := by
  induction l with
  | nil => simp
  | cons x l ih => simp [ih, hf, Nat.add_mul, Nat.add_comm]
theorem flat_get {α : Type} (f : α → List Value) (k : Nat) (hf : ∀ x, (f x).length = k) (l : List α) (i j : Nat) (hi : i < l.length) (hj : j < k) : (l.flatMap f)[i * k + j]? = (f l[i])[j]? := by
  induction l generalizing i with
  | nil => simp at hi
  | cons x l ih =>
    cases i with
    | zero => simp [List.getElem?_append_left (show j < (f x).length by rw [hf]; exact hj)]
    | succ i =>
      have e : (i + 1) * k + j = (f x).length + (i * k + j) := by rw [hf, Nat.add_mul]; omega
      rw [List.flatMap_cons, e, List.getElem?_append_right (by omega), Nat.add_sub_cancel_left, ih i (by simpa using hi)]
      simp
theorem flat_drop {α : Type} (f : α → List Value) (k : Nat) (hf : ∀ x, (f x).length = k) (l : List α) (n : Nat) : (l.flatMap f).drop (n * k) = (l.drop n).flatMap f := by
  induction l generalizing n with
  | nil => simp
  | cons x l ih =>
    cases n with
    | zero => simp
    | succ n =>
      have e : (n + 1) * k = (f x).length + n * k := by rw [hf, Nat.add_mul]; omega
      rw [List.flatMap_cons, e, List.drop_length_add_append, ih n, List.drop_succ_cons]
theorem flat_take {α : Type} (f : α → List Value) (k : Nat) (hf : ∀ x, (f x).length = k) (l : List α) (n : Nat) : (l.flatMap f).take (n * k) = (l.take n).flatMap f := by
  induction l generalizing n with
  | nil => simp
  | cons x l ih =>
    cases n with
    | zero => simp
    | succ n =>
      have e : (n + 1) * k = (f x).length + n * k := by rw [hf, Nat.add_mul]; omega
      rw [List.flatMap_cons, e, List.take_length_add_append, ih n, List.take_succ_cons, List.flatMap_cons]
theorem flat_set {α : Type} (f : α → List Value) (k : Nat) (hf : ∀ x, (f x).length = k) (l : List α) (i j : Nat) (y : α) (u : Value) (hi : i < l.length) (hj : j < k) (hy : f y = (f l[i]).set j u) :
    (l.flatMap f).set (i * k + j) u = (l.set i y).flatMap f := by
  induction l generalizing i with
  | nil => simp at hi
  | cons x l ih =>
    cases i with
    | zero =>
      simp only [List.getElem_cons_zero] at hy
      simp [List.set_append_left _ _ (show j < (f x).length by rw [hf]; exact hj), hy]
    | succ i =>
      have e : (i + 1) * k + j = (f x).length + (i * k + j) := by rw [hf, Nat.add_mul]; omega
      rw [List.flatMap_cons, e, List.set_append_right _ _ (by omega), Nat.add_sub_cancel_left, ih i (by simpa using hi) (by simpa using hy)]
      simp

/-- The cells of the i-th element of a row of structs. -/
theorem Rd.elem {α : Type} {f : α → List Value} {k : Nat} (hf : ∀ x, (f x).length = k) {w : World} {A : Option Addr} {n c : Nat} {l : List α} (h : Rd w k A n c (l.flatMap f)) (hk : 0 < k) {i : Nat} (hi : i < l.length) :
    ∃ b off, A = some ⟨b, off, none⟩ ∧ ∀ j u, (f l[i])[j]? = some u → w.cell? ⟨b, off + i * k + j, none⟩ = some u := by
  have hl := h.len
  rw [flat_len f k hf] at hl
  have hn : l.length = n := Nat.eq_of_mul_eq_mul_right hk hl
  obtain ⟨b, off, e, hc⟩ := h.on_ (by omega)
  refine ⟨b, off, e, fun j u hu => ?_⟩
  rw [Nat.add_assoc]
  refine hc _ _ ?_
  have hj : j < k := by
    have := (List.getElem?_eq_some_iff.1 hu).1
    rwa [hf] at this
  rw [flat_get f k hf l i j hi hj]
  exact hu
theorem Rd.count {α : Type} {f : α → List Value} {k : Nat} (hf : ∀ x, (f x).length = k) {w : World} {A : Option Addr} {n c : Nat} {l : List α} (h : Rd w k A n c (l.flatMap f)) (hk : 0 < k) : l.length = n := by
  have hl := h.len
  rw [flat_len f k hf] at hl
  exact Nat.eq_of_mul_eq_mul_right hk hl

end Go.Proofs.Ytkedfipeebjcjaa
