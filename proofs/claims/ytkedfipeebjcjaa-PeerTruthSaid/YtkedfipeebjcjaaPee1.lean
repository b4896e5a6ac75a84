/-
  The program's receiver in memory: its cells, its rows, its map. · Walks of package peer: raise.
-/
import Derived.Test.YtkedfipeebjcjaaPeeP
import Derived.Test.YtkedfipeebjcjaaHdr
import Derived.Test.YtkedfipeebjcjaaSpanN
import Derived.Maps.RangeWalk
import Derived.Maps.OwnSet
import Derived.Maps.Ext
import Derived.Deep.RegionWith
import Derived.Deep.DeepCutAuto
namespace Go.Proofs.Ytkedfipeebjcjaa
open Go.Maps
set_option linter.unusedSimpArgs false
set_option linter.unusedVariables false
set_option linter.unnecessarySimpa false
open Go.RowKit

/-! The map: what is kept of a packet, by its number. -/
def oneV (n : Int) (c : Bool) : Value := .agg #[.int .u64 n, .bool c]
def oneD (h : Hp) : DataW Unit := .agg [.lit (.int .u64 h.nonce), .lit (.bool h.coin)]
/-- How an element reads. -/
def oneElem : Value → Option (DataW Unit × List MemPlace)
  | .agg cs => match cs.toList with
    | [.int .u64 n, .bool c] => some (.agg [.lit (.int .u64 n), .lit (.bool c)], [])
    | _ => none
  | _ => none
theorem oneElem_mk (n : Int) (c : Bool) : oneElem (oneV n c) = some (.agg [.lit (.int .u64 n), .lit (.bool c)], []) := rfl
theorem oneElem_inv {v : Value} {y : DataW Unit × List MemPlace} (h : oneElem v = some y) : ∃ n c, v = oneV n c ∧ y = (.agg [.lit (.int .u64 n), .lit (.bool c)], []) := by
  unfold oneElem at h
  split at h
  · rename_i cs
    split at h
    · rename_i n c e
      injection h with h
      refine ⟨n, c, ?_, h.symm⟩
      unfold oneV
      congr 1
      apply Array.ext'
      exact e
    · cases h
  · cases h
theorem law64 : Keyed Try.prog 26 := int_keyed Try.underlying26
theorem wf64 {x : Int} (h : isU64 x) : (Lit.int .u64 x).wf = true := by
  have h1 := h.1
  have h2 := h.2
  simp [Lit.wf, IntKind.min, IntKind.max, IntKind.signed, IntKind.bits]
  omega
theorem of_wf64 {x : Int} (h : (Lit.int .u64 x).wf = true) : isU64 x := by
  simp [Lit.wf, IntKind.min, IntKind.max, IntKind.signed, IntKind.bits] at h
  exact ⟨by omega, by omega⟩
theorem key64 {x : Int} (h : isU64 x) : keyOf Try.prog 26 (.int .u64 x) = some (.int .u64 x) := keyOf_int_mk Try.underlying26 (wf64 h)
theorem same64 (x y : Int) : (Lit.int .u64 y).sameKey (.int .u64 x) = decide (y = x) := by
  by_cases h : y = x
  · subst h
    rw [WideAt.sameKey_self (show WideAt.IsKeyLit (.int .u64 y) from trivial)]
    simp
  · rw [sameKey_ne (by intro e; injection e with e1 e2; exact h e2), decide_eq_false h]

/-- The map holds just these packets. -/
def Kept (D : DataW Unit) (l : List Hp) : Prop := ∀ x : Int, ∀ zd, D.atKey (.int .u64 x) zd = match l.find? (fun h => h.pn == x) with | some h => oneD h | none => zd
theorem Kept.nil : Kept (.map []) [] := fun x zd => rfl
theorem Kept.has {D : DataW Unit} {l : List Hp} (h : Kept D l) {k : Hp} (hk : k ∈ l) : Maps.has D (.int .u64 k.pn) = true := by
  have hf : (l.find? (fun h => h.pn == k.pn)).isSome = true := List.find?_isSome.2 ⟨k, hk, by simp⟩
  obtain ⟨y, hy⟩ := Option.isSome_iff_exists.1 hf
  refine has_true_of_atKey (y := oneD y) fun z => ?_
  rw [h k.pn z, hy]
theorem find_own {l : List Hp} (hn : (l.map (·.pn)).Nodup) {k : Hp} (hk : k ∈ l) : l.find? (fun h => h.pn == k.pn) = some k := by
  induction l with
  | nil => cases hk
  | cons a l ih =>
    rw [List.find?_cons]
    rw [List.map_cons, List.nodup_cons] at hn
    rcases List.mem_cons.1 hk with e | e
    · subst e; simp
    · have hne : (a.pn == k.pn) = false := by
        rw [beq_eq_false_iff_ne]
        exact fun e' => hn.1 (e' ▸ List.mem_map.2 ⟨k, e, rfl⟩)
      rw [hne]
      exact ih hn.2 e
theorem Kept.find {D : DataW Unit} {l : List Hp} (h : Kept D l) {x : Int} {y : DataW Unit} (hy : ∀ zd, D.atKey (.int .u64 x) zd = y) : ∃ k ∈ l, k.pn = x ∧ oneD k = y := by
  cases hf : l.find? (fun h => h.pn == x) with
  | none =>
    have e1 := hy .nil
    have e2 := hy (.lit (.bool true))
    rw [h x, hf] at e1 e2
    simp only at e1 e2
    rw [← e1] at e2
    cases e2
  | some k =>
    have e1 := hy .nil
    rw [h x, hf] at e1
    exact ⟨k, List.mem_of_find?_eq_some hf, by simpa using List.find?_some hf, e1⟩
theorem find_filter (l : List Hp) (g : Int → Bool) (x : Int) : (l.filter fun h => g h.pn).find? (fun h => h.pn == x) = if g x then l.find? (fun h => h.pn == x) else none := by
  induction l with
  | nil => simp
  | cons a l ih =>
    rw [List.filter_cons, List.find?_cons]
    by_cases e : a.pn = x
    · subst e
      cases hg : g a.pn with
      | true => simp
      | false =>
        rw [hg] at ih
        simpa using ih
    · have e' : (a.pn == x) = false := beq_eq_false_iff_ne.2 e
      rw [e']
      split
      · rw [List.find?_cons, e']; exact ih
      · exact ih
/-- A key has been struck, and its packet. -/
theorem Kept.del {D : DataW Unit} {l : List Hp} {g g' : Int → Bool} (h : Kept D (l.filter fun k => g k.pn)) (x : Int) (h1 : ∀ y, y ≠ x → g' y = g y) (h2 : g' x = false) : Kept (D.del (.int .u64 x)) (l.filter fun k => g' k.pn) := by
  intro y zd
  rw [find_filter]
  by_cases e : y = x
  · subst e
    rw [atKey_del_same, h2]
    rfl
  · rw [atKey_del_other (by intro e'; injection e' with e1 e2; exact e e2), h y zd, find_filter, h1 y e]
theorem Kept.put {D : DataW Unit} {l : List Hp} (h : Kept D l) (hD : IsMap D) (k : Hp) (hn : ∀ j ∈ l, j.pn ≠ k.pn) : Kept (D.put (.int .u64 k.pn) (oneD k)) (l ++ [k]) := by
  intro y zd
  rw [List.find?_append]
  by_cases e : y = k.pn
  · subst e
    rw [atKey_put_same hD (show WideAt.IsKeyLit (.int .u64 k.pn) from trivial), List.find?_eq_none.2 (fun j hj => by simpa using hn j hj)]
    simp
  · rw [atKey_put_other (by intro e'; injection e' with e1 e2; exact e e2), h y zd]
    have e' : (k.pn == y) = false := beq_eq_false_iff_ne.2 (fun e'' => e e''.symm)
    rw [List.find?_cons, e', List.find?_nil, Option.or_none]
/-- A copy grows by a packet. -/
theorem Kept.add {D : DataW Unit} {l : List Hp} {g g' : Int → Bool} (h : Kept D (l.filter fun k => g k.pn)) (hD : IsMap D) (hn : (l.map (·.pn)).Nodup) {k : Hp} (hk : k ∈ l) (h1 : ∀ y, y ≠ k.pn → g' y = g y) (h2 : g' k.pn = true) : Kept (D.put (.int .u64 k.pn) (oneD k)) (l.filter fun k => g' k.pn) := by
  intro y zd
  rw [find_filter]
  by_cases e : y = k.pn
  · subst e
    rw [atKey_put_same hD (show WideAt.IsKeyLit (.int .u64 k.pn) from trivial), h2, find_own hn hk]
    rfl
  · rw [atKey_put_other (by intro e'; injection e' with e1 e2; exact e e2), h y zd, find_filter, h1 y e]
theorem filter_take {l : List Hp} (hn : (l.map (·.pn)).Nodup) {g g' : Int → Bool} {k : Hp} (hk : k ∈ l) (h1 : ∀ y, y ≠ k.pn → g' y = g y) (h2 : g k.pn = true) (h3 : g' k.pn = false) : (l.filter fun h => g h.pn).Perm (k :: l.filter fun h => g' h.pn) := by
  induction l with
  | nil => cases hk
  | cons a l ih =>
    rw [List.map_cons, List.nodup_cons] at hn
    rcases List.mem_cons.1 hk with e | e
    · subst e
      rw [List.filter_cons, List.filter_cons, h2, h3]
      simp only [if_true, Bool.false_eq_true, if_false]
      have : (l.filter fun h => g h.pn) = l.filter fun h => g' h.pn := List.filter_congr fun h hh => (h1 h.pn (fun e => hn.1 (e ▸ List.mem_map.2 ⟨h, hh, rfl⟩))).symm
      rw [this]
    · have hne : a.pn ≠ k.pn := fun e' => hn.1 (e' ▸ List.mem_map.2 ⟨k, e, rfl⟩)
      rw [List.filter_cons, List.filter_cons, h1 a.pn hne]
      split
      · exact ((ih hn.2 e).cons a).trans (List.Perm.swap _ _ _)
      · exact ih hn.2 e

/-! The pieces of the stream. -/
structure Pc where
  off : Int
  A : Option Addr
  c : Nat
  b : List Int
def Pc.cells (x : Pc) : List Value := [.int .u64 x.off, .slice x.A x.b.length x.c]
def Pc.pure (x : Pc) : Int × List Int := (x.off, x.b)

/-- What the fields say; where it lies. -/
structure PQ where
  delay : Int
  floor : Int
  next : Int
  bytes : Int
  got : List Sp
  marked : List Sp
  l : List Hp
  n : Nat
  waits : Int
  trigger : Int
  due : Int
  hv : List Sp
  pl : List Pc
structure PM where
  A1 : Option Addr
  c1 : Nat
  A2 : Option Addr
  c2 : Nat
  kb : Nat
  A3 : Option Addr
  c3 : Nat
  v : Value
def PQ.cells (q : PQ) (m : PM) : Array Value := #[.int .u64 q.delay, .int .u64 q.floor, .int .u64 q.next, .int .u64 q.bytes, .slice m.A1 q.got.length m.c1, .slice m.A2 q.marked.length m.c2, .map (some m.kb), .int .i64 q.waits, .int .u64 q.trigger, .int .u64 q.due, .slice m.A3 q.hv.length m.c3, m.v]
/-- A row that others may read, too: it lies in none of the blocks that turn. -/
def Outs (F M : Nat → Prop) (p : Nat) (m : PM) (A : Option Addr) (n : Nat) : Prop := ∀ b off, A = some ⟨b, off, none⟩ → 0 < n → (F b ∨ M b) ∧ b ≠ p ∧ b ≠ m.kb ∧ m.v.ownBlock ≠ some b
structure PeR (w : World) (F M : Nat → Prop) (p : Nat) (q : PQ) (m : PM) : Prop where
  t : w.heap[p]? = some (.cells #[.int .u64 q.delay, .int .u64 q.floor, .int .u64 q.next, .int .u64 q.bytes, .slice m.A1 q.got.length m.c1, .slice m.A2 q.marked.length m.c2, .map (some m.kb), .int .i64 q.waits, .int .u64 q.trigger, .int .u64 q.due, .slice m.A3 q.hv.length m.c3, m.v] 65 (0, 0))
  r1 : Rd w 2 m.A1 q.got.length m.c1 (Ss q.got)
  r2 : Rd w 2 m.A2 q.marked.length m.c2 (Ss q.marked)
  r3 : Rd w 2 m.A3 q.hv.length m.c3 (Ss q.hv)
  k : ∃ D, w.ownsMap Try.prog 26 oneElem m.kb q.n D ∧ Kept D q.l
  o : w.ownsRow 0 82 2 m.v q.pl.length (q.pl.flatMap Pc.cells)
  bd : ∀ x ∈ q.pl, Rd w 1 x.A x.b.length x.c (U8 x.b)
  fp : F p
  fk : F m.kb ∧ m.kb ≠ p
  fo : ∀ g, m.v.ownBlock = some g → F g ∧ g ≠ p ∧ g ≠ m.kb
  f1 : Outs F M p m m.A1 q.got.length
  f2 : Outs F M p m m.A2 q.marked.length
  f3 : Outs F M p m m.A3 q.hv.length
  fb : ∀ x ∈ q.pl, Outs F M p m x.A x.b.length
theorem Outs.sub {F M G N : Nat → Prop} {w : World} {p : Nat} {m : PM} {size n c : Nat} {A : Option Addr} {xs : List Value} (h : Outs F M p m A n) (r : Rd w size A n c xs) (h0 : 0 < size) (hs : ∀ k, k < w.heap.size → F k ∨ M k → G k ∨ N k) : Outs G N p m A n :=
  fun b off e hn => by
    have h1 := h b off e hn
    exact ⟨hs b (r.lt h0 hn b off e) h1.1, h1.2⟩
theorem Outs.no {F M G : Nat → Prop} {w : World} {p : Nat} {m : PM} {size n c : Nat} {A : Option Addr} {xs : List Value} (h : Outs F M p m A n) (r : Rd w size A n c xs) (h0 : 0 < size) (hd : ∀ k, k < w.heap.size → F k ∨ M k → ¬ G k) : ∀ b off, A = some ⟨b, off, none⟩ → 0 < n → ¬ G b :=
  fun b off e hn => hd b (r.lt h0 hn b off e) (h b off e hn).1
theorem map_chg {w w' : World} {F : Nat → Prop} {b n : Nat} {D : DataW Unit} (h : w.ownsMap Try.prog 26 oneElem b n D) (hc : Chg F w w') (hn : ¬ F b) : w'.ownsMap Try.prog 26 oneElem b n D := by
  obtain ⟨es, clock, hb, r⟩ := h
  exact ⟨es, clock, hc.blk hb hn, r⟩
theorem PeR.chg {w w' : World} {F M G F' M' : Nat → Prop} {p : Nat} {q : PQ} {m : PM} (h : PeR w F M p q m) (hc : Chg G w w') (hd : ∀ k, k < w.heap.size → F k ∨ M k → ¬ G k) (hF : ∀ k, k < w.heap.size → F k → F' k) (hM : ∀ k, k < w.heap.size → M k → F' k ∨ M' k) : PeR w' F' M' p q m := by
  have hp := lt_of_block h.t
  obtain ⟨D, hk1, hk2⟩ := h.k
  have hkl := hk1.lt
  have hs : ∀ k, k < w.heap.size → F k ∨ M k → F' k ∨ M' k := fun k hk e => e.elim (fun e => .inl (hF k hk e)) (hM k hk)
  refine ⟨hc.blk h.t (hd p hp (.inl h.fp)), h.r1.chg hc (h.f1.no h.r1 (by omega) hd), h.r2.chg hc (h.f2.no h.r2 (by omega) hd), h.r3.chg hc (h.f3.no h.r3 (by omega) hd), ⟨D, map_chg hk1 hc (hd _ hkl (.inl h.fk.1)), hk2⟩, own_chg h.o hc (fun k hk => hd k (h.o.lt k hk).2 (.inl (h.fo k hk).1)),
    fun x hx => (h.bd x hx).chg hc ((h.fb x hx).no (h.bd x hx) (by omega) hd), hF p hp h.fp, ⟨hF _ hkl h.fk.1, h.fk.2⟩, fun g hg => ⟨hF g (h.o.lt g hg).2 (h.fo g hg).1, (h.fo g hg).2⟩, h.f1.sub h.r1 (by omega) hs, h.f2.sub h.r2 (by omega) hs, h.f3.sub h.r3 (by omega) hs, fun x hx => (h.fb x hx).sub (h.bd x hx) (by omega) hs⟩
theorem PeR.below {w w' : World} {F M : Nat → Prop} {p : Nat} {q : PQ} {m : PM} (h : PeR w F M p q m) (b : Below w.heap.size w w') : PeR w' F M p q m :=
  h.chg (chg_below b (F := fun _ => False)) (fun _ _ _ h => h) (fun _ _ h => h) (fun _ _ h => .inr h)
theorem PeR.lt {w : World} {F M : Nat → Prop} {p : Nat} {q : PQ} {m : PM} (h : PeR w F M p q m) : p < w.heap.size := lt_of_block h.t
/-- The block of the receiver alone has turned. -/
theorem PeR.put {w : World} {F M : Nat → Prop} {p i : Nat} {q q' : PQ} {m m' : PM} (h : PeR w F M p q m) (v : Value) (hc : q'.cells m' = (q.cells m).setIfInBounds i v) (e1 : m'.kb = m.kb) (e2 : m'.v = m.v) (e3 : q'.l = q.l) (e4 : q'.n = q.n) (e5 : q'.pl = q.pl)
    (r1 : Rd w 2 m'.A1 q'.got.length m'.c1 (Ss q'.got)) (r2 : Rd w 2 m'.A2 q'.marked.length m'.c2 (Ss q'.marked)) (r3 : Rd w 2 m'.A3 q'.hv.length m'.c3 (Ss q'.hv))
    (f1 : Outs F M p m m'.A1 q'.got.length) (f2 : Outs F M p m m'.A2 q'.marked.length) (f3 : Outs F M p m m'.A3 q'.hv.length) : PeR (w.setCell ⟨p, i, none⟩ v) F M p q' m' := by
  have hC : Chg (fun j => j = p) w (w.setCell ⟨p, i, none⟩ v) := (Chg.refl (fun j => j = p) w).setCell (p := ⟨p, i, none⟩) (.inl rfl) _
  obtain ⟨D, hk1, hk2⟩ := h.k
  have o := h.o
  have fo := h.fo
  have fk := h.fk
  have bd := h.bd
  have fb := h.fb
  have ff : ∀ {A : Option Addr} {n : Nat}, Outs F M p m A n → Outs F M p m' A n := fun {A n} g b off e hn => by have := g b off e hn; exact ⟨this.1, this.2.1, by rw [e1]; exact this.2.2.1, by rw [e2]; exact this.2.2.2⟩
  refine ⟨?_, r1.chg hC (fun b off e hn => (f1 b off e hn).2.1), r2.chg hC (fun b off e hn => (f2 b off e hn).2.1), r3.chg hC (fun b off e hn => (f3 b off e hn).2.1), ⟨D, ?_, by rw [e3]; exact hk2⟩, ?_, ?_, h.fp, ?_, ?_, ff f1, ff f2, ff f3, ?_⟩
  · show _ = some (Obj.cells (q'.cells m') _ _)
    rw [hc]
    exact heap_setCell_same w p i _ _ v h.t
  · rw [e1, e4]; exact map_chg hk1 hC fk.2
  · rw [e2, e5]; exact own_chg o hC (fun k hk => (fo k hk).2.1)
  · rw [e5]; exact fun x hx => (bd x hx).chg hC (fun b off e hn => (fb x hx b off e hn).2.1)
  · rw [e1]; exact fk
  · rw [e1, e2]; exact fo
  · rw [e5]; exact fun x hx => ff (fb x hx)
/-- The map alone has turned. -/
theorem PeR.remap {w w' : World} {F M : Nat → Prop} {p : Nat} {q q' : PQ} {m : PM} (h : PeR w F M p q m) (hc : Chg (fun j => j = m.kb) w w') (k : ∃ D, w'.ownsMap Try.prog 26 oneElem m.kb q'.n D ∧ Kept D q'.l) (e : q'.cells m = q.cells m) (eg : q'.got = q.got) (em : q'.marked = q.marked) (eh : q'.hv = q.hv) (e5 : q'.pl = q.pl) : PeR w' F M p q' m := by
  have fk := h.fk
  refine ⟨?_, ?_, ?_, ?_, k, ?_, ?_, h.fp, h.fk, h.fo, by rw [eg]; exact h.f1, by rw [em]; exact h.f2, by rw [eh]; exact h.f3, by rw [e5]; exact h.fb⟩
  · show _ = some (Obj.cells (q'.cells m) _ _)
    rw [e]
    exact hc.blk h.t (fun e => fk.2 e.symm)
  · rw [eg]; exact h.r1.chg hc (fun b off e hn => (h.f1 b off e hn).2.2.1)
  · rw [em]; exact h.r2.chg hc (fun b off e hn => (h.f2 b off e hn).2.2.1)
  · rw [eh]; exact h.r3.chg hc (fun b off e hn => (h.f3 b off e hn).2.2.1)
  · rw [e5]; exact own_chg h.o hc (fun k hk => (h.fo k hk).2.2)
  · rw [e5]; exact fun x hx => (h.bd x hx).chg hc (fun b off e hn => (h.fb x hx b off e hn).2.2.1)
/-- A fresh row lies outside. -/
theorem PeR.outs_new {w : World} {F M : Nat → Prop} {p : Nat} {q : PQ} {m : PM} (h : PeR w F M p q m) {B : Nat} (hB : w.heap.size ≤ B) (hF : ∀ k, B ≤ k → F k) {A : Option Addr} {n : Nat} (hn : ∀ b off, A = some ⟨b, off, none⟩ → 0 < n → B ≤ b) : Outs F M p m A n := by
  obtain ⟨D, hk1, hk2⟩ := h.k
  have h1 := h.lt
  have h2 := hk1.lt
  intro b off e h0
  have h3 := hn b off e h0
  refine ⟨.inl (hF b h3), by omega, by omega, fun e => ?_⟩
  have := (h.o.lt b e).2
  omega

theorem U2s_gd {L : List Sp} (h : Gd L) (h0 : ∀ s ∈ L, 0 ≤ s.1) : U2s L := gd_u2 h h0
end Go.Proofs.Ytkedfipeebjcjaa

namespace Go.Proofs.Ytkedfipeebjcjaa
open Go.Maps
set_option linter.unusedSimpArgs false
set_option linter.unusedVariables false
set_option linter.unnecessarySimpa false
open Go.RowKit

namespace PQ
def raise (q : PQ) (f : Int) : PQ := if f ≤ q.floor then q else { q with floor := f, got := fromP q.got f, marked := fromP q.marked f, l := q.l.filter fun h => decide (f ≤ h.pn) }
structure Rows (q : PQ) : Prop where
  gg : Gd q.got
  gm : Gd q.marked
  ug : U2s q.got
  um : U2s q.marked
  lg : q.got.length ≤ 1000000
  lm : q.marked.length ≤ 1000000
end PQ
def up64 (left : Lit → Bool) : Int → Bool := fun x => left (.int .u64 x)
/-- A step of a range over the map: nothing is left, or a packet comes. -/
theorem wpList_next_kept {P : Program} {kt : TypeId} (w : World) {ops : Array Oper} {rest : List Oper} {o : Oper} {a : Act} {Q : Exit → Act → World → Prop} (hg : o.guard = none) (it : Operand) (hop : o.op = Op.next it false) (K : Keyed P kt) (hkt : P.underlying kt = some (.int .u64))
    (b r n : Nat) (D : DataW Unit) (left : Lit → Bool) (cnt : Nat) (L : List Hp) (hk : Kept D L) (hit : a.eval it = .pointer (some ⟨r, 0, none⟩)) (h : w.ranges P kt oneElem b r n D left cnt)
    (hDone : (∀ x, up64 left x = false) → wpList P ops Q rest (a.put o.dst (.tuple #[.bool false])) w)
    (hMore : ∀ (k : Hp) (w' : World) (left' : Lit → Bool) (cnt' : Nat), k ∈ L → isU64 k.pn → up64 left k.pn = true → w'.ranges P kt oneElem b r n D left' cnt' → (∀ x, up64 left' x = (up64 left x && !decide (x = k.pn))) → cnt' < cnt →
      w.grownBy w' (some r) → w'.heap.size = w.heap.size → (Instr.entry (.pointer (some ⟨r, 0, none⟩))).run P w' = .ok (.tuple #[.int .u64 k.pn, .agg #[.int .u64 k.nonce, .bool k.coin]]) w' → wpList P ops Q rest (a.put o.dst (.tuple #[.bool true, .int .u64 k.pn, .agg #[.int .u64 k.nonce, .bool k.coin]])) w') :
    wpList P ops Q (o :: rest) a w := by
  refine wpList_next_ranges (α := Int) (β := Int × Bool) w hg it hop kt K oneElem (Value.int .u64) (fun c => oneV c.1 c.2) (fun key kl hkey => ?_) (fun v y hv => ?_) b r n D left cnt hit h (fun _ hl => hDone fun x => hl _) ?_
  · obtain ⟨x, rfl, _⟩ := Maps.keyOf_int_inv hkt hkey
    exact ⟨x, rfl⟩
  · obtain ⟨n, c, rfl, _⟩ := oneElem_inv hv
    exact ⟨(n, c), rfl⟩
  · intro x c kl y w' cnt' hkey hlk hv hat hrg hlt hgr hsz hen
    obtain ⟨x', e, rfl, hwf⟩ := Maps.keyOf_int_inv hkt hkey
    injection e with e1 e2
    subst e2
    obtain ⟨n', c', ev, ey⟩ := oneElem_inv hv
    obtain ⟨k, hkL, hkp, hkd⟩ := hk.find hat
    subst hkp
    obtain ⟨cn, cc⟩ := c
    injection ev with ev
    have e3 : cn = n' ∧ cc = c' := by simpa using ev
    rw [ey] at hkd
    have e4 : k.nonce = n' ∧ k.coin = c' := by simpa [oneD] using hkd
    obtain ⟨rfl, rfl⟩ := e3
    obtain ⟨e5, e6⟩ := e4
    subst e5 e6
    exact hMore k w' _ cnt' hkL (of_wf64 hwf) hlk hrg (fun z => by show (left (.int .u64 z) && !(Lit.int .u64 z).sameKey (.int .u64 k.pn)) = _; rw [same64]; rfl) hlt hgr hsz hen

/-- Two rows have turned. -/
theorem PeR.two {w1 x1 x2 : World} {F M : Nat → Prop} {p : Nat} {q : PQ} {m : PM} {Ag Am : Option Addr} {cg cm : Nat} {lg lm : List Sp} {B1 B2 : Nat} (h : PeR w1 F M p q m) (hN : ∀ k, w1.heap.size ≤ k → F k) (b1 : Below w1.heap.size w1 x1) (b2 : Below x1.heap.size x1 x2)
    (hg : RdN x1 B1 Ag lg.length cg (Ss lg)) (hm : RdN x2 B2 Am lm.length cm (Ss lm)) (e1 : w1.heap.size ≤ B1) (e2 : w1.heap.size ≤ B2) :
    (∃ m', PeR ((x2.setCell ⟨p, 4, none⟩ (.slice Ag lg.length cg)).setCell ⟨p, 5, none⟩ (.slice Am lm.length cm)) F M p { q with got := lg, marked := lm } m') ∧ Chg F w1 ((x2.setCell ⟨p, 4, none⟩ (.slice Ag lg.length cg)).setCell ⟨p, 5, none⟩ (.slice Am lm.length cm)) := by
  have b12 := b1.trans (b2.mono b1.size)
  have h2 := h.below b12
  have rg := hg.rd.below b2
  have og := h.outs_new e1 (fun k hk => hN k (by omega)) hg.nw
  have om := h.outs_new e2 (fun k hk => hN k (by omega)) hm.nw
  have h3 : PeR (x2.setCell ⟨p, 4, none⟩ (.slice Ag lg.length cg)) F M p { q with got := lg } { m with A1 := Ag, c1 := cg } := h2.put _ rfl rfl rfl rfl rfl rfl rg h2.r2 h2.r3 og h2.f2 h2.f3
  have hC : Chg (fun j => j = p) x2 (x2.setCell ⟨p, 4, none⟩ (.slice Ag lg.length cg)) := (Chg.refl (fun j => j = p) x2).setCell (p := ⟨p, 4, none⟩) (.inl rfl) _
  have om3 : Outs F M p { m with A1 := Ag, c1 := cg } Am lm.length := om
  have h4 : PeR ((x2.setCell ⟨p, 4, none⟩ (.slice Ag lg.length cg)).setCell ⟨p, 5, none⟩ (.slice Am lm.length cm)) F M p { q with got := lg, marked := lm } { m with A1 := Ag, c1 := cg, A2 := Am, c2 := cm } :=
    h3.put _ rfl rfl rfl rfl rfl rfl h3.r1 (hm.rd.chg hC (fun b off e hn => (om b off e hn).2.1)) h3.r3 h3.f1 om3 h3.f3
  exact ⟨⟨_, h4⟩, ((chg_below b12).setCell (p := ⟨p, 4, none⟩) (.inl h.fp) _).setCell (p := ⟨p, 5, none⟩) (.inl h.fp) _⟩

set_option maxHeartbeats 4000000 in
set_option maxRecDepth 100000 in
theorem peer_raise (w : World) (F M : Nat → Prop) (p : Nat) (q : PQ) (m : PM) (f : Int) (h : PeR w F M p q m) (hn : ∀ k, w.heap.size ≤ k → F k) (hf : isU64 f) (hq : q.Rows) :
    Calls Try.prog 33 #[.pointer (some ⟨p, 0, none⟩), .int .u64 f] w fun e w' => e = .returned (.tuple #[]) ∧ (∃ m', PeR w' F M p (q.raise f) m') ∧ Chg F w w' := by
  have H := Lib.hid h
  have HN := Lib.hid hn
  have t0 := cell_of_row w p 0 _ _ _ h.t
  have ft0 := frozen_of_row w p 0 _ _ h.t
  have t1 := cell_of_row w p 1 _ _ _ h.t
  have ft1 := frozen_of_row w p 1 _ _ h.t
  have t2 := cell_of_row w p 2 _ _ _ h.t
  have ft2 := frozen_of_row w p 2 _ _ h.t
  have t3 := cell_of_row w p 3 _ _ _ h.t
  have ft3 := frozen_of_row w p 3 _ _ h.t
  have t4 := cell_of_row w p 4 _ _ _ h.t
  have ft4 := frozen_of_row w p 4 _ _ h.t
  have t5 := cell_of_row w p 5 _ _ _ h.t
  have ft5 := frozen_of_row w p 5 _ _ h.t
  have t6 := cell_of_row w p 6 _ _ _ h.t
  have ft6 := frozen_of_row w p 6 _ _ h.t
  have t7 := cell_of_row w p 7 _ _ _ h.t
  have ft7 := frozen_of_row w p 7 _ _ h.t
  have t8 := cell_of_row w p 8 _ _ _ h.t
  have ft8 := frozen_of_row w p 8 _ _ h.t
  have t9 := cell_of_row w p 9 _ _ _ h.t
  have ft9 := frozen_of_row w p 9 _ _ h.t
  have t10 := cell_of_row w p 10 _ _ _ h.t
  have ft10 := frozen_of_row w p 10 _ _ h.t
  have t11 := cell_of_row w p 11 _ _ _ h.t
  have ft11 := frozen_of_row w p 11 _ _ h.t
  by_cases hfl : f ≤ q.floor
  · have d1 : decide (f ≤ q.floor) = true := decide_eq_true hfl
    have e1 : Hid (q.raise f = q) := Lib.hid (if_pos hfl)
    clear h hn
    go_enter Try.func33, Try.ntmps33
    go_wp2
    refine bodyPost_ret (results_none rfl _ _ _) rfl ?_
    exact ⟨rfl, ⟨m, by rw [e1.out]; exact H.out⟩, Chg.refl _ _⟩
  · have d1 : decide (f ≤ q.floor) = false := decide_eq_false hfl
    have e1 : Hid (q.raise f = { q with floor := f, got := fromP q.got f, marked := fromP q.marked f, l := q.l.filter fun h => decide (f ≤ h.pn) }) := Lib.hid (if_neg hfl)
    have H1 : Hid (PeR (w.setCell ⟨p, 1, none⟩ (.int .u64 f)) F M p { q with floor := f } m) := Lib.hid (h.put _ rfl rfl rfl rfl rfl rfl h.r1 h.r2 h.r3 h.f1 h.f2 h.f3)
    have C1 : Hid (Chg F w (w.setCell ⟨p, 1, none⟩ (.int .u64 f))) := Lib.hid ((Chg.refl F w).setCell (.inl h.fp) _)
    have hs1 : (w.setCell ⟨p, 1, none⟩ (.int .u64 f)).heap.size = w.heap.size := by simp [World.setCell]
    have HN1 : Hid (∀ k, (w.setCell ⟨p, 1, none⟩ (.int .u64 f)).heap.size ≤ k → F k) := Lib.hid (by rw [hs1]; exact hn)
    clear h hn hs1 hfl
    go_enter Try.func33, Try.ntmps33
    go_upto_region 2 with fail
    clear t0 t1 t2 t3 t4 t5 t6 t7 t8 t9 t10 t11 ft0 ft1 ft2 ft3 ft4 ft5 ft6 ft7 ft8 ft9 ft10 ft11 d1
    generalize (w.setCell ⟨p, 1, none⟩ (.int .u64 f)) = w1 at *
    go_cut [0] (fun s0 wx => s0 = .pointer (some ⟨p, 0, none⟩) ∧ (∃ m', PeR wx F M p { q with floor := f, got := fromP q.got f, marked := fromP q.marked f } m') ∧ Chg F w1 wx)
    case first =>
      have KG := Lib.hid (fun (W : World) (b : Below w1.heap.size w1 W) => from_yes m.A1 q.got.length m.c1 q.got f W (H1.out.r1.below b) hq.ug hq.gg.good hf.1 hf.2 (by have := hq.lg; omega))
      have KM := Lib.hid (fun (W : World) (b : Below w1.heap.size w1 W) => from_yes m.A2 q.marked.length m.c2 q.marked f W (H1.out.r2.below b) hq.um hq.gm.good hf.1 hf.2 (by have := hq.lm; omega))
      have tt := H1.out.t
      have t0 := cell_of_row w1 p 0 _ _ _ tt
      have ft0 := frozen_of_row w1 p 0 _ _ tt
      have t1 := cell_of_row w1 p 1 _ _ _ tt
      have ft1 := frozen_of_row w1 p 1 _ _ tt
      have t2 := cell_of_row w1 p 2 _ _ _ tt
      have ft2 := frozen_of_row w1 p 2 _ _ tt
      have t3 := cell_of_row w1 p 3 _ _ _ tt
      have ft3 := frozen_of_row w1 p 3 _ _ tt
      have t4 := cell_of_row w1 p 4 _ _ _ tt
      have ft4 := frozen_of_row w1 p 4 _ _ tt
      have t5 := cell_of_row w1 p 5 _ _ _ tt
      have ft5 := frozen_of_row w1 p 5 _ _ tt
      have t6 := cell_of_row w1 p 6 _ _ _ tt
      have ft6 := frozen_of_row w1 p 6 _ _ tt
      have t7 := cell_of_row w1 p 7 _ _ _ tt
      have ft7 := frozen_of_row w1 p 7 _ _ tt
      have t8 := cell_of_row w1 p 8 _ _ _ tt
      have ft8 := frozen_of_row w1 p 8 _ _ tt
      have t9 := cell_of_row w1 p 9 _ _ _ tt
      have ft9 := frozen_of_row w1 p 9 _ _ tt
      have t10 := cell_of_row w1 p 10 _ _ _ tt
      have ft10 := frozen_of_row w1 p 10 _ _ tt
      have t11 := cell_of_row w1 p 11 _ _ _ tt
      have ft11 := frozen_of_row w1 p 11 _ _ tt
      clear tt
      go_region_with (first
        | (go_at_call 64; (with_reducible refine Calls.mono (KG.out _ ?_) ?_); (focus (exact (Below.refl _ _).drew)); rintro e x1 ⟨Ag, cg, rfl, hg, bg⟩; have tp1 := Lib.hid ((bg.block p (by simpa using H1.out.lt)).trans H1.out.t); have u5 := cell_of_row x1 p 5 _ _ _ tp1.out; have u4 := cell_of_row x1 p 4 _ _ _ tp1.out; have fu4 := frozen_of_row x1 p 4 _ _ tp1.out; have fu5 := frozen_of_row x1 p 5 _ _ tp1.out)
        | (go_at_call 64; (with_reducible refine Calls.mono (KM.out _ ?_) ?_); (focus (exact (Below.refl _ _).drew.trans (bg.mono (by simp)))); rintro e x2 ⟨Am, cm, rfl, hm, bm⟩; have tp2 := Lib.hid ((bm.block p (by have := bg.size; have := H1.out.lt; simp at *; omega)).trans tp1.out); have v5 := cell_of_row x2 p 5 _ _ _ tp2.out; have v4 := cell_of_row x2 p 4 _ _ _ tp2.out; have fv4 := frozen_of_row x2 p 4 _ _ tp2.out; have fv5 := frozen_of_row x2 p 5 _ _ tp2.out))
      all_goals go_wp2_with fail
      all_goals go_meet
      all_goals exact ⟨rfl, PeR.two H1.out HN1.out ((Below.refl _ _).drew.trans (bg.mono (by simp))) bm hg hm (Nat.le_refl _) (by have := bg.size; simp at this; omega)⟩
    case rest =>
      obtain ⟨rfl, ⟨m2, h2⟩, hc2⟩ := hcut
      have H2 := Lib.hid h2
      have C2 : Hid (Chg F w wc) := Lib.hid (C1.out.step hc2 (fun i _ hi => hi))
      obtain ⟨D0, hk1, hk2⟩ := h2.k
      have HK1 := Lib.hid hk1
      have HK2 : Hid (Kept D0 q.l) := Lib.hid hk2
      have t6 := cell_of_row wc p 6 _ _ _ h2.t
      have hkb := hk1.lt
      have hpl := h2.lt
      have hkp := h2.fk.2
      have hFk := h2.fk.1
      clear h2 hc2 hk1 hk2 H1 C1 H
      go_wp2_with (first
        | (at_range; refine wpList_range_own _ rfl _ 62 rfl 26 75 law64 Try.underlying62 _ m2.kb q.n _ rfl HK1.out ?_; intro w0 hrg0 hg0 hs0)
        | go_in)
      try go_frame
      go_loopw [4] (fun _ wr => ∃ (left : Lit → Bool) (cnt : Nat) (D : DataW Unit), wr.ranges Try.prog 26 oneElem m2.kb wc.heap.size q.n D left cnt ∧ Kept D (q.l.filter fun h => decide (f ≤ h.pn) || up64 left h.pn) ∧ Chg (fun j => j = m2.kb) wc wr)
        (fun _ wr => wr.rangeLeft m2.kb wc.heap.size)
      case atStart =>
        refine ⟨_, _, D0, hrg0, ?_, (Chg.refl _ _).grown hg0 (by simp)⟩
        rw [List.filter_eq_self.2 (fun h hh => by simp [up64, HK2.out.has hh])]
        exact HK2.out
      case round =>
        obtain ⟨left, cnt, D, hrg, hkp2, hC⟩ := hrel
        have KP := Lib.hid hkp2
        clear hkp2
        go_wp2_with (first
          | (at_next; refine wpList_next_kept _ rfl _ rfl law64 Try.underlying26 m2.kb wc.heap.size q.n _ _ _ _ KP.out rfl hrg ?_ ?_)
          | go_in)
        · intro hl0
          go_wp2
          go_end0
          have HL := Lib.hid hl0
          refine ⟨rfl, ⟨m2, ?_⟩, ?_⟩
          · rw [e1.out]
            refine H2.out.remap hC ⟨D, hrg.owns, ?_⟩ rfl rfl rfl rfl rfl
            have := KP.out
            simpa [HL.out] using this
          · exact C2.out.step hC (fun i _ hi => by subst hi; exact hFk)
        · intro k w1 left1 cnt1 hkL hkL2 hku hlk hrg1 hl1 hlt hg1 hs1 hen
          have hC1 := hC.grown hg1 (fun j hj => by cases hj; exact Or.inr (Nat.le_refl _))
          have HL1 := Lib.hid hl1
          have hp1 : w1.cell? ⟨p, 6, none⟩ = some (.map (some m2.kb)) := hC1.cell t6 (fun e => hkp e.symm)
          by_cases hlt2 : k.pn < f
          · have d1 : decide (k.pn < f) = true := decide_eq_true hlt2
            go_wp2_with (first
              | (at_delete; refine wpList_delete_ranges _ rfl _ _ 62 26 rfl 75 law64 Try.underlying62 _ m2.kb wc.heap.size q.n _ _ _ rfl hrg1 _ _ rfl (key64 hku) ?_; intro w2 cnt2 hrg2 hle hturn; try go_frame)
              | go_in)
            go_roundw
            case rel =>
              refine ⟨_, cnt2, _, hrg2, ?_, hC1.grown hturn.grown (fun j hj => by cases hj; exact Or.inl rfl)⟩
              refine Kept.del (g := fun x => decide (f ≤ x) || up64 left x) (g' := fun x => decide (f ≤ x) || up64 (fun z => left1 z && !z.sameKey (.int .u64 k.pn)) x) KP.out k.pn (fun y hy => ?_) ?_
              · have e2 := HL1.out y
                unfold up64 at e2 ⊢
                simp only [e2, same64, decide_eq_false hy, Bool.not_false, Bool.and_true]
              · have e3 : decide (f ≤ k.pn) = false := decide_eq_false (by omega)
                unfold up64
                simp only [same64, e3, decide_true, Bool.not_true, Bool.and_false, Bool.or_false]
            case measure => rw [hrg2.left_eq, hrg.left_eq]; omega
          · have d1 : decide (k.pn < f) = false := decide_eq_false hlt2
            go_wp2
            go_roundw
            case rel =>
              refine ⟨_, cnt1, D, hrg1, ?_, hC1⟩
              have e4 : (q.l.filter fun h => decide (f ≤ h.pn) || up64 left1 h.pn) = q.l.filter fun h => decide (f ≤ h.pn) || up64 left h.pn := by
                refine List.filter_congr fun h hh => ?_
                rw [HL1.out]
                by_cases e5 : h.pn = k.pn
                · have e6 : decide (f ≤ h.pn) = true := decide_eq_true (by omega)
                  rw [e6]; simp
                · rw [decide_eq_false e5]; simp
              rw [e4]
              exact KP.out
            case measure => rw [hrg1.left_eq, hrg.left_eq]; exact hlt
end Go.Proofs.Ytkedfipeebjcjaa
