/-
  trigger.Look: which number an acknowledgment names. · The reference's Look. · Plain law of the trigger: what is named is there, unused, and named once. · What an acknowledgment names hangs on its rows and its trigger alone. · A pair of ledgers in a box: the program's alone. · Four drawn numbers. · law13.Ask: an acknowledgment of drawn numbers. · A pair of ledgers in a box: each of the two.
-/
import Derived.Test.YtkedfipeebjcjaaAck
import Derived.Test.YtkedfipeebjcjaaDo
import Derived.Test.YtkedfipeebjcjaaBytes
import Derived.Test.YtkedfipeebjcjaaBase
namespace Go.Proofs.Ytkedfipeebjcjaa
set_option linter.unusedSimpArgs false
set_option linter.unusedVariables false
set_option linter.unnecessarySimpa false
open Go.RowKit

def Ak.named (a : Ak) (x : Snt) : Bool := !decide (x.state = 4) && !x.used && decide (x.nonce = a.tr) && hasP a.sp x.pn
def Ak.look1 (a : Ak) (l : List Snt) : Int × Int := match l with
  | [] => (0, 3)
  | x :: r => if a.named x = true then (x.pn, 0) else a.look1 r
def Ak.lo (a : Ak) : Int := (a.sp.headD (0, 0)).1
def Ak.look (a : Ak) (s : LS) : Int × Int := if mayB a.sp a.mm = false then (0, 1) else if a.lo < s.low then (0, 2) else a.look1 s.kept
theorem Ak.look_may {a : Ak} {s : LS} (h : mayB a.sp a.mm = false) : a.look s = (0, 1) := by unfold Ak.look; rw [if_pos h]
theorem Ak.look_low {a : Ak} {s : LS} (h : mayB a.sp a.mm = true) (h1 : a.lo < s.low) : a.look s = (0, 2) := by unfold Ak.look; rw [if_neg (by simp [h]), if_pos h1]
theorem Ak.look_go {a : Ak} {s : LS} (h : mayB a.sp a.mm = true) (h1 : ¬ a.lo < s.low) : a.look s = a.look1 s.kept := by unfold Ak.look; rw [if_neg (by simp [h]), if_neg h1]
theorem Ak.look1_yes {a : Ak} {l : List Snt} {k : Nat} (hk : k < l.length) (h : a.named l[k] = true) : a.look1 (l.drop k) = (l[k].pn, 0) := by
  rw [List.drop_eq_getElem_cons hk]; simp [Ak.look1, h]
theorem Ak.look1_no {a : Ak} {l : List Snt} {k : Nat} (hk : k < l.length) (h : a.named l[k] = false) : a.look1 (l.drop k) = a.look1 (l.drop (k + 1)) := by
  rw [List.drop_eq_getElem_cons hk]; simp [Ak.look1, h]
theorem Ak.look1_end (a : Ak) (l : List Snt) : a.look1 (l.drop l.length) = (0, 3) := by simp [Ak.look1]
theorem mayB_true {sp mk : List Sp} (h : mayB sp mk = true) : MayP sp mk := of_decide_eq_true h
theorem named_no1 (a : Ak) (x : Snt) (h : x.state = 4) : a.named x = false := by simp [Ak.named, h]
theorem named_no2 (a : Ak) (x : Snt) (h : x.used = true) : a.named x = false := by simp [Ak.named, h]
theorem named_no3 (a : Ak) (x : Snt) (h : x.nonce ≠ a.tr) : a.named x = false := by simp [Ak.named, h]
theorem named_has (a : Ak) (x : Snt) (h1 : x.state ≠ 4) (h2 : x.used = false) (h3 : x.nonce = a.tr) : a.named x = hasP a.sp x.pn := by simp [Ak.named, h1, h2, h3]

structure LookRel (w : World) (a : Ak) (g : Nat) (A : Option Addr) (c : Nat) (l : List Snt) (k : Nat) (r : Int × Int) (wr : World) : Prop where
  p : AkBox w a g wr
  all : Rd wr 8 A l.length c (Sns l)
  res : r = a.look1 (l.drop k)
theorem LookRel.below {w wr wr' : World} {a : Ak} {g c k : Nat} {A : Option Addr} {l : List Snt} {r : Int × Int} (h : LookRel w a g A c l k r wr) (b : Below wr.heap.size wr wr') : LookRel w a g A c l k r wr' :=
  ⟨h.p.below b, h.all.below b, h.res⟩

end Go.Proofs.Ytkedfipeebjcjaa

namespace Go.Proofs.Ytkedfipeebjcjaa
set_option linter.unusedSimpArgs false
set_option linter.unusedVariables false
set_option linter.unnecessarySimpa false
open Go.RowKit

end Go.Proofs.Ytkedfipeebjcjaa

namespace Go.Proofs.Ytkedfipeebjcjaa
set_option linter.unusedSimpArgs false
set_option linter.unusedVariables false
set_option linter.unnecessarySimpa false
open Go.RowKit

theorem Ak.look1_spec (a : Ak) (l : List Snt) : (a.look1 l = (0, 3) ∧ ∀ x ∈ l, a.named x = false) ∨
    ∃ i, ∃ h : i < l.length, a.named l[i] = true ∧ (∀ j, (hj : j < i) → a.named (l[j]'(Nat.lt_trans hj h)) = false) ∧ a.look1 l = (l[i].pn, 0) := by
  induction l with
  | nil => exact .inl ⟨rfl, fun x hx => by cases hx⟩
  | cons x r ih =>
    by_cases hx : a.named x = true
    · exact .inr ⟨0, by simp, hx, fun j hj => absurd hj (by omega), by simp [Ak.look1, hx]⟩
    · rcases ih with ⟨h1, h2⟩ | ⟨i, h, h1, h2, h3⟩
      · refine .inl ⟨by simp [Ak.look1, hx, h1], fun y hy => ?_⟩
        rcases List.mem_cons.1 hy with rfl | hy
        · simpa using hx
        · exact h2 y hy
      · refine .inr ⟨i + 1, by simpa using h, by simpa using h1, fun j hj => ?_, by simp [Ak.look1, hx, h3]⟩
        cases j with
        | zero => simpa using hx
        | succ j => simpa using h2 j (by omega)

theorem Ak.look_cases (a : Ak) (s : LS) : (a.look s).2 = 0 ∨ ((a.look s).1 = 0 ∧ ((a.look s).2 = 1 ∧ mayB a.sp a.mm = false ∨ (a.look s).2 = 2 ∧ a.lo < s.low ∨ (a.look s).2 = 3)) := by
  unfold Ak.look
  split
  · rename_i h; exact .inr ⟨rfl, .inl ⟨rfl, h⟩⟩
  · split
    · rename_i h; exact .inr ⟨rfl, .inr (.inl ⟨rfl, h⟩)⟩
    · rcases a.look1_spec s.kept with ⟨h1, -⟩ | ⟨i, h, h1, h2, h3⟩
      · rw [h1]; exact .inr ⟨rfl, .inr (.inr rfl)⟩
      · rw [h3]; exact .inl rfl

theorem Ak.look_low_ne (a : Ak) {s : LS} (h : (a.look s).2 = 0) : ¬ a.lo < s.low := by
  unfold Ak.look at h
  split at h
  · cases h
  · split at h
    · cases h
    · assumption

/-- What is named is there. -/
theorem Ak.look_there (a : Ak) {s : LS} (g : s.Good) (h : (a.look s).2 = 0) :
    s.has (a.look s).1 ∧ a.named (s.at' (a.look s).1) = true ∧ ∀ x ∈ s.kept, x.pn < (a.look s).1 → a.named x = false := by
  unfold Ak.look at h ⊢
  split at h
  · cases h
  · rename_i h1
    split at h
    · cases h
    · rename_i h2
      rw [if_neg h1, if_neg h2]
      rcases a.look1_spec s.kept with ⟨h3, -⟩ | ⟨i, hi, h3, h4, h5⟩
      · rw [h3] at h; cases h
      · rw [h5]
        have e := g.keptPn hi
        have hl : s.low + i < s.all.length := by simp [LS.kept] at hi; omega
        have hh : s.has s.kept[i].pn := by rw [e]; exact ⟨by omega, by omega⟩
        refine ⟨hh, ?_, fun x hx hlt => ?_⟩
        · rw [LS.at'_eq hh]
          have : s.kept[i].pn.toNat = s.low + i := by omega
          rw [LS.kept_get] at h3
          simpa only [this] using h3
        · obtain ⟨j, hj, rfl⟩ := List.mem_iff_getElem.1 hx
          have := g.keptPn hj
          exact h4 j (by omega)

theorem Ak.named_parts {a : Ak} {x : Snt} (h : a.named x = true) : x.state ≠ 4 ∧ x.used = false ∧ x.nonce = a.tr ∧ hasP a.sp x.pn = true := by
  simp [Ak.named] at h
  exact ⟨h.1.1.1, h.1.1.2, h.1.2, h.2⟩
theorem Ak.look_mayUse (a : Ak) {s : LS} (g : s.Good) (h : (a.look s).2 = 0) : s.mayUse (a.look s).1 := by
  obtain ⟨h1, h2, -⟩ := a.look_there g h
  obtain ⟨h3, h4, -⟩ := a.named_parts h2
  exact ⟨h1, h3, h4⟩

/-- No number below q is named. -/
def Ak.none (a : Ak) (s : LS) (q : Int) : Prop := ∀ x ∈ s.kept, x.pn < q → a.named x = false
structure Ak.Once (a : Ak) (s0 s : LS) (k : Nat) (q : Int) : Prop where
  len : s.all.length = s0.all.length
  ring : s.ring = s0.ring
  lo : (s.low : Int) + k ≤ q
  hi : q ≤ s.all.length
  no : a.none s q
  low : 0 < k → ¬ a.lo < s.low
theorem Ak.Once.zero (a : Ak) {s : LS} (g : s.Good) : a.Once s s 0 s.low := by
  refine ⟨rfl, rfl, by simp, by have := s.low_le; omega, fun x hx h => ?_, fun h => absurd h (by omega)⟩
  obtain ⟨j, hj, rfl⟩ := List.mem_iff_getElem.1 hx
  have := g.keptPn hj
  omega
theorem Ak.Once.step {a : Ak} {s0 s : LS} {k : Nat} {q : Int} (o : a.Once s0 s k q) (g : s.Good) (h : (a.look s).2 = 0) :
    q ≤ (a.look s).1 ∧ (s.use (a.look s).1).2 = true ∧ a.Once s0 (s.use (a.look s).1).1 (k + 1) ((a.look s).1 + 1) := by
  obtain ⟨h1, h2, h3⟩ := a.look_there g h
  have hm := a.look_mayUse g h
  have hlow := a.look_low_ne h
  generalize (a.look s).1 = p at *
  obtain ⟨b1, b2, b3⟩ := LS.has_lt h1
  obtain ⟨hk, e⟩ := s.kept_at h1
  have hq : q ≤ p := by
    apply Int.not_lt.1
    intro hlt
    have := o.no _ (List.getElem_mem hk) (by rw [e, (g.at' h1).2.1]; exact hlt)
    rw [e, h2] at this
    cases this
  have ol := o.lo
  unfold LS.use
  rw [if_pos hm]
  refine ⟨hq, rfl, ?_⟩
  have el : (s.put p { s.at' p with used := true }).low = s.low := by simp [LS.put, LS.low]
  have en : (s.put p { s.at' p with used := true }).all.length = s.all.length := by simp [LS.put]
  refine ⟨en.trans o.len, o.ring, ?_, ?_, ?_, fun _ => ?_⟩
  · show (((s.put p { s.at' p with used := true }).low : Int)) + ((k + 1 : Nat) : Int) ≤ p + 1
    rw [el]; push_cast; omega
  · show p + 1 ≤ ((s.put p { s.at' p with used := true }).all.length : Int)
    rw [en]; omega
  · intro x hx hlt
    rw [LS.put_kept s h1] at hx
    obtain ⟨j, hj, rfl⟩ := List.mem_iff_getElem.1 hx
    rw [List.getElem_set] at hlt ⊢
    simp only [List.length_set] at hj
    split
    · simp [Ak.named]
    · rename_i hne
      rw [if_neg hne] at hlt
      have := g.keptPn hj
      exact h3 _ (List.getElem_mem hj) (by omega)
  · show ¬ a.lo < ((s.put p { s.at' p with used := true }).low : Int)
    rw [el]; exact hlow
theorem Ak.Once.few {a : Ak} {s0 s : LS} {k : Nat} {q : Int} (o : a.Once s0 s k q) : k ≤ s0.ring := by
  have h1 := o.lo
  have h2 := o.hi
  have h3 := o.ring
  have h4 : s.low = s.all.length - s.ring := rfl
  omega

/-- No nonce, no name. -/
theorem Ak.look_none (a : Ak) (s : LS) (h : ∀ x ∈ s.kept, a.named x = false) : (a.look s).1 = 0 ∧ (a.look s).2 ≠ 0 := by
  rcases a.look_cases s with h0 | ⟨h1, h2⟩
  · exfalso
    unfold Ak.look at h0
    split at h0
    · cases h0
    · split at h0
      · cases h0
      · rcases a.look1_spec s.kept with ⟨h3, -⟩ | ⟨i, hi, h3, h4, h5⟩
        · rw [h3] at h0; cases h0
        · rw [h _ (List.getElem_mem hi)] at h3; cases h3
  · exact ⟨h1, by rcases h2 with h2 | h2 | h2 <;> omega⟩
theorem named_tr {a : Ak} {x : Snt} (h : ¬ (x.nonce = a.tr ∧ x.used = false ∧ x.state ≠ 4)) : a.named x = false := by
  cases hn : a.named x with
  | false => rfl
  | true => obtain ⟨h1, h2, h3, -⟩ := a.named_parts hn; exact absurd ⟨h3, h2, h1⟩ h
theorem Ak.look_u64 (a : Ak) {s : LS} (g : s.Good) : isU64 (a.look s).1 := by
  rcases a.look_cases s with h0 | ⟨h1, -⟩
  · obtain ⟨h1, -⟩ := a.look_there g h0
    have := (LS.has_lt h1).1
    have := g.len
    have := g.lim1
    have h2 := h1.2
    have h3 := h1.1
    constructor <;> omega
  · rw [h1]; constructor <;> omega

end Go.Proofs.Ytkedfipeebjcjaa

namespace Go.Proofs.Ytkedfipeebjcjaa
set_option linter.unusedSimpArgs false
set_option linter.unusedVariables false
set_option linter.unnecessarySimpa false
open Go.RowKit

theorem Ak.look1_congr {a b : Ak} (h1 : a.sp = b.sp) (h3 : a.tr = b.tr) (l : List Snt) : a.look1 l = b.look1 l := by
  induction l with
  | nil => rfl
  | cons x r ih => simp [Ak.look1, Ak.named, h1, h3, ih]
theorem Ak.look_congr {a b : Ak} (h1 : a.sp = b.sp) (h2 : a.mm = b.mm) (h3 : a.tr = b.tr) (s : LS) : a.look s = b.look s := by
  simp [Ak.look, Ak.lo, h1, h2, Ak.look1_congr h1 h3]

end Go.Proofs.Ytkedfipeebjcjaa

namespace Go.Proofs.Ytkedfipeebjcjaa
set_option linter.unusedSimpArgs false
set_option linter.unusedVariables false
set_option linter.unnecessarySimpa false
open Go.RowKit

theorem LS.eq_new {s : LS} {ring limit : Int} (h1 : s.ring = (LS.new ring limit).ring) (h2 : s.limit = (LS.new ring limit).limit) (h3 : s.all.length ≤ ([] : List Dd).length) : s = LS.new ring limit := by
  cases s
  simp at h1 h2 h3
  simp [h1, h2, h3, LS.new]
theorem Rd.lit_at (w : World) (size : Nat) (cs : Array Value) (t : TypeId) (n : Nat) (xs : List Value) (g : Nat) (hg : g = w.heap.size) (hx : cs.toList = xs) (hs : xs.length = n * size) (hn : n ≤ maxLen) :
    Rd (w.alloc (.cells cs t)) size (some ⟨g, 0, none⟩) n n xs := by
  subst hg
  exact Rd.lit w size cs t n xs hx hs hn

end Go.Proofs.Ytkedfipeebjcjaa

namespace Go.Proofs.Ytkedfipeebjcjaa
set_option linter.unusedSimpArgs false
set_option linter.unusedVariables false
set_option linter.unnecessarySimpa false
open Go.RowKit

structure W4 where
  a : Int
  b : Int
  c : Int
  d : Int
def W4.cells (k : W4) : Array Value := #[.int .u16 k.a, .int .u16 k.b, .int .u16 k.c, .int .u16 k.d]
def W4.val (k : W4) : Value := .agg k.cells
structure W4.ok (k : W4) : Prop where
  a : 0 ≤ k.a ∧ k.a ≤ 65535
  b : 0 ≤ k.b ∧ k.b ≤ 65535
  c : 0 ≤ k.c ∧ k.c ≤ 65535
  d : 0 ≤ k.d ∧ k.d ≤ 65535

end Go.Proofs.Ytkedfipeebjcjaa

namespace Go.Proofs.Ytkedfipeebjcjaa
set_option linter.unusedSimpArgs false
set_option linter.unusedVariables false
set_option linter.unnecessarySimpa false
open Go.RowKit

theorem infoAck : (Try.prog.info? 48).map (·.size) = some 5 := by kernel_rfl

/-- What is asked may be: one span or two, none marked. -/
structure Asked (a : Ak) : Prop where
  good : Good a.sp
  one : 1 ≤ a.sp.length
  two : a.sp.length ≤ 2
  mm : a.mm = []
theorem Asked.may {a : Ak} (h : Asked a) : MayP a.sp a.mm := by
  have := h.one
  have := h.two
  rw [h.mm]
  exact ⟨⟨by omega, by omega, by simp⟩, h.good, (fun i hi => by simp at hi), (fun s hs => by cases hs)⟩
theorem asked1 {lo hi : Int} (h : IsSpan (lo, hi)) : Good [(lo, hi)] := fun i hi' => by
  obtain rfl : i = 0 := by simpa using hi'
  exact ⟨h, fun e => absurd e (by omega)⟩
theorem asked2 {lo hi y z : Int} (h1 : IsSpan (lo, hi)) (h2 : IsSpan (y, z)) (h : hi + 1 < y) : Good [(lo, hi), (y, z)] := by
  intro i hi'
  have : i = 0 ∨ i = 1 := by simp at hi'; omega
  rcases this with rfl | rfl
  · exact ⟨h1, fun e => absurd e (by omega)⟩
  · exact ⟨h2, fun _ => h⟩

theorem Rd.set_ {w : World} {size n c : Nat} {A : Option Addr} {xs : List Value} (h : Rd w size A n c xs) {z : Nat} (i : Nat) (v : Value) (hne : ∀ b off, A = some ⟨b, off, none⟩ → b ≠ z) : Rd (w.setCell ⟨z, i, none⟩ v) size A n c xs :=
  ⟨h.len, h.cap, h.max, fun hn => by
    obtain ⟨b, off, e, hc⟩ := h.on_ hn
    refine ⟨b, off, e, fun j u hu => ?_⟩
    rw [World.cell?_of_block (Below.heap_setCell _ _ _ _ (fun e' => hne b off e (by first | exact e' | exact e'.symm)))]
    exact hc j u hu⟩
theorem AkR.set_ {w : World} {a : Ak} (h : AkR w a) {z : Nat} (i : Nat) (v : Value) (h1 : ∀ b off, a.A = some ⟨b, off, none⟩ ∨ a.B = some ⟨b, off, none⟩ → b ≠ z) : AkR (w.setCell ⟨z, i, none⟩ v) a :=
  ⟨h.rs.set_ i v (fun b off e => h1 b off (.inl e)), h.rm.set_ i v (fun b off e => h1 b off (.inr e)), h.us, h.um, h.ut, h.ux⟩

end Go.Proofs.Ytkedfipeebjcjaa

namespace Go.Proofs.Ytkedfipeebjcjaa
set_option linter.unusedSimpArgs false
set_option linter.unusedVariables false
set_option linter.unnecessarySimpa false
open Go.RowKit

end Go.Proofs.Ytkedfipeebjcjaa
