/-
  Part of the proof of EngineNumbers.
-/
import Derived.Test.YtpkbimmhimgamaaGreatPAE
import Derived.Test.YtpkbimmhimgamaaGreatPAA
import Derived.Test.YtpkbimmhimgamaaGreatPAB
import Derived.Test.YtpkbimmhimgamaaGreatBit
import Derived.Lib.ItoaNum
import Derived.Laws.Bits64b
namespace Go.Proofs.YtpkbimmhimgamaaGreat
set_option linter.unusedSimpArgs false
set_option linter.unusedVariables false
set_option linter.unnecessarySimpa false
open Go.RowKit
def Ak.named (a : Ak) (x : Snt) : Bool := !decide (x.state = 4) && !x.used && decide (x.nonce = a.tr) && hasP a.sp x.pn
def Ak.look1 (a : Ak) (l : List Snt) : Int × Int := match l with
  | [] => (0, 3)
  | x :: r => if a.named x = true then (x.pn, 0) else a.look1 r
def Ak.lo (a : Ak) : Int := (a.sp.headD (0, 0)).1
def Ak.look (a : Ak) (s : LS) : Int × Int := if mayB a.sp a.mm = false then (0, 1) else if a.lo < s.low then (0, 2) else a.look1 s.kept
structure LookRel (w : World) (a : Ak) (g : Nat) (A : Option Addr) (c : Nat) (l : List Snt) (k : Nat) (r : Int × Int) (wr : World) : Prop where
  p : AkBox w a g wr
  all : Rd wr 8 A l.length c (Sns l)
  res : r = a.look1 (l.drop k)
theorem LookRel.below {w wr wr' : World} {a : Ak} {g c k : Nat} {A : Option Addr} {l : List Snt} {r : Int × Int} (h : LookRel w a g A c l k r wr) (b : Below wr.heap.size wr wr') : LookRel w a g A c l k r wr' :=
  ⟨h.p.below b, h.all.below b, h.res⟩

end Go.Proofs.YtpkbimmhimgamaaGreat
namespace Go.Proofs.YtpkbimmhimgamaaGreat
set_option linter.unusedSimpArgs false
set_option linter.unusedVariables false
set_option linter.unnecessarySimpa false
open Go.RowKit
structure LookRelR (w : World) (F : Nat → Prop) (b : Nat) (s : LS) (a : Ak) (g : Nat) (k : Nat) (r : Int × Int) (wr : World) : Prop where
  p : AkBox w a g wr
  led : LedR wr F b s
  res : r = a.look1 (s.kept.drop k)
theorem LookRelR.below {w wr wr' : World} {F : Nat → Prop} {b : Nat} {s : LS} {a : Ak} {g k : Nat} {r : Int × Int} (h : LookRelR w F b s a g k r wr) (b' : Below wr.heap.size wr wr') : LookRelR w F b s a g k r wr' :=
  ⟨h.p.below b', h.led.below b', h.res⟩

end Go.Proofs.YtpkbimmhimgamaaGreat
namespace Go.Proofs.YtpkbimmhimgamaaGreat
set_option linter.unusedSimpArgs false
set_option linter.unusedVariables false
set_option linter.unnecessarySimpa false
open Go.RowKit
theorem Ak.look1_spec (a : Ak) (l : List Snt) : (a.look1 l = (0, 3) ∧ ∀ x ∈ l, a.named x = false) ∨
    ∃ i, ∃ h : i < l.length, a.named l[i] = true ∧ (∀ j, (hj : j < i) → a.named (l[j]'(Nat.lt_trans hj h)) = false) ∧ a.look1 l = (l[i].pn, 0) := by
  induction l with
  | nil => exact .inl ⟨rfl, fun x hx => by cases hx⟩
  | cons x r ih =>
    by_cases hx : a.named x = true
    · exact .inr ⟨0, by simp, hx, fun j hj => absurd hj (by omega), by simp [Ak.look1, hx]⟩
    · rcases ih with ⟨h1, h2⟩ | ⟨i, h, h1, h2, h3⟩
      · refine .inl ⟨by simp [Ak.look1, hx, h1], fun y hy => ?_⟩
        rcases List.mem_cons.1 hy with rfl | hy
        · simpa using hx
        · exact h2 y hy
      · refine .inr ⟨i + 1, by simpa using h, by simpa using h1, fun j hj => ?_, by simp [Ak.look1, hx, h3]⟩
        cases j with
        | zero => simpa using hx
        | succ j => simpa using h2 j (by omega)

theorem Ak.look_low_ne (a : Ak) {s : LS} (h : (a.look s).2 = 0) : ¬ a.lo < s.low := by
  unfold Ak.look at h
  split at h
  · cases h
  · split at h
    · cases h
    · assumption

/-- What is named is there. -/
theorem Ak.look_there (a : Ak) {s : LS} (g : s.Good) (h : (a.look s).2 = 0) :
    s.has (a.look s).1 ∧ a.named (s.at' (a.look s).1) = true ∧ ∀ x ∈ s.kept, x.pn < (a.look s).1 → a.named x = false := by
  unfold Ak.look at h ⊢
  split at h
  · cases h
  · rename_i h1
    split at h
    · cases h
    · rename_i h2
      rw [if_neg h1, if_neg h2]
      rcases a.look1_spec s.kept with ⟨h3, -⟩ | ⟨i, hi, h3, h4, h5⟩
      · rw [h3] at h; cases h
      · rw [h5]
        have e := g.keptPn hi
        have hl : s.low + i < s.all.length := by simp [LS.kept] at hi; omega
        have hh : s.has s.kept[i].pn := by rw [e]; exact ⟨by omega, by omega⟩
        refine ⟨hh, ?_, fun x hx hlt => ?_⟩
        · rw [LS.at'_eq hh]
          have : s.kept[i].pn.toNat = s.low + i := by omega
          rw [LS.kept_get] at h3
          simpa only [this] using h3
        · obtain ⟨j, hj, rfl⟩ := List.mem_iff_getElem.1 hx
          have := g.keptPn hj
          exact h4 j (by omega)

theorem Ak.named_parts {a : Ak} {x : Snt} (h : a.named x = true) : x.state ≠ 4 ∧ x.used = false ∧ x.nonce = a.tr ∧ hasP a.sp x.pn = true := by
  simp [Ak.named] at h
  exact ⟨h.1.1.1, h.1.1.2, h.1.2, h.2⟩
theorem Ak.look_mayUse (a : Ak) {s : LS} (g : s.Good) (h : (a.look s).2 = 0) : s.mayUse (a.look s).1 := by
  obtain ⟨h1, h2, -⟩ := a.look_there g h
  obtain ⟨h3, h4, -⟩ := a.named_parts h2
  exact ⟨h1, h3, h4⟩

/-- No number below q is named. -/
def Ak.none (a : Ak) (s : LS) (q : Int) : Prop := ∀ x ∈ s.kept, x.pn < q → a.named x = false
structure Ak.Once (a : Ak) (s0 s : LS) (k : Nat) (q : Int) : Prop where
  len : s.all.length = s0.all.length
  ring : s.ring = s0.ring
  lo : (s.low : Int) + k ≤ q
  hi : q ≤ s.all.length
  no : a.none s q
  low : 0 < k → ¬ a.lo < s.low
theorem Ak.Once.zero (a : Ak) {s : LS} (g : s.Good) : a.Once s s 0 s.low := by
  refine ⟨rfl, rfl, by simp, by have := s.low_le; omega, fun x hx h => ?_, fun h => absurd h (by omega)⟩
  obtain ⟨j, hj, rfl⟩ := List.mem_iff_getElem.1 hx
  have := g.keptPn hj
  omega
theorem Ak.Once.step {a : Ak} {s0 s : LS} {k : Nat} {q : Int} (o : a.Once s0 s k q) (g : s.Good) (h : (a.look s).2 = 0) :
    q ≤ (a.look s).1 ∧ (s.use (a.look s).1).2 = true ∧ a.Once s0 (s.use (a.look s).1).1 (k + 1) ((a.look s).1 + 1) := by
  obtain ⟨h1, h2, h3⟩ := a.look_there g h
  have hm := a.look_mayUse g h
  have hlow := a.look_low_ne h
  generalize (a.look s).1 = p at *
  obtain ⟨b1, b2, b3⟩ := LS.has_lt h1
  obtain ⟨hk, e⟩ := s.kept_at h1
  have hq : q ≤ p := by
    apply Int.not_lt.1
    intro hlt
    have := o.no _ (List.getElem_mem hk) (by rw [e, (g.at' h1).2.1]; exact hlt)
    rw [e, h2] at this
    cases this
  have ol := o.lo
  unfold LS.use
  rw [if_pos hm]
  refine ⟨hq, rfl, ?_⟩
  have el : (s.put p { s.at' p with used := true }).low = s.low := by simp [LS.put, LS.low]
  have en : (s.put p { s.at' p with used := true }).all.length = s.all.length := by simp [LS.put]
  refine ⟨en.trans o.len, o.ring, ?_, ?_, ?_, fun _ => ?_⟩
  · show (((s.put p { s.at' p with used := true }).low : Int)) + ((k + 1 : Nat) : Int) ≤ p + 1
    rw [el]; push_cast; omega
  · show p + 1 ≤ ((s.put p { s.at' p with used := true }).all.length : Int)
    rw [en]; omega
  · intro x hx hlt
    rw [LS.put_kept s h1] at hx
    obtain ⟨j, hj, rfl⟩ := List.mem_iff_getElem.1 hx
    rw [List.getElem_set] at hlt ⊢
    simp only [List.length_set] at hj
    split
    · simp [Ak.named]
    · rename_i hne
      rw [if_neg hne] at hlt
      have := g.keptPn hj
      exact h3 _ (List.getElem_mem hj) (by omega)
  · show ¬ a.lo < ((s.put p { s.at' p with used := true }).low : Int)
    rw [el]; exact hlow
theorem Ak.Once.few {a : Ak} {s0 s : LS} {k : Nat} {q : Int} (o : a.Once s0 s k q) : k ≤ s0.ring := by
  have h1 := o.lo
  have h2 := o.hi
  have h3 := o.ring
  have h4 : s.low = s.all.length - s.ring := rfl
  omega

end Go.Proofs.YtpkbimmhimgamaaGreat
namespace Go.Proofs.YtpkbimmhimgamaaGreat
set_option linter.unusedSimpArgs false
set_option linter.unusedVariables false
set_option linter.unnecessarySimpa false
open Go.RowKit
theorem Ak.look1_congr {a b : Ak} (h1 : a.sp = b.sp) (h3 : a.tr = b.tr) (l : List Snt) : a.look1 l = b.look1 l := by
  induction l with
  | nil => rfl
  | cons x r ih => simp [Ak.look1, Ak.named, h1, h3, ih]
theorem Ak.look_congr {a b : Ak} (h1 : a.sp = b.sp) (h2 : a.mm = b.mm) (h3 : a.tr = b.tr) (s : LS) : a.look s = b.look s := by
  simp [Ak.look, Ak.lo, h1, h2, Ak.look1_congr h1 h3]

end Go.Proofs.YtpkbimmhimgamaaGreat
namespace Go.Proofs.YtpkbimmhimgamaaGreat
set_option linter.unusedSimpArgs false
set_option linter.unusedVariables false
set_option linter.unnecessarySimpa false
open Go.RowKit
/-- As PB, where the ledger may grow. -/
structure PG (w : World) (p r g : Nat) (s : LS) (v : World) : Prop where
  led : LedP v (But w g) p s
  t : v.heap[g]? = some (.cells #[.pointer (some ⟨p, 0, none⟩), .pointer (some ⟨r, 0, none⟩)] 101 (0, 0))
  ge : w.heap.size ≤ g
  bel : Below w.heap.size w v
theorem PG.below {w v v' : World} {p r g : Nat} {s : LS} (h : PG w p r g s v) (b : Below v.heap.size v v') : PG w p r g s v' :=
  ⟨h.led.below b, (b.block _ (lt_of_block h.t)).trans h.t, h.ge, h.bel.trans (b.mono h.bel.size)⟩
theorem PG.step {w v v' : World} {p r g : Nat} {s s' : LS} (h : PG w p r g s v) (hL : LedP v' (Grow (But w g) v) p s') (hC : Chg (But w g) v v') : PG w p r g s' v' := by
  have hg := lt_of_block h.t
  refine ⟨hL.sub (fun j _ hj => ?_), hC.blk h.t (fun e => e.2 rfl), h.ge, h.bel.trans (hC.below h.bel.size (fun k hk e => by have := e.1; omega))⟩
  rcases hj with hj | hj
  · exact hj
  · have := h.bel.size
    exact ⟨by omega, by omega⟩
theorem PG.of {w w1 : World} {p r : Nat} {s : LS} (hT : Two w1 (fun j => w.heap.size ≤ j) p r s) (hb : Below w.heap.size w w1) :
    PG w p r w1.heap.size s (w1.alloc (.cells #[.pointer (some ⟨p, 0, none⟩), .pointer (some ⟨r, 0, none⟩)] 101)) := by
  obtain ⟨G, H, hP, hF⟩ := hT
  have eb := box_below w1 (.cells #[.pointer (some ⟨p, 0, none⟩), .pointer (some ⟨r, 0, none⟩)] 101)
  exact ⟨(hP.p.below eb).sub (fun k hk hg => ⟨(hF k (.inl hg)).1, by have := (hF k (.inl hg)).2; omega⟩), heap_alloc_new w1 _, hb.size, hb.trans (eb.mono hb.size)⟩

theorem Rd.lit_at (w : World) (size : Nat) (cs : Array Value) (t : TypeId) (n : Nat) (xs : List Value) (g : Nat) (hg : g = w.heap.size) (hx : cs.toList = xs) (hs : xs.length = n * size) (hn : n ≤ maxLen) :
    Rd (w.alloc (.cells cs t)) size (some ⟨g, 0, none⟩) n n xs := by
  subst hg
  exact Rd.lit w size cs t n xs hx hs hn

end Go.Proofs.YtpkbimmhimgamaaGreat
namespace Go.Proofs.YtpkbimmhimgamaaGreat
set_option linter.unusedSimpArgs false
set_option linter.unusedVariables false
set_option linter.unnecessarySimpa false
open Go.RowKit
structure W4 where
  a : Int
  b : Int
  c : Int
  d : Int
def W4.cells (k : W4) : Array Value := #[.int .u16 k.a, .int .u16 k.b, .int .u16 k.c, .int .u16 k.d]
def W4.val (k : W4) : Value := .agg k.cells
structure W4.ok (k : W4) : Prop where
  a : 0 ≤ k.a ∧ k.a ≤ 65535
  b : 0 ≤ k.b ∧ k.b ≤ 65535
  c : 0 ≤ k.c ∧ k.c ≤ 65535
  d : 0 ≤ k.d ∧ k.d ≤ 65535

end Go.Proofs.YtpkbimmhimgamaaGreat
namespace Go.Proofs.YtpkbimmhimgamaaGreat
set_option linter.unusedSimpArgs false
set_option linter.unusedVariables false
set_option linter.unnecessarySimpa false
open Go.RowKit
/-- The reference's ledger, in blocks of F. -/
def TwoR (w : World) (F : Nat → Prop) (_p r : Nat) (s : LS) : Prop := ∃ H, LedR w H r s ∧ ∀ k, H k → F k ∧ k < w.heap.size
theorem TwoR.below {w w' : World} {F : Nat → Prop} {p r : Nat} {s : LS} (h : TwoR w F p r s) (b : Below w.heap.size w w') : TwoR w' F p r s := by
  obtain ⟨H, hp, hF⟩ := h
  exact ⟨H, hp.below b, fun k hk => ⟨(hF k hk).1, Nat.lt_of_lt_of_le (hF k hk).2 b.size⟩⟩
theorem TwoR.chg {w w' : World} {F F' : Nat → Prop} {p r : Nat} {s : LS} (h : TwoR w F p r s) (b : Chg F' w w') (hd : ∀ k, k < w.heap.size → F k → ¬ F' k) : TwoR w' F p r s := by
  obtain ⟨H, hp, hF⟩ := h
  exact ⟨H, hp.chg b (fun k hk hh => hd k hk (hF k hh).1) (fun _ _ h => h), fun k hk => ⟨(hF k hk).1, Nat.lt_of_lt_of_le (hF k hk).2 b.size⟩⟩
theorem TwoR.sub {w : World} {F F' : Nat → Prop} {p r : Nat} {s : LS} (h : TwoR w F p r s) (hs : ∀ k, k < w.heap.size → F k → F' k) : TwoR w F' p r s := by
  obtain ⟨H, hp, hF⟩ := h
  exact ⟨H, hp, fun k hk => ⟨hs k (hF k hk).2 (hF k hk).1, (hF k hk).2⟩⟩
theorem TwoR.good {w : World} {F : Nat → Prop} {p r : Nat} {s : LS} (h : TwoR w F p r s) : s.Good := by
  obtain ⟨H, hp, -⟩ := h
  exact hp.good
structure AskW (w : World) (F : Nat → Prop) (p r : Nat) (s : LS) (k : W4) (W : World) : Prop where
  two : TwoR W F p r s
  b0 : W.heap[w.heap.size]? = some (.cells #[.pointer (some ⟨p, 0, none⟩), .pointer (some ⟨r, 0, none⟩)] 101 (0, 0))
  b1 : W.heap[w.heap.size + 1]? = some (.cells #[.int .u16 k.a, .int .u16 k.b, .int .u16 k.c, .int .u16 k.d] 53 (0, 0))
  z : W.heap[w.heap.size + 1 + 1]? = some (.cells #[.slice none 0 0, .slice none 0 0, .int .u64 0, .int .u64 0, .bool false] 152 (0, 0))
  bel : Below w.heap.size w W
theorem AskW.below {w W W' : World} {F : Nat → Prop} {p r : Nat} {s : LS} {k : W4} (h : AskW w F p r s k W) (b : Below W.heap.size W W') : AskW w F p r s k W' :=
  ⟨h.two.below b, (b.block _ (lt_of_block h.b0)).trans h.b0, (b.block _ (lt_of_block h.b1)).trans h.b1, (b.block _ (lt_of_block h.z)).trans h.z, h.bel.trans (b.mono h.bel.size)⟩
theorem AskW.of {w : World} {F : Nat → Prop} {p r : Nat} {s : LS} (k : W4) (h : TwoR w F p r s) :
    AskW w F p r s k (((w.alloc (.cells #[.pointer (some ⟨p, 0, none⟩), .pointer (some ⟨r, 0, none⟩)] 101)).alloc (.cells #[.int .u16 k.a, .int .u16 k.b, .int .u16 k.c, .int .u16 k.d] 53)).alloc (.cells #[.slice none 0 0, .slice none 0 0, .int .u64 0, .int .u64 0, .bool false] 152)) := by
  obtain ⟨e0, e1, e2, e3⟩ := three_boxes w (.cells #[.pointer (some ⟨p, 0, none⟩), .pointer (some ⟨r, 0, none⟩)] 101) (.cells #[.int .u16 k.a, .int .u16 k.b, .int .u16 k.c, .int .u16 k.d] 53) (.cells #[.slice none 0 0, .slice none 0 0, .int .u64 0, .int .u64 0, .bool false] 152) 0
  exact ⟨h.below e3, e0, e1, e2, e3⟩

/-- What is asked may be: one span or two, none marked. -/
structure Asked (a : Ak) : Prop where
  good : Good a.sp
  one : 1 ≤ a.sp.length
  two : a.sp.length ≤ 2
  mm : a.mm = []
theorem Asked.may {a : Ak} (h : Asked a) : MayP a.sp a.mm := by
  have := h.one
  have := h.two
  rw [h.mm]
  exact ⟨⟨by omega, by omega, by simp⟩, h.good, (fun i hi => by simp at hi), (fun s hs => by cases hs)⟩
theorem asked1 {lo hi : Int} (h : IsSpan (lo, hi)) : Good [(lo, hi)] := fun i hi' => by
  obtain rfl : i = 0 := by simpa using hi'
  exact ⟨h, fun e => absurd e (by omega)⟩
/-- After the first span is laid: the acknowledgment's own cell block, its list. -/
structure AskM (w : World) (F : Nat → Prop) (p r : Nat) (s : LS) (k : W4) (q : Nat) (a : Ak) (W : World) : Prop where
  b : AskW w F p r s k W
  t : W.heap[q]? = some (.cells #[.slice a.A a.sp.length a.c, .slice a.B a.mm.length a.d, .int .u64 a.tr, .int .u64 a.xo, .bool a.od] 152 (0, 0))
  r : AkR W a
  ge : w.heap.size + 1 + 1 < q
  ne : ∀ b off, a.A = some ⟨b, off, none⟩ ∨ a.B = some ⟨b, off, none⟩ → b ≠ w.heap.size + 1 + 1
  nq : ∀ b off, a.A = some ⟨b, off, none⟩ ∨ a.B = some ⟨b, off, none⟩ → b ≠ q
  may : Asked a
  nw : ∀ b off, a.A = some ⟨b, off, none⟩ → w.heap.size ≤ b

theorem AskM.of {w wc : World} {F : Nat → Prop} {p r : Nat} {s : LS} {k : W4} (h : AskW w F p r s k wc) (lo hi x z : Int) (u0 : isU64 lo) (u1 : isU64 hi) (u2 : isU64 x) (u3 : isU64 z) (us : IsSpan (lo, hi)) :
    AskM w F p r s k (wc.heap.size + 1) ⟨some ⟨wc.heap.size, 0, none⟩, 1, none, 0, [(lo, hi)], [], x, z, false⟩ ((wc.alloc (.cells #[.int .u64 lo, .int .u64 hi] 209)).alloc (.cells #[.slice (some ⟨wc.heap.size, 0, none⟩) 1 1, .slice none 0 0, .int .u64 x, .int .u64 z, .bool false] 152)) ∧
    ((wc.alloc (.cells #[.int .u64 lo, .int .u64 hi] 209)).alloc (.cells #[.slice (some ⟨wc.heap.size, 0, none⟩) 1 1, .slice none 0 0, .int .u64 x, .int .u64 z, .bool false] 152)).ownsRow wc.heap.size 209 2 (.slice (some ⟨wc.heap.size, 0, none⟩) 1 1) 1 (Ss [(lo, hi)]) ∧
    Below wc.heap.size wc ((wc.alloc (.cells #[.int .u64 lo, .int .u64 hi] 209)).alloc (.cells #[.slice (some ⟨wc.heap.size, 0, none⟩) 1 1, .slice none 0 0, .int .u64 x, .int .u64 z, .bool false] 152)) ∧
    ((wc.alloc (.cells #[.int .u64 lo, .int .u64 hi] 209)).alloc (.cells #[.slice (some ⟨wc.heap.size, 0, none⟩) 1 1, .slice none 0 0, .int .u64 x, .int .u64 z, .bool false] 152)).heap.size = wc.heap.size + 1 + 1 := by
  have z1 : (wc.alloc (.cells #[.int .u64 lo, .int .u64 hi] 209)).heap.size = wc.heap.size + 1 := by simp
  have HO : (wc.alloc (.cells #[.int .u64 lo, .int .u64 hi] 209)).ownsRow wc.heap.size 209 2 (.slice (some ⟨wc.heap.size, 0, none⟩) 1 1) 1 (Ss [(lo, hi)]) := World.ownsRow_lit wc #[.int .u64 lo, .int .u64 hi] 1 (Nat.le_refl _) (by unfold maxLen; omega) rfl
  have b1 := box_below wc (.cells #[.int .u64 lo, .int .u64 hi] 209)
  generalize (wc.alloc (.cells #[.int .u64 lo, .int .u64 hi] 209)) = wS at *
  have b2 := box_below wS (.cells #[.slice (some ⟨wc.heap.size, 0, none⟩) 1 1, .slice none 0 0, .int .u64 x, .int .u64 z, .bool false] 152)
  have e := heap_alloc_new wS (.cells #[.slice (some ⟨wc.heap.size, 0, none⟩) 1 1, .slice none 0 0, .int .u64 x, .int .u64 z, .bool false] 152)
  have HO2 := HO.alloc (.cells #[.slice (some ⟨wc.heap.size, 0, none⟩) 1 1, .slice none 0 0, .int .u64 x, .int .u64 z, .bool false] 152)
  rw [z1] at e
  have hne : ∀ b off, (some (⟨wc.heap.size, 0, none⟩ : Addr)) = some ⟨b, off, none⟩ ∨ (none : Option Addr) = some ⟨b, off, none⟩ → b ≠ w.heap.size + 1 + 1 := by
    intro b off e
    have := lt_of_block h.z
    rcases e with e | e
    · injection e with e
      injection e with e
      omega
    · cases e
  have hnq : ∀ b off, (some (⟨wc.heap.size, 0, none⟩ : Addr)) = some ⟨b, off, none⟩ ∨ (none : Option Addr) = some ⟨b, off, none⟩ → b ≠ wc.heap.size + 1 := by
    intro b off e
    rcases e with e | e
    · injection e with e
      injection e with e
      omega
    · cases e
  have hnw : ∀ b off, (some (⟨wc.heap.size, 0, none⟩ : Addr)) = some ⟨b, off, none⟩ → w.heap.size ≤ b := by
    intro b off e
    have := h.bel.size
    injection e with e
    injection e with e
    omega
  refine ⟨⟨(h.below b1).below b2, e, ⟨Rd.of_own HO2, Rd.nil_ _ _, ?_, (fun s hs => by cases hs), u2, u3⟩, by have := lt_of_block h.z; omega, hne, hnq, ⟨asked1 us, by simp, by simp, rfl⟩, hnw⟩, HO2, b1.trans (b2.mono b1.size), by simp [z1]⟩
  intro s hs
  simp at hs
  subst hs
  exact ⟨u0, u1⟩

theorem AskM.below {w W W' : World} {F : Nat → Prop} {p r : Nat} {s : LS} {k : W4} {q : Nat} {a : Ak} (h : AskM w F p r s k q a W) (b : Below W.heap.size W W') : AskM w F p r s k q a W' :=
  ⟨h.b.below b, (b.block _ (lt_of_block h.t)).trans h.t, h.r.below b, h.ge, h.ne, h.nq, h.may, h.nw⟩

/-- With the record that was asked for. -/
structure AskN (w : World) (F : Nat → Prop) (p r : Nat) (s : LS) (k : W4) (q : Nat) (a : Ak) (y : Snt) (h : Nat) (W : World) : Prop where
  m : AskM w F p r s k q a W
  t : W.heap[h]? = some (.cells #[.int .u64 y.pn, .int .u64 y.off, .int .u64 y.len, .int .u64 y.nonce, .int .u64 y.at_, .bool y.coin, .bool y.used, .int .i64 y.state] 91 (0, 0))
  u : isU64 y.nonce
  ne : q < h
theorem AskN.of {w W : World} {F : Nat → Prop} {p r : Nat} {s : LS} {k : W4} {q : Nat} {a : Ak} (h : AskM w F p r s k q a W) (y : Snt) (hy : isU64 y.nonce) :
    AskN w F p r s k q a y W.heap.size (W.alloc (.cells #[.int .u64 y.pn, .int .u64 y.off, .int .u64 y.len, .int .u64 y.nonce, .int .u64 y.at_, .bool y.coin, .bool y.used, .int .i64 y.state] 91)) :=
  ⟨h.below (box_below W _), heap_alloc_new W _, hy, lt_of_block h.t⟩

end Go.Proofs.YtpkbimmhimgamaaGreat
namespace Go.Proofs.YtpkbimmhimgamaaGreat
set_option linter.unusedSimpArgs false
set_option linter.unusedVariables false
set_option linter.unnecessarySimpa false
open Go.RowKit
theorem TellRel.of {w w1 : World} {p r : Nat} {s : LS} (hT : Two w1 (fun j => w.heap.size ≤ j) p r s) (hb : Below w.heap.size w w1) (hl : s.all.length ≤ 80) :
    TellRel w p r w1.heap.size 80 s (w1.alloc (.cells #[.pointer (some ⟨p, 0, none⟩), .pointer (some ⟨r, 0, none⟩)] 101)) := by
  have eb := box_below w1 (.cells #[.pointer (some ⟨p, 0, none⟩), .pointer (some ⟨r, 0, none⟩)] 101)
  refine ⟨?_, heap_alloc_new w1 _, hb.trans (eb.mono hb.size), hl⟩
  obtain ⟨G, H, hP, hF⟩ := hT
  exact ⟨G, H, hP.below eb, fun k hk => ⟨⟨(hF k hk).1, by have := (hF k hk).2; omega⟩, Nat.lt_of_lt_of_le (hF k hk).2 eb.size⟩⟩
theorem TellRel.led {w wr : World} {p r g k : Nat} {s : LS} (h : TellRel w p r g k s wr) : ∃ G, LedP wr G p s := by
  obtain ⟨G, H, hP, _⟩ := h.two
  exact ⟨G, hP.p⟩
end Go.Proofs.YtpkbimmhimgamaaGreat
namespace Go.Proofs.YtpkbimmhimgamaaGreat
set_option linter.unusedSimpArgs false
set_option linter.unusedVariables false
set_option linter.unnecessarySimpa false
open Go.RowKit
def ssub (a b : Int) : Int := if a < b then 0 else a - b
def sadd (a b : Int) : Int := min (a + b) 18446744073709551615

namespace Loss
def cand (largest : Int) (x : Snt) : Prop := x.state = 1 ∧ x.pn < largest
instance (largest : Int) (x : Snt) : Decidable (cand largest x) := by unfold cand; infer_instance
def gone (largest now window : Int) (x : Snt) : Prop := 3 ≤ largest - x.pn ∨ window ≤ ssub now x.at_
instance (largest now window : Int) (x : Snt) : Decidable (gone largest now window x) := by unfold gone; infer_instance
def lost (largest now window : Int) : List Snt → List Int
  | [] => []
  | x :: l => if cand largest x ∧ gone largest now window x then x.pn :: lost largest now window l else lost largest now window l
def next (largest now window : Int) : List Snt → Int
  | [] => 18446744073709551615
  | x :: l => if cand largest x ∧ ¬ gone largest now window x then min (sadd x.at_ window) (next largest now window l) else next largest now window l
theorem next_le (largest now window : Int) (l : List Snt) : next largest now window l ≤ 18446744073709551615 := by
  induction l with
  | nil => simp [next]
  | cons x l ih => simp only [next]; split <;> omega
theorem lost_snoc (largest now window : Int) (l : List Snt) (x : Snt) : lost largest now window (l ++ [x]) = lost largest now window l ++ (if cand largest x ∧ gone largest now window x then [x.pn] else []) := by
  induction l with
  | nil => simp [lost]
  | cons y l ih => simp only [List.cons_append, lost, ih]; split <;> simp
theorem next_snoc (largest now window : Int) (l : List Snt) (x : Snt) : next largest now window (l ++ [x]) = (if cand largest x ∧ ¬ gone largest now window x then min (next largest now window l) (sadd x.at_ window) else next largest now window l) := by
  induction l with
  | nil =>
    simp only [List.nil_append, next]
    split
    · unfold sadd; omega
    · rfl
  | cons y l ih =>
    simp only [List.cons_append, next, ih]
    split <;> split <;> omega
theorem lost_take (largest now window : Int) (l : List Snt) (k : Nat) (h : k < l.length) : lost largest now window (l.take (k + 1)) = lost largest now window (l.take k) ++ (if cand largest l[k] ∧ gone largest now window l[k] then [l[k].pn] else []) := by
  rw [List.take_succ_eq_append_getElem h, lost_snoc]
theorem next_take (largest now window : Int) (l : List Snt) (k : Nat) (h : k < l.length) : next largest now window (l.take (k + 1)) = (if cand largest l[k] ∧ ¬ gone largest now window l[k] then min (next largest now window (l.take k)) (sadd l[k].at_ window) else next largest now window (l.take k)) := by
  rw [List.take_succ_eq_append_getElem h, next_snoc]
theorem lost_len (largest now window : Int) (l : List Snt) : (lost largest now window l).length ≤ l.length := by
  induction l with
  | nil => simp [lost]
  | cons x l ih => simp only [lost]; split <;> simp <;> omega
theorem next_nonneg (largest now window : Int) (l : List Snt) (hw : 0 ≤ window) (h : ∀ x ∈ l, 0 ≤ x.at_) : 0 ≤ next largest now window l := by
  induction l with
  | nil => simp [next]
  | cons x l ih =>
    have := ih (fun y hy => h y (List.mem_cons_of_mem _ hy))
    have := h x (by simp)
    simp only [next]
    split
    · unfold sadd; omega
    · assumption
end Loss
end Go.Proofs.YtpkbimmhimgamaaGreat
namespace Go.Proofs.YtpkbimmhimgamaaGreat
set_option linter.unusedSimpArgs false
set_option linter.unusedVariables false
set_option linter.unnecessarySimpa false
open Go.RowKit
end Go.Proofs.YtpkbimmhimgamaaGreat
namespace Go.Proofs.YtpkbimmhimgamaaGreat
set_option linter.unusedSimpArgs false
set_option linter.unusedVariables false
set_option linter.unnecessarySimpa false
open Go.RowKit
attribute [local go_sem ↓] run_min_int run_max_int
theorem clk_after (t d : Int) (w : World) (ht : isU64 t) (hd : isU64 d) :
    Calls Tryz.prog 207 #[.int .u64 t, .int .u64 d] w fun e w' => e = .returned (.int .u64 (sadd t d)) ∧ Qt w w' := by
  go_enter Tryz.func207, Tryz.ntmps207
  go_wp2_with fail
  refine (sat_add t d w ht hd).mono ?_
  rintro e w1 ⟨rfl, n, rfl⟩
  go_wp2
  go_ret
  exact ⟨rfl, ⟨n, rfl⟩⟩
theorem clk_since (t d : Int) (w : World) (ht : isU64 t) (hd : isU64 d) :
    Calls Tryz.prog 179 #[.int .u64 t, .int .u64 d] w fun e w' => e = .returned (.int .u64 (ssub t d)) ∧ Qt w w' := by
  go_enter Tryz.func179, Tryz.ntmps179
  go_wp2_with fail
  refine (satSub_any t d (ssub t d) w ht hd rfl).mono ?_
  rintro e w1 ⟨rfl, n, rfl⟩
  go_wp2
  go_ret
  exact ⟨rfl, ⟨n, rfl⟩⟩
theorem clk_first (A : Option Addr) (c : Nat) (x y : Int) (w : World) (h : Rd w 1 A 2 c (Us [x, y])) (hx : isU64 x) (hy : isU64 y) :
    Calls Tryz.prog 56 #[.slice A 2 c] w fun e w' => e = .returned (.int .u64 (min x y)) ∧ Qt w w' := by
  obtain ⟨x0, x1⟩ := hx
  obtain ⟨y0, y1⟩ := hy
  obtain ⟨b, o, rfl, c0⟩ := h.u64 (k := 0) (by omega)
  obtain ⟨b', o', e, c1⟩ := h.u64 (k := 1) (by omega)
  injection e with e
  injection e with e1 e2 _
  subst e1
  subst e2
  simp at c0 c1
  have HM := Lib.hid (show min (min 18446744073709551615 x) y = min x y by omega)
  have hm : min 18446744073709551615 x = x := by omega
  clear h
  go_enter Tryz.func56, Tryz.ntmps56
  go_wp2
  go_loop [3, 8] (fun m i => (i = .int .i64 0 ∧ m = .int .u64 18446744073709551615) ∨ (i = .int .i64 1 ∧ m = .int .u64 x) ∨ (i = .int .i64 2 ∧ m = .int .u64 (min x y))) (fun _ i => 2 - (intOf i).toNat)
  case atStart => exact .inl ⟨rfl, rfl⟩
  case round =>
    rcases hrel with ⟨rfl, rfl⟩ | ⟨rfl, rfl⟩ | ⟨rfl, rfl⟩
    · go_wp2
      go_round
      case rel => exact .inr (.inl ⟨rfl, rfl⟩)
      case measure => simp [intOf]
    · go_wp2
      go_round
      case rel => exact .inr (.inr ⟨rfl, rfl⟩)
      case measure => simp [intOf]
    · go_wp2
      go_ret
      exact ⟨rfl, Qt.refl _⟩
theorem u64_sadd {a b : Int} (ha : isU64 a) (hb : isU64 b) : isU64 (sadd a b) := by
  unfold isU64 sadd at *
  omega
theorem u64_ssub {a b : Int} (ha : isU64 a) (hb : isU64 b) : isU64 (ssub a b) := by
  unfold isU64 ssub at *
  split <;> omega


/-- What has been found so far. -/
structure Found (w w1 wr : World) (a0 : Option Addr) (n0 c0 : Nat) (l : List Snt) (lg now win : Int) (k : Nat) (v : Value) (m : Int) : Prop where
  row : wr.ownsRow w1.heap.size 24 1 v (Loss.lost lg now win (l.take k)).length (Us (Loss.lost lg now win (l.take k)))
  next : m = Loss.next lg now win (l.take k)
  all : Rd wr 8 a0 n0 c0 (Sns l)
  bel : Below w.heap.size w wr
  ge : w1.heap.size ≤ wr.heap.size

end Go.Proofs.YtpkbimmhimgamaaGreat
namespace Go.Proofs.YtpkbimmhimgamaaGreat
set_option linter.unusedSimpArgs false
set_option linter.unusedVariables false
namespace Dv
/-- Where the search for a digit stands: u = q * a + r, q not less than the digit. -/
structure At (u u1 a b : Nat) (q r : Nat) : Prop where
  eq : u = q * a + r
  ge : (u * 4294967296 + u1) / (a * 4294967296 + b) ≤ q
  le : q ≤ 4294967297
structure In (u u1 a b : Nat) : Prop where
  ha : 2147483648 ≤ a ∧ a < 4294967296
  hb : b < 4294967296
  hu : u1 < 4294967296
  lt : u < a * 4294967296 + b
theorem mulE (q a b : Nat) : q * (a * 4294967296 + b) = q * a * 4294967296 + q * b := by rw [Nat.mul_add, Nat.mul_assoc]
theorem In.digit {u u1 a b : Nat} (h : In u u1 a b) : (u * 4294967296 + u1) / (a * 4294967296 + b) < 4294967296 := by
  have h1 := h.lt; have h2 := h.hu
  rw [Nat.div_lt_iff_lt_mul (by have := h.ha; omega)]
  omega
theorem At.first {u u1 a b : Nat} (h : In u u1 a b) : At u u1 a b (u / a) (u % a) ∧ u % a < 4294967296 := by
  have ha := h.ha; have hb := h.hb; have hu1 := h.hu; have hlt := h.lt
  have hm := Nat.mod_lt u (show 0 < a by omega)
  refine ⟨⟨by rw [Nat.mul_comm]; exact (Nat.div_add_mod u a).symm, ?_, ?_⟩, Nat.lt_trans hm ha.2⟩
  · rw [Nat.le_div_iff_mul_le (by omega)]
    have h1 := Nat.div_mul_le_self (u * 4294967296 + u1) (a * 4294967296 + b)
    rw [mulE] at h1
    generalize (u * 4294967296 + u1) / (a * 4294967296 + b) = D at *
    generalize D * a = X at *
    generalize D * b = Y at *
    omega
  · have h3 : u < 4294967298 * a := by omega
    have := (Nat.div_lt_iff_lt_mul (show 0 < a by omega)).2 h3
    omega
/-- q * b against r: the same as q times the divisor against what is divided. -/
theorem At.cmp {u u1 a b q r : Nat} (h : At u u1 a b q r) : r * 4294967296 + u1 < q * b ↔ u * 4294967296 + u1 < q * (a * 4294967296 + b) := by
  rw [mulE, h.eq, Nat.add_mul]
  omega
theorem At.step {u u1 a b q r : Nat} (h : At u u1 a b q r) (hi : In u u1 a b) (hc : 4294967296 ≤ q ∨ 4294967296 * r + u1 < q * b) : 1 ≤ q ∧ At u u1 a b (q - 1) (r + a) := by
  have hd := hi.digit
  have hgt : (u * 4294967296 + u1) / (a * 4294967296 + b) < q := by
    rcases hc with hc | hc
    · omega
    · rw [Nat.div_lt_iff_lt_mul (by have := hi.ha; omega)]
      exact h.cmp.1 (by omega)
  have hle := h.le
  generalize hDD : (u * 4294967296 + u1) / (a * 4294967296 + b) = D at hd hgt
  have h1 : 1 ≤ q := by omega
  have hgq : D ≤ q - 1 := by omega
  have hlq : q - 1 ≤ 4294967297 := by omega
  refine ⟨h1, ⟨?_, by rw [hDD]; exact hgq, hlq⟩⟩
  have : q = (q - 1) + 1 := by omega
  rw [h.eq]
  conv => lhs; rw [this, Nat.add_mul]
  omega
theorem At.last {u u1 a b q r : Nat} (h : At u u1 a b q r) (hi : In u u1 a b) (hq : q ≤ 4294967296) (hc : 4294967296 ≤ r ∨ (q < 4294967296 ∧ ¬ 4294967296 * r + u1 < q * b)) : q = (u * 4294967296 + u1) / (a * 4294967296 + b) := by
  have hb := hi.hb
  have hle : ¬ r * 4294967296 + u1 < q * b := by
    rcases hc with hc | hc
    · have h1 : q * b ≤ 4294967296 * 4294967296 := Nat.mul_le_mul hq (by omega)
      have h2 : 4294967296 * 4294967296 ≤ r * 4294967296 := Nat.mul_le_mul_right _ hc
      omega
    · omega
  have h3 := mt h.cmp.2 hle
  refine Nat.le_antisymm ?_ h.ge
  rw [Nat.le_div_iff_mul_le (by have := hi.ha; omega)]
  omega
/-- The two digits. -/
theorem whole (B X y S U u1 u0 : Nat) (hy : 0 < y) (hS : 0 < S) (hX : X * S = (U * B + u1) * B + u0) :
    (U * B + u1) / (y * S) * B + ((U * B + u1) % (y * S) * B + u0) / (y * S) = X / y ∧ (((U * B + u1) % (y * S) * B + u0) % (y * S)) / S = X % y := by
  have hY : 0 < y * S := Nat.mul_pos hy hS
  have e1 := Nat.div_add_mod (U * B + u1) (y * S)
  generalize (U * B + u1) / (y * S) = q1 at *
  generalize (U * B + u1) % (y * S) = r1 at *
  have e2 := Nat.div_add_mod (r1 * B + u0) (y * S)
  have hr := Nat.mod_lt (r1 * B + u0) hY
  generalize (r1 * B + u0) / (y * S) = q0 at *
  generalize (r1 * B + u0) % (y * S) = r at *
  have e3 : X * S = (y * S) * (q1 * B + q0) + r := by
    rw [hX, ← e1, Nat.mul_add, ← Nat.mul_assoc, Nat.add_mul, Nat.add_assoc, ← e2, Nat.add_assoc]
  have d1 : X * S / (y * S) = q1 * B + q0 := by
    rw [e3, Nat.mul_add_div hY, Nat.div_eq_of_lt hr, Nat.add_zero]
  have d2 : X * S % (y * S) = r := by
    rw [e3, Nat.mul_add_mod, Nat.mod_eq_of_lt hr]
  rw [Nat.mul_div_mul_right X y hS] at d1
  rw [Nat.mul_mod_mul_right] at d2
  exact ⟨d1.symm, (congrArg (· / S) d2.symm).trans (Nat.mul_div_cancel _ hS)⟩
theorem pw (x s : Nat) : ((x : Int) * 2 ^ s) = ((x * 2 ^ s : Nat) : Int) := by rw [Int.natCast_mul, Int.natCast_pow]; rfl
theorem dw (x s : Nat) : ((x : Int) / 2 ^ s) = ((x / 2 ^ s : Nat) : Int) := by rw [Int.natCast_ediv, Int.natCast_pow]; rfl
theorem wrapT (x : Nat) : IntKind.u64.wrap (x : Int) = ((x % 18446744073709551616 : Nat) : Int) := by rw [IntKind.wrap_u64]; omega
theorem wrapS (x : Nat) (h : x < 18446744073709551616) : IntKind.u64.wrap (x : Int) = (x : Int) := by rw [wrapT, Nat.mod_eq_of_lt h]
theorem mask (x : Nat) (h : x < 18446744073709551616) : bits .and .u64 (x : Int) 4294967295 = ((x % 4294967296 : Nat) : Int) := by
  have h1 := bits_and_u64_nat x 4294967295 h (by omega)
  have e : x &&& 4294967295 = x % 4294967296 := Nat.and_two_pow_sub_one_eq_mod x 32
  rw [e] at h1
  exact h1
/-- What the function makes of its arguments ahead of the first digit. -/
structure Set (hi lo y s a b u u1 u0 Y H Lw T : Nat) : Prop where
  s63 : s ≤ 63
  sL : (64 : Int) - (Lib.bitLen y : Int) = s
  hY : y * 2 ^ s = Y ∧ Y = a * 4294967296 + b ∧ Y < 18446744073709551616
  inn : In u u1 a b
  l0 : u0 < 4294967296
  hX : (hi * 18446744073709551616 + lo) * 2 ^ s = (u * 4294967296 + u1) * 4294967296 + u0
  u64 : u < 18446744073709551616
  wY : IntKind.u64.wrap ((y : Int) * 2 ^ s) = (Y : Int)
  wa : (Y : Int) / 4294967296 = (a : Int)
  wb : bits .and .u64 (Y : Int) 4294967295 = (b : Int)
  wH : IntKind.u64.wrap ((hi : Int) * 2 ^ s) = (H : Int)
  wL : (lo : Int) / 2 ^ (64 - s) = (Lw : Int)
  wu : bits .or .u64 (H : Int) (Lw : Int) = (u : Int)
  wT : IntKind.u64.wrap ((lo : Int) * 2 ^ s) = (T : Int)
  w1 : (T : Int) / 4294967296 = (u1 : Int)
  w0 : bits .and .u64 (T : Int) 4294967295 = (u0 : Int)
theorem setup (hi lo y : Nat) (hh : hi < y) (hl : lo < 18446744073709551616) (hy : y < 18446744073709551616) : ∃ s a b u u1 u0 Y H Lw T, Set hi lo y s a b u u1 u0 Y H Lw T := by
  obtain ⟨b1, b2, b3⟩ := Lib.bitLenAux_bounds 64 y (by simpa using hy) (by omega)
  have b4 : Lib.bitLen y ≤ 64 := Lib.bitLen_le y 64 (Nat.le_refl _) (by simpa using hy)
  have b0 : Lib.bitLen y = Lib.bitLenAux 64 y := rfl
  rw [← b0] at b1 b2 b3
  obtain ⟨s, hs⟩ : ∃ s, s = 64 - Lib.bitLen y := ⟨_, rfl⟩
  have e1 : 2 ^ Lib.bitLen y * 2 ^ s = 18446744073709551616 := by rw [← Nat.pow_add, show Lib.bitLen y + s = 64 by omega]
  have e2 : 2 ^ (Lib.bitLen y - 1) * 2 ^ s = 9223372036854775808 := by rw [← Nat.pow_add, show Lib.bitLen y - 1 + s = 63 by omega]
  have eL : Lib.bitLen y = 64 - s := by omega
  have hp : 0 < 2 ^ s := Nat.two_pow_pos s
  have y1 : y * 2 ^ s < 18446744073709551616 := by rw [← e1]; exact (Nat.mul_lt_mul_right hp).2 b3
  have y2 : 9223372036854775808 ≤ y * 2 ^ s := by rw [← e2]; exact Nat.mul_le_mul_right _ b2
  have h1 : (hi + 1) * 2 ^ s ≤ y * 2 ^ s := Nat.mul_le_mul_right _ hh
  rw [Nat.add_mul, Nat.one_mul] at h1
  have l1 : lo / 2 ^ (64 - s) < 2 ^ s := by
    rw [Nat.div_lt_iff_lt_mul (Nat.two_pow_pos _), ← eL, Nat.mul_comm, e1]; exact hl
  have l2 : lo * 2 ^ s / 18446744073709551616 = lo / 2 ^ (64 - s) := by
    rw [← e1, eL, Nat.mul_div_mul_right _ _ hp]
  have l3 := Nat.div_add_mod (lo * 2 ^ s) 18446744073709551616
  rw [l2] at l3
  have or1 := bits_or_u64_nat (hi * 2 ^ s) (lo / 2 ^ (64 - s)) (by omega) (by omega)
  have or2 : hi * 2 ^ s ||| lo / 2 ^ (64 - s) = hi * 2 ^ s + lo / 2 ^ (64 - s) := by
    have := Nat.shiftLeft_add_eq_or_of_lt l1 hi
    rw [Nat.shiftLeft_eq] at this
    exact this.symm
  rw [or2] at or1
  have hX : (hi * 18446744073709551616 + lo) * 2 ^ s = hi * 2 ^ s * 18446744073709551616 + lo * 2 ^ s := by
    rw [Nat.add_mul, Nat.mul_right_comm]
  have wy := pw y s
  have wh := pw hi s
  have wl := pw lo s
  have dl := dw lo (64 - s)
  have hT : lo * 2 ^ s % 18446744073709551616 < 18446744073709551616 := Nat.mod_lt _ (by omega)
  have wT := wrapT (lo * 2 ^ s)
  generalize lo * 2 ^ s % 18446744073709551616 = T at *
  generalize lo * 2 ^ s = LS at *
  generalize lo / 2 ^ (64 - s) = Lw at *
  generalize hi * 2 ^ s = H at *
  generalize hYY : y * 2 ^ s = Y at *
  have hfin : H * 18446744073709551616 + LS = ((H + Lw) * 4294967296 + T / 4294967296) * 4294967296 + T % 4294967296 := by
    clear hX h1 or1 or2 wT wl wh wy dl
    omega
  refine ⟨s, Y / 4294967296, Y % 4294967296, H + Lw, T / 4294967296, T % 4294967296, Y, H, Lw, T, ⟨by omega, by omega, ⟨hYY, by omega, y1⟩, ⟨by omega, by omega, by omega, by omega⟩, by omega, hX.trans hfin, by omega, by rw [wy]; exact wrapS Y y1, by omega, mask Y y1, by rw [wh]; exact wrapS H (by omega), dl, or1, by rw [wl]; exact wT, by omega, mask T hT⟩⟩
end Dv
end Go.Proofs.YtpkbimmhimgamaaGreat
