/-
  A pair of ledgers in a box: the program's alone. · Four drawn numbers. · law13.Ask: an acknowledgment of drawn numbers.
-/
import Derived.Test.YtpfmhkkglaghgaaGreatDo
import Derived.Test.YtpfmhkkglaghgaaGreatBase
import Derived.Test.YtpfmhkkglaghgaaGreatLookR
import Derived.Test.YtpfmhkkglaghgaaGreatBytes
namespace Go.Proofs.YtpfmhkkglaghgaaGreat
set_option linter.unusedSimpArgs false
set_option linter.unusedVariables false
set_option linter.unnecessarySimpa false
open Go.RowKit

theorem LS.eq_new {s : LS} {ring limit : Int} (h1 : s.ring = (LS.new ring limit).ring) (h2 : s.limit = (LS.new ring limit).limit) (h3 : s.all.length ≤ ([] : List Dd).length) : s = LS.new ring limit := by
  cases s
  simp at h1 h2 h3
  simp [h1, h2, h3, LS.new]
theorem Rd.lit_at (w : World) (size : Nat) (cs : Array Value) (t : TypeId) (n : Nat) (xs : List Value) (g : Nat) (hg : g = w.heap.size) (hx : cs.toList = xs) (hs : xs.length = n * size) (hn : n ≤ maxLen) :
    Rd (w.alloc (.cells cs t)) size (some ⟨g, 0, none⟩) n n xs := by
  subst hg
  exact Rd.lit w size cs t n xs hx hs hn

end Go.Proofs.YtpfmhkkglaghgaaGreat

namespace Go.Proofs.YtpfmhkkglaghgaaGreat
set_option linter.unusedSimpArgs false
set_option linter.unusedVariables false
set_option linter.unnecessarySimpa false
open Go.RowKit

structure W4 where
  a : Int
  b : Int
  c : Int
  d : Int
def W4.cells (k : W4) : Array Value := #[.int .u16 k.a, .int .u16 k.b, .int .u16 k.c, .int .u16 k.d]
def W4.val (k : W4) : Value := .agg k.cells
structure W4.ok (k : W4) : Prop where
  a : 0 ≤ k.a ∧ k.a ≤ 65535
  b : 0 ≤ k.b ∧ k.b ≤ 65535
  c : 0 ≤ k.c ∧ k.c ≤ 65535
  d : 0 ≤ k.d ∧ k.d ≤ 65535

end Go.Proofs.YtpfmhkkglaghgaaGreat

namespace Go.Proofs.YtpfmhkkglaghgaaGreat
set_option linter.unusedSimpArgs false
set_option linter.unusedVariables false
set_option linter.unnecessarySimpa false
open Go.RowKit

/-- The reference's ledger, in blocks of F. -/
def TwoR (w : World) (F : Nat → Prop) (_p r : Nat) (s : LS) : Prop := ∃ H, LedR w H r s ∧ ∀ k, H k → F k ∧ k < w.heap.size
theorem TwoR.below {w w' : World} {F : Nat → Prop} {p r : Nat} {s : LS} (h : TwoR w F p r s) (b : Below w.heap.size w w') : TwoR w' F p r s := by
  obtain ⟨H, hp, hF⟩ := h
  exact ⟨H, hp.below b, fun k hk => ⟨(hF k hk).1, Nat.lt_of_lt_of_le (hF k hk).2 b.size⟩⟩
theorem TwoR.chg {w w' : World} {F F' : Nat → Prop} {p r : Nat} {s : LS} (h : TwoR w F p r s) (b : Chg F' w w') (hd : ∀ k, k < w.heap.size → F k → ¬ F' k) : TwoR w' F p r s := by
  obtain ⟨H, hp, hF⟩ := h
  exact ⟨H, hp.chg b (fun k hk hh => hd k hk (hF k hh).1) (fun _ _ h => h), fun k hk => ⟨(hF k hk).1, Nat.lt_of_lt_of_le (hF k hk).2 b.size⟩⟩
theorem TwoR.sub {w : World} {F F' : Nat → Prop} {p r : Nat} {s : LS} (h : TwoR w F p r s) (hs : ∀ k, k < w.heap.size → F k → F' k) : TwoR w F' p r s := by
  obtain ⟨H, hp, hF⟩ := h
  exact ⟨H, hp, fun k hk => ⟨hs k (hF k hk).2 (hF k hk).1, (hF k hk).2⟩⟩
theorem TwoR.good {w : World} {F : Nat → Prop} {p r : Nat} {s : LS} (h : TwoR w F p r s) : s.Good := by
  obtain ⟨H, hp, -⟩ := h
  exact hp.good
theorem Two.toR {w : World} {F : Nat → Prop} {p r : Nat} {s : LS} (h : Two w F p r s) : TwoR w F p r s := by
  obtain ⟨G, H, hp, hF⟩ := h
  exact ⟨H, hp.r, fun k hk => hF k (.inr hk)⟩
theorem infoAck : (Tryz.prog.info? 74).map (·.size) = some 5 := by kernel_rfl

/-- What is asked may be: one span or two, none marked. -/
structure Asked (a : Ak) : Prop where
  good : Good a.sp
  one : 1 ≤ a.sp.length
  two : a.sp.length ≤ 2
  mm : a.mm = []
theorem Asked.may {a : Ak} (h : Asked a) : MayP a.sp a.mm := by
  have := h.one
  have := h.two
  rw [h.mm]
  exact ⟨⟨by omega, by omega, by simp⟩, h.good, (fun i hi => by simp at hi), (fun s hs => by cases hs)⟩
theorem asked1 {lo hi : Int} (h : IsSpan (lo, hi)) : Good [(lo, hi)] := fun i hi' => by
  obtain rfl : i = 0 := by simpa using hi'
  exact ⟨h, fun e => absurd e (by omega)⟩
theorem asked2 {lo hi y z : Int} (h1 : IsSpan (lo, hi)) (h2 : IsSpan (y, z)) (h : hi + 1 < y) : Good [(lo, hi), (y, z)] := by
  intro i hi'
  have : i = 0 ∨ i = 1 := by simp at hi'; omega
  rcases this with rfl | rfl
  · exact ⟨h1, fun e => absurd e (by omega)⟩
  · exact ⟨h2, fun _ => h⟩

theorem Rd.set_ {w : World} {size n c : Nat} {A : Option Addr} {xs : List Value} (h : Rd w size A n c xs) {z : Nat} (i : Nat) (v : Value) (hne : ∀ b off, A = some ⟨b, off, none⟩ → b ≠ z) : Rd (w.setCell ⟨z, i, none⟩ v) size A n c xs :=
  ⟨h.len, h.cap, h.max, fun hn => by
    obtain ⟨b, off, e, hc⟩ := h.on_ hn
    refine ⟨b, off, e, fun j u hu => ?_⟩
    rw [World.cell?_of_block (Below.heap_setCell _ _ _ _ (fun e' => hne b off e (by first | exact e' | exact e'.symm)))]
    exact hc j u hu⟩
theorem AkR.set_ {w : World} {a : Ak} (h : AkR w a) {z : Nat} (i : Nat) (v : Value) (h1 : ∀ b off, a.A = some ⟨b, off, none⟩ ∨ a.B = some ⟨b, off, none⟩ → b ≠ z) : AkR (w.setCell ⟨z, i, none⟩ v) a :=
  ⟨h.rs.set_ i v (fun b off e => h1 b off (.inl e)), h.rm.set_ i v (fun b off e => h1 b off (.inr e)), h.us, h.um, h.ut, h.ux⟩

end Go.Proofs.YtpfmhkkglaghgaaGreat
