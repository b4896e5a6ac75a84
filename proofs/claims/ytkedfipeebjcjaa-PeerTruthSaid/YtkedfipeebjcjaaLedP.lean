/-
  What a ledger is, in plain Lean. · Walks of package ledger: what only reads. · Walks of package ledger: find, Get, Use, Settle. · Walks of package ledger: Get, Use, Settle. · Walks of package ledger: Use, Settle. · Walks of package sat: Add. · Walks of package ledger: Flight, New, Fork. · Walks of package ledger: Fork. · Walks of package ledger: give, Send, Skip. · A region that draws its order: its head, in whatever order, leaves a world of a class; its tail comes in one order. · Walks of package ledger: Send, Skip.
-/
import Derived.Test.YtkedfipeebjcjaaObj
import Derived.Deep.RegionHeld3
import Derived.Deep.RegionWith
import Derived.Laws.ResultCell
import Derived.Laws.Externs
import Derived.Deep.RegionLaw
import Derived.OneCell
import Derived.StillTail
namespace Go.Proofs.Ytkedfipeebjcjaa
set_option linter.unusedSimpArgs false
set_option linter.unusedVariables false
set_option linter.unnecessarySimpa false
open Go.RowKit

structure Snt where
  pn : Int
  off : Int
  len : Int
  nonce : Int
  at_ : Int
  coin : Bool
  used : Bool
  state : Int

def Snt.vals (s : Snt) : List Value := [.int .u64 s.pn, .int .u64 s.off, .int .u64 s.len, .int .u64 s.nonce, .int .u64 s.at_, .bool s.coin, .bool s.used, .int .i64 s.state]
def Sns (l : List Snt) : List Value := l.flatMap Snt.vals
theorem vals_len (s : Snt) : s.vals.length = 8 := rfl
theorem Sns_len (l : List Snt) : (Sns l).length = l.length * 8 := flat_len _ 8 vals_len l
theorem Sns_append (a b : List Snt) : Sns (a ++ b) = Sns a ++ Sns b := by simp [Sns]
theorem Sns_drop (l : List Snt) (n : Nat) : (Sns l).drop (n * 8) = Sns (l.drop n) := flat_drop _ 8 vals_len l n
theorem Sns_one (l : List Snt) : ∀ u ∈ Sns l, u.oneCell' = true := by
  intro u hu
  obtain ⟨x, _, hx⟩ := List.mem_flatMap.1 hu
  simp only [Snt.vals, List.mem_cons, List.not_mem_nil, or_false] at hx
  rcases hx with rfl | rfl | rfl | rfl | rfl | rfl | rfl | rfl <;> rfl

/-- The eight cells of an element. -/
theorem Rd.snt {w : World} {A : Option Addr} {n c : Nat} {l : List Snt} (h : Rd w 8 A n c (Sns l)) {i : Nat} (hi : i < l.length) :
    ∃ b off, A = some ⟨b, off, none⟩ ∧
      w.cell? ⟨b, off + i * 8, none⟩ = some (.int .u64 l[i].pn) ∧ w.cell? ⟨b, off + i * 8 + 1, none⟩ = some (.int .u64 l[i].off) ∧
      w.cell? ⟨b, off + i * 8 + 2, none⟩ = some (.int .u64 l[i].len) ∧ w.cell? ⟨b, off + i * 8 + 3, none⟩ = some (.int .u64 l[i].nonce) ∧
      w.cell? ⟨b, off + i * 8 + 4, none⟩ = some (.int .u64 l[i].at_) ∧ w.cell? ⟨b, off + i * 8 + 5, none⟩ = some (.bool l[i].coin) ∧
      w.cell? ⟨b, off + i * 8 + 6, none⟩ = some (.bool l[i].used) ∧ w.cell? ⟨b, off + i * 8 + 7, none⟩ = some (.int .i64 l[i].state) := by
  obtain ⟨b, off, e, hc⟩ := Rd.elem vals_len h (by omega) hi
  exact ⟨b, off, e, hc 0 _ rfl, hc 1 _ rfl, hc 2 _ rfl, hc 3 _ rfl, hc 4 _ rfl, hc 5 _ rfl, hc 6 _ rfl, hc 7 _ rfl⟩

def isI64 (x : Int) : Prop := -9223372036854775808 ≤ x ∧ x < 9223372036854775808

structure Snt.ok (s : Snt) : Prop where
  pn : isU64 s.pn
  off : isU64 s.off
  len : isU64 s.len
  nonce : isU64 s.nonce
  at_ : isU64 s.at_
  state : isI64 s.state

/-- A ledger: all that ever was given. -/
structure LS where
  ring : Nat
  limit : Int
  all : List Snt

namespace LS
def low (s : LS) : Nat := s.all.length - s.ring
def kept (s : LS) : List Snt := s.all.drop s.low
/-- How many are ahead of the first one that is flying. -/
def ahead : List Snt → Nat
  | [] => 0
  | x :: l => if x.state = 1 then 0 else ahead l + 1
def least (s : LS) : Nat := s.low + ahead s.kept
def room (s : LS) : Int := s.ring - ((s.all.length : Int) - s.least)
def fly : List Snt → Int
  | [] => 0
  | x :: l => (if x.state = 1 then x.len else 0) + fly l
def flight (s : LS) : Int := fly s.kept
def give (s : LS) (x : Snt) : LS × Int × Int :=
  if s.limit < s.all.length then (s, 0, 8) else if s.room < 1 then (s, 0, 7) else ({ s with all := s.all ++ [{ x with pn := s.all.length }] }, s.all.length, 0)
def send (s : LS) (x : Snt) : LS × Int × Int :=
  if x.len < 1 ∨ 1500 < x.len ∨ 4611686018427387903 < x.off then (s, 0, 1) else s.give { x with state := 1, used := false }
def skipped : Snt := ⟨0, 0, 0, 0, 0, false, false, 4⟩
def skip (s : LS) : LS × Int × Int := s.give skipped
def has (s : LS) (pn : Int) : Prop := (s.low : Int) ≤ pn ∧ pn < s.all.length
instance (s : LS) (pn : Int) : Decidable (s.has pn) := by unfold has; infer_instance
def zero : Snt := ⟨0, 0, 0, 0, 0, false, false, 0⟩
def at' (s : LS) (pn : Int) : Snt := s.all.getD pn.toNat zero
def get (s : LS) (pn : Int) : Snt × Bool := if s.has pn then (s.at' pn, true) else (zero, false)
def put (s : LS) (pn : Int) (x : Snt) : LS := { s with all := s.all.set pn.toNat x }
def mayUse (s : LS) (pn : Int) : Prop := s.has pn ∧ (s.at' pn).state ≠ 4 ∧ (s.at' pn).used = false
instance (s : LS) (pn : Int) : Decidable (s.mayUse pn) := by unfold mayUse; infer_instance
def use (s : LS) (pn : Int) : LS × Bool := if s.mayUse pn then (s.put pn { s.at' pn with used := true }, true) else (s, false)
def maySettle (s : LS) (pn state : Int) : Prop := s.has pn ∧ ((state = 2 ∧ ((s.at' pn).state = 1 ∨ (s.at' pn).state = 3)) ∨ (state = 3 ∧ (s.at' pn).state = 1))
instance (s : LS) (pn state : Int) : Decidable (s.maySettle pn state) := by unfold maySettle; infer_instance
def settle (s : LS) (pn state : Int) : LS × Bool := if s.maySettle pn state then (s.put pn { s.at' pn with state := state }, true) else (s, false)
def new (ring : Int) (limit : Int) : LS := ⟨(max 4 (min ring 256)).toNat, min limit 4611686018427387903, []⟩

structure Good (s : LS) : Prop where
  ring4 : 4 ≤ s.ring
  ring256 : s.ring ≤ 256
  lim0 : 0 ≤ s.limit
  lim1 : s.limit ≤ 4611686018427387903
  len : (s.all.length : Int) ≤ s.limit + 1
  ok : ∀ x ∈ s.all, x.ok
  pn : ∀ i (h : i < s.all.length), s.all[i].pn = i
  fly : ∀ x ∈ s.all, x.state = 1 → 1 ≤ x.len ∧ x.len ≤ 1500

theorem kept_len (s : LS) : s.kept.length = min s.all.length s.ring := by simp [kept, low]; omega
theorem kept_le (s : LS) : s.kept.length ≤ s.ring := by rw [kept_len]; omega
theorem low_le (s : LS) : s.low ≤ s.all.length := by simp [low]
theorem kept_get (s : LS) {i : Nat} (h : i < s.kept.length) : s.kept[i] = s.all[s.low + i]'(by simp [kept] at h; omega) := by simp [kept]
theorem ahead_le (l : List Snt) : ahead l ≤ l.length := by
  induction l with
  | nil => simp [ahead]
  | cons x l ih => simp only [ahead]; split <;> simp <;> omega
theorem least_le (s : LS) : s.least ≤ s.all.length := by
  have := ahead_le s.kept
  have := s.kept_len
  have := s.low_le
  simp only [least, low] at *
  omega
theorem low_least (s : LS) : s.low ≤ s.least := by simp [least]
theorem room_le (s : LS) : s.room ≤ s.ring := by have := s.least_le; simp only [room]; omega
theorem room_ge (s : LS) : 0 ≤ s.room := by
  have := s.low_least
  simp only [room, low] at *
  omega
/-- Those ahead of the first one that is flying do not fly; it does. -/
theorem ahead_lt {l : List Snt} {i : Nat} (h : i < ahead l) (hi : i < l.length) : l[i].state ≠ 1 := by
  induction l generalizing i with
  | nil => simp at hi
  | cons x l ih =>
    simp only [ahead] at h
    split at h
    · omega
    · cases i with
      | zero => simpa
      | succ i => simpa using ih (by omega) (by simpa using hi)
theorem ahead_at {l : List Snt} (h : ahead l < l.length) : (l[ahead l]).state = 1 := by
  induction l with
  | nil => simp at h
  | cons x l ih =>
    by_cases hx : x.state = 1
    · simp [ahead, hx]
    · simp only [ahead, hx, if_false] at h ⊢
      simpa using ih (by simpa using h)
theorem fly_nonneg {l : List Snt} (h : ∀ x ∈ l, x.state = 1 → 1 ≤ x.len ∧ x.len ≤ 1500) : 0 ≤ fly l ∧ fly l ≤ 1500 * l.length := by
  induction l with
  | nil => simp [fly]
  | cons x l ih =>
    have := ih (fun y hy => h y (List.mem_cons_of_mem _ hy))
    simp only [fly, List.length_cons]
    split
    · have := h x (by simp) ‹_›
      constructor <;> push_cast <;> omega
    · constructor <;> push_cast <;> omega
theorem fly_snoc (l : List Snt) (x : Snt) : fly (l ++ [x]) = fly l + (if x.state = 1 then x.len else 0) := by
  induction l with
  | nil => simp [fly]
  | cons y l ih => simp only [List.cons_append, fly, ih]; omega
theorem Good.keptOk {s : LS} (g : s.Good) : ∀ x ∈ s.kept, x.ok := fun x hx => g.ok x (List.mem_of_mem_drop hx)
theorem Good.keptFly {s : LS} (g : s.Good) : ∀ x ∈ s.kept, x.state = 1 → 1 ≤ x.len ∧ x.len ≤ 1500 := fun x hx => g.fly x (List.mem_of_mem_drop hx)
theorem Good.keptPn {s : LS} (g : s.Good) {i : Nat} (h : i < s.kept.length) : s.kept[i].pn = s.low + i := by
  rw [kept_get s h, g.pn]; push_cast; rfl
theorem Good.new (ring limit : Int) (h : 0 ≤ limit) : (LS.new ring limit).Good := by
  refine ⟨?_, ?_, ?_, ?_, ?_, ?_, ?_, ?_⟩ <;> simp [LS.new] <;> omega

theorem Good.give {s : LS} (g : s.Good) {x : Snt} (hx : x.ok) (hf : x.state = 1 → 1 ≤ x.len ∧ x.len ≤ 1500) : (s.give x).1.Good := by
  unfold LS.give
  split
  · exact g
  · split
    · exact g
    · refine ⟨g.ring4, g.ring256, g.lim0, g.lim1, ?_, ?_, ?_, ?_⟩
      · simp; omega
      · intro y hy
        simp only [List.mem_append, List.mem_singleton] at hy
        rcases hy with hy | rfl
        · exact g.ok y hy
        · have := g.lim1
          exact ⟨⟨by simp, by simp only; omega⟩, hx.off, hx.len, hx.nonce, hx.at_, hx.state⟩
      · intro i hi
        simp only [List.length_append, List.length_singleton] at hi
        by_cases h : i < s.all.length
        · simp only [List.getElem_append_left h]; exact g.pn i h
        · obtain rfl : i = s.all.length := by omega
          simp
      · intro y hy
        simp only [List.mem_append, List.mem_singleton] at hy
        rcases hy with hy | rfl
        · exact g.fly y hy
        · exact hf
theorem Good.send {s : LS} (g : s.Good) {x : Snt} (hx : x.ok) : (s.send x).1.Good := by
  unfold LS.send
  split
  · exact g
  · refine g.give ⟨hx.pn, hx.off, hx.len, hx.nonce, hx.at_, by unfold isI64; simp⟩ (fun _ => by simp only; omega)
theorem Good.skip {s : LS} (g : s.Good) : s.skip.1.Good :=
  g.give (x := skipped) ⟨by unfold isU64 skipped; simp, by unfold isU64 skipped; simp, by unfold isU64 skipped; simp, by unfold isU64 skipped; simp, by unfold isU64 skipped; simp, by unfold isI64 skipped; simp⟩ (by simp [skipped])
theorem has_lt {s : LS} {pn : Int} (h : s.has pn) : pn.toNat < s.all.length ∧ s.low ≤ pn.toNat ∧ (pn.toNat : Int) = pn := by
  obtain ⟨h1, h2⟩ := h
  omega
theorem at'_eq {s : LS} {pn : Int} (h : s.has pn) : s.at' pn = s.all[pn.toNat]'(has_lt h).1 := by
  simp [at', (has_lt h).1]
theorem Good.put {s : LS} (g : s.Good) {pn : Int} (h : s.has pn) {y : Snt} (hy : y.ok) (hp : y.pn = (s.at' pn).pn) (hf : y.state = 1 → 1 ≤ y.len ∧ y.len ≤ 1500) : (s.put pn y).Good := by
  refine ⟨g.ring4, g.ring256, g.lim0, g.lim1, by simpa [LS.put] using g.len, ?_, ?_, ?_⟩
  · intro z hz
    rcases List.mem_or_eq_of_mem_set hz with hz | rfl
    · exact g.ok z hz
    · exact hy
  · intro i hi
    simp only [LS.put, List.length_set] at hi
    simp only [LS.put, List.getElem_set]
    split
    · rename_i e
      subst e
      rw [hp, at'_eq h]
      exact g.pn _ _
    · exact g.pn _ _
  · intro z hz
    rcases List.mem_or_eq_of_mem_set hz with hz | rfl
    · exact g.fly z hz
    · exact hf
theorem Good.at' {s : LS} (g : s.Good) {pn : Int} (h : s.has pn) : (s.at' pn).ok ∧ (s.at' pn).pn = pn ∧ ((s.at' pn).state = 1 → 1 ≤ (s.at' pn).len ∧ (s.at' pn).len ≤ 1500) := by
  rw [at'_eq h]
  exact ⟨g.ok _ (List.getElem_mem _), by rw [g.pn]; exact (has_lt h).2.2, g.fly _ (List.getElem_mem _)⟩
theorem Good.use {s : LS} (g : s.Good) (pn : Int) : (s.use pn).1.Good := by
  unfold LS.use
  split
  · rename_i h
    obtain ⟨h1, h2, h3⟩ := g.at' h.1
    exact g.put h.1 ⟨h1.pn, h1.off, h1.len, h1.nonce, h1.at_, h1.state⟩ rfl h3
  · exact g
theorem Good.settle {s : LS} (g : s.Good) (pn state : Int) : (s.settle pn state).1.Good := by
  unfold LS.settle
  split
  · rename_i h
    obtain ⟨h1, h2, h3⟩ := g.at' h.1
    have hs : state = 2 ∨ state = 3 := by have := h.2; omega
    refine g.put h.1 ⟨h1.pn, h1.off, h1.len, h1.nonce, h1.at_, ?_⟩ rfl ?_
    · unfold isI64; simp only; omega
    · intro e; simp only at e; omega
  · exact g
theorem put_kept (s : LS) {pn : Int} (h : s.has pn) (y : Snt) : (s.put pn y).kept = s.kept.set (pn.toNat - s.low) y := by
  have hl : (s.put pn y).low = s.low := by simp [LS.put, LS.low]
  obtain ⟨h1, h2, h3⟩ := has_lt h
  unfold LS.kept
  rw [hl]
  simp only [LS.put]
  rw [List.drop_set, if_neg (by omega)]
theorem kept_at (s : LS) {pn : Int} (h : s.has pn) : ∃ hk : pn.toNat - s.low < s.kept.length, s.kept[pn.toNat - s.low] = s.at' pn := by
  obtain ⟨h1, h2, h3⟩ := has_lt h
  refine ⟨by simp [LS.kept]; omega, ?_⟩
  rw [at'_eq h, kept_get]
  congr 1
  omega
theorem give_kept (s : LS) (x : Snt) (hr : 0 < s.ring) : ({ s with all := s.all ++ [x] } : LS).kept = if s.kept.length + 1 ≤ s.ring then s.kept ++ [x] else (s.kept ++ [x]).drop 1 := by
  have hk := s.kept_len
  have hl : s.low = s.all.length - s.ring := rfl
  split
  · have e : ({ s with all := s.all ++ [x] } : LS).low = s.low := by simp only [LS.low, List.length_append, List.length_singleton]; omega
    unfold LS.kept
    rw [e]
    simp only
    rw [List.drop_append_of_le_length (by omega)]
  · have e : ({ s with all := s.all ++ [x] } : LS).low = s.low + 1 := by simp only [LS.low, List.length_append, List.length_singleton]; omega
    unfold LS.kept
    rw [e]
    simp only
    rw [← List.drop_drop, List.drop_append_of_le_length (by omega)]
end LS

end Go.Proofs.Ytkedfipeebjcjaa

namespace Go.Proofs.Ytkedfipeebjcjaa
set_option linter.unusedSimpArgs false
set_option linter.unusedVariables false
set_option linter.unnecessarySimpa false
open Go.RowKit

end Go.Proofs.Ytkedfipeebjcjaa

namespace Go.Proofs.Ytkedfipeebjcjaa
set_option linter.unusedSimpArgs false
set_option linter.unusedVariables false
set_option linter.unnecessarySimpa false
open Go.RowKit

end Go.Proofs.Ytkedfipeebjcjaa

namespace Go.Proofs.Ytkedfipeebjcjaa
set_option linter.unusedSimpArgs false
set_option linter.unusedVariables false
set_option linter.unnecessarySimpa false
open Go.RowKit

def Snt.val (s : Snt) : Value := .agg #[.int .u64 s.pn, .int .u64 s.off, .int .u64 s.len, .int .u64 s.nonce, .int .u64 s.at_, .bool s.coin, .bool s.used, .int .i64 s.state]

end Go.Proofs.Ytkedfipeebjcjaa

namespace Go.Proofs.Ytkedfipeebjcjaa
set_option linter.unusedSimpArgs false
set_option linter.unusedVariables false
set_option linter.unnecessarySimpa false
open Go.RowKit

theorem ret_bool_and {a b : Bool} {p : Prop} (h : a = b) (hp : p) : Ending.returned (.bool a) = .returned (.bool b) ∧ p := ⟨by rw [h], hp⟩

end Go.Proofs.Ytkedfipeebjcjaa

namespace Go.Proofs.Ytkedfipeebjcjaa
set_option linter.unusedSimpArgs false
set_option linter.unusedVariables false
set_option linter.unnecessarySimpa false
open Go.RowKit

theorem sat_add64 (a b : Int) (ha : 0 ≤ a) (hb : 0 ≤ b) (w : World) : (callFunc 78 #[.int .u64 a, .int .u64 b, .int .u64 0]).run Try.prog w =
    .ok (.value (.tuple #[.int .u64 ((a + b) % 18446744073709551616), .int .u64 ((a + b) / 18446744073709551616)])) w := by
  rw [run_callFunc_extern Try.func78 (by kernel_rfl) (by kernel_rfl) (by kernel_rfl) (e := add64Entry) (by kernel_rfl), run_add64 a b 0 ha hb (by omega) (by omega)]
  simp [Result.andThen]

set_option maxHeartbeats 800000 in
theorem sat_add (a b : Int) (w : World) (ha : isU64 a) (hb : isU64 b) :
    Calls Try.prog 66 #[.int .u64 a, .int .u64 b] w fun e w' => e = .returned (.int .u64 (min (a + b) 18446744073709551615)) ∧ Qt w w' := by
  obtain ⟨h1, h2⟩ := ha
  obtain ⟨h3, h4⟩ := hb
  by_cases hc : a + b < 18446744073709551616
  · have hr : ∀ w, (callFunc 78 #[.int .u64 a, .int .u64 b, .int .u64 0]).run Try.prog w = .ok (.value (.tuple #[.int .u64 (a + b), .int .u64 0])) w := fun w => by
      rw [sat_add64 a b h1 h3, show (a + b) % 18446744073709551616 = a + b by omega, show (a + b) / 18446744073709551616 = 0 by omega]
    have HM := Lib.hid (show min (a + b) 18446744073709551615 = a + b by omega)
    go_enter Try.func66, Try.ntmps66
    go_wp2
    go_ret
    exact ⟨ret_int HM.out.symm, Qt.refl _⟩
  · have hr : ∀ w, (callFunc 78 #[.int .u64 a, .int .u64 b, .int .u64 0]).run Try.prog w = .ok (.value (.tuple #[.int .u64 (a + b - 18446744073709551616), .int .u64 1])) w := fun w => by
      rw [sat_add64 a b h1 h3, show (a + b) % 18446744073709551616 = a + b - 18446744073709551616 by omega, show (a + b) / 18446744073709551616 = 1 by omega]
    have HM := Lib.hid (show min (a + b) 18446744073709551615 = 18446744073709551615 by omega)
    go_enter Try.func66, Try.ntmps66
    go_wp2
    go_ret
    exact ⟨ret_int HM.out.symm, Qt.refl _⟩
end Go.Proofs.Ytkedfipeebjcjaa

namespace Go.Proofs.Ytkedfipeebjcjaa
set_option linter.unusedSimpArgs false
set_option linter.unusedVariables false
set_option linter.unnecessarySimpa false
open Go.RowKit
attribute [local go_sem ↓] run_min_int run_max_int

theorem fly_take (l : List Snt) (k : Nat) (h : k < l.length) : LS.fly (l.take (k + 1)) = LS.fly (l.take k) + (if l[k].state = 1 then l[k].len else 0) := by
  rw [List.take_succ_eq_append_getElem h, LS.fly_snoc]

end Go.Proofs.Ytkedfipeebjcjaa

namespace Go.Proofs.Ytkedfipeebjcjaa
set_option linter.unusedSimpArgs false
set_option linter.unusedVariables false
set_option linter.unnecessarySimpa false
open Go.RowKit

end Go.Proofs.Ytkedfipeebjcjaa

namespace Go.Proofs.Ytkedfipeebjcjaa
set_option linter.unusedSimpArgs false
set_option linter.unusedVariables false
set_option linter.unnecessarySimpa false
open Go.RowKit

end Go.Proofs.Ytkedfipeebjcjaa

namespace Go.Proofs.Ytkedfipeebjcjaa
set_option linter.unusedSimpArgs false
set_option linter.unusedVariables false
set_option linter.unnecessarySimpa false
open Go.RowKit

/-- A box, just made. -/
theorem box_below (w : World) (o : Obj) : Below w.heap.size w (w.alloc o) := (Below.refl _ _).alloc (Nat.le_refl _) _

section
variable {P : Program} {ops : Array Oper} {md : Region.Mode} {C : World → Prop}

/-- f operations of the head come up, in some order; then L. -/
def wpHd (P : Program) (md : Region.Mode) (ops : Array Oper) (C : World → Prop) (n : Nat) (L : Array Bool → Act → Prop) : Nat → Array Bool → Act → Prop
  | 0, listed, a => L listed a
  | f + 1, listed, a => Region.ready md ops listed ≠ [] ∧ ∀ i ∈ Region.ready md ops listed, i < n ∧ qOp P ops C i (wpHd P md ops C n L f (listed.setIfInBounds i true)) a

theorem wpAny_of_hd {n g : Nat} {L : Array Bool → Act → Prop} {Q : Exit → Act → World → Prop} (hL : ∀ listed a w, C w → L listed a → wpAny P md ops Q g listed a w) :
    ∀ (f : Nat) (listed : Array Bool) (a : Act) (w : World), C w → wpHd P md ops C n L f listed a → wpAny P md ops Q (f + g) listed a w := by
  intro f
  induction f with
  | zero => intro listed a w hw h; rw [Nat.zero_add]; exact hL _ _ _ hw h
  | succ f ih =>
    intro listed a w hw h
    rw [show f + 1 + g = (f + g) + 1 by omega]
    exact ⟨fun h0 => absurd h0 h.1, fun i hi => wpOp_of_qOp hw (fun a' w' hw' h' => ih _ a' w' hw' h') (h.2 i hi).2⟩

theorem wpHd_first {n i : Nat} {oi : Oper} {v : Value} {L : Array Bool → Act → Prop} (hi : ops[i]? = some oi) (hsel : ∀ (j : Nat) (o : Oper) cs b, ops[j]? = some o → o.op ≠ .select cs b)
    (hs : Region.sinkB md ops n = true) (hc : Region.chainB md ops n = true) (hn : n < ops.size) (hin : i < n) (hdone : ∀ listed a, L listed a → ∀ j ∈ Region.ready md ops listed, n ≤ j) :
    ∀ (f : Nat) (listed : Array Bool) (a : Act), HeadInv md ops n listed →
      (∀ j oj, ops[j]? = some oj → j ≠ i → listed.getD j true = false → (∀ e ∈ oj.after, Region.binds md e = true → e.on ≠ i) → oi.apart ops oj = true) →
      i ∈ Region.ready md ops listed → YieldsIn P ops C oi v a → wpHd P md ops C n L f (listed.setIfInBounds i true) (a.put oi.dst v) → wpHd P md ops C n L (f + 1) listed a := by
  intro f
  induction f with
  | zero =>
    intro listed a inv _ hr hy H
    have hun := (mem_ready.1 hr).1
    refine ⟨fun h => (by rw [h] at hr; cases hr), fun j hj => ?_⟩
    have hjn : j < n := Nat.lt_of_not_le fun h => tail_waits hs hc hn inv _ i rfl hin hun j h hj
    refine ⟨hjn, ?_⟩
    rcases Decidable.em (j = i) with rfl | hji
    · exact hy.qOp hi H
    · exact absurd (hdone _ _ H j (ready_mono hj hji)) (by omega)
  | succ f ih =>
    intro listed a inv hfree hr hy H
    have hun := (mem_ready.1 hr).1
    refine ⟨fun h => (by rw [h] at hr; cases hr), fun j hj => ?_⟩
    have hjn : j < n := Nat.lt_of_not_le fun h => tail_waits hs hc hn inv _ i rfl hin hun j h hj
    refine ⟨hjn, ?_⟩
    rcases Decidable.em (j = i) with rfl | hji
    · exact hy.qOp hi H
    · obtain ⟨hjun, oj, hoj, hall⟩ := mem_ready.1 hj
      have hnot : ∀ e ∈ oj.after, Region.binds md e = true → e.on ≠ i := fun e he hb heq => by
        have h1 := hall e he hb
        rw [heq, getD_both hun] at h1
        cases h1
      have h2 := qOp_put hoj (hfree j oj hoj hji hjun hnot) (fun cs b => hsel i oi cs b hi) (fun cs b => hsel j oj cs b hoj) hy (H.2 j (ready_mono hj hji)).2
      refine qOp_mono (fun a' h3 => ?_) h2
      refine ih (listed.setIfInBounds j true) a' (inv.set hj hjn) (fun k ok hk hki hu hno => hfree k ok hk hki ?_ hno) (ready_mono hr (Ne.symm hji)) h3.1 ?_
      · rcases Decidable.em (j = k) with rfl | hjk
        · exact hjun
        · rwa [getD_set_ne true hjk] at hu
      · rw [Array.setIfInBounds_comm _ _ hji]
        exact h3.2

theorem wpHd_lex {n g : Nat} {K : Act → Prop} (hsel : Region.noSelect ops = true) (hs : Region.sinkB md ops n = true) (hc : Region.chainB md ops n = true) (hn : n < ops.size) :
    ∀ (l : List Oper) (k : Nat) (listed : Array Bool) (a : Act), (∀ j, j < l.length → l[j]? = ops[k + j]?) → k + l.length = n → HeadInv md ops n listed →
    Region.lexHead md ops g l.length k listed = true → wpQuiet P ops C K l a → wpHd P md ops C n (fun listed' a' => Region.seqB md ops g n listed' = true ∧ K a') l.length listed a := by
  intro l
  induction l with
  | nil =>
    intro k listed a _ hk _ hB h
    obtain rfl : k = n := by simpa using hk
    exact ⟨by simpa [Region.lexHead] using hB, h⟩
  | cons o l ih =>
    intro k listed a hl hk inv hB h
    have h0 : ops[k]? = some o := by simpa using (hl 0 (by simp)).symm
    simp only [List.length_cons, Region.lexHead, Bool.and_eq_true] at hB
    simp only [List.length_cons] at hk
    have hr : k ∈ Region.ready md ops listed := by simpa using hB.1.1
    have hq : qOp P ops C k (wpQuiet P ops C K l) a := by unfold qOp; simp only [h0]; exact h
    obtain ⟨v, hy, hK⟩ := yieldsIn_of_qOp h0 hq
    refine wpHd_first h0 (Region.noSelect_spec hsel) hs hc hn (by omega) (fun _ _ hL => seqB_ready hL.1) l.length listed a inv (Region.free_spec h0 hB.1.2) hr hy ?_
    exact ih (k + 1) _ _ (fun j hj => by have := hl (j + 1) (by simp; omega); simpa [Nat.add_assoc, Nat.add_comm 1 j] using this) (by omega) (inv.set hr (by omega)) hB.2 hK

/-- The head walked once, over a class of worlds; the tail from any world of the class. -/
theorem wp_region_class_tail {id : Nat} {Q : Exit → Act → World → Prop} {a : Act} {w : World} {l : List Oper} (n : Nat) (hm : P.follows .mixedOrders = true) (hB : Region.lexTailB .any l.toArray n = true) (hC : C w.drew)
    (h : wpQuiet P l.toArray C (fun a' => ∀ w', C w' → wpList P l.toArray Q (l.drop n) a' w') (l.take n) a) : (Code.region id l.toArray true).wp P Q a w := by
  simp only [Region.lexTailB, Bool.and_eq_true, decide_eq_true_eq] at hB
  obtain ⟨⟨⟨⟨hsel, hn⟩, hs⟩, hc⟩, hlex⟩ := hB
  have hn' : n < l.length := by simpa using hn
  have ht : (l.take n).length = n := by simp; omega
  have hd : (l.drop n).length = l.toArray.size - n := by simp
  have inv0 : HeadInv .any l.toArray n (Array.replicate l.toArray.size false) :=
    ⟨by simp, fun j oj _ hl => (by rw [getD_replicate_false] at hl; cases hl), fun t _ ht => getD_in (by simpa using ht) (getD_replicate_false _ _)⟩
  have H := wpHd_lex (md := .any) (g := l.toArray.size - n) hsel hs hc hn (l.take n) 0 _ a (fun j hj => by
    have hj' : j < n := by rw [ht] at hj; exact hj
    simp [hj']) (by simpa using ht) inv0 (by rw [ht]; exact hlex) h
  refine wp_region_any hm ?_
  have := wpAny_of_hd (Q := Q) (g := l.toArray.size - n) (fun listed a' w' hw' hL => by
    have := wpAny_of_seq (md := .any) (Q' := Q) (l.drop n) n listed a' w' (fun j => by simp [List.getElem?_drop]) (by rw [hd]; exact hL.1) (hL.2 w' hw')
    rwa [hd] at this) _ _ _ _ hC H
  rw [ht, show n + (l.toArray.size - n) = l.toArray.size by omega] at this
  exact this

theorem wp_region_qtt {id : Nat} {Q : Exit → Act → World → Prop} {a : Act} {w : World} {l : List Oper} (n : Nat) (hm : P.follows .mixedOrders = true) (hB : Region.lexTailB .any l.toArray n = true)
    (h : wpQuiet P l.toArray (fun w' => ∃ n, w' = w.drewN n) (fun a' => ∀ w', Qt w w' → wpList P l.toArray Q (l.drop n) a' w') (l.take n) a) : (Code.region id l.toArray true).wp P Q a w :=
  wp_region_class_tail n hm hB (C := fun w' => ∃ n, w' = w.drewN n) ⟨1, rfl⟩ h

theorem wp_region_bt {id : Nat} {Q : Exit → Act → World → Prop} {a : Act} {w : World} {l : List Oper} (n : Nat) (hm : P.follows .mixedOrders = true) (hB : Region.lexTailB .any l.toArray n = true)
    (h : wpQuiet P l.toArray (fun w' => ∃ u, w' = mix w u) (fun a' => ∀ w', Below w.heap.size w w' → wpList P l.toArray Q (l.drop n) a' w') (l.take n) a) : (Code.region id l.toArray true).wp P Q a w := by
  refine wp_region_class_tail n hm hB (C := fun w' => ∃ u, w' = mix w u) (below_mix (Below.refl _ w).drew) ?_
  have e : (fun a' : Act => ∀ w', (∃ u, w' = mix w u) → wpList P l.toArray Q (l.drop n) a' w') = (fun a' : Act => ∀ w', Below w.heap.size w w' → wpList P l.toArray Q (l.drop n) a' w') := by
    funext a'
    apply propext
    exact ⟨fun h w' hb => h w' (below_mix hb), fun h w' ⟨u, hu⟩ => h w' (hu ▸ mix_below w u)⟩
  rw [e]
  exact h
end
end Go.Proofs.Ytkedfipeebjcjaa

namespace Go.Proofs.Ytkedfipeebjcjaa
set_option linter.unusedSimpArgs false
set_option linter.unusedVariables false
set_option linter.unnecessarySimpa false
open Go.RowKit

end Go.Proofs.Ytkedfipeebjcjaa
