/-
  Part of the proof of EngineRanges.
-/
import Derived.Test.YtpkbimmhimgamaaPAA
import Derived.Deep.RegionHeld3
import Derived.Deep.RegionWith
import Derived.Laws.ResultCell
import Derived.Laws.Externs
import Derived.Deep.RegionLaw
import Derived.OneCell
import Derived.StillTail
namespace Go.Proofs.Ytpkbimmhimgamaa
set_option linter.unusedSimpArgs false
set_option linter.unusedVariables false
set_option linter.unnecessarySimpa false
open Go.RowKit
structure Snt where
  pn : Int
  off : Int
  len : Int
  nonce : Int
  at_ : Int
  coin : Bool
  used : Bool
  state : Int

def Snt.vals (s : Snt) : List Value := [.int .u64 s.pn, .int .u64 s.off, .int .u64 s.len, .int .u64 s.nonce, .int .u64 s.at_, .bool s.coin, .bool s.used, .int .i64 s.state]
def Sns (l : List Snt) : List Value := l.flatMap Snt.vals
theorem vals_len (s : Snt) : s.vals.length = 8 := rfl
theorem Sns_append (a b : List Snt) : Sns (a ++ b) = Sns a ++ Sns b := by simp [Sns]
theorem Sns_drop (l : List Snt) (n : Nat) : (Sns l).drop (n * 8) = Sns (l.drop n) := flat_drop _ 8 vals_len l n
theorem Sns_one (l : List Snt) : ∀ u ∈ Sns l, u.oneCell' = true := by
  intro u hu
  obtain ⟨x, _, hx⟩ := List.mem_flatMap.1 hu
  simp only [Snt.vals, List.mem_cons, List.not_mem_nil, or_false] at hx
  rcases hx with rfl | rfl | rfl | rfl | rfl | rfl | rfl | rfl <;> rfl

/-- The eight cells of an element. -/
theorem Rd.snt {w : World} {A : Option Addr} {n c : Nat} {l : List Snt} (h : Rd w 8 A n c (Sns l)) {i : Nat} (hi : i < l.length) :
    ∃ b off, A = some ⟨b, off, none⟩ ∧
      w.cell? ⟨b, off + i * 8, none⟩ = some (.int .u64 l[i].pn) ∧ w.cell? ⟨b, off + i * 8 + 1, none⟩ = some (.int .u64 l[i].off) ∧
      w.cell? ⟨b, off + i * 8 + 2, none⟩ = some (.int .u64 l[i].len) ∧ w.cell? ⟨b, off + i * 8 + 3, none⟩ = some (.int .u64 l[i].nonce) ∧
      w.cell? ⟨b, off + i * 8 + 4, none⟩ = some (.int .u64 l[i].at_) ∧ w.cell? ⟨b, off + i * 8 + 5, none⟩ = some (.bool l[i].coin) ∧
      w.cell? ⟨b, off + i * 8 + 6, none⟩ = some (.bool l[i].used) ∧ w.cell? ⟨b, off + i * 8 + 7, none⟩ = some (.int .i64 l[i].state) := by
  obtain ⟨b, off, e, hc⟩ := Rd.elem vals_len h (by omega) hi
  exact ⟨b, off, e, hc 0 _ rfl, hc 1 _ rfl, hc 2 _ rfl, hc 3 _ rfl, hc 4 _ rfl, hc 5 _ rfl, hc 6 _ rfl, hc 7 _ rfl⟩

def isI64 (x : Int) : Prop := -9223372036854775808 ≤ x ∧ x < 9223372036854775808

structure Snt.ok (s : Snt) : Prop where
  pn : isU64 s.pn
  off : isU64 s.off
  len : isU64 s.len
  nonce : isU64 s.nonce
  at_ : isU64 s.at_
  state : isI64 s.state

/-- A ledger: all that ever was given. -/
structure LS where
  ring : Nat
  limit : Int
  all : List Snt

namespace LS
def low (s : LS) : Nat := s.all.length - s.ring
def kept (s : LS) : List Snt := s.all.drop s.low
/-- How many are ahead of the first one that is flying. -/
def ahead : List Snt → Nat
  | [] => 0
  | x :: l => if x.state = 1 then 0 else ahead l + 1
def least (s : LS) : Nat := s.low + ahead s.kept
def room (s : LS) : Int := s.ring - ((s.all.length : Int) - s.least)
def fly : List Snt → Int
  | [] => 0
  | x :: l => (if x.state = 1 then x.len else 0) + fly l
def flight (s : LS) : Int := fly s.kept
def give (s : LS) (x : Snt) : LS × Int × Int :=
  if s.limit < s.all.length then (s, 0, 8) else if s.room < 1 then (s, 0, 7) else ({ s with all := s.all ++ [{ x with pn := s.all.length }] }, s.all.length, 0)
def send (s : LS) (x : Snt) : LS × Int × Int :=
  if x.len < 1 ∨ 1500 < x.len ∨ 4611686018427387903 < x.off then (s, 0, 1) else s.give { x with state := 1, used := false }
def skipped : Snt := ⟨0, 0, 0, 0, 0, false, false, 4⟩
def skip (s : LS) : LS × Int × Int := s.give skipped
def has (s : LS) (pn : Int) : Prop := (s.low : Int) ≤ pn ∧ pn < s.all.length
instance (s : LS) (pn : Int) : Decidable (s.has pn) := by unfold has; infer_instance
def zero : Snt := ⟨0, 0, 0, 0, 0, false, false, 0⟩
def at' (s : LS) (pn : Int) : Snt := s.all.getD pn.toNat zero
def get (s : LS) (pn : Int) : Snt × Bool := if s.has pn then (s.at' pn, true) else (zero, false)
def put (s : LS) (pn : Int) (x : Snt) : LS := { s with all := s.all.set pn.toNat x }
def mayUse (s : LS) (pn : Int) : Prop := s.has pn ∧ (s.at' pn).state ≠ 4 ∧ (s.at' pn).used = false
instance (s : LS) (pn : Int) : Decidable (s.mayUse pn) := by unfold mayUse; infer_instance
def use (s : LS) (pn : Int) : LS × Bool := if s.mayUse pn then (s.put pn { s.at' pn with used := true }, true) else (s, false)
def maySettle (s : LS) (pn state : Int) : Prop := s.has pn ∧ ((state = 2 ∧ ((s.at' pn).state = 1 ∨ (s.at' pn).state = 3)) ∨ (state = 3 ∧ (s.at' pn).state = 1))
instance (s : LS) (pn state : Int) : Decidable (s.maySettle pn state) := by unfold maySettle; infer_instance
def settle (s : LS) (pn state : Int) : LS × Bool := if s.maySettle pn state then (s.put pn { s.at' pn with state := state }, true) else (s, false)
def new (ring : Int) (limit : Int) : LS := ⟨(max 4 (min ring 256)).toNat, min limit 4611686018427387903, []⟩

structure Good (s : LS) : Prop where
  ring4 : 4 ≤ s.ring
  ring256 : s.ring ≤ 256
  lim0 : 0 ≤ s.limit
  lim1 : s.limit ≤ 4611686018427387903
  len : (s.all.length : Int) ≤ s.limit + 1
  ok : ∀ x ∈ s.all, x.ok
  pn : ∀ i (h : i < s.all.length), s.all[i].pn = i
  fly : ∀ x ∈ s.all, x.state = 1 → 1 ≤ x.len ∧ x.len ≤ 1500

theorem kept_len (s : LS) : s.kept.length = min s.all.length s.ring := by simp [kept, low]; omega
theorem kept_le (s : LS) : s.kept.length ≤ s.ring := by rw [kept_len]; omega
theorem low_le (s : LS) : s.low ≤ s.all.length := by simp [low]
theorem kept_get (s : LS) {i : Nat} (h : i < s.kept.length) : s.kept[i] = s.all[s.low + i]'(by simp [kept] at h; omega) := by simp [kept]
theorem ahead_le (l : List Snt) : ahead l ≤ l.length := by
  induction l with
  | nil => simp [ahead]
  | cons x l ih => simp only [ahead]; split <;> simp <;> omega
theorem least_le (s : LS) : s.least ≤ s.all.length := by
  have := ahead_le s.kept
  have := s.kept_len
  have := s.low_le
  simp only [least, low] at *
  omega
theorem low_least (s : LS) : s.low ≤ s.least := by simp [least]
theorem room_le (s : LS) : s.room ≤ s.ring := by have := s.least_le; simp only [room]; omega
theorem room_ge (s : LS) : 0 ≤ s.room := by
  have := s.low_least
  simp only [room, low] at *
  omega
/-- Those ahead of the first one that is flying do not fly; it does. -/
theorem ahead_lt {l : List Snt} {i : Nat} (h : i < ahead l) (hi : i < l.length) : l[i].state ≠ 1 := by
  induction l generalizing i with
  | nil => simp at hi
  | cons x l ih =>
    simp only [ahead] at h
    split at h
    · omega
    · cases i with
      | zero => simpa
      | succ i => simpa using ih (by omega) (by simpa using hi)
theorem ahead_at {l : List Snt} (h : ahead l < l.length) : (l[ahead l]).state = 1 := by
  induction l with
  | nil => simp at h
  | cons x l ih =>
    by_cases hx : x.state = 1
    · simp [ahead, hx]
    · simp only [ahead, hx, if_false] at h ⊢
      simpa using ih (by simpa using h)
theorem fly_nonneg {l : List Snt} (h : ∀ x ∈ l, x.state = 1 → 1 ≤ x.len ∧ x.len ≤ 1500) : 0 ≤ fly l ∧ fly l ≤ 1500 * l.length := by
  induction l with
  | nil => simp [fly]
  | cons x l ih =>
    have := ih (fun y hy => h y (List.mem_cons_of_mem _ hy))
    simp only [fly, List.length_cons]
    split
    · have := h x (by simp) ‹_›
      constructor <;> push_cast <;> omega
    · constructor <;> push_cast <;> omega
theorem fly_snoc (l : List Snt) (x : Snt) : fly (l ++ [x]) = fly l + (if x.state = 1 then x.len else 0) := by
  induction l with
  | nil => simp [fly]
  | cons y l ih => simp only [List.cons_append, fly, ih]; omega
theorem Good.keptFly {s : LS} (g : s.Good) : ∀ x ∈ s.kept, x.state = 1 → 1 ≤ x.len ∧ x.len ≤ 1500 := fun x hx => g.fly x (List.mem_of_mem_drop hx)
theorem Good.keptPn {s : LS} (g : s.Good) {i : Nat} (h : i < s.kept.length) : s.kept[i].pn = s.low + i := by
  rw [kept_get s h, g.pn]; push_cast; rfl
theorem Good.new (ring limit : Int) (h : 0 ≤ limit) : (LS.new ring limit).Good := by
  refine ⟨?_, ?_, ?_, ?_, ?_, ?_, ?_, ?_⟩ <;> simp [LS.new] <;> omega

theorem Good.give {s : LS} (g : s.Good) {x : Snt} (hx : x.ok) (hf : x.state = 1 → 1 ≤ x.len ∧ x.len ≤ 1500) : (s.give x).1.Good := by
  unfold LS.give
  split
  · exact g
  · split
    · exact g
    · refine ⟨g.ring4, g.ring256, g.lim0, g.lim1, ?_, ?_, ?_, ?_⟩
      · simp; omega
      · intro y hy
        simp only [List.mem_append, List.mem_singleton] at hy
        rcases hy with hy | rfl
        · exact g.ok y hy
        · have := g.lim1
          exact ⟨⟨by simp, by simp only; omega⟩, hx.off, hx.len, hx.nonce, hx.at_, hx.state⟩
      · intro i hi
        simp only [List.length_append, List.length_singleton] at hi
        by_cases h : i < s.all.length
        · simp only [List.getElem_append_left h]; exact g.pn i h
        · obtain rfl : i = s.all.length := by omega
          simp
      · intro y hy
        simp only [List.mem_append, List.mem_singleton] at hy
        rcases hy with hy | rfl
        · exact g.fly y hy
        · exact hf
theorem Good.send {s : LS} (g : s.Good) {x : Snt} (hx : x.ok) : (s.send x).1.Good := by
  unfold LS.send
  split
  · exact g
  · refine g.give ⟨hx.pn, hx.off, hx.len, hx.nonce, hx.at_, by unfold isI64; simp⟩ (fun _ => by simp only; omega)
theorem Good.skip {s : LS} (g : s.Good) : s.skip.1.Good :=
  g.give (x := skipped) ⟨by unfold isU64 skipped; simp, by unfold isU64 skipped; simp, by unfold isU64 skipped; simp, by unfold isU64 skipped; simp, by unfold isU64 skipped; simp, by unfold isI64 skipped; simp⟩ (by simp [skipped])
theorem has_lt {s : LS} {pn : Int} (h : s.has pn) : pn.toNat < s.all.length ∧ s.low ≤ pn.toNat ∧ (pn.toNat : Int) = pn := by
  obtain ⟨h1, h2⟩ := h
  omega
theorem at'_eq {s : LS} {pn : Int} (h : s.has pn) : s.at' pn = s.all[pn.toNat]'(has_lt h).1 := by
  simp [at', (has_lt h).1]
theorem Good.put {s : LS} (g : s.Good) {pn : Int} (h : s.has pn) {y : Snt} (hy : y.ok) (hp : y.pn = (s.at' pn).pn) (hf : y.state = 1 → 1 ≤ y.len ∧ y.len ≤ 1500) : (s.put pn y).Good := by
  refine ⟨g.ring4, g.ring256, g.lim0, g.lim1, by simpa [LS.put] using g.len, ?_, ?_, ?_⟩
  · intro z hz
    rcases List.mem_or_eq_of_mem_set hz with hz | rfl
    · exact g.ok z hz
    · exact hy
  · intro i hi
    simp only [LS.put, List.length_set] at hi
    simp only [LS.put, List.getElem_set]
    split
    · rename_i e
      subst e
      rw [hp, at'_eq h]
      exact g.pn _ _
    · exact g.pn _ _
  · intro z hz
    rcases List.mem_or_eq_of_mem_set hz with hz | rfl
    · exact g.fly z hz
    · exact hf
theorem Good.at' {s : LS} (g : s.Good) {pn : Int} (h : s.has pn) : (s.at' pn).ok ∧ (s.at' pn).pn = pn ∧ ((s.at' pn).state = 1 → 1 ≤ (s.at' pn).len ∧ (s.at' pn).len ≤ 1500) := by
  rw [at'_eq h]
  exact ⟨g.ok _ (List.getElem_mem _), by rw [g.pn]; exact (has_lt h).2.2, g.fly _ (List.getElem_mem _)⟩
theorem Good.use {s : LS} (g : s.Good) (pn : Int) : (s.use pn).1.Good := by
  unfold LS.use
  split
  · rename_i h
    obtain ⟨h1, h2, h3⟩ := g.at' h.1
    exact g.put h.1 ⟨h1.pn, h1.off, h1.len, h1.nonce, h1.at_, h1.state⟩ rfl h3
  · exact g
theorem Good.settle {s : LS} (g : s.Good) (pn state : Int) : (s.settle pn state).1.Good := by
  unfold LS.settle
  split
  · rename_i h
    obtain ⟨h1, h2, h3⟩ := g.at' h.1
    have hs : state = 2 ∨ state = 3 := by have := h.2; omega
    refine g.put h.1 ⟨h1.pn, h1.off, h1.len, h1.nonce, h1.at_, ?_⟩ rfl ?_
    · unfold isI64; simp only; omega
    · intro e; simp only at e; omega
  · exact g
theorem put_kept (s : LS) {pn : Int} (h : s.has pn) (y : Snt) : (s.put pn y).kept = s.kept.set (pn.toNat - s.low) y := by
  have hl : (s.put pn y).low = s.low := by simp [LS.put, LS.low]
  obtain ⟨h1, h2, h3⟩ := has_lt h
  unfold LS.kept
  rw [hl]
  simp only [LS.put]
  rw [List.drop_set, if_neg (by omega)]
theorem kept_at (s : LS) {pn : Int} (h : s.has pn) : ∃ hk : pn.toNat - s.low < s.kept.length, s.kept[pn.toNat - s.low] = s.at' pn := by
  obtain ⟨h1, h2, h3⟩ := has_lt h
  refine ⟨by simp [LS.kept]; omega, ?_⟩
  rw [at'_eq h, kept_get]
  congr 1
  omega
theorem give_kept (s : LS) (x : Snt) (hr : 0 < s.ring) : ({ s with all := s.all ++ [x] } : LS).kept = if s.kept.length + 1 ≤ s.ring then s.kept ++ [x] else (s.kept ++ [x]).drop 1 := by
  have hk := s.kept_len
  have hl : s.low = s.all.length - s.ring := rfl
  split
  · have e : ({ s with all := s.all ++ [x] } : LS).low = s.low := by simp only [LS.low, List.length_append, List.length_singleton]; omega
    unfold LS.kept
    rw [e]
    simp only
    rw [List.drop_append_of_le_length (by omega)]
  · have e : ({ s with all := s.all ++ [x] } : LS).low = s.low + 1 := by simp only [LS.low, List.length_append, List.length_singleton]; omega
    unfold LS.kept
    rw [e]
    simp only
    rw [← List.drop_drop, List.drop_append_of_le_length (by omega)]
end LS
end Go.Proofs.Ytpkbimmhimgamaa
namespace Go.Proofs.Ytpkbimmhimgamaa
set_option linter.unusedSimpArgs false
set_option linter.unusedVariables false
set_option linter.unnecessarySimpa false
open Go.RowKit
structure LedP (w : World) (F : Nat → Prop) (b : Nat) (s : LS) : Prop where
  good : s.Good
  ex : ∃ A c, w.heap[b]? = some (.cells #[.int .i64 s.ring, .int .u64 s.limit, .int .u64 s.all.length, .slice A s.kept.length c] 88 (0, 0)) ∧
    w.ownsRow 0 131 8 (.slice A s.kept.length c) s.kept.length (Sns s.kept) ∧ F b ∧ ∀ g, (Value.slice A s.kept.length c).ownBlock = some g → F g ∧ g ≠ b

theorem infoSent : (Try.prog.info? 131).map (fun i => (i.zero, i.size, i.bytes)) = some (some (.agg #[.int .u64 0, .int .u64 0, .int .u64 0, .int .u64 0, .int .u64 0, .bool false, .bool false, .int .i64 0]), 8, 56) := by kernel_rfl

theorem LedP.qt {w w' : World} {F : Nat → Prop} {b : Nat} {s : LS} (h : LedP w F b s) (q : Qt w w') : LedP w' F b s := by
  obtain ⟨g, A, c, h1, h2, h3⟩ := h
  exact ⟨g, A, c, q.blk h1, q.own h2, h3⟩
theorem LedP.chg {w w' : World} {F G H : Nat → Prop} {b : Nat} {s : LS} (h : LedP w F b s) (q : Chg G w w') (hd : ∀ k, k < w.heap.size → F k → ¬ G k) (hs : ∀ k, k < w.heap.size → F k → H k) : LedP w' H b s := by
  obtain ⟨g, A, c, h1, h2, h3, h4⟩ := h
  have hb := (Array.getElem?_eq_some_iff.1 h1).1
  exact ⟨g, A, c, q.blk h1 (hd _ hb h3), own_chg h2 q (fun k hk => hd k (h2.lt k hk).2 (h4 k hk).1), hs b hb h3, fun k hk => ⟨hs k (h2.lt k hk).2 (h4 k hk).1, (h4 k hk).2⟩⟩

theorem satSub_any (a b d : Int) (w : World) (ha : isU64 a) (hb : isU64 b) (hd : d = if a < b then 0 else a - b) :
    Calls Try.prog 51 #[.int .u64 a, .int .u64 b] w fun e w' => e = .returned (.int .u64 d) ∧ Qt w w' := by
  subst hd
  obtain ⟨a0, a1⟩ := ha
  obtain ⟨b0, b1⟩ := hb
  by_cases h : a < b
  · rw [if_pos h]
    go_enter Try.func51, Try.ntmps51
    go_wp2
    go_ret
    exact ⟨rfl, Qt.refl _⟩
  · rw [if_neg h]
    go_enter Try.func51, Try.ntmps51
    go_wp2
    go_ret
    exact ⟨ret_int (by first | rfl | (simp; omega)), Qt.refl _⟩

theorem LedP.cells {w : World} {F : Nat → Prop} {b : Nat} {s : LS} (h : LedP w F b s) : ∃ A c,
    Hid (w.heap[b]? = some (.cells #[.int .i64 s.ring, .int .u64 s.limit, .int .u64 s.all.length, .slice A s.kept.length c] 88 (0, 0))) ∧
    w.cell? ⟨b, 0, none⟩ = some (.int .i64 s.ring) ∧ w.cell? ⟨b, 1, none⟩ = some (.int .u64 s.limit) ∧ w.cell? ⟨b, 2, none⟩ = some (.int .u64 s.all.length) ∧ w.cell? ⟨b, 3, none⟩ = some (.slice A s.kept.length c) ∧
    w.ownsRow 0 131 8 (.slice A s.kept.length c) s.kept.length (Sns s.kept) ∧ F b ∧ ∀ g, (Value.slice A s.kept.length c).ownBlock = some g → F g ∧ g ≠ b := by
  obtain ⟨g, A, c, h1, h2, h3⟩ := h
  exact ⟨A, c, h1, cell_of_row w b 0 _ _ _ h1, cell_of_row w b 1 _ _ _ h1, cell_of_row w b 2 _ _ _ h1, cell_of_row w b 3 _ _ _ h1, h2, h3⟩

theorem led_next (w : World) (F : Nat → Prop) (b : Nat) (s : LS) (h : LedP w F b s) :
    Calls Try.prog 24 #[.pointer (some ⟨b, 0, none⟩)] w fun e w' => e = .returned (.int .u64 s.all.length) ∧ Qt w w' := by
  obtain ⟨A, c, Hb, c0, c1, c2, c3, -⟩ := h.cells
  go_enter Try.func24, Try.ntmps24
  go_wp2
  go_ret
  exact ⟨rfl, Qt.refl _⟩

theorem led_low (w : World) (F : Nat → Prop) (b : Nat) (s : LS) (h : LedP w F b s) :
    Calls Try.prog 25 #[.pointer (some ⟨b, 0, none⟩)] w fun e w' => e = .returned (.int .u64 s.low) ∧ Qt w w' := by
  obtain ⟨A, c, Hb, c0, c1, c2, c3, -⟩ := h.cells
  have g := h.good
  have g1 := g.ring4
  have g2 := g.ring256
  have g3 := g.len
  have g4 := g.lim1
  have Hd := Lib.hid (show (s.low : Int) = if (s.all.length : Int) < (s.ring : Int) then 0 else (s.all.length : Int) - s.ring by unfold LS.low; split <;> omega)
  generalize (s.low : Int) = d at *
  generalize s.ring = r at *
  generalize s.all.length = n at *
  go_enter Try.func25, Try.ntmps25
  go_wp2
  refine wp_region_qt (by kernel_rfl) (by kernel_rfl) ?_
  repeat (first | go_big_quiet_step ((go_at_call 51; exact Qt.callN (satSub_any _ _ d _ ⟨by omega, by omega⟩ ⟨by omega, by omega⟩ Hd.out))) | quiet_step ((go_at_call 51; exact Qt.callN (satSub_any _ _ d _ ⟨by omega, by omega⟩ ⟨by omega, by omega⟩ Hd.out))))
  refine wpQuiet_nil ?_
  intro w1 q1
  go_wp2
  go_ret
  exact ⟨rfl, q1⟩

theorem led_least (w : World) (F : Nat → Prop) (b : Nat) (s : LS) (h : LedP w F b s) :
    Calls Try.prog 61 #[.pointer (some ⟨b, 0, none⟩)] w fun e w' => e = .returned (.int .u64 s.least) ∧ Below w.heap.size w w' := by
  obtain ⟨A, c, Hb, c0, c1, c2, c3, ho, -⟩ := h.cells
  have g := h.good
  have g3 := g.len
  have g4 := g.lim1
  have g5 := s.kept_le
  have g2 := g.ring256
  have R := Rd.of_own ho
  clear ho
  have Hk := Lib.hid g
  clear g
  have hbs := Hb.out
  go_enter Try.func61, Try.ntmps61
  go_wp2
  go_loopw [12] (fun i wr => ∃ k : Nat, k ≤ LS.ahead s.kept ∧ i = .int .i64 k ∧ Below w.heap.size w wr) (fun i _ => s.kept.length - (intOf i).toNat)
  case atStart => exact ⟨0, Nat.zero_le _, rfl, Below.refl _ _⟩
  case round =>
    obtain ⟨k, hk, rfl, hb⟩ := hrel
    have hle := Nat.le_trans hk (LS.ahead_le _)
    by_cases hlt : k < s.kept.length
    · obtain ⟨bb, off, rfl, d0, d1, d2, d3, d4, d5, d6, d7⟩ := (R.below hb).snt hlt
      have Hpn := Lib.hid (Hk.out.keptPn hlt)
      by_cases hf : k < LS.ahead s.kept
      · have hs := LS.ahead_lt hf hlt
        go_wp2
        go_roundw
        case rel => exact ⟨k + 1, by omega, by go_num, hb.alloc hb.size _⟩
        case measure => simp [intOf]; omega
      · obtain rfl : k = LS.ahead s.kept := by omega
        have hs := LS.ahead_at hlt
        go_wp2
        go_ret
        exact ⟨ret_int (by rw [Hpn.out]; simp [LS.least]), hb.alloc hb.size _⟩
    · have c2' := (hb.cell (block_lt_of_cell c2)).trans c2
      have Hn := Lib.hid (show s.least = s.all.length by
        have := s.kept_len
        have := LS.ahead_le s.kept
        simp only [LS.least, LS.low] at *
        omega)
      go_wp2
      go_ret
      exact ⟨ret_int (by rw [Hn.out]), hb⟩

theorem LedP.below {w w' : World} {F : Nat → Prop} {b : Nat} {s : LS} (h : LedP w F b s) (q : Below w.heap.size w w') : LedP w' F b s :=
  h.chg (chg_below q (F := fun _ => False)) (fun _ _ _ h => h) (fun _ _ h => h)
theorem LedP.mix {w : World} {F : Nat → Prop} {b : Nat} {s : LS} (h : LedP w F b s) (u : World) : LedP (mix w u) F b s := h.below (mix_below w u)
theorem LedP.dn {w : World} {F : Nat → Prop} {b : Nat} {s : LS} (h : LedP w F b s) {k : Nat} : LedP (w.drewN k) F b s := h.qt ⟨k, rfl⟩

theorem led_room (w : World) (F : Nat → Prop) (b : Nat) (s : LS) (h : LedP w F b s) :
    Calls Try.prog 41 #[.pointer (some ⟨b, 0, none⟩)] w fun e w' => e = .returned (.int .i64 s.room) ∧ Below w.heap.size w w' := by
  obtain ⟨A, c, Hb, c0, c1, c2, c3, -⟩ := h.cells
  have g := h.good
  have g1 := g.ring4
  have g2 := g.ring256
  have g3 := g.len
  have g4 := g.lim1
  have k1 := s.least_le
  have k2 := s.room_ge
  have k3 := s.room_le
  have Hr : Hid (s.room = s.ring - ((s.all.length : Int) - s.least)) := rfl
  have e := led_least
  have m0 := mixc c0
  have m2 := mixc c2
  have HM : Hid (∀ u, LedP (Go.Proofs.Ytpkbimmhimgamaa.mix w u) F b s) := fun u => h.mix u
  clear g h e
  generalize s.room = rm at *
  go_enter Try.func41, Try.ntmps41
  go_wp2
  refine wp_region_below (by kernel_rfl) (by kernel_rfl) ?_
  repeat (first | go_big_quiet_step ((go_at_call 61; exact Calls.mix_of (led_least _ F b s (HM.out _)))) | quiet_step ((go_at_call 61; exact Calls.mix_of (led_least _ F b s (HM.out _)))))
  refine wpQuiet_nil ?_
  intro w1 b1
  go_wp2
  go_ret
  exact ⟨ret_int (by rw [Hr.out]), b1⟩

end Go.Proofs.Ytpkbimmhimgamaa
namespace Go.Proofs.Ytpkbimmhimgamaa
set_option linter.unusedSimpArgs false
set_option linter.unusedVariables false
set_option linter.unnecessarySimpa false
open Go.RowKit
/-- A ledger whose row of kept numbers lies in block g. -/
structure LedAt (w : World) (F : Nat → Prop) (b g c : Nat) (s : LS) : Prop where
  blk : w.heap[b]? = some (.cells #[.int .i64 s.ring, .int .u64 s.limit, .int .u64 s.all.length, .slice (some ⟨g, 0, none⟩) s.kept.length c] 88 (0, 0))
  own : w.ownsRow 0 131 8 (.slice (some ⟨g, 0, none⟩) s.kept.length c) s.kept.length (Sns s.kept)
  fb : F b
  fg : F g
  ne : g ≠ b
theorem LedP.open_ {w : World} {F : Nat → Prop} {b : Nat} {s : LS} (h : LedP w F b s) (hn : 0 < s.kept.length) : ∃ g c, LedAt w F b g c s := by
  obtain ⟨gd, A, c, h1, h2, h3, h4⟩ := h
  obtain ⟨A', c', e, hA⟩ := own_slice h2
  injection e with e1 _ e3
  subst e1
  subst e3
  obtain ⟨g, rfl, _⟩ := hA hn
  exact ⟨g, c, h1, h2, h3, (h4 g rfl).1, (h4 g rfl).2⟩
theorem LedAt.shut {w : World} {F : Nat → Prop} {b g c : Nat} {s : LS} (h : LedAt w F b g c s) (gd : s.Good) : LedP w F b s :=
  ⟨gd, _, c, h.blk, h.own, h.fb, fun k hk => by simp only [Value.ownBlock, Option.some.injEq] at hk; subst hk; exact ⟨h.fg, h.ne⟩⟩
theorem LedAt.qt {w w' : World} {F : Nat → Prop} {b g c : Nat} {s : LS} (h : LedAt w F b g c s) (q : Qt w w') : LedAt w' F b g c s :=
  ⟨q.blk h.blk, q.own h.own, h.fb, h.fg, h.ne⟩
/-- A cell of an element is written. -/
theorem LedAt.put {w : World} {F : Nat → Prop} {b g c : Nat} {s : LS} (h : LedAt w F b g c s) {pn : Int} (hp : s.has pn) {j : Nat} (hj : j < 8) {u : Value} {y : Snt} (hy : y.vals = (s.at' pn).vals.set j u) :
    LedAt (w.setCell ⟨g, (pn.toNat - s.low) * 8 + j, none⟩ u) F b g c (s.put pn y) := by
  obtain ⟨hk, e⟩ := s.kept_at hp
  have hl : (s.put pn y).kept.length = s.kept.length := by rw [s.put_kept hp]; simp
  have ha : (s.put pn y).all.length = s.all.length := by simp [LS.put]
  refine ⟨?_, ?_, h.fb, h.fg, h.ne⟩
  · rw [hl, ha, heap_setCell_other _ _ _ _ (Ne.symm h.ne)]
    exact h.blk
  · rw [hl, s.put_kept hp]
    have := (h.own.stored ((pn.toNat - s.low) * 8 + j) u).1
    rwa [show (Sns s.kept).set ((pn.toNat - s.low) * 8 + j) u = Sns (s.kept.set (pn.toNat - s.low) y) from flat_set _ 8 vals_len _ _ _ _ _ hk hj (by rw [e]; exact hy)] at this

end Go.Proofs.Ytpkbimmhimgamaa
namespace Go.Proofs.Ytpkbimmhimgamaa
set_option linter.unusedSimpArgs false
set_option linter.unusedVariables false
set_option linter.unnecessarySimpa false
open Go.RowKit
def Snt.val (s : Snt) : Value := .agg #[.int .u64 s.pn, .int .u64 s.off, .int .u64 s.len, .int .u64 s.nonce, .int .u64 s.at_, .bool s.coin, .bool s.used, .int .i64 s.state]

/-- The cells of the number that is asked for. -/
theorem LedAt.cells {w : World} {F : Nat → Prop} {b g c : Nat} {s : LS} (h : LedAt w F b g c s) {pn : Int} (hp : s.has pn) {i : Nat} (hi : pn.toNat - s.low = i) :
    w.cell? ⟨g, i * 8, none⟩ = some (.int .u64 (s.at' pn).pn) ∧ w.cell? ⟨g, i * 8 + 1, none⟩ = some (.int .u64 (s.at' pn).off) ∧
      w.cell? ⟨g, i * 8 + 2, none⟩ = some (.int .u64 (s.at' pn).len) ∧ w.cell? ⟨g, i * 8 + 3, none⟩ = some (.int .u64 (s.at' pn).nonce) ∧
      w.cell? ⟨g, i * 8 + 4, none⟩ = some (.int .u64 (s.at' pn).at_) ∧ w.cell? ⟨g, i * 8 + 5, none⟩ = some (.bool (s.at' pn).coin) ∧
      w.cell? ⟨g, i * 8 + 6, none⟩ = some (.bool (s.at' pn).used) ∧ w.cell? ⟨g, i * 8 + 7, none⟩ = some (.int .i64 (s.at' pn).state) := by
  subst hi
  obtain ⟨hk, e⟩ := s.kept_at hp
  obtain ⟨bb, off, ea, d⟩ := (Rd.of_own h.own).snt hk
  injection ea with ea
  injection ea with e1 e2 _
  subst e1
  subst e2
  rw [e] at d
  simpa using d

end Go.Proofs.Ytpkbimmhimgamaa
namespace Go.Proofs.Ytpkbimmhimgamaa
set_option linter.unusedSimpArgs false
set_option linter.unusedVariables false
set_option linter.unnecessarySimpa false
open Go.RowKit
end Go.Proofs.Ytpkbimmhimgamaa
namespace Go.Proofs.Ytpkbimmhimgamaa
set_option linter.unusedSimpArgs false
set_option linter.unusedVariables false
set_option linter.unnecessarySimpa false
open Go.RowKit
theorem sat_add64 (a b : Int) (ha : 0 ≤ a) (hb : 0 ≤ b) (w : World) : (callFunc 74 #[.int .u64 a, .int .u64 b, .int .u64 0]).run Try.prog w =
    .ok (.value (.tuple #[.int .u64 ((a + b) % 18446744073709551616), .int .u64 ((a + b) / 18446744073709551616)])) w := by
  rw [run_callFunc_extern Try.func74 (by kernel_rfl) (by kernel_rfl) (by kernel_rfl) (e := add64Entry) (by kernel_rfl), run_add64 a b 0 ha hb (by omega) (by omega)]
  simp [Result.andThen]

set_option maxHeartbeats 800000 in
theorem sat_add (a b : Int) (w : World) (ha : isU64 a) (hb : isU64 b) :
    Calls Try.prog 50 #[.int .u64 a, .int .u64 b] w fun e w' => e = .returned (.int .u64 (min (a + b) 18446744073709551615)) ∧ Qt w w' := by
  obtain ⟨h1, h2⟩ := ha
  obtain ⟨h3, h4⟩ := hb
  by_cases hc : a + b < 18446744073709551616
  · have hr : ∀ w, (callFunc 74 #[.int .u64 a, .int .u64 b, .int .u64 0]).run Try.prog w = .ok (.value (.tuple #[.int .u64 (a + b), .int .u64 0])) w := fun w => by
      rw [sat_add64 a b h1 h3, show (a + b) % 18446744073709551616 = a + b by omega, show (a + b) / 18446744073709551616 = 0 by omega]
    have HM := Lib.hid (show min (a + b) 18446744073709551615 = a + b by omega)
    go_enter Try.func50, Try.ntmps50
    go_wp2
    go_ret
    exact ⟨ret_int HM.out.symm, Qt.refl _⟩
  · have hr : ∀ w, (callFunc 74 #[.int .u64 a, .int .u64 b, .int .u64 0]).run Try.prog w = .ok (.value (.tuple #[.int .u64 (a + b - 18446744073709551616), .int .u64 1])) w := fun w => by
      rw [sat_add64 a b h1 h3, show (a + b) % 18446744073709551616 = a + b - 18446744073709551616 by omega, show (a + b) / 18446744073709551616 = 1 by omega]
    have HM := Lib.hid (show min (a + b) 18446744073709551615 = 18446744073709551615 by omega)
    go_enter Try.func50, Try.ntmps50
    go_wp2
    go_ret
    exact ⟨ret_int HM.out.symm, Qt.refl _⟩
end Go.Proofs.Ytpkbimmhimgamaa
namespace Go.Proofs.Ytpkbimmhimgamaa
set_option linter.unusedSimpArgs false
set_option linter.unusedVariables false
set_option linter.unnecessarySimpa false
open Go.RowKit
attribute [local go_sem ↓] run_min_int run_max_int
theorem fly_take (l : List Snt) (k : Nat) (h : k < l.length) : LS.fly (l.take (k + 1)) = LS.fly (l.take k) + (if l[k].state = 1 then l[k].len else 0) := by
  rw [List.take_succ_eq_append_getElem h, LS.fly_snoc]

set_option maxHeartbeats 1600000 in
theorem led_flight (w : World) (F : Nat → Prop) (b : Nat) (s : LS) (h : LedP w F b s) :
    Calls Try.prog 22 #[.pointer (some ⟨b, 0, none⟩)] w fun e w' => e = .returned (.int .u64 s.flight) ∧ Below w.heap.size w w' := by
  obtain ⟨A, c, Hb, c0, c1, c2, c3, ho, -⟩ := h.cells
  have g := h.good
  have g5 := s.kept_le
  have g2 := g.ring256
  have R := Rd.of_own ho
  clear ho
  have Hk := Lib.hid g
  clear g
  go_enter Try.func22, Try.ntmps22
  go_wp2
  go_loopw [3, 13] (fun a i wr => ∃ (k : Nat) (q : Int), k ≤ s.kept.length ∧ i = .int .i64 k ∧ a = .int .u64 q ∧ Hid (q = LS.fly (s.kept.take k)) ∧ Below w.heap.size w wr) (fun _ i _ => s.kept.length - (intOf i).toNat)
  case atStart => exact ⟨0, 0, Nat.zero_le _, rfl, rfl, rfl, Below.refl _ _⟩
  case round =>
    obtain ⟨k, q, hk, rfl, rfl, Hq, hb⟩ := hrel
    by_cases hlt : k < s.kept.length
    · obtain ⟨bb, off, rfl, d0, d1, d2, d3, d4, d5, d6, d7⟩ := (R.below hb).snt hlt
      have Ht := Lib.hid (fly_take s.kept k hlt)
      have hq := LS.fly_nonneg (l := s.kept.take k) (fun x hx => Hk.out.keptFly x (List.mem_of_mem_take hx))
      rw [← Hq.out] at hq
      obtain ⟨q0, q1⟩ := hq
      simp only [List.length_take] at q1
      have hx := Hk.out.keptFly s.kept[k] (List.getElem_mem _)
      by_cases hf : s.kept[k].state = 1
      · obtain ⟨x0, x1⟩ := hx hf
        generalize hx2 : s.kept[k] = x at *
        have Hx2 := Lib.hid hx2
        have Hf := Lib.hid hf
        clear hx hx2
        have HM := Lib.hid (show min (q + x.len) 18446744073709551615 = q + x.len by omega)
        go_wp2_with fail
        refine (sat_add q x.len _ ⟨by omega, by omega⟩ ⟨by omega, by omega⟩).mono ?_
        rw [HM.out]
        rintro e w1 ⟨rfl, q1⟩
        go_wp2
        go_roundw
        case rel => exact ⟨k + 1, _, by omega, by go_num, rfl, (by rw [Hq.out, Ht.out, if_pos Hf.out] : _ = _), (hb.alloc hb.size _).trans q1.below⟩
        case measure => simp [intOf]; omega
      · have Hf := Lib.hid hf
        clear hx
        go_wp2
        go_roundw
        case rel => exact ⟨k + 1, _, by omega, by go_num, rfl, (by rw [Hq.out, Ht.out, if_neg Hf.out]; omega : _ = _), hb.alloc hb.size _⟩
        case measure => simp [intOf]; omega
    · obtain rfl : k = s.kept.length := by omega
      go_wp2
      go_ret
      exact ⟨ret_int (by rw [Hq.out, List.take_length]; rfl), hb⟩

theorem led_new (ring limit : Int) (w : World) (hl : isU64 limit) :
    Calls Try.prog 12 #[.int .i64 ring, .int .u64 limit] w fun e w' => e = .returned (.pointer (some ⟨w.heap.size, 0, none⟩)) ∧
      LedP w' (fun k => k = w.heap.size) w.heap.size (LS.new ring limit) ∧ Below w.heap.size w w' := by
  have gd := Lib.hid (LS.Good.new ring limit hl.1)
  have He := Lib.hid (show (((LS.new ring limit).ring : Nat) : Int) = max 4 (min ring 256) by simp only [LS.new]; omega)
  have Hl := Lib.hid (show (LS.new ring limit).limit = min limit 4611686018427387903 from rfl)
  go_enter Try.func12, Try.ntmps12
  go_wp2
  go_ret
  refine ⟨rfl, ⟨gd.out, none, 0, ?_⟩, (Below.refl _ _).alloc (Nat.le_refl _) _⟩
  have hk : (LS.new ring limit).kept = [] := by simp [LS.kept, LS.new]
  rw [hk]
  refine ⟨?_, World.ownsRow_nil _ _ _ _, rfl, fun k hk => by cases hk⟩
  rw [He.out, Hl.out]
  exact heap_alloc_new w _

end Go.Proofs.Ytpkbimmhimgamaa
namespace Go.Proofs.Ytpkbimmhimgamaa
set_option linter.unusedSimpArgs false
set_option linter.unusedVariables false
set_option linter.unnecessarySimpa false
open Go.RowKit
end Go.Proofs.Ytpkbimmhimgamaa
namespace Go.Proofs.Ytpkbimmhimgamaa
set_option linter.unusedSimpArgs false
set_option linter.unusedVariables false
set_option linter.unnecessarySimpa false
open Go.RowKit
set_option maxHeartbeats 3200000 in
set_option maxRecDepth 100000 in
theorem led_give (w : World) (F : Nat → Prop) (b : Nat) (s : LS) (x : Snt) (h : LedP w F b s) (hx : x.ok) (hf : x.state = 1 → 1 ≤ x.len ∧ x.len ≤ 1500) :
    Calls Try.prog 82 #[.pointer (some ⟨b, 0, none⟩), x.val] w fun e w' => e = .returned (.tuple #[.int .u64 (s.give x).2.1, .int .i64 (s.give x).2.2]) ∧
      LedP w' (Grow F w) b (s.give x).1 ∧ Chg F w w' := by
  obtain ⟨i0, hi0, hz0, hz1, hz2⟩ := info_parts infoSent
  obtain ⟨A, c, Hb, c0, c1, c2, c3, ho, hF, hG⟩ := h.cells
  have gd := h.good
  have g1 := gd.ring4
  have g2 := gd.ring256
  have g3 := gd.len
  have g4 := gd.lim1
  have g5 := s.kept_le
  have gu := Lib.hid (gd.give hx hf)
  have hbl := block_lt_of_cell c0
  simp only at hbl
  have k2 := s.room_ge
  have k3 := s.room_le
  unfold Snt.val
  by_cases h1 : s.limit < s.all.length
  · have Hg : Hid (s.give x = (s, 0, 8)) := if_pos h1
    clear gd
    go_enter Try.func82, Try.ntmps82
    go_wp2
    have eb : Below w.heap.size w (w.alloc (.cells #[.int .u64 x.pn, .int .u64 x.off, .int .u64 x.len, .int .u64 x.nonce, .int .u64 x.at_, .bool x.coin, .bool x.used, .int .i64 x.state] 131)) := (Below.refl _ _).alloc (Nat.le_refl _) _
    generalize (w.alloc (.cells #[.int .u64 x.pn, .int .u64 x.off, .int .u64 x.len, .int .u64 x.nonce, .int .u64 x.at_, .bool x.coin, .bool x.used, .int .i64 x.state] 131)) = w1 at *
    have e1 := (eb.cell (block_lt_of_cell c1)).trans c1
    have e2 := (eb.cell (block_lt_of_cell c2)).trans c2
    refine wp_region_qt (by kernel_rfl) (by kernel_rfl) ?_
    repeat (go_big_quiet_step (fail))
    refine wpQuiet_nil ?_
    intro w2 q2
    go_wp2
    go_ret2
    rw [Hg.out]
    exact ⟨rfl, (h.below (eb.trans q2.below)).chg (Chg.refl (fun _ => False) _) (fun _ _ _ h => h) (fun _ _ h => .inl h), chg_below (eb.trans q2.below)⟩
  · have H := Lib.hid h
    have HO := Lib.hid ho
    have HG := Lib.hid hG
    clear h ho hG gd c3
    by_cases h2 : s.room < 1
    · have Hg : Hid (s.give x = (s, 0, 7)) := by show _ = _; rw [LS.give, if_neg h1, if_pos h2]
      go_enter Try.func82, Try.ntmps82
      go_wp2
      have eb : Below w.heap.size w (w.alloc (.cells #[.int .u64 x.pn, .int .u64 x.off, .int .u64 x.len, .int .u64 x.nonce, .int .u64 x.at_, .bool x.coin, .bool x.used, .int .i64 x.state] 131)) := (Below.refl _ _).alloc (Nat.le_refl _) _
      have HX := Lib.hid (heap_alloc_new w (.cells #[.int .u64 x.pn, .int .u64 x.off, .int .u64 x.len, .int .u64 x.nonce, .int .u64 x.at_, .bool x.coin, .bool x.used, .int .i64 x.state] 131))
      generalize (w.alloc (.cells #[.int .u64 x.pn, .int .u64 x.off, .int .u64 x.len, .int .u64 x.nonce, .int .u64 x.at_, .bool x.coin, .bool x.used, .int .i64 x.state] 131)) = w1 at *
      have e1 := (eb.cell (block_lt_of_cell c1)).trans c1
      have e2 := (eb.cell (block_lt_of_cell c2)).trans c2
      refine wp_region_qt (by kernel_rfl) (by kernel_rfl) ?_
      repeat (go_big_quiet_step (fail))
      refine wpQuiet_nil ?_
      intro w2 q2
      have hb2 := eb.trans (q2.below (B := w.heap.size))
      have HP2 := Lib.hid (H.out.below hb2)
      have HX2 := Lib.hid (q2.blk HX.out)
      clear eb HX e1 e2 q2
      go_wp2_with fail
      refine (led_room _ F b s HP2.out).mono ?_
      rintro e w3 ⟨rfl, b3⟩
      have hb3 := hb2.trans (b3.mono hb2.size)
      go_wp2
      go_ret2
      rw [Hg.out]
      exact ⟨rfl, (H.out.below hb3).chg (Chg.refl (fun _ => False) _) (fun _ _ _ h => h) (fun _ _ h => .inl h), chg_below hb3⟩
    · have Hg : Hid (s.give x = ({ s with all := s.all ++ [{ x with pn := s.all.length }] }, (s.all.length : Int), 0)) := by show _ = _; rw [LS.give, if_neg h1, if_neg h2]
      go_enter Try.func82, Try.ntmps82
      go_wp2
      have eb : Below w.heap.size w (w.alloc (.cells #[.int .u64 x.pn, .int .u64 x.off, .int .u64 x.len, .int .u64 x.nonce, .int .u64 x.at_, .bool x.coin, .bool x.used, .int .i64 x.state] 131)) := (Below.refl _ _).alloc (Nat.le_refl _) _
      have HX := Lib.hid (heap_alloc_new w (.cells #[.int .u64 x.pn, .int .u64 x.off, .int .u64 x.len, .int .u64 x.nonce, .int .u64 x.at_, .bool x.coin, .bool x.used, .int .i64 x.state] 131))
      generalize (w.alloc (.cells #[.int .u64 x.pn, .int .u64 x.off, .int .u64 x.len, .int .u64 x.nonce, .int .u64 x.at_, .bool x.coin, .bool x.used, .int .i64 x.state] 131)) = w1 at *
      have e1 := (eb.cell (block_lt_of_cell c1)).trans c1
      have e2 := (eb.cell (block_lt_of_cell c2)).trans c2
      refine wp_region_qt (by kernel_rfl) (by kernel_rfl) ?_
      repeat (go_big_quiet_step (fail))
      refine wpQuiet_nil ?_
      intro w2 q2
      have hb2 := eb.trans (q2.below (B := w.heap.size))
      have HP2 := Lib.hid (H.out.below hb2)
      have HX2 := Lib.hid (q2.blk HX.out)
      clear eb HX e1 e2 q2
      go_wp2_with fail
      refine (led_room _ F b s HP2.out).mono ?_
      rintro e w3 ⟨rfl, b3⟩
      have hb3 := hb2.trans (b3.mono hb2.size)
      have HX3 := Lib.hid ((b3.block _ (lt_of_block HX2.out)).trans HX2.out)
      have HB3 := Lib.hid ((hb3.block _ hbl).trans Hb.out)
      have HO3 := Lib.hid (own_chg HO.out (chg_below hb3 (F := fun _ => False)) (fun _ _ h => h))
      have fx0 := frozen_of_row w3 w.heap.size 0 _ _ HX3.out
      have fb2 := frozen_of_row w3 b 2 _ _ HB3.out
      have x0 := cell_of_row w3 w.heap.size 0 _ _ _ HX3.out
      have y0 := cell_of_row w3 b 0 _ _ _ HB3.out
      have y2 := cell_of_row w3 b 2 _ _ _ HB3.out
      have y3 := cell_of_row w3 b 3 _ _ _ HB3.out
      have hne : w.heap.size ≠ b := by omega
      go_wp2
      have HX4 : Hid (((w3.setCell ⟨w.heap.size, 0, none⟩ (.int .u64 s.all.length)).setCell ⟨b, 2, none⟩ (.int .u64 ((s.all.length : Int) + 1))).heap[w.heap.size]? = some (.cells #[.int .u64 s.all.length, .int .u64 x.off, .int .u64 x.len, .int .u64 x.nonce, .int .u64 x.at_, .bool x.coin, .bool x.used, .int .i64 x.state] 131 (0, 0))) :=
        (heap_setCell_other _ ⟨b, 2, none⟩ w.heap.size _ hne).trans (heap_setCell_same w3 w.heap.size 0 _ _ (.int .u64 s.all.length) HX3.out)
      have HB4 : Hid (((w3.setCell ⟨w.heap.size, 0, none⟩ (.int .u64 s.all.length)).setCell ⟨b, 2, none⟩ (.int .u64 ((s.all.length : Int) + 1))).heap[b]? = some (.cells #[.int .i64 s.ring, .int .u64 s.limit, .int .u64 ((s.all.length : Int) + 1), .slice A s.kept.length c] 88 (0, 0))) :=
        heap_setCell_same _ b 2 _ _ _ ((heap_setCell_other w3 ⟨w.heap.size, 0, none⟩ b _ (Ne.symm hne)).trans HB3.out)
      have HC4 : Hid (Chg F w ((w3.setCell ⟨w.heap.size, 0, none⟩ (.int .u64 s.all.length)).setCell ⟨b, 2, none⟩ (.int .u64 ((s.all.length : Int) + 1)))) :=
        ((chg_below hb3).setCell (p := ⟨w.heap.size, 0, none⟩) (.inr (Nat.le_refl _)) _).setCell (.inl hF) _
      have HO4 : Hid (((w3.setCell ⟨w.heap.size, 0, none⟩ (.int .u64 s.all.length)).setCell ⟨b, 2, none⟩ (.int .u64 ((s.all.length : Int) + 1))).ownsRow 0 131 8 (.slice A s.kept.length c) s.kept.length (Sns s.kept)) :=
        own_chg HO3.out (((Chg.refl (fun k => k = w.heap.size ∨ k = b) w3).setCell (p := ⟨w.heap.size, 0, none⟩) (.inl (.inl rfl)) _).setCell (p := ⟨b, 2, none⟩) (.inl (.inr rfl)) _)
          (fun k hk => fun h => h.elim (fun e => by have := (HO.out.lt k hk).2; omega) (fun e => (HG.out k hk).2 e))
      clear fx0 fb2 x0 y0 y2 y3 HX3 HB3 HO3
      generalize ((w3.setCell ⟨w.heap.size, 0, none⟩ (.int .u64 s.all.length)).setCell ⟨b, 2, none⟩ (.int .u64 ((s.all.length : Int) + 1))) = w4 at *
      have HW4 := Lib.hid HC4.out.size
      have hne1 : (Value.slice A s.kept.length c).ownBlock ≠ some w.heap.size := fun e => by have := (HO.out.lt _ e).2; omega
      have hne2 : (Value.slice A s.kept.length c).ownBlock ≠ some b := fun e => (HG.out _ e).2 rfl
      have x0 := cell_of_row w4 w.heap.size 0 _ _ _ HX4.out
      have x1 := cell_of_row w4 w.heap.size 1 _ _ _ HX4.out
      have x2 := cell_of_row w4 w.heap.size 2 _ _ _ HX4.out
      have x3 := cell_of_row w4 w.heap.size 3 _ _ _ HX4.out
      have x4 := cell_of_row w4 w.heap.size 4 _ _ _ HX4.out
      have x5 := cell_of_row w4 w.heap.size 5 _ _ _ HX4.out
      have x6 := cell_of_row w4 w.heap.size 6 _ _ _ HX4.out
      have x7 := cell_of_row w4 w.heap.size 7 _ _ _ HX4.out
      have y3 := cell_of_row w4 b 3 _ _ _ HB4.out
      have fy3 := frozen_of_row w4 b 3 _ _ HB4.out
      have hxs := lt_of_block HX4.out
      have hbs := lt_of_block HB4.out
      go_region_law
        ((refine step_append_rd _ (by rfl) (.tmp 34) (.tmp 36) 86 (by rfl) 0 131 i0 _ 8 56 Try.underlying86 hi0 hz0 hz1 hz2 rfl (by omega) _ s.kept.length (Sns s.kept) (by rfl) ((HO4.out.alloc _).drew)
              _ 1 1 [.int .u64 s.all.length, .int .u64 x.off, .int .u64 x.len, .int .u64 x.nonce, .int .u64 x.at_, .bool x.coin, .bool x.used, .int .i64 x.state] (by rfl) ((Rd.lit w4 8 #[.int .u64 s.all.length, .int .u64 x.off, .int .u64 x.len, .int .u64 x.nonce, .int .u64 x.at_, .bool x.coin, .bool x.used, .int .i64 x.state] 131 1 _ rfl (by simp) (by unfold maxLen; omega)).drew) (by simp [Value.oneCell'])
              (by unfold maxLen; omega) (by omega) (by simp) ?_; intro v5 w5 ho5 hg5 hv5
          obtain ⟨A5, c5, ev5, hA5⟩ := own_slice ho5
          obtain ⟨g5, eg5, -⟩ := hA5 (by omega)
          subst ev5
          subst eg5
          have HB5 := Lib.hid ((hg5.block b (by simp; omega) (fun e => hne2 e.symm)).trans ((Below.heap_alloc w4 _ b hbs).trans HB4.out))
          have fz5 := frozen_of_row w5 b 3 _ _ HB5.out
          have y5 := cell_of_row w5 b 3 _ _ _ HB5.out))
      all_goals
        have HB6 : Hid ((w5.setCell ⟨b, 3, none⟩ (.slice (some ⟨g5, 0, none⟩) (s.kept.length + 1) c5)).heap[b]? = some (.cells #[.int .i64 s.ring, .int .u64 s.limit, .int .u64 ((s.all.length : Int) + 1), (.slice (some ⟨g5, 0, none⟩) (s.kept.length + 1) c5)] 88 (0, 0))) :=
          heap_setCell_same w5 b 3 _ _ _ HB5.out
        have HX6 : Hid ((w5.setCell ⟨b, 3, none⟩ (.slice (some ⟨g5, 0, none⟩) (s.kept.length + 1) c5)).heap[w.heap.size]? = some (.cells #[.int .u64 s.all.length, .int .u64 x.off, .int .u64 x.len, .int .u64 x.nonce, .int .u64 x.at_, .bool x.coin, .bool x.used, .int .i64 x.state] 131 (0, 0))) :=
          (heap_setCell_other _ ⟨b, 3, none⟩ w.heap.size _ hne).trans ((hg5.block _ (by simp; omega) (fun e => hne1 e.symm)).trans ((Below.heap_alloc w4 _ _ hxs).trans HX4.out))
        have HG5 : Hid (g5 ≠ b ∧ g5 ≠ w.heap.size ∧ (F g5 ∨ w.heap.size ≤ g5)) := by
          rcases hv5 with e | e
          · have h1 := HG.out g5 e.symm
            have h2 := HO.out.lt g5 e.symm
            exact ⟨h1.2, by omega, .inl h1.1⟩
          · have e' : g5 = w4.heap.size + 1 := by simpa [Value.ownBlock] using e
            have := HW4.out
            exact ⟨by omega, by omega, .inr (by omega)⟩
        have HO6 : Hid ((w5.setCell ⟨b, 3, none⟩ (.slice (some ⟨g5, 0, none⟩) (s.kept.length + 1) c5)).ownsRow 0 131 8 (.slice (some ⟨g5, 0, none⟩) (s.kept.length + 1) c5) (s.kept.length + 1) (Sns (s.kept ++ [{ x with pn := s.all.length }]))) := by
          rw [Sns_append]
          exact ownsRow_setCell_other ho5 (fun e => by simp only [Value.ownBlock, Option.some.injEq] at e; exact HG5.out.1 e) _
        have HC6 : Hid (Chg F w (w5.setCell ⟨b, 3, none⟩ (.slice (some ⟨g5, 0, none⟩) (s.kept.length + 1) c5))) :=
          ((HC4.out.alloc _).drew.grown hg5 (fun k hk => .inl (HG.out k hk).1)).setCell (.inl hF) _
        clear hv5 hg5 ho5 HB5 HX4 HB4 HO4 HC4 fz5 y5 x0 x1 x2 x3 x4 x5 x6 x7 y3 fy3
        generalize (w5.setCell ⟨b, 3, none⟩ (.slice (some ⟨g5, 0, none⟩) (s.kept.length + 1) c5)) = w6 at *
        have z0 := cell_of_row w6 w.heap.size 0 _ _ _ HX6.out
        have y0 := cell_of_row w6 b 0 _ _ _ HB6.out
        have y3 := cell_of_row w6 b 3 _ _ _ HB6.out
        have HE := Lib.hid (s.give_kept { x with pn := s.all.length } (by omega))
        by_cases hr : s.kept.length + 1 ≤ s.ring
        · go_wp2
          refine wp_region_qt (by kernel_rfl) (by kernel_rfl) ?_
          repeat (go_big_quiet_step (fail))
          refine wpQuiet_nil ?_
          intro w7 q7
          have z0' := q7.cell z0
          go_wp2
          go_ret2
          rw [Hg.out] at gu ⊢
          have e := HE.out
          rw [if_pos hr] at e
          refine ⟨rfl, ⟨gu.out, some ⟨g5, 0, none⟩, c5, ?_⟩, HC6.out.qt q7⟩
          rw [e]
          refine ⟨?_, ?_, .inl hF, ?_⟩
          · have := q7.blk HB6.out
            simpa using this
          · have := q7.own HO6.out
            simpa using this
          · intro k hk
            simp only [Value.ownBlock, Option.some.injEq] at hk
            subst hk
            exact ⟨HG5.out.2.2, HG5.out.1⟩
        · obtain ⟨A9, hrun9, hcut9⟩ := (Rd.of_own HO6.out).cut_run (P := Try.prog) (t := 86) Try.underlying86 hi0 hz1 (k := 1) (by omega)
          have hrun : ∀ (kl : IntKind) (w : World), (Instr.slice 86 (.slice (some ⟨g5, 0, none⟩) (s.kept.length + 1) c5) (some (.int kl 1)) none none).run Try.prog w = .ok (.slice A9 s.kept.length (c5 - 1)) w := by simpa using hrun9
          clear hrun9
          go_wp2
          refine wp_region_qt (by kernel_rfl) (by kernel_rfl) ?_
          repeat (go_big_quiet_step (fail))
          refine wpQuiet_nil ?_
          intro w7 q7
          have z0' := q7.cell z0
          have y3' := q7.cell y3
          have R9 := hcut9 w7 _ ((Rd.of_own HO6.out).qt q7)
          rw [Sns_drop] at R9
          have n9 : s.kept.length + 1 - 1 = s.kept.length := by omega
          rw [n9] at R9
          have HB7 := Lib.hid (q7.blk HB6.out)
          have HX7 := Lib.hid (q7.blk HX6.out)
          have HC7 := Lib.hid (HC6.out.qt q7)
          clear z0 y0 y3 HB6 HX6 HC6 HO6 hcut9 q7 z0'
          have hb7s : b < w7.heap.size := lt_of_block HB7.out
          have hx7s : w.heap.size < w7.heap.size := lt_of_block HX7.out
          go_wp2_with (
            at_builtin
            refine wpList_append_rd _ rfl (.const (.slice none 0 0)) (.tmp 55) 86 rfl w7.heap.size 131 i0 _ 8 56 Try.underlying86 hi0 hz0 hz1 hz2 rfl (by decide) (.slice none 0 0) 0 [] rfl (World.ownsRow_nil _ _ _ _) A9 s.kept.length (c5 - 1) _ rfl R9 (Sns_one _) (by unfold maxLen; omega) (by omega) (Nat.le_refl _) ?_
            intro v8 w8 ho8 hg8 _
            have hb8 : Below w7.heap.size w7 w8 := (Below.refl _ _).grown hg8 (Nat.le_refl _) (fun g hg => by simp [Value.ownBlock] at hg)
            rw [Nat.zero_add, List.nil_append] at ho8
            obtain ⟨A8, c8, ev8, hA8⟩ := own_slice ho8
            subst ev8
            have HB8 := Lib.hid ((hb8.block b hb7s).trans HB7.out)
            have HX8 := Lib.hid ((hb8.block w.heap.size hx7s).trans HX7.out)
            have HO8 := Lib.hid ho8
            have fy8 := frozen_of_row w8 b 3 _ _ HB8.out
            have y8 := cell_of_row w8 b 3 _ _ _ HB8.out
            have z8 := cell_of_row w8 w.heap.size 0 _ _ _ HX8.out
            clear ho8 hg8 hA8)
          go_ret2
          rw [Hg.out] at gu ⊢
          have e := HE.out
          rw [if_neg hr] at e
          refine ⟨rfl, ⟨gu.out, A8, c8, ?_⟩, (HC7.out.thenBelow hb8 HC7.out.size).setCell (.inl hF) _⟩
          rw [e]
          have hl : ((s.kept ++ [{ x with pn := (s.all.length : Int) }]).drop 1).length = s.kept.length := by simp
          rw [hl]
          refine ⟨?_, ownsRow_setCell_other (own_base HO8.out (fun _ _ => Nat.zero_le _)) (fun e => by have := (HO8.out.lt b e).1; omega) _, .inl hF, ?_⟩
          · simpa using heap_setCell_same w8 b 3 _ _ (.slice A8 s.kept.length c8) HB8.out
          · intro k hk
            have := (HO8.out.lt k hk).1
            exact ⟨.inr (by omega), by omega⟩

end Go.Proofs.Ytpkbimmhimgamaa
namespace Go.Proofs.Ytpkbimmhimgamaa
set_option linter.unusedSimpArgs false
set_option linter.unusedVariables false
set_option linter.unnecessarySimpa false
open Go.RowKit
/-- A box, just made. -/
theorem box_below (w : World) (o : Obj) : Below w.heap.size w (w.alloc o) := (Below.refl _ _).alloc (Nat.le_refl _) _

section
variable {P : Program} {ops : Array Oper} {md : Region.Mode} {C : World → Prop}
/-- f operations of the head come up, in some order; then L. -/
def wpHd (P : Program) (md : Region.Mode) (ops : Array Oper) (C : World → Prop) (n : Nat) (L : Array Bool → Act → Prop) : Nat → Array Bool → Act → Prop
  | 0, listed, a => L listed a
  | f + 1, listed, a => Region.ready md ops listed ≠ [] ∧ ∀ i ∈ Region.ready md ops listed, i < n ∧ qOp P ops C i (wpHd P md ops C n L f (listed.setIfInBounds i true)) a

theorem wpAny_of_hd {n g : Nat} {L : Array Bool → Act → Prop} {Q : Exit → Act → World → Prop} (hL : ∀ listed a w, C w → L listed a → wpAny P md ops Q g listed a w) :
    ∀ (f : Nat) (listed : Array Bool) (a : Act) (w : World), C w → wpHd P md ops C n L f listed a → wpAny P md ops Q (f + g) listed a w := by
  intro f
  induction f with
  | zero => intro listed a w hw h; rw [Nat.zero_add]; exact hL _ _ _ hw h
  | succ f ih =>
    intro listed a w hw h
    rw [show f + 1 + g = (f + g) + 1 by omega]
    exact ⟨fun h0 => absurd h0 h.1, fun i hi => wpOp_of_qOp hw (fun a' w' hw' h' => ih _ a' w' hw' h') (h.2 i hi).2⟩

theorem wpHd_first {n i : Nat} {oi : Oper} {v : Value} {L : Array Bool → Act → Prop} (hi : ops[i]? = some oi) (hsel : ∀ (j : Nat) (o : Oper) cs b, ops[j]? = some o → o.op ≠ .select cs b)
    (hs : Region.sinkB md ops n = true) (hc : Region.chainB md ops n = true) (hn : n < ops.size) (hin : i < n) (hdone : ∀ listed a, L listed a → ∀ j ∈ Region.ready md ops listed, n ≤ j) :
    ∀ (f : Nat) (listed : Array Bool) (a : Act), HeadInv md ops n listed →
      (∀ j oj, ops[j]? = some oj → j ≠ i → listed.getD j true = false → (∀ e ∈ oj.after, Region.binds md e = true → e.on ≠ i) → oi.apart ops oj = true) →
      i ∈ Region.ready md ops listed → YieldsIn P ops C oi v a → wpHd P md ops C n L f (listed.setIfInBounds i true) (a.put oi.dst v) → wpHd P md ops C n L (f + 1) listed a := by
  intro f
  induction f with
  | zero =>
    intro listed a inv _ hr hy H
    have hun := (mem_ready.1 hr).1
    refine ⟨fun h => (by rw [h] at hr; cases hr), fun j hj => ?_⟩
    have hjn : j < n := Nat.lt_of_not_le fun h => tail_waits hs hc hn inv _ i rfl hin hun j h hj
    refine ⟨hjn, ?_⟩
    rcases Decidable.em (j = i) with rfl | hji
    · exact hy.qOp hi H
    · exact absurd (hdone _ _ H j (ready_mono hj hji)) (by omega)
  | succ f ih =>
    intro listed a inv hfree hr hy H
    have hun := (mem_ready.1 hr).1
    refine ⟨fun h => (by rw [h] at hr; cases hr), fun j hj => ?_⟩
    have hjn : j < n := Nat.lt_of_not_le fun h => tail_waits hs hc hn inv _ i rfl hin hun j h hj
    refine ⟨hjn, ?_⟩
    rcases Decidable.em (j = i) with rfl | hji
    · exact hy.qOp hi H
    · obtain ⟨hjun, oj, hoj, hall⟩ := mem_ready.1 hj
      have hnot : ∀ e ∈ oj.after, Region.binds md e = true → e.on ≠ i := fun e he hb heq => by
        have h1 := hall e he hb
        rw [heq, getD_both hun] at h1
        cases h1
      have h2 := qOp_put hoj (hfree j oj hoj hji hjun hnot) (fun cs b => hsel i oi cs b hi) (fun cs b => hsel j oj cs b hoj) hy (H.2 j (ready_mono hj hji)).2
      refine qOp_mono (fun a' h3 => ?_) h2
      refine ih (listed.setIfInBounds j true) a' (inv.set hj hjn) (fun k ok hk hki hu hno => hfree k ok hk hki ?_ hno) (ready_mono hr (Ne.symm hji)) h3.1 ?_
      · rcases Decidable.em (j = k) with rfl | hjk
        · exact hjun
        · rwa [getD_set_ne true hjk] at hu
      · rw [Array.setIfInBounds_comm _ _ hji]
        exact h3.2

theorem wpHd_lex {n g : Nat} {K : Act → Prop} (hsel : Region.noSelect ops = true) (hs : Region.sinkB md ops n = true) (hc : Region.chainB md ops n = true) (hn : n < ops.size) :
    ∀ (l : List Oper) (k : Nat) (listed : Array Bool) (a : Act), (∀ j, j < l.length → l[j]? = ops[k + j]?) → k + l.length = n → HeadInv md ops n listed →
    Region.lexHead md ops g l.length k listed = true → wpQuiet P ops C K l a → wpHd P md ops C n (fun listed' a' => Region.seqB md ops g n listed' = true ∧ K a') l.length listed a := by
  intro l
  induction l with
  | nil =>
    intro k listed a _ hk _ hB h
    obtain rfl : k = n := by simpa using hk
    exact ⟨by simpa [Region.lexHead] using hB, h⟩
  | cons o l ih =>
    intro k listed a hl hk inv hB h
    have h0 : ops[k]? = some o := by simpa using (hl 0 (by simp)).symm
    simp only [List.length_cons, Region.lexHead, Bool.and_eq_true] at hB
    simp only [List.length_cons] at hk
    have hr : k ∈ Region.ready md ops listed := by simpa using hB.1.1
    have hq : qOp P ops C k (wpQuiet P ops C K l) a := by unfold qOp; simp only [h0]; exact h
    obtain ⟨v, hy, hK⟩ := yieldsIn_of_qOp h0 hq
    refine wpHd_first h0 (Region.noSelect_spec hsel) hs hc hn (by omega) (fun _ _ hL => seqB_ready hL.1) l.length listed a inv (Region.free_spec h0 hB.1.2) hr hy ?_
    exact ih (k + 1) _ _ (fun j hj => by have := hl (j + 1) (by simp; omega); simpa [Nat.add_assoc, Nat.add_comm 1 j] using this) (by omega) (inv.set hr (by omega)) hB.2 hK

/-- The head walked once, over a class of worlds; the tail from any world of the class. -/
theorem wp_region_class_tail {id : Nat} {Q : Exit → Act → World → Prop} {a : Act} {w : World} {l : List Oper} (n : Nat) (hm : P.follows .mixedOrders = true) (hB : Region.lexTailB .any l.toArray n = true) (hC : C w.drew)
    (h : wpQuiet P l.toArray C (fun a' => ∀ w', C w' → wpList P l.toArray Q (l.drop n) a' w') (l.take n) a) : (Code.region id l.toArray true).wp P Q a w := by
  simp only [Region.lexTailB, Bool.and_eq_true, decide_eq_true_eq] at hB
  obtain ⟨⟨⟨⟨hsel, hn⟩, hs⟩, hc⟩, hlex⟩ := hB
  have hn' : n < l.length := by simpa using hn
  have ht : (l.take n).length = n := by simp; omega
  have hd : (l.drop n).length = l.toArray.size - n := by simp
  have inv0 : HeadInv .any l.toArray n (Array.replicate l.toArray.size false) :=
    ⟨by simp, fun j oj _ hl => (by rw [getD_replicate_false] at hl; cases hl), fun t _ ht => getD_in (by simpa using ht) (getD_replicate_false _ _)⟩
  have H := wpHd_lex (md := .any) (g := l.toArray.size - n) hsel hs hc hn (l.take n) 0 _ a (fun j hj => by
    have hj' : j < n := by rw [ht] at hj; exact hj
    simp [hj']) (by simpa using ht) inv0 (by rw [ht]; exact hlex) h
  refine wp_region_any hm ?_
  have := wpAny_of_hd (Q := Q) (g := l.toArray.size - n) (fun listed a' w' hw' hL => by
    have := wpAny_of_seq (md := .any) (Q' := Q) (l.drop n) n listed a' w' (fun j => by simp [List.getElem?_drop]) (by rw [hd]; exact hL.1) (hL.2 w' hw')
    rwa [hd] at this) _ _ _ _ hC H
  rw [ht, show n + (l.toArray.size - n) = l.toArray.size by omega] at this
  exact this

theorem wp_region_qtt {id : Nat} {Q : Exit → Act → World → Prop} {a : Act} {w : World} {l : List Oper} (n : Nat) (hm : P.follows .mixedOrders = true) (hB : Region.lexTailB .any l.toArray n = true)
    (h : wpQuiet P l.toArray (fun w' => ∃ n, w' = w.drewN n) (fun a' => ∀ w', Qt w w' → wpList P l.toArray Q (l.drop n) a' w') (l.take n) a) : (Code.region id l.toArray true).wp P Q a w :=
  wp_region_class_tail n hm hB (C := fun w' => ∃ n, w' = w.drewN n) ⟨1, rfl⟩ h

theorem wp_region_bt {id : Nat} {Q : Exit → Act → World → Prop} {a : Act} {w : World} {l : List Oper} (n : Nat) (hm : P.follows .mixedOrders = true) (hB : Region.lexTailB .any l.toArray n = true)
    (h : wpQuiet P l.toArray (fun w' => ∃ u, w' = mix w u) (fun a' => ∀ w', Below w.heap.size w w' → wpList P l.toArray Q (l.drop n) a' w') (l.take n) a) : (Code.region id l.toArray true).wp P Q a w := by
  refine wp_region_class_tail n hm hB (C := fun w' => ∃ u, w' = mix w u) (below_mix (Below.refl _ w).drew) ?_
  have e : (fun a' : Act => ∀ w', (∃ u, w' = mix w u) → wpList P l.toArray Q (l.drop n) a' w') = (fun a' : Act => ∀ w', Below w.heap.size w w' → wpList P l.toArray Q (l.drop n) a' w') := by
    funext a'
    apply propext
    exact ⟨fun h w' hb => h w' (below_mix hb), fun h w' ⟨u, hu⟩ => h w' (hu ▸ mix_below w u)⟩
  rw [e]
  exact h
end
end Go.Proofs.Ytpkbimmhimgamaa
namespace Go.Proofs.Ytpkbimmhimgamaa
set_option linter.unusedSimpArgs false
set_option linter.unusedVariables false
set_option linter.unnecessarySimpa false
open Go.RowKit
set_option maxHeartbeats 1600000 in
theorem led_send (w : World) (F : Nat → Prop) (b : Nat) (s : LS) (x : Snt) (h : LedP w F b s) (hx : x.ok) :
    Calls Try.prog 68 #[.pointer (some ⟨b, 0, none⟩), x.val] w fun e w' => e = .returned (.tuple #[.int .u64 (s.send x).2.1, .int .i64 (s.send x).2.2]) ∧
      LedP w' (Grow F w) b (s.send x).1 ∧ Chg F w w' := by
  obtain ⟨hl0, hl1⟩ := hx.len
  obtain ⟨ho0, ho1⟩ := hx.off
  by_cases hbad : x.len < 1 ∨ 1500 < x.len ∨ 4611686018427387903 < x.off
  · have Hg : Hid (s.send x = (s, 0, 1)) := if_pos hbad
    have HR : Hid (∀ w', Below w.heap.size w w' → LedP w' (Grow F w) b s ∧ Chg F w w') := fun w' hb =>
      ⟨(h.below hb).chg (Chg.refl (fun _ => False) _) (fun _ _ _ h => h) (fun _ _ h => .inl h), chg_below hb⟩
    clear h hx
    unfold Snt.val
    by_cases h1 : x.len < 1
    · go_enter Try.func68, Try.ntmps68
      go_wp2
      go_ret2
      rw [Hg.out]
      exact ⟨rfl, HR.out _ (box_below _ _)⟩
    · by_cases h2 : 1500 < x.len
      · go_enter Try.func68, Try.ntmps68
        go_wp2
        go_ret2
        rw [Hg.out]
        exact ⟨rfl, HR.out _ (box_below _ _)⟩
      · have h3 : 4611686018427387903 < x.off := by omega
        go_enter Try.func68, Try.ntmps68
        go_wp2
        go_ret2
        rw [Hg.out]
        exact ⟨rfl, HR.out _ (box_below _ _)⟩
  · have Hg : Hid (s.send x = s.give { x with state := 1, used := false }) := if_neg hbad
    have h1 : 1 ≤ x.len := by omega
    have h2 : x.len ≤ 1500 := by omega
    have h3 : x.off ≤ 4611686018427387903 := by omega
    have HX : Hid (({ x with state := 1, used := false } : Snt).ok) := ⟨hx.pn, hx.off, hx.len, hx.nonce, hx.at_, by unfold isI64; simp⟩
    have H := Lib.hid h
    clear h hx hbad
    unfold Snt.val
    have hbl : b < w.heap.size := by obtain ⟨A, c, Hb, c0, -⟩ := H.out.cells; exact block_lt_of_cell c0
    go_enter Try.func68, Try.ntmps68
    go_wp2_with fail
    have hb1 := box_below w (.cells #[.int .u64 x.pn, .int .u64 x.off, .int .u64 x.len, .int .u64 x.nonce, .int .u64 x.at_, .bool x.coin, .bool false, .int .i64 1] 131)
    refine (led_give _ F b s { x with state := 1, used := false } (H.out.below hb1) HX.out (fun _ => ⟨h1, h2⟩)).mono ?_
    rintro e w2 ⟨rfl, hL, hC⟩
    have HL := Lib.hid hL
    clear hL
    go_wp2
    go_ret2
    rw [Hg.out]
    refine ⟨rfl, HL.out.chg (Chg.refl (fun _ => False) _) (fun _ _ _ h => h) (fun k _ hk => ?_), (chg_below hb1).step hC (fun _ _ h => h)⟩
    rcases hk with hk | hk
    · exact .inl hk
    · exact .inr (Nat.le_trans hb1.size hk)

set_option maxHeartbeats 1600000 in
theorem led_skip (w : World) (F : Nat → Prop) (b : Nat) (s : LS) (h : LedP w F b s) :
    Calls Try.prog 65 #[.pointer (some ⟨b, 0, none⟩)] w fun e w' => e = .returned (.tuple #[.int .u64 s.skip.2.1, .int .i64 s.skip.2.2]) ∧
      LedP w' (Grow F w) b s.skip.1 ∧ Chg F w w' := by
  have H := Lib.hid h
  clear h
  have Hg : Hid (s.skip = s.give LS.skipped) := rfl
  have HX : Hid LS.skipped.ok := ⟨by unfold isU64 LS.skipped; simp, by unfold isU64 LS.skipped; simp, by unfold isU64 LS.skipped; simp, by unfold isU64 LS.skipped; simp, by unfold isU64 LS.skipped; simp, by unfold isI64 LS.skipped; simp⟩
  go_enter Try.func65, Try.ntmps65
  go_wp2_with fail
  refine (led_give _ F b s LS.skipped H.out HX.out (fun e => by simp [LS.skipped] at e)).mono ?_
  rintro e w2 ⟨rfl, hL, hC⟩
  have HL := Lib.hid hL
  clear hL
  go_wp2
  go_ret2
  rw [Hg.out]
  exact ⟨rfl, HL.out, hC⟩

end Go.Proofs.Ytpkbimmhimgamaa
