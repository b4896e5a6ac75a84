/-
  A deed on both ledgers. · Lists of deeds of drawn numbers in memory. · Two ledgers behind deeds of drawn numbers.
-/
import Derived.Test.YtpfmhkkglaghgaaGreatTwo
import Derived.Deep.DeepCutAuto
import Derived.Laws.Closers25b
import Derived.Test.YtpfmhkkglaghgaaGreatObj
namespace Go.Proofs.YtpfmhkkglaghgaaGreat
set_option linter.unusedSimpArgs false
set_option linter.unusedVariables false
set_option linter.unnecessarySimpa false
open Go.RowKit

namespace LS
/-- States are states, times are small. -/
def Small (s : LS) : Prop := ∀ x ∈ s.all, (1 ≤ x.state ∧ x.state ≤ 4) ∧ x.at_ < 5000
def Next (raw : Bool) (s s' : LS) : Prop := s'.ring = s.ring ∧ s'.limit = s.limit ∧ s.all.length ≤ s'.all.length ∧ s'.all.length ≤ s.all.length + 1 ∧ (raw = false → s.Small → s'.Small)
theorem Next.refl (raw : Bool) (s : LS) : Next raw s s := ⟨rfl, rfl, Nat.le_refl _, Nat.le_succ _, fun _ h => h⟩
theorem next_give (raw : Bool) (s : LS) (x : Snt) (h : raw = false → (1 ≤ x.state ∧ x.state ≤ 4) ∧ x.at_ < 5000) : Next raw s (s.give x).1 := by
  unfold give
  split
  · exact Next.refl raw s
  · split
    · exact Next.refl raw s
    · refine ⟨rfl, rfl, by simp, by simp, fun hr hs y hy => ?_⟩
      simp only [List.mem_append, List.mem_singleton] at hy
      rcases hy with hy | rfl
      · exact hs y hy
      · exact h hr
theorem next_send (raw : Bool) (s : LS) (x : Snt) (h : raw = false → x.at_ < 5000) : Next raw s (s.send x).1 := by
  unfold send
  split
  · exact Next.refl raw s
  · exact next_give raw s _ (fun hr => ⟨⟨by simp, by simp⟩, h hr⟩)
theorem next_skip (raw : Bool) (s : LS) : Next raw s s.skip.1 := next_give raw s _ (fun _ => by simp [skipped])
theorem next_put (raw : Bool) (s : LS) (pn : Int) (x : Snt) (h : raw = false → s.Small → (1 ≤ x.state ∧ x.state ≤ 4) ∧ x.at_ < 5000) : Next raw s (s.put pn x) :=
  ⟨rfl, rfl, by simp [put], by simp [put], fun hr hs y hy => by
    rcases List.mem_or_eq_of_mem_set hy with hy | rfl
    · exact hs y hy
    · exact h hr hs⟩
theorem Small.at' {s : LS} (h : s.Small) {pn : Int} (hp : s.has pn) : (1 ≤ (s.at' pn).state ∧ (s.at' pn).state ≤ 4) ∧ (s.at' pn).at_ < 5000 := by
  rw [at'_eq hp]
  exact h _ (List.getElem_mem _)
theorem next_use (raw : Bool) (s : LS) (pn : Int) : Next raw s (s.use pn).1 := by
  unfold use
  split
  · rename_i hm
    exact next_put _ _ _ _ (fun _ hs => hs.at' hm.1)
  · exact Next.refl raw s
theorem next_settle (raw : Bool) (s : LS) (pn state : Int) : Next raw s (s.settle pn state).1 := by
  unfold settle
  split
  · rename_i hm
    exact next_put _ _ _ _ (fun _ hs => ⟨by rcases hm.2 with h | h <;> simp only [h.1] <;> omega, (hs.at' hm.1).2⟩)
  · exact Next.refl raw s
end LS

/-- A deed leaves both alike; what came of it. -/
def Did (raw : Bool) (w : World) (F : Nat → Prop) (p r : Nat) (s : LS) (w' : World) : Prop :=
  ∃ s' : LS, Two w' (Grow F w) p r s' ∧ Chg F w w' ∧ LS.Next raw s s'

theorem three_boxes (w : World) (o1 o2 o3 : Obj) (n : Nat) : ((((w.alloc o1).alloc o2).alloc o3).drewN n).heap[w.heap.size]? = some o1 ∧ ((((w.alloc o1).alloc o2).alloc o3).drewN n).heap[w.heap.size + 1]? = some o2 ∧
    ((((w.alloc o1).alloc o2).alloc o3).drewN n).heap[w.heap.size + 1 + 1]? = some o3 ∧ Below w.heap.size w ((((w.alloc o1).alloc o2).alloc o3).drewN n) := by
  have e1 := heap_alloc_new w o1
  have e2 := heap_alloc_new (w.alloc o1) o2
  have e3 := heap_alloc_new ((w.alloc o1).alloc o2) o3
  have s1 : (w.alloc o1).heap.size = w.heap.size + 1 := by simp
  have s2 : ((w.alloc o1).alloc o2).heap.size = w.heap.size + 2 := by simp
  rw [s1] at e2
  rw [s2] at e3
  refine ⟨?_, ?_, e3, ?_⟩
  · exact (Below.heap_alloc _ _ _ (by omega)).trans ((Below.heap_alloc _ _ _ (by omega)).trans e1)
  · exact (Below.heap_alloc _ _ _ (by omega)).trans e2
  · exact below_drewN (((Below.refl _ _).alloc (Nat.le_refl _) _ |>.alloc (by omega) _).alloc (by omega) _) _

theorem ok_of {pn off len nonce at_ state : Int} {coin used : Bool} (h1 : isU64 pn) (h2 : isU64 off) (h3 : isU64 len) (h4 : isU64 nonce) (h5 : isU64 at_) (h6 : isI64 state) : Snt.ok ⟨pn, off, len, nonce, at_, coin, used, state⟩ := ⟨h1, h2, h3, h4, h5, h6⟩
theorem u64_bits (op : BinOp) (a b : Int) : isU64 (bits op .u64 a b) := ⟨bits_lo_u64 op a b, by have := bits_hi_u64 op a b; omega⟩
theorem i64_wrap (a : Int) : isI64 (wrap64 a) := by
  unfold isI64 wrap64
  omega

theorem did_of {raw : Bool} {w wx v1 v2 v3 : World} {F G H : Nat → Prop} {p r : Nat} {s s' : LS} (hF : ∀ k, G k ∨ H k → F k ∧ k < w.heap.size) (bel : Below w.heap.size w wx) (hp : Pair wx G H p r s s)
    (hL : LedP v1 (Grow G wx) p s') (hC : Chg G wx v1) (hR : LedR v2 (Grow (fun k => H k ∧ k < wx.heap.size) v1) r s') (hC2 : Chg (fun k => H k ∧ k < wx.heap.size) v1 v2) (hn : LS.Next raw s s') (hb : Below v2.heap.size v2 v3) : Did raw w F p r s v3 := by
  have h1 := hp.movP hL (fun k h => h) hC
  have h2 := h1.movR hR (fun k h => h) hC2
  refine ⟨s', (h2.shut (F := Grow F w) fun k _ hk => ?_).below hb, (((chg_below bel).step hC (fun k hk h => (hF k (.inl h)).1)).step hC2 (fun k hk h => (hF k (.inr h.1)).1)).thenBelow hb (Nat.le_trans (Nat.le_trans bel.size hC.size) hC2.size), hn⟩
  rcases hk with ⟨hk | hk, _⟩ | (hk | hk)
  · exact .inl (hF k (.inl hk)).1
  · exact .inr (Nat.le_trans bel.size hk)
  · exact .inl (hF k (.inr hk.1)).1
  · exact .inr (Nat.le_trans (Nat.le_trans bel.size hC.size) hk)

end Go.Proofs.YtpfmhkkglaghgaaGreat

namespace Go.Proofs.YtpfmhkkglaghgaaGreat
set_option linter.unusedSimpArgs false
set_option linter.unusedVariables false
set_option linter.unnecessarySimpa false
open Go.RowKit

structure Dd where
  kind : Int
  a : Int
  b : Int
def Dd.vals (d : Dd) : List Value := [.int .i64 d.kind, .int .u64 d.a, .int .u64 d.b]
def Ds (l : List Dd) : List Value := l.flatMap Dd.vals
def Dd.ok (d : Dd) : Prop := isU64 d.a ∧ isU64 d.b
theorem Rd.deed {w : World} {A : Option Addr} {n c : Nat} {l : List Dd} (h : Rd w 3 A n c (Ds l)) {i : Nat} (hi : i < l.length) :
    ∃ b off, A = some ⟨b, off, none⟩ ∧ w.cell? ⟨b, off + i * 3, none⟩ = some (.int .i64 l[i].kind) ∧ w.cell? ⟨b, off + i * 3 + 1, none⟩ = some (.int .u64 l[i].a) ∧ w.cell? ⟨b, off + i * 3 + 2, none⟩ = some (.int .u64 l[i].b) := by
  obtain ⟨b, off, e, hc⟩ := Rd.elem (f := Dd.vals) (k := 3) (fun _ => rfl) h (by omega) hi
  exact ⟨b, off, e, hc 0 _ rfl, hc 1 _ rfl, hc 2 _ rfl⟩
theorem Rd.deeds {w : World} {A : Option Addr} {n c : Nat} {l : List Dd} (h : Rd w 3 A n c (Ds l)) : l.length = n := Rd.count (f := Dd.vals) (k := 3) (fun _ => rfl) h (by omega)

/-- The blocks behind w's, but two. -/
def Own (w : World) (g : Nat) : Nat → Prop := fun j => w.heap.size ≤ j ∧ j ≠ w.heap.size ∧ j ≠ g
/-- The blocks behind w's. -/
def Beh (w : World) : Nat → Prop := fun j => w.heap.size ≤ j
theorem beh_step {w v v' : World} (hb : Below w.heap.size w v) (hc : Chg (Beh w) v v') : Below w.heap.size w v' := hb.trans (hc.below hb.size (fun k hk h => by unfold Beh at h; omega))
theorem beh_grow {w v : World} (hb : Below w.heap.size w v) {k : Nat} (h : Grow (Beh w) v k) : Beh w k := by
  rcases h with h | h
  · exact h
  · exact Nat.le_trans hb.size h
/-- The blocks behind w's, but one. -/
def But (w : World) (g : Nat) : Nat → Prop := fun j => w.heap.size ≤ j ∧ j ≠ g

end Go.Proofs.YtpfmhkkglaghgaaGreat

namespace Go.Proofs.YtpfmhkkglaghgaaGreat
set_option linter.unusedSimpArgs false
set_option linter.unusedVariables false
set_option linter.unnecessarySimpa false
open Go.RowKit

end Go.Proofs.YtpfmhkkglaghgaaGreat
