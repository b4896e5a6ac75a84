/-
  Part of the proof of EngineRanges.
-/
import Derived.Test.YtpkbimmhimgamaaPAK
import Derived.Test.YtpkbimmhimgamaaPAN
import Derived.Test.YtpkbimmhimgamaaPAD
import Derived.Deep.RegionHeld3
import Derived.Deep.RegionWith
import Derived.Deep.RegionLaw
import Derived.Deep.DeepCutAuto
namespace Go.Proofs.Ytpkbimmhimgamaa
set_option linter.unusedSimpArgs false
set_option linter.unusedVariables false
set_option linter.unnecessarySimpa false
open Go.RowKit
theorem lead_append_false (l : List Bool) (n : Nat) : lead (l ++ List.replicate n false) = lead l := by
  induction l with
  | nil => cases n <;> simp [lead, List.replicate_succ]
  | cons x r ih => simp [lead, ih]
theorem getD_append_false (l : List Bool) (n i : Nat) : (l ++ List.replicate n false).getD i false = l.getD i false := by
  by_cases h : i < l.length
  · simp [List.getD, List.getElem?_append_left h]
  · have h1 : l.getD i false = false := by simp [List.getD, h]
    rw [h1]
    simp only [List.getD, List.getElem?_append_right (show l.length ≤ i by omega), List.getElem?_replicate]
    split <;> rfl
theorem rowB_append_false (l : List Bool) (n : Nat) (h : (l ++ List.replicate n false).length ≤ 1000000) : rowB (l ++ List.replicate n false) = rowB l := by
  have hl : l.length ≤ 1000000 := by simp at h; omega
  obtain ⟨h1, h2, -⟩ := rowB_spec l hl
  refine (rowB_eq h h1 (fun m => ?_)).symm
  rw [h2 m]
  constructor
  · rintro ⟨i, a, b, c⟩
    exact ⟨i, by simp; omega, b, by rw [getD_append_false]; exact c⟩
  · rintro ⟨i, a, b, c⟩
    rw [getD_append_false] at c
    exact ⟨i, getD_len c, b, c⟩

namespace QS
theorem Good.write {s : QS} (g : s.Good) {l : List Int} (hl : ∀ x ∈ l, 0 ≤ x ∧ x ≤ 255) : (s.write l).1.Good ∧ (s.write l).1.base = s.base ∧ (s.write l).1.b.length ≤ s.b.length + l.length := by
  have hb : (s.write l).1.base = s.base := lead_append_false _ _
  refine ⟨⟨g.room1, g.room2, ?_, ?_, ?_, ?_, ?_, ?_, ?_⟩, hb, ?_⟩
  · have := g.la; simp [QS.write]; omega
  · have := g.lo; simp [QS.write]; omega
  · have := g.fr; simp [QS.write]; omega
  · intro i hi
    simp only [QS.write] at hi ⊢
    rw [getD_append_false] at hi ⊢
    exact g.ob i hi
  · intro i hi
    simp only [QS.write] at hi ⊢
    rw [getD_append_false] at hi
    exact g.ab i hi
  · intro x hx
    simp only [QS.write, List.mem_append] at hx
    rcases hx with hx | hx
    · exact g.by_ x hx
    · exact hl x (List.mem_of_mem_take hx)
  · rw [hb]
    have := g.fit
    simp [QS.write]
    omega
  · simp [QS.write]
    omega
theorem AkRow.write {s : QS} {L : List Sp} (g : s.Good) (h : AkRow s L) (l : List Int) : AkRow (s.write l).1 L := by
  have hb : (s.write l).1.base = s.base := lead_append_false _ _
  refine ⟨h.gd, fun n => ?_⟩
  rw [h.mem n, hb]
  simp only [QS.write]
  constructor
  · rintro ⟨i, a, b, c, d⟩
    exact ⟨i, a, by simp; omega, c, by rw [getD_append_false]; exact d⟩
  · rintro ⟨i, a, b, c, d⟩
    rw [getD_append_false] at d
    exact ⟨i, a, by have := getD_len d; have := g.la; omega, c, d⟩

theorem firstOf_le (l : List Bool) : firstOf l ≤ l.length := by have := lead_le (l.map not); simpa [firstOf] using this
theorem firstOf_lt {l : List Bool} {i : Nat} (h : i < firstOf l) : l.getD i false = false := by
  have h1 := firstOf_le l
  have := lead_lt (l := l.map not) (i := i) h (by simp; omega)
  rw [getD_at (by omega)]
  simpa using this
theorem firstOf_at {l : List Bool} (h : firstOf l < l.length) : l.getD (firstOf l) false = true := by
  have := lead_at (l := l.map not) (by simpa [firstOf] using h)
  rw [getD_at h]
  simpa [firstOf] using this
theorem runTo_le {l : List Bool} {f : Nat} (h : f ≤ l.length) : f ≤ runTo l f ∧ runTo l f ≤ l.length := by
  have := lead_le (l.drop f)
  simp at this
  unfold runTo
  omega
theorem runTo_lt {l : List Bool} {f i : Nat} (h1 : f ≤ i) (h2 : i < runTo l f) : l.getD i false = true := by
  unfold runTo at h2
  have hl := lead_le (l.drop f)
  simp at hl
  have := lead_lt (l := l.drop f) (i := i - f) (by omega) (by simp; omega)
  rw [getD_at (by omega)]
  simpa [show f + (i - f) = i by omega] using this
theorem runTo_at {l : List Bool} {f : Nat} (h : f ≤ l.length) : l.getD (runTo l f) false = false := by
  rcases Nat.lt_or_ge (runTo l f) l.length with h1 | h1
  · have := lead_at (l := l.drop f) (by unfold runTo at h1; simp; omega)
    rw [getD_at h1]
    simpa [runTo] using this
  · simp [List.getD, h1]
/-- The first owed row is the first run. -/
theorem next_owed {s : QS} (g : s.Good) (hf : s.Few) (h : 0 < (rowB s.ow).length) : ((rowB s.ow)[0].1 = firstOf s.ow) ∧ ((rowB s.ow)[0].2 + 1 = runTo s.ow (firstOf s.ow)) ∧ firstOf s.ow < s.ow.length ∧ firstOf s.ow < runTo s.ow (firstOf s.ow) := by
  have hl : s.ow.length ≤ 1000000 := by rw [g.lo]; exact hf
  obtain ⟨r1, r2, -⟩ := rowB_spec s.ow hl
  have hsp := (r1.1 _ (List.getElem_mem h)).1
  obtain ⟨i, hi, ei, ti⟩ := (r2 _).1 (Mem_lo r1 (List.getElem_mem h)).1
  obtain ⟨j, hj, ej, tj⟩ := (r2 _).1 (Mem_lo r1 (List.getElem_mem h)).2
  obtain ⟨e1, e2, e3⟩ := head_end r1 h
  have hfi : firstOf s.ow = i := by
    rcases Nat.lt_trichotomy (firstOf s.ow) i with h1 | h1 | h1
    · have hM := (r2 (firstOf s.ow)).2 ⟨_, by omega, rfl, firstOf_at (by omega)⟩
      have := head_min r1 h hM
      omega
    · exact h1
    · rw [firstOf_lt h1] at ti; cases ti
  have hrt : runTo s.ow (firstOf s.ow) = j + 1 := by
    have hle := firstOf_le s.ow
    have h2 := runTo_le hle
    rcases Nat.lt_trichotomy (runTo s.ow (firstOf s.ow)) (j + 1) with h1 | h1 | h1
    · obtain ⟨k, -, ek, tk⟩ := (r2 _).1 (e2 (runTo s.ow (firstOf s.ow)) (by omega) (by omega))
      obtain rfl : runTo s.ow (firstOf s.ow) = k := by omega
      rw [runTo_at hle] at tk
      cases tk
    · exact h1
    · exfalso
      refine e1 ((r2 _).2 ⟨j + 1, by omega, by omega, runTo_lt (by omega) h1⟩)
  refine ⟨by omega, by omega, by omega, ?_⟩
  omega
theorem next_none {s : QS} (g : s.Good) (hf : s.Few) (h : (rowB s.ow).length = 0) : firstOf s.ow = s.ow.length := by
  have hl : s.ow.length ≤ 1000000 := by rw [g.lo]; exact hf
  obtain ⟨r1, r2, -⟩ := rowB_spec s.ow hl
  have hle := firstOf_le s.ow
  apply Nat.le_antisymm hle
  apply Nat.le_of_not_lt
  intro hlt
  obtain ⟨t, ht, -⟩ := (r2 (firstOf s.ow)).2 ⟨_, hlt, rfl, firstOf_at hlt⟩
  have := List.length_pos_of_mem ht
  omega
/-- All that is next lies from the base on. -/
theorem next_base {s : QS} (g : s.Good) : s.base ≤ firstOf s.ow ∨ firstOf s.ow = s.ow.length := by
  rcases Nat.lt_or_ge (firstOf s.ow) s.ow.length with h | h
  · left
    apply Nat.le_of_not_lt
    intro hlt
    have h1 := g.ob _ (firstOf_at h)
    rw [below_base g hlt] at h1
    cases h1.2
  · exact .inr (Nat.le_antisymm (firstOf_le _) h)
end QS
end Go.Proofs.Ytpkbimmhimgamaa
namespace Go.Proofs.Ytpkbimmhimgamaa
set_option linter.unusedSimpArgs false
set_option linter.unusedVariables false
set_option linter.unnecessarySimpa false
open Go.RowKit
/-- The cells of a queue. -/
structure QueC (w : World) (F : Nat → Prop) (q : Nat) (s : QS) (A : Option Addr) (c : Nat) (La : List Sp) (A1 : Option Addr) (c1 : Nat) (A2 : Option Addr) (c2 : Nat) : Prop where
  t : w.heap[q]? = some (.cells #[.int .i64 s.room, .int .u64 s.base, .int .u64 s.fresh, .slice A (s.b.length - s.base) c, .slice A1 La.length c1, .slice A2 (rowB s.ow).length c2] 85 (0, 0))
  o : w.ownsRow 0 5 1 (.slice A (s.b.length - s.base) c) (s.b.length - s.base) (U8 (s.b.drop s.base))
  r1 : Rd w 2 A1 La.length c1 (Ss La)
  r2 : Rd w 2 A2 (rowB s.ow).length c2 (Ss (rowB s.ow))
  ak : QS.AkRow s La
  fq : F q
  fo : ∀ g, (Value.slice A (s.b.length - s.base) c).ownBlock = some g → F g ∧ g ≠ q
  f1 : ∀ b off, A1 = some ⟨b, off, none⟩ → 0 < La.length → F b ∧ b ≠ q ∧ (Value.slice A (s.b.length - s.base) c).ownBlock ≠ some b
  f2 : ∀ b off, A2 = some ⟨b, off, none⟩ → 0 < (rowB s.ow).length → F b ∧ b ≠ q ∧ (Value.slice A (s.b.length - s.base) c).ownBlock ≠ some b
structure QueP (w : World) (F : Nat → Prop) (q : Nat) (s : QS) : Prop where
  good : s.Good
  few : s.Few
  ex : ∃ A c La A1 c1 A2 c2, QueC w F q s A c La A1 c1 A2 c2
theorem QueC.chg {w w' : World} {F G H : Nat → Prop} {q : Nat} {s : QS} {A A1 A2 : Option Addr} {c c1 c2 : Nat} {La : List Sp} (h : QueC w F q s A c La A1 c1 A2 c2) (hc : Chg G w w') (hd : ∀ k, k < w.heap.size → F k → ¬ G k) (hs : ∀ k, k < w.heap.size → F k → H k) : QueC w' H q s A c La A1 c1 A2 c2 := by
  have hq := lt_of_block h.t
  refine ⟨hc.blk h.t (hd q hq h.fq), own_chg h.o hc (fun k hk => hd k (h.o.lt k hk).2 (h.fo k hk).1), h.r1.chg hc (fun b off e hn => hd b (h.r1.lt (by omega) hn b off e) (h.f1 b off e hn).1), h.r2.chg hc (fun b off e hn => hd b (h.r2.lt (by omega) hn b off e) (h.f2 b off e hn).1), h.ak, hs q hq h.fq, fun g hg => ⟨hs g (h.o.lt g hg).2 (h.fo g hg).1, (h.fo g hg).2⟩, fun b off e hn => ⟨hs b (h.r1.lt (by omega) hn b off e) (h.f1 b off e hn).1, (h.f1 b off e hn).2⟩, fun b off e hn => ⟨hs b (h.r2.lt (by omega) hn b off e) (h.f2 b off e hn).1, (h.f2 b off e hn).2⟩⟩
theorem QueC.below {w w' : World} {F : Nat → Prop} {q : Nat} {s : QS} {A A1 A2 : Option Addr} {c c1 c2 : Nat} {La : List Sp} (h : QueC w F q s A c La A1 c1 A2 c2) (b : Below w.heap.size w w') : QueC w' F q s A c La A1 c1 A2 c2 :=
  h.chg (chg_below b (F := fun _ => False)) (fun _ _ _ h => h) (fun _ _ h => h)
theorem QueP.chg {w w' : World} {F G H : Nat → Prop} {q : Nat} {s : QS} (h : QueP w F q s) (hc : Chg G w w') (hd : ∀ k, k < w.heap.size → F k → ¬ G k) (hs : ∀ k, k < w.heap.size → F k → H k) : QueP w' H q s := by
  obtain ⟨g, f, A, c, La, A1, c1, A2, c2, hC⟩ := h
  exact ⟨g, f, A, c, La, A1, c1, A2, c2, hC.chg hc hd hs⟩
theorem QueP.below {w w' : World} {F : Nat → Prop} {q : Nat} {s : QS} (h : QueP w F q s) (b : Below w.heap.size w w') : QueP w' F q s :=
  h.chg (chg_below b (F := fun _ => False)) (fun _ _ _ h => h) (fun _ _ h => h)
theorem QueP.sub {w : World} {F G : Nat → Prop} {q : Nat} {s : QS} (h : QueP w F q s) (hs : ∀ k, k < w.heap.size → F k → G k) : QueP w G q s := h.chg (Chg.refl (fun _ => False) w) (fun _ _ _ h => h) hs
theorem QueP.dn {w : World} {F : Nat → Prop} {q : Nat} {s : QS} (h : QueP w F q s) {k : Nat} : QueP (w.drewN k) F q s := h.below (Qt.below (show Qt w (w.drewN k) from ⟨k, rfl⟩))
theorem QueP.lt {w : World} {F : Nat → Prop} {q : Nat} {s : QS} (h : QueP w F q s) : q < w.heap.size := by
  obtain ⟨g, f, A, c, La, A1, c1, A2, c2, hC⟩ := h
  exact lt_of_block hC.t

theorem ahead_any (off n : Int) (e : Nat) (w : World) (ho : isU64 off) (hn : isU64 n) (he : e ≤ 4611686018427387903) :
    Calls Try.prog 83 #[.int .u64 off, .int .u64 n, .int .u64 e] w fun e' w' => e' = .returned (.bool (decide (QS.within off n e))) ∧ w = w' := by
  obtain ⟨o0, o1⟩ := ho
  obtain ⟨n0, n1⟩ := hn
  by_cases h1 : 0 < n
  · by_cases h2 : off ≤ (e : Int)
    · by_cases h3 : n ≤ (e : Int) - off
      · rw [decide_eq_true (show QS.within off n e from ⟨h1, h2, h3⟩)]
        go_enter Try.func83, Try.ntmps83
        go_wp2
        go_ret
        exact ⟨rfl, rfl⟩
      · rw [decide_eq_false (show ¬ QS.within off n e from fun h => h3 h.2.2)]
        have h3' : decide (n ≤ (e : Int) - off) = false := decide_eq_false h3
        go_enter Try.func83, Try.ntmps83
        go_wp2
        go_ret
        exact ⟨rfl, rfl⟩
    · rw [decide_eq_false (show ¬ QS.within off n e from fun h => h2 h.2.1)]
      have h2' : decide (off ≤ (e : Int)) = false := decide_eq_false h2
      go_enter Try.func83, Try.ntmps83
      go_wp2
      go_ret
      exact ⟨rfl, rfl⟩
  · rw [decide_eq_false (show ¬ QS.within off n e from fun h => h1 h.1)]
    obtain rfl : n = 0 := by omega
    go_enter Try.func83, Try.ntmps83
    go_wp2
    go_ret
    exact ⟨rfl, rfl⟩

theorem que_end (w : World) (F : Nat → Prop) (q : Nat) (s : QS) (h : QueP w F q s) :
    Calls Try.prog 26 #[.pointer (some ⟨q, 0, none⟩)] w fun e w' => e = .returned (.int .u64 s.b.length) ∧ Qt w w' := by
  obtain ⟨A, c, La, A1, c1, A2, c2, hC⟩ := h.ex
  have hb := s.base_le h.good
  have hf : s.b.length ≤ 1000000 := h.few
  have HB := Lib.hid hb
  have t0 := cell_of_row w q 0 _ _ _ hC.t
  have t1 := cell_of_row w q 1 _ _ _ hC.t
  have t2 := cell_of_row w q 2 _ _ _ hC.t
  have t3 := cell_of_row w q 3 _ _ _ hC.t
  have t4 := cell_of_row w q 4 _ _ _ hC.t
  have t5 := cell_of_row w q 5 _ _ _ hC.t
  clear hC h
  have E := Lib.hid (show (s.base : Int) + ((s.b.length - s.base : Nat) : Int) = s.b.length by omega)
  have z : IntKind.u64.wrap ((s.base : Int) + ((s.b.length - s.base : Nat) : Int)) = s.b.length := by rw [IntWalk.u64_in _ (by omega)]; omega
  have z2 : IntKind.u64.wrap ((s.b.length - s.base : Nat) : Int) = ((s.b.length - s.base : Nat) : Int) := IntWalk.u64_in _ (by omega)
  go_enter Try.func26, Try.ntmps26
  go_wp2_with fail
  refine wp_region_qt (by kernel_rfl) (by kernel_rfl) ?_
  repeat (go_big_quiet_step (fail))
  refine wpQuiet_nil ?_
  intro w1 q1
  go_wp2
  go_ret
  exact ⟨by first | rfl | exact ret_int E.out, q1⟩

theorem que_base (w : World) (F : Nat → Prop) (q : Nat) (s : QS) (h : QueP w F q s) :
    Calls Try.prog 27 #[.pointer (some ⟨q, 0, none⟩)] w fun e w' => e = .returned (.int .u64 s.base) ∧ w = w' := by
  obtain ⟨A, c, La, A1, c1, A2, c2, hC⟩ := h.ex
  have t0 := cell_of_row w q 0 _ _ _ hC.t
  have t1 := cell_of_row w q 1 _ _ _ hC.t
  have t2 := cell_of_row w q 2 _ _ _ hC.t
  have t3 := cell_of_row w q 3 _ _ _ hC.t
  have t4 := cell_of_row w q 4 _ _ _ hC.t
  have t5 := cell_of_row w q 5 _ _ _ hC.t
  clear hC h
  go_enter Try.func27, Try.ntmps27
  go_wp2
  go_ret
  exact ⟨rfl, rfl⟩
end Go.Proofs.Ytpkbimmhimgamaa
namespace Go.Proofs.Ytpkbimmhimgamaa
set_option linter.unusedSimpArgs false
set_option linter.unusedVariables false
set_option linter.unnecessarySimpa false
open Go.RowKit
attribute [local go_sem ↓] run_min_int run_max_int
theorem rowB_u2 {l : List Bool} (hl : l.length ≤ 1000000) : U2s (rowB l) := by
  obtain ⟨h1, h2, -⟩ := rowB_spec l hl
  have key : ∀ n, Mem n (rowB l) → isU64 n := fun n hn => by
    obtain ⟨i, a, rfl, -⟩ := (h2 n).1 hn
    exact ⟨by omega, by omega⟩
  exact fun s hs => ⟨key _ (Mem_lo h1 hs).1, key _ (Mem_lo h1 hs).2⟩
theorem QS.AkRow.u2 {s : QS} {L : List Sp} (h : QS.AkRow s L) (hf : s.Few) : U2s L ∧ L.length ≤ 1000000 := by
  have key : ∀ n, Mem n L → isU64 n := fun n hn => by
    obtain ⟨i, _, a, rfl, -⟩ := (h.mem n).1 hn
    have : s.b.length ≤ 1000000 := hf
    exact ⟨by omega, by omega⟩
  refine ⟨fun s hs => ⟨key _ (Mem_lo h.gd hs).1, key _ (Mem_lo h.gd hs).2⟩, ?_⟩
  have e : L = rowB (s.ak.mapIdx fun i x => decide (s.base ≤ i ∧ i < s.b.length) && x) ∨ True := .inr trivial
  have hb : s.b.length ≤ 1000000 := hf
  -- each span has a number of its own below the length
  have hp := List.pairwise_iff_getElem.1 h.gd.2
  have low : ∀ i, (hi : i < L.length) → (i : Int) ≤ L[i].1 := by
    intro i
    induction i with
    | zero => intro hi; have := (key _ (Mem_lo h.gd (List.getElem_mem hi)).1).1; omega
    | succ i ih =>
      intro hi
      have h1 := ih (by omega)
      have h2 := hp i (i + 1) (by omega) hi (by omega)
      have h3 := (h.gd.1 _ (List.getElem_mem (show i < L.length by omega))).1
      omega
  rcases Nat.eq_zero_or_pos L.length with h0 | h0
  · omega
  · have h1 := low (L.length - 1) (by omega)
    obtain ⟨j, _, h2, h3, -⟩ := (h.mem _).1 (Mem_lo h.gd (List.getElem_mem (show L.length - 1 < L.length by omega))).1
    omega
theorem RdN.foot {w1 W2 : World} {B : Nat} {A : Option Addr} {n c q : Nat} {xs : List Value} (h : RdN w1 B A n c xs) (hC : Chg (fun j => j = q) w1 W2) (hq : q < B) :
    Rd W2 2 A n c xs ∧ ∀ b off, A = some ⟨b, off, none⟩ → 0 < n → B ≤ b ∧ b ≠ q :=
  ⟨h.rd.chg hC (fun b off e hn e' => by have := h.nw b off e hn; omega), fun b off e hn => ⟨h.nw b off e hn, by have := h.nw b off e hn; omega⟩⟩

theorem RdN.mono {w : World} {B B' : Nat} {A : Option Addr} {n c : Nat} {xs : List Value} (h : RdN w B A n c xs) (hB : B' ≤ B) : RdN w B' A n c xs := ⟨h.rd, fun b off e hn => Nat.le_trans hB (h.nw b off e hn)⟩
/-- Another row of what is owed, another fresh place. -/
theorem QueC.turn2 {w w1 : World} {F : Nat → Prop} {q : Nat} {s t : QS} {A A1 A2 A' : Option Addr} {c c1 c2 c' : Nat} {La : List Sp} (h : QueC w F q s A c La A1 c1 A2 c2) (b : Below w.heap.size w w1)
    (hr : RdN w1 w.heap.size A' (rowB t.ow).length c' (Ss (rowB t.ow))) (e1 : t.b = s.b) (e2 : t.ak = s.ak) (e3 : t.room = s.room) (W2 : World) (hC : Chg (fun j => j = q) w1 W2)
    (ht : W2.heap[q]? = some (.cells #[.int .i64 s.room, .int .u64 s.base, .int .u64 t.fresh, .slice A (s.b.length - s.base) c, .slice A1 La.length c1, .slice A' (rowB t.ow).length c'] 85 (0, 0))) :
    QueC W2 (Grow F w) q t A c La A1 c1 A' c' := by
  have hq := lt_of_block h.t
  have h1 := h.below b
  obtain ⟨g1, g2⟩ := hr.foot hC hq
  have eb : t.base = s.base := by unfold QS.base; rw [e2]
  have hb1 : s.b = t.b := e1.symm
  refine ⟨by rw [e3, eb, e1]; exact ht, by rw [eb, e1]; exact own_chg h1.o hC (fun k hk e => (h1.fo k hk).2 e), h1.r1.chg hC (fun b off e hn e' => (h1.f1 b off e hn).2.1 e'), g1, h1.ak.same e1 e2, .inl h.fq, ?_, ?_, ?_⟩
  · rw [eb, e1]; exact fun g hg => ⟨.inl (h.fo g hg).1, (h.fo g hg).2⟩
  · rw [eb, e1]; exact fun b off e hn => ⟨.inl (h.f1 b off e hn).1, (h.f1 b off e hn).2⟩
  · rw [eb, e1]
    exact fun b off e hn => ⟨.inr (g2 b off e hn).1, (g2 b off e hn).2, fun e' => by have := (h.o.lt b e').2; have := (g2 b off e hn).1; omega⟩

set_option maxHeartbeats 4000000 in
set_option maxRecDepth 100000 in
theorem que_sent (w : World) (F : Nat → Prop) (q : Nat) (s : QS) (off n : Int) (h : QueP w F q s) (ho : isU64 off) (hn : isU64 n) :
    Calls Try.prog 69 #[.pointer (some ⟨q, 0, none⟩), .int .u64 off, .int .u64 n] w fun e w' => e = .returned (.bool (s.sent off n).2) ∧ QueP w' (Grow F w) q (s.sent off n).1 ∧ Chg F w w' := by
  have hf : s.b.length ≤ 1000000 := h.few
  obtain ⟨o0, o1⟩ := ho
  obtain ⟨n0, n1⟩ := hn
  have U1 : Hid (isU64 off) := ⟨o0, o1⟩
  have U2 : Hid (isU64 n) := ⟨n0, n1⟩
  have H := Lib.hid h
  have hfr := h.good.fr
  clear h
  by_cases hw : QS.within off n s.b.length
  · have HA := Lib.hid (decide_eq_true hw)
    have HW := Lib.hid hw
    obtain ⟨w1', w2', w3'⟩ := hw
    by_cases hs : off ≤ s.fresh
    · have HS := Lib.hid (show s.sent off n = ({ s with ow := paint false off.toNat (off + n).toNat s.ow, fresh := max s.fresh (off + n).toNat }, true) from if_pos ⟨HW.out, hs⟩)
      obtain ⟨A, c, La, A1, c1, A2, c2, hC⟩ := H.out.ex
      have HC := Lib.hid hC
      have CUT := Lib.hid (fun W (R : Rd W 2 A2 (rowB s.ow).length c2 (Ss (rowB s.ow))) => cut_yes A2 _ c2 (rowB s.ow) off (off + n - 1) W R (rowB_spec s.ow (by rw [H.out.good.lo]; exact hf)).1.good ⟨by show off ≤ off + n - 1; omega, by show off + n - 1 ≤ maxPn; unfold maxPn; omega⟩ o0 (rowB_u2 (by rw [H.out.good.lo]; exact hf)) (by have := (rowB_spec s.ow (by rw [H.out.good.lo]; exact hf)).2.2; have := H.out.good.lo; omega))
      rw [QS.sent_row H.out.good H.out.few HW.out o0] at CUT
      clear hC
      rw [HS.out]
      go_enter Try.func69, Try.ntmps69
      go_wp2_with fail
      refine (que_end w F q s H.out).mono ?_
      rintro e v1 ⟨rfl, q1⟩
      have H1 := Lib.hid (H.out.below q1.below)
      have C1 := Lib.hid (HC.out.below q1.below)
      have B1 : Hid (Below w.heap.size w v1) := q1.below
      clear q1
      go_wp2_with fail
      refine (ahead_any off n s.b.length _ U1.out U2.out (by omega)).mono ?_
      rw [HA.out]
      rintro e v2 ⟨rfl, rfl⟩
      have t0 := cell_of_row v1 q 0 _ _ _ C1.out.t
      have ft0 := frozen_of_row v1 q 0 _ _ C1.out.t
      have t1 := cell_of_row v1 q 1 _ _ _ C1.out.t
      have ft1 := frozen_of_row v1 q 1 _ _ C1.out.t
      have t2 := cell_of_row v1 q 2 _ _ _ C1.out.t
      have ft2 := frozen_of_row v1 q 2 _ _ C1.out.t
      have t3 := cell_of_row v1 q 3 _ _ _ C1.out.t
      have ft3 := frozen_of_row v1 q 3 _ _ C1.out.t
      have t4 := cell_of_row v1 q 4 _ _ _ C1.out.t
      have ft4 := frozen_of_row v1 q 4 _ _ C1.out.t
      have t5 := cell_of_row v1 q 5 _ _ _ C1.out.t
      have ft5 := frozen_of_row v1 q 5 _ _ C1.out.t
      have hq := lt_of_block C1.out.t
      go_wp2_with fail
      refine (CUT.out _ C1.out.r2).mono ?_
      rintro e v3 ⟨A', c', rfl, hr, b3⟩
      have R3 := Lib.hid hr
      have B3 := Lib.hid b3
      have T3 := Lib.hid ((b3.block q hq).trans C1.out.t)
      clear hr b3 t0 t1 t2 t3 t4 t5 ft0 ft1 ft2 ft3 ft4 ft5
      have t0 := cell_of_row v3 q 0 _ _ _ T3.out
      have ft0 := frozen_of_row v3 q 0 _ _ T3.out
      have t1 := cell_of_row v3 q 1 _ _ _ T3.out
      have ft1 := frozen_of_row v3 q 1 _ _ T3.out
      have t2 := cell_of_row v3 q 2 _ _ _ T3.out
      have ft2 := frozen_of_row v3 q 2 _ _ T3.out
      have t3 := cell_of_row v3 q 3 _ _ _ T3.out
      have ft3 := frozen_of_row v3 q 3 _ _ T3.out
      have t4 := cell_of_row v3 q 4 _ _ _ T3.out
      have ft4 := frozen_of_row v3 q 4 _ _ T3.out
      have t5 := cell_of_row v3 q 5 _ _ _ T3.out
      have ft5 := frozen_of_row v3 q 5 _ _ T3.out
      go_wp2
      go_ret
      have GS : Hid (QS.Good { s with ow := paint false off.toNat (off + n).toNat s.ow, fresh := max s.fresh (off + n).toNat }) := by
        have h := (H.out.good.sent (off := off) (n := n) o0).1
        rw [HS.out] at h
        exact h
      have BB := B1.out.trans (B3.out.mono B1.out.size)
      have ef : ((max s.fresh (off + n).toNat : Nat) : Int) = max (s.fresh : Int) (off + n) := by omega
      have hCq : Chg (fun j => j = q) v3 ((v3.setCell ⟨q, 5, none⟩ (.slice A' (rowB (paint false off.toNat (off + n).toNat s.ow)).length c')).setCell ⟨q, 2, none⟩ (.int .u64 (max (s.fresh : Int) (off + n)))) :=
        ((Chg.refl (fun j => j = q) v3).setCell (p := ⟨q, 5, none⟩) (.inl rfl) _).setCell (p := ⟨q, 2, none⟩) (.inl rfl) _
      have ht : ((v3.setCell ⟨q, 5, none⟩ (.slice A' (rowB (paint false off.toNat (off + n).toNat s.ow)).length c')).setCell ⟨q, 2, none⟩ (.int .u64 (max (s.fresh : Int) (off + n)))).heap[q]? = some (.cells #[.int .i64 s.room, .int .u64 s.base, .int .u64 (max (s.fresh : Int) (off + n)), .slice A (s.b.length - s.base) c, .slice A1 La.length c1, .slice A' (rowB (paint false off.toNat (off + n).toNat s.ow)).length c'] 85 (0, 0)) := by
        simpa using heap_setCell_same _ q 2 _ _ (.int .u64 (max (s.fresh : Int) (off + n))) (heap_setCell_same v3 q 5 _ _ (.slice A' (rowB (paint false off.toNat (off + n).toNat s.ow)).length c') T3.out)
      rw [← ef] at ht hCq ⊢
      refine ⟨rfl, ⟨GS.out, hf, A, c, La, A1, c1, A', c', HC.out.turn2 (t := { s with ow := paint false off.toNat (off + n).toNat s.ow, fresh := max s.fresh (off + n).toNat }) BB (R3.out.mono B1.out.size) rfl rfl rfl _ hCq ht⟩, ?_⟩
      exact ((chg_below BB).setCell (p := ⟨q, 5, none⟩) (.inl HC.out.fq) _).setCell (p := ⟨q, 2, none⟩) (.inl HC.out.fq) _
    · have HS := Lib.hid (show s.sent off n = (s, false) from if_neg (fun e => hs e.2))
      obtain ⟨A, c, La, A1, c1, A2, c2, hC⟩ := H.out.ex
      have HC := Lib.hid hC
      clear hC
      rw [HS.out]
      have hs' : decide ((s.fresh : Int) < off) = true := decide_eq_true (by omega)
      go_enter Try.func69, Try.ntmps69
      go_wp2_with fail
      refine (que_end w F q s H.out).mono ?_
      rintro e v1 ⟨rfl, q1⟩
      have H1 := Lib.hid (H.out.below q1.below)
      have C1 := Lib.hid (HC.out.below q1.below)
      have B1 : Hid (Below w.heap.size w v1) := q1.below
      clear q1
      go_wp2_with fail
      refine (ahead_any off n s.b.length _ U1.out U2.out (by omega)).mono ?_
      rw [HA.out]
      rintro e v2 ⟨rfl, rfl⟩
      have t0 := cell_of_row v1 q 0 _ _ _ C1.out.t
      have t1 := cell_of_row v1 q 1 _ _ _ C1.out.t
      have t2 := cell_of_row v1 q 2 _ _ _ C1.out.t
      have t3 := cell_of_row v1 q 3 _ _ _ C1.out.t
      have t4 := cell_of_row v1 q 4 _ _ _ C1.out.t
      have t5 := cell_of_row v1 q 5 _ _ _ C1.out.t
      go_wp2
      go_ret
      exact ⟨rfl, H1.out.sub (fun k _ h => .inl h), chg_below B1.out⟩
  · have HA := Lib.hid (decide_eq_false hw)
    have HS := Lib.hid (show s.sent off n = (s, false) from if_neg (fun e => hw e.1))
    rw [HS.out]
    go_enter Try.func69, Try.ntmps69
    go_wp2_with fail
    refine (que_end w F q s H.out).mono ?_
    rintro e v1 ⟨rfl, q1⟩
    have H1 := Lib.hid (H.out.below q1.below)
    have B1 : Hid (Below w.heap.size w v1) := q1.below
    clear q1
    go_wp2_with fail
    refine (ahead_any off n s.b.length _ U1.out U2.out (by omega)).mono ?_
    rw [HA.out]
    rintro e v2 ⟨rfl, rfl⟩
    go_wp2
    go_ret
    exact ⟨rfl, H1.out.sub (fun k _ h => .inl h), chg_below B1.out⟩

theorem que_new (room : Int) (w : World) :
    Calls Try.prog 11 #[.int .i64 room] w fun e w' => e = .returned (.pointer (some ⟨w.heap.size, 0, none⟩)) ∧ QueP w' (fun k => w.heap.size ≤ k) w.heap.size (QS.new room) ∧ Below w.heap.size w w' := by
  have hr : ((QS.new room).room : Int) = max 1 (min room 65536) := by simp [QS.new]; omega
  have HR := Lib.hid hr
  clear hr
  go_enter Try.func11, Try.ntmps11
  go_wp2
  go_ret
  refine ⟨rfl, ⟨QS.Good.new room, by simp [QS.Few, QS.new], none, 0, [], none, 0, none, 0, ?_⟩, box_below _ _⟩
  refine ⟨?_, World.ownsRow_nil _ _ _ _, Rd.nil_ _ _, Rd.nil_ _ _, ⟨Gd.nil, fun n => ?_⟩, Nat.le_refl _, (fun g hg => by simp [Value.ownBlock] at hg), (fun b off e => by cases e), (fun b off e => by cases e)⟩
  · rw [HR.out]
    exact heap_alloc_new w _
  · simp [QS.new, Mem]

end Go.Proofs.Ytpkbimmhimgamaa
namespace Go.Proofs.Ytpkbimmhimgamaa
set_option linter.unusedSimpArgs false
set_option linter.unusedVariables false
set_option linter.unnecessarySimpa false
open Go.RowKit
attribute [local go_sem ↓] run_min_int run_max_int
/-- On the way: the rows of the object as they stand, a span in a box. -/
structure AckSt (w : World) (F : Nat → Prop) (q : Nat) (s : QS) (h : Nat) (sp : Sp) (A : Option Addr) (c : Nat) (L1 : List Sp) (A1 : Option Addr) (c1 : Nat) (L2 : List Sp) (A2 : Option Addr) (c2 : Nat) (W : World) : Prop where
  t : W.heap[q]? = some (.cells #[.int .i64 s.room, .int .u64 s.base, .int .u64 s.fresh, .slice A (s.b.length - s.base) c, .slice A1 L1.length c1, .slice A2 L2.length c2] 85 (0, 0))
  x : W.heap[h]? = some (.cells #[.int .u64 sp.1, .int .u64 sp.2] 142 (0, 0))
  o : W.ownsRow 0 5 1 (.slice A (s.b.length - s.base) c) (s.b.length - s.base) (U8 (s.b.drop s.base))
  r1 : Rd W 2 A1 L1.length c1 (Ss L1)
  r2 : Rd W 2 A2 L2.length c2 (Ss L2)
  ch : Chg F w W
  hx : w.heap.size ≤ h
  hq : q < w.heap.size
  fq : F q
  fo : ∀ g, (Value.slice A (s.b.length - s.base) c).ownBlock = some g → F g ∧ g ≠ q ∧ g < w.heap.size
  f1 : ∀ b off, A1 = some ⟨b, off, none⟩ → 0 < L1.length → Grow F w b ∧ b ≠ q ∧ (Value.slice A (s.b.length - s.base) c).ownBlock ≠ some b
  f2 : ∀ b off, A2 = some ⟨b, off, none⟩ → 0 < L2.length → Grow F w b ∧ b ≠ q ∧ (Value.slice A (s.b.length - s.base) c).ownBlock ≠ some b
theorem AckSt.of {w : World} {F : Nat → Prop} {q : Nat} {s : QS} {sp : Sp} {A A1 A2 : Option Addr} {c c1 c2 : Nat} {La : List Sp} (h : QueC w F q s A c La A1 c1 A2 c2) :
    AckSt w F q s w.heap.size sp A c La A1 c1 (rowB s.ow) A2 c2 (w.alloc (.cells #[.int .u64 sp.1, .int .u64 sp.2] 142)) := by
  have b := box_below w (.cells #[.int .u64 sp.1, .int .u64 sp.2] 142)
  have h1 := h.below b
  exact ⟨h1.t, heap_alloc_new w _, h1.o, h1.r1, h1.r2, chg_below b, Nat.le_refl _, lt_of_block h.t, h.fq, fun g hg => ⟨(h.fo g hg).1, (h.fo g hg).2, (h.o.lt g hg).2⟩, fun b off e hn => ⟨.inl (h.f1 b off e hn).1, (h.f1 b off e hn).2⟩, fun b off e hn => ⟨.inl (h.f2 b off e hn).1, (h.f2 b off e hn).2⟩⟩
theorem AckSt.below {w W W' : World} {F : Nat → Prop} {q h : Nat} {s : QS} {sp : Sp} {A A1 A2 : Option Addr} {c c1 c2 : Nat} {L1 L2 : List Sp} (H : AckSt w F q s h sp A c L1 A1 c1 L2 A2 c2 W) (b : Below W.heap.size W W') : AckSt w F q s h sp A c L1 A1 c1 L2 A2 c2 W' :=
  ⟨(b.block _ (lt_of_block H.t)).trans H.t, (b.block _ (lt_of_block H.x)).trans H.x, own_chg H.o (chg_below b (F := fun _ => False)) (fun _ _ h => h), H.r1.below b, H.r2.below b, H.ch.thenBelow b H.ch.size, H.hx, H.hq, H.fq, H.fo, H.f1, H.f2⟩
theorem AckSt.done {w W : World} {F : Nat → Prop} {q h : Nat} {s t : QS} {sp : Sp} {A A1 A2 : Option Addr} {c c1 c2 : Nat} {L1 L2 : List Sp} (H : AckSt w F q s h sp A c L1 A1 c1 L2 A2 c2 W) (e1 : t.b = s.b) (e2 : t.base = s.base) (e3 : t.room = s.room) (e4 : t.fresh = s.fresh) (e5 : L2 = rowB t.ow) (ak : t.AkRow L1) : QueC W (Grow F w) q t A c L1 A1 c1 A2 c2 := by
  subst e5
  refine ⟨by rw [e1, e2, e3, e4]; exact H.t, by rw [e1, e2]; exact H.o, H.r1, H.r2, ak, .inl H.fq, ?_, ?_, ?_⟩
  · rw [e1, e2]; exact fun g hg => ⟨.inl (H.fo g hg).1, (H.fo g hg).2.1⟩
  · rw [e1, e2]; exact H.f1
  · rw [e1, e2]; exact H.f2
/-- The body is cut; the base and the row are still the old. -/
structure AckSt9 (w : World) (F : Nat → Prop) (q : Nat) (s : QS) (nb : Nat) (A : Option Addr) (c : Nat) (L1 : List Sp) (A1 : Option Addr) (c1 : Nat) (L2 : List Sp) (A2 : Option Addr) (c2 : Nat) (W : World) : Prop where
  t : W.heap[q]? = some (.cells #[.int .i64 s.room, .int .u64 s.base, .int .u64 s.fresh, .slice A (s.b.length - nb) c, .slice A1 L1.length c1, .slice A2 L2.length c2] 85 (0, 0))
  o : W.ownsRow 0 5 1 (.slice A (s.b.length - nb) c) (s.b.length - nb) (U8 (s.b.drop nb))
  r1 : Rd W 2 A1 L1.length c1 (Ss L1)
  r2 : Rd W 2 A2 L2.length c2 (Ss L2)
  ch : Chg F w W
  hq : q < w.heap.size
  fq : F q
  fo : ∀ g, (Value.slice A (s.b.length - nb) c).ownBlock = some g → Grow F w g ∧ g ≠ q
  f1 : ∀ b off, A1 = some ⟨b, off, none⟩ → 0 < L1.length → Grow F w b ∧ b ≠ q ∧ (Value.slice A (s.b.length - nb) c).ownBlock ≠ some b
  f2 : ∀ b off, A2 = some ⟨b, off, none⟩ → 0 < L2.length → Grow F w b ∧ b ≠ q ∧ (Value.slice A (s.b.length - nb) c).ownBlock ≠ some b
theorem AckSt.set3 {w W w1 : World} {F : Nat → Prop} {q h : Nat} {s : QS} {sp : Sp} {A A' A1 A2 : Option Addr} {c c' c1 c2 nb : Nat} {L1 L2 : List Sp} (H : AckSt w F q s h sp A c L1 A1 c1 L2 A2 c2 W) (b : Below W.heap.size W w1)
    (ho : w1.ownsRow 0 5 1 (.slice A' (s.b.length - nb) c') (s.b.length - nb) (U8 (s.b.drop nb))) (hn : ∀ g, (Value.slice A' (s.b.length - nb) c').ownBlock = some g → W.heap.size ≤ g) :
    AckSt9 w F q s nb A' c' L1 A1 c1 L2 A2 c2 (w1.setCell ⟨q, 3, none⟩ (.slice A' (s.b.length - nb) c')) := by
  have h1 := H.below b
  have h2 := H.ch.size
  have h3 := H.hq
  have hC : Chg (fun j => j = q) w1 (w1.setCell ⟨q, 3, none⟩ (.slice A' (s.b.length - nb) c')) := (Chg.refl (fun j => j = q) w1).setCell (p := ⟨q, 3, none⟩) (.inl rfl) _
  refine ⟨by simpa using heap_setCell_same w1 q 3 _ _ (.slice A' (s.b.length - nb) c') h1.t, own_chg ho hC (fun k hk e => by have := hn k hk; omega), h1.r1.chg hC (fun b off e hn e' => (h1.f1 b off e hn).2.1 e'), h1.r2.chg hC (fun b off e hn e' => (h1.f2 b off e hn).2.1 e'), h1.ch.setCell (p := ⟨q, 3, none⟩) (.inl H.fq) _, H.hq, H.fq, ?_, ?_, ?_⟩
  · intro g hg; have := hn g hg; exact ⟨.inr (by omega), by omega⟩
  · intro b off e hL; exact ⟨(H.f1 b off e hL).1, (H.f1 b off e hL).2.1, fun e' => by have := hn b e'; have := H.r1.lt (by omega) hL b off e; omega⟩
  · intro b off e hL; exact ⟨(H.f2 b off e hL).1, (H.f2 b off e hL).2.1, fun e' => by have := hn b e'; have := H.r2.lt (by omega) hL b off e; omega⟩
theorem Ss_tail {L : List Sp} : (Ss L).drop (1 * 2) = Ss L.tail := by cases L <;> simp [Ss]
theorem AckSt9.done {w W W' : World} {F : Nat → Prop} {q : Nat} {s t : QS} {A A1 A2 A' : Option Addr} {c c1 c2 c' nb : Nat} {L1 L2 : List Sp} (H : AckSt9 w F q s nb A c L1 A1 c1 L2 A2 c2 W) (hC : Chg (fun j => j = q) W W')
    (ht : W'.heap[q]? = some (.cells #[.int .i64 s.room, .int .u64 nb, .int .u64 s.fresh, .slice A (s.b.length - nb) c, .slice A' (L1.length - 1) c', .slice A2 L2.length c2] 85 (0, 0)))
    (hcut : ∀ w xs, Rd w 2 A1 L1.length c1 xs → Rd w 2 A' (L1.length - 1) c' (xs.drop (1 * 2))) (hA : ∀ b off, A' = some ⟨b, off, none⟩ → ∃ off', A1 = some ⟨b, off', none⟩)
    (e1 : t.b = s.b) (e2 : t.base = nb) (e3 : t.room = s.room) (e4 : t.fresh = s.fresh) (e5 : L2 = rowB t.ow) (ak : t.AkRow L1.tail) : QueC W' (Grow F w) q t A c L1.tail A' c' A2 c2 ∧ Chg F w W' := by
  subst e5
  have r1 := hcut W _ H.r1
  rw [Ss_tail] at r1
  have f1 : ∀ b off, A' = some ⟨b, off, none⟩ → 0 < L1.length - 1 → Grow F w b ∧ b ≠ q ∧ (Value.slice A (s.b.length - nb) c).ownBlock ≠ some b := fun b off e hn => by
    obtain ⟨o', e'⟩ := hA b off e
    exact H.f1 b o' e' (by omega)
  refine ⟨⟨by rw [e1, e2, e3, e4, List.length_tail]; exact ht, by rw [e1, e2]; exact own_chg H.o hC (fun k hk e => (H.fo k hk).2 e), by rw [List.length_tail]; exact r1.chg hC (fun b off e hn e' => (f1 b off e hn).2.1 e'), H.r2.chg hC (fun b off e hn e' => (H.f2 b off e hn).2.1 e'), ak, .inl H.fq, ?_, ?_, ?_⟩, H.ch.trans (hC.mono fun k _ e => by subst e; exact .inl H.fq)⟩
  · rw [e1, e2]; exact H.fo
  · rw [e1, e2, List.length_tail]; exact f1
  · rw [e1, e2]; exact H.f2

end Go.Proofs.Ytpkbimmhimgamaa
namespace Go.Proofs.Ytpkbimmhimgamaa
set_option linter.unusedSimpArgs false
set_option linter.unusedVariables false
set_option linter.unnecessarySimpa false
open Go.RowKit
attribute [local go_sem ↓] run_min_int run_max_int
theorem AckSt9.of {w : World} {F : Nat → Prop} {q : Nat} {s : QS} {A A1 A2 : Option Addr} {c c1 c2 : Nat} {La : List Sp} (h : QueC w F q s A c La A1 c1 A2 c2) {W : World} (b : Below w.heap.size w W) : AckSt9 w F q s s.base A c La A1 c1 (rowB s.ow) A2 c2 W := by
  have h1 := h.below b
  exact ⟨h1.t, h1.o, h1.r1, h1.r2, chg_below b, lt_of_block h.t, h.fq, fun g hg => ⟨.inl (h.fo g hg).1, (h.fo g hg).2⟩, fun b off e hn => ⟨.inl (h.f1 b off e hn).1, (h.f1 b off e hn).2⟩, fun b off e hn => ⟨.inl (h.f2 b off e hn).1, (h.f2 b off e hn).2⟩⟩
theorem AckSt9.below {w W W' : World} {F : Nat → Prop} {q nb : Nat} {s : QS} {A A1 A2 : Option Addr} {c c1 c2 : Nat} {L1 L2 : List Sp} (H : AckSt9 w F q s nb A c L1 A1 c1 L2 A2 c2 W) (b : Below W.heap.size W W') : AckSt9 w F q s nb A c L1 A1 c1 L2 A2 c2 W' :=
  ⟨(b.block _ (lt_of_block H.t)).trans H.t, own_chg H.o (chg_below b (F := fun _ => False)) (fun _ _ h => h), H.r1.below b, H.r2.below b, H.ch.thenBelow b H.ch.size, H.hq, H.fq, H.fo, H.f1, H.f2⟩
theorem RdN.below {w w' : World} {B : Nat} {A : Option Addr} {n c : Nat} {xs : List Value} (h : RdN w B A n c xs) (b : Below w.heap.size w w') : RdN w' B A n c xs := ⟨h.rd.below b, h.nw⟩
theorem RdN.set {w w1 : World} {B q : Nat} {A : Option Addr} {n c : Nat} {xs : List Value} (h : RdN w B A n c xs) (b : Below w.heap.size w w1) (hq : q < B) (k : Nat) (v : Value) : RdN (w1.setCell ⟨q, k, none⟩ v) B A n c xs := by
  obtain ⟨h1, h2⟩ := (h.below b).foot ((Chg.refl (fun j => j = q) w1).setCell (p := ⟨q, k, none⟩) (.inl rfl) v) hq
  exact ⟨h1, fun b off e hn => (h2 b off e hn).1⟩
end Go.Proofs.Ytpkbimmhimgamaa
namespace Go.Proofs.Ytpkbimmhimgamaa
set_option linter.unusedSimpArgs false
set_option linter.unusedVariables false
set_option linter.unnecessarySimpa false
open Go.RowKit
attribute [local go_sem ↓] run_min_int run_max_int
/-- The body has grown. -/
theorem QueC.grow {w w1 w5 : World} {F : Nat → Prop} {q : Nat} {s t : QS} {A A1 A2 A5 : Option Addr} {c c1 c2 c5 : Nat} {La : List Sp} (h : QueC w F q s A c La A1 c1 A2 c2) (b : Below w.heap.size w w1)
    (hg : w1.grownBy w5 (Value.slice A (s.b.length - s.base) c).ownBlock) (ho : w5.ownsRow 0 5 1 (.slice A5 (t.b.length - t.base) c5) (t.b.length - t.base) (U8 (t.b.drop t.base)))
    (hv : (Value.slice A5 (t.b.length - t.base) c5).ownBlock = (Value.slice A (s.b.length - s.base) c).ownBlock ∨ (Value.slice A5 (t.b.length - t.base) c5).ownBlock = some w1.heap.size)
    (e2 : t.base = s.base) (e3 : t.room = s.room) (e4 : t.fresh = s.fresh) (e5 : rowB t.ow = rowB s.ow) (ak : t.AkRow La) :
    QueC (w5.setCell ⟨q, 3, none⟩ (.slice A5 (t.b.length - t.base) c5)) (Grow F w) q t A5 c5 La A1 c1 A2 c2 ∧ Chg F w (w5.setCell ⟨q, 3, none⟩ (.slice A5 (t.b.length - t.base) c5)) := by
  have hq := lt_of_block h.t
  have h1 := h.below b
  have hs := b.size
  have hq1 : q < w1.heap.size := by omega
  have hT : w5.heap[q]? = _ := (hg.block q hq1 (fun e => (h.fo q e.symm).2 rfl)).trans h1.t
  have hC : Chg (fun j => j = q) w5 (w5.setCell ⟨q, 3, none⟩ (.slice A5 (t.b.length - t.base) c5)) := (Chg.refl (fun j => j = q) w5).setCell (p := ⟨q, 3, none⟩) (.inl rfl) _
  have hfo : ∀ g, (Value.slice A5 (t.b.length - t.base) c5).ownBlock = some g → Grow F w g ∧ g ≠ q := fun g e => by
    rcases hv with e' | e'
    · have := h.fo g (e'.symm.trans e)
      exact ⟨.inl this.1, this.2⟩
    · have h2 : w1.heap.size = g := by rw [e] at e'; exact (Option.some.inj e').symm
      exact ⟨.inr (by omega), by omega⟩
  have hne : ∀ x, x < w.heap.size → (Value.slice A (s.b.length - s.base) c).ownBlock ≠ some x → (Value.slice A5 (t.b.length - t.base) c5).ownBlock ≠ some x := fun x hx h0 e => by
    rcases hv with e' | e'
    · exact h0 (e'.symm.trans e)
    · have h2 : w1.heap.size = x := by rw [e] at e'; exact (Option.some.inj e').symm
      omega
  have r1 := h1.r1.grown hg (fun b off e hn => (h.f1 b off e hn).2.2)
  have r2 := h1.r2.grown hg (fun b off e hn => (h.f2 b off e hn).2.2)
  refine ⟨⟨by simpa [e2, e3, e4, e5] using heap_setCell_same w5 q 3 _ _ (.slice A5 (t.b.length - t.base) c5) hT, own_chg ho hC (fun k hk e => (hfo k hk).2 e), r1.chg hC (fun b off e hn e' => (h.f1 b off e hn).2.1 e'), by rw [e5]; exact r2.chg hC (fun b off e hn e' => (h.f2 b off e hn).2.1 e'), ak, .inl h.fq, hfo, ?_, ?_⟩, ?_⟩
  · exact fun b off e hn => ⟨.inl (h.f1 b off e hn).1, (h.f1 b off e hn).2.1, hne b (h.r1.lt (by omega) hn b off e) (h.f1 b off e hn).2.2⟩
  · rw [e5]
    exact fun b off e hn => ⟨.inl (h.f2 b off e hn).1, (h.f2 b off e hn).2.1, hne b (h.r2.lt (by omega) hn b off e) (h.f2 b off e hn).2.2⟩
  · exact ((chg_below b).grown hg (fun k hk => .inl (h.fo k hk).1)).setCell (p := ⟨q, 3, none⟩) (.inl h.fq) _

set_option maxHeartbeats 1000000 in
set_option maxRecDepth 100000 in
theorem que_write (w : World) (F : Nat → Prop) (q : Nat) (s : QS) (l : List Int) (Ab : Option Addr) (cb : Nat) (h : QueP w F q s) (hr : Rd w 1 Ab l.length cb (U8 l)) (hb : ∀ x ∈ l, 0 ≤ x ∧ x ≤ 255) (hl : s.b.length + l.length ≤ 1000000) :
    Calls Try.prog 38 #[.pointer (some ⟨q, 0, none⟩), .slice Ab l.length cb] w fun e w' => e = .returned (.int .i64 (s.write l).2) ∧ QueP w' (Grow F w) q (s.write l).1 ∧ Chg F w w' := by
  have hf : s.b.length ≤ 1000000 := h.few
  have H := Lib.hid h
  have R := Lib.hid hr
  have hcap := hr.cap
  have hfit := h.good.fit
  have hbl := s.base_le h.good
  have hroom := h.good.room2
  have GW := Lib.hid (h.good.write hb)
  clear h hr
  obtain ⟨A, c, La, A1, c1, A2, c2, hC⟩ := H.out.ex
  have HC := Lib.hid hC
  have AK := Lib.hid (QS.AkRow.write H.out.good hC.ak l)
  clear hC
  obtain ⟨k, hk⟩ : ∃ k, k = min l.length (s.room - (s.b.length - s.base)) := ⟨_, rfl⟩
  have HW1 : Hid ((s.write l).1 = { s with b := s.b ++ l.take k, ak := s.ak ++ List.replicate k false, ow := s.ow ++ List.replicate k false }) := by subst hk; rfl
  have HW2 : Hid ((s.write l).2 = (k : Int)) := by subst hk; rfl
  have HK : Hid ((k : Int) = min (l.length : Int) ((s.room : Int) - ((s.b.length - s.base : Nat) : Int))) := by show _ = _; omega
  have hkl : k ≤ l.length := by omega
  clear hk
  obtain ⟨iB, hiB, bz0, bz1, bz2⟩ := info_parts infoByte
  have hrunT := take_run (P := Try.prog) (t := 70) Try.underlying70 hiB bz1 Ab l.length cb k (by omega)
  rw [HW2.out]
  rw [HW1.out] at GW AK ⊢
  have t0 := cell_of_row w q 0 _ _ _ HC.out.t
  have ft0 := frozen_of_row w q 0 _ _ HC.out.t
  have t1 := cell_of_row w q 1 _ _ _ HC.out.t
  have ft1 := frozen_of_row w q 1 _ _ HC.out.t
  have t2 := cell_of_row w q 2 _ _ _ HC.out.t
  have ft2 := frozen_of_row w q 2 _ _ HC.out.t
  have t3 := cell_of_row w q 3 _ _ _ HC.out.t
  have ft3 := frozen_of_row w q 3 _ _ HC.out.t
  have t4 := cell_of_row w q 4 _ _ _ HC.out.t
  have ft4 := frozen_of_row w q 4 _ _ HC.out.t
  have t5 := cell_of_row w q 5 _ _ _ HC.out.t
  have ft5 := frozen_of_row w q 5 _ _ HC.out.t
  go_enter Try.func38, Try.ntmps38
  go_upto_region 3 with fail
  refine wp_region_qt (by kernel_rfl) (by kernel_rfl) ?_
  repeat (go_big_quiet_step (fail))
  refine wpQuiet_nil ?_
  intro w3 q3
  rw [← HK.out]
  have H3 := Lib.hid (H.out.below q3.below)
  have B3 : Hid (Below w.heap.size w w3) := q3.below
  clear q3 t0 t1 t2 t3 t4 t5 ft0 ft1 ft2 ft3 ft4 ft5
  go_wp2_with fail
  refine (que_end w3 F q s H3.out).mono ?_
  rintro e v1 ⟨rfl, q1⟩
  have B1 : Hid (Below w.heap.size w v1) := B3.out.trans (q1.below (B := w3.heap.size) |>.mono B3.out.size)
  have C1 := Lib.hid (HC.out.below B1.out)
  clear q1 H3 B3
  have h1 : decide (4611686018427387903 - (s.b.length : Int) < (k : Int)) = false := decide_eq_false (by omega)
  have h2 : decide ((k : Int) > 4611686018427387903 - (s.b.length : Int)) = false := decide_eq_false (by omega)
  have t0 := cell_of_row v1 q 0 _ _ _ C1.out.t
  have ft0 := frozen_of_row v1 q 0 _ _ C1.out.t
  have t1 := cell_of_row v1 q 1 _ _ _ C1.out.t
  have ft1 := frozen_of_row v1 q 1 _ _ C1.out.t
  have t2 := cell_of_row v1 q 2 _ _ _ C1.out.t
  have ft2 := frozen_of_row v1 q 2 _ _ C1.out.t
  have t3 := cell_of_row v1 q 3 _ _ _ C1.out.t
  have ft3 := frozen_of_row v1 q 3 _ _ C1.out.t
  have t4 := cell_of_row v1 q 4 _ _ _ C1.out.t
  have ft4 := frozen_of_row v1 q 4 _ _ C1.out.t
  have t5 := cell_of_row v1 q 5 _ _ _ C1.out.t
  have ft5 := frozen_of_row v1 q 5 _ _ C1.out.t
  go_upto_region 7 with fail
  have OWN := Lib.hid (own_chg C1.out.o (chg_below (Below.refl v1.heap.size v1).drew (F := fun _ => False)) (fun _ _ h => h))
  have RT := Lib.hid ((R.out.below (B1.out.drew)).take hkl)
  rw [Nat.mul_one] at RT
  go_region_law
    ((refine step_append_rd _ (by rfl) (.tmp 35) (.tmp 38) 70 (by rfl) 0 5 iB _ 1 1 Try.underlying70 hiB bz0 bz1 bz2 rfl (by decide) (.slice A (s.b.length - s.base) c) (s.b.length - s.base) (U8 (s.b.drop s.base)) (by rfl) OWN.out
          Ab k cb ((U8 l).take k) (by rfl) RT.out (fun u hu => U8_one l u (List.mem_of_mem_take hu)) (by unfold maxLen; omega) (by omega) (Nat.zero_le _) ?_; intro v5 w5 ho5 hg5 hv5
      obtain ⟨A9, c9, ev9, hA9⟩ := own_slice ho5
      subst ev9
      have HV9 := Lib.hid hv5
      have HO9 := Lib.hid ho5
      have HG9 := Lib.hid hg5
      have T9 := Lib.hid ((hg5.block q (lt_of_block C1.out.t) (fun e => (HC.out.fo q e.symm).2 rfl)).trans C1.out.t)
      clear ho5 hg5 hv5 hA9
      have y5 := cell_of_row w5 q 3 _ _ _ T9.out
      have fy5 := frozen_of_row w5 q 3 _ _ T9.out))
  all_goals go_wp2_with fail
  all_goals go_ret
  obtain ⟨t, ht⟩ : ∃ t : QS, t = { s with b := s.b ++ l.take k, ak := s.ak ++ List.replicate k false, ow := s.ow ++ List.replicate k false } := ⟨_, rfl⟩
  rw [← ht] at GW AK ⊢
  have e2 : t.base = s.base := GW.out.2.1
  have eb : t.b = s.b ++ l.take k := by rw [ht]
  have e5 : rowB t.ow = rowB s.ow := by rw [ht]; exact rowB_append_false _ _ (by have := H.out.good.lo; simp; omega)
  have hm : s.b.length - s.base + k = t.b.length - t.base := by rw [e2, eb, List.length_append, List.length_take]; omega
  have hx : U8 (s.b.drop s.base) ++ (U8 l).take k = U8 (t.b.drop t.base) := by
    rw [e2, eb, List.drop_append_of_le_length hbl, U8_append]
    simp [U8, List.map_take]
  have HO := HO9.out
  have HV := HV9.out
  rw [hx, hm] at HO
  rw [hm] at HV ⊢
  obtain ⟨g1, g2⟩ := HC.out.grow (B1.out.drew) HG9.out HO HV e2 (by rw [ht]) (by rw [ht]) e5 AK.out
  exact ⟨rfl, ⟨GW.out.1, by show t.b.length ≤ 1000000; rw [eb, List.length_append, List.length_take]; omega, _, _, _, _, _, _, _, g1⟩, g2⟩

end Go.Proofs.Ytpkbimmhimgamaa
namespace Go.Proofs.Ytpkbimmhimgamaa
set_option linter.unusedSimpArgs false
set_option linter.unusedVariables false
set_option linter.unnecessarySimpa false
open Go.RowKit
attribute [local go_sem ↓] run_min_int run_max_int
theorem infoPiece : (Try.prog.info? 117).map (·.size) = some 2 := by kernel_rfl
def QS.ends (s : QS) : Nat × Nat := if QS.firstOf s.ow = s.ow.length then (s.fresh, s.b.length) else (QS.firstOf s.ow, QS.runTo s.ow (QS.firstOf s.ow))
theorem QS.next_eq (s : QS) (most : Int) : s.next most = if most < 1 then none else if s.ends.2 = s.ends.1 then none else some (s.ends.1, min s.ends.2 (s.ends.1 + (min most s.b.length).toNat)) := by
  unfold QS.next QS.ends
  split <;> rfl
theorem QS.ends_in {s : QS} (g : s.Good) : s.base ≤ s.ends.1 ∧ s.ends.1 ≤ s.ends.2 ∧ s.ends.2 ≤ s.b.length := by
  have hbf : s.base ≤ s.fresh := by
    apply Nat.le_of_not_lt
    intro hlt
    have := (g.ab _ (QS.below_base g hlt))
    omega
  have hfr := g.fr
  have hlo := g.lo
  have hle := QS.firstOf_le s.ow
  have hb := QS.next_base g
  have hr := QS.runTo_le hle
  unfold QS.ends
  split
  · exact ⟨hbf, hfr, Nat.le_refl _⟩
  · simp only
    omega
/-- What Next hands out. -/
def QS.NextVal (s : QS) (most : Int) (w w' : World) (e : Ending) : Prop := match s.next most with
  | none => e = .returned (.tuple #[.agg #[.int .u64 0, .slice none 0 0], .bool false])
  | some (a, z) => ∃ A' c', e = .returned (.tuple #[.agg #[.int .u64 a, .slice A' (z - a) c'], .bool true]) ∧ Rd w' 1 A' (z - a) c' (U8 ((s.b.drop a).take (z - a))) ∧ ∀ b off, A' = some ⟨b, off, none⟩ → 0 < z - a → w.heap.size ≤ b

set_option maxHeartbeats 1000000 in
set_option maxRecDepth 100000 in
theorem que_next (w : World) (F : Nat → Prop) (q : Nat) (s : QS) (most : Int) (h : QueP w F q s) (hm : most < 9223372036854775808) :
    Calls Try.prog 40 #[.pointer (some ⟨q, 0, none⟩), .int .i64 most] w fun e w' => s.NextVal most w w' e ∧ Below w.heap.size w w' := by
  have hf : s.b.length ≤ 1000000 := h.few
  have H := Lib.hid h
  obtain ⟨A, c, La, A1, c1, A2, c2, hC⟩ := h.ex
  have HC := Lib.hid hC
  have EI := Lib.hid (QS.ends_in h.good)
  clear hC h
  by_cases hm1 : most < 1
  · have HN : Hid (s.next most = none) := by show _ = _; rw [QS.next_eq, if_pos hm1]
    have hb : decide (most < 1) = true := decide_eq_true hm1
    go_enter Try.func40, Try.ntmps40
    go_wp2_with fail
    refine bodyPost_ret (results_cell_tmp_row rfl _ _ w.heap.size _ _ _ _ rfl (heap_alloc_new w _) Try.underlying117 rfl infoPiece) rfl ⟨?_, box_below w _⟩
    unfold QS.NextVal
    rw [HN.out]
    rfl
  · have hb : decide (most < 1) = false := decide_eq_false hm1
    have HN : Hid (s.next most = if s.ends.2 = s.ends.1 then none else some (s.ends.1, min s.ends.2 (s.ends.1 + (min most s.b.length).toNat))) := by show _ = _; rw [QS.next_eq, if_neg hm1]
    have B1 := Lib.hid (box_below w (.cells #[.int .u64 0, .slice none 0 0] 117))
    have XB : Hid ((w.alloc (.cells #[.int .u64 0, .slice none 0 0] 117)).heap[w.heap.size]? = some (.cells #[.int .u64 0, .slice none 0 0] 117 (0, 0))) := heap_alloc_new w _
    go_enter Try.func40, Try.ntmps40
    go_upto_region 3 with fail
    generalize hW : (w.alloc (.cells #[.int .u64 0, .slice none 0 0] 117)) = w1 at *
    clear hW
    have C1 := Lib.hid (HC.out.below B1.out)
    have H1 := Lib.hid (H.out.below B1.out)
    have t0 := cell_of_row w1 q 0 _ _ _ C1.out.t
    have ft0 := frozen_of_row w1 q 0 _ _ C1.out.t
    have t1 := cell_of_row w1 q 1 _ _ _ C1.out.t
    have ft1 := frozen_of_row w1 q 1 _ _ C1.out.t
    have t2 := cell_of_row w1 q 2 _ _ _ C1.out.t
    have ft2 := frozen_of_row w1 q 2 _ _ C1.out.t
    have t3 := cell_of_row w1 q 3 _ _ _ C1.out.t
    have ft3 := frozen_of_row w1 q 3 _ _ C1.out.t
    have t4 := cell_of_row w1 q 4 _ _ _ C1.out.t
    have ft4 := frozen_of_row w1 q 4 _ _ C1.out.t
    have t5 := cell_of_row w1 q 5 _ _ _ C1.out.t
    have ft5 := frozen_of_row w1 q 5 _ _ C1.out.t
    refine wp_region_qt (by kernel_rfl) (by kernel_rfl) ?_
    repeat (first | go_big_quiet_step ((go_at_call 26; exact Qt.callN (que_end _ F q s H1.out.dn))) | quiet_step ((go_at_call 26; exact Qt.callN (que_end _ F q s H1.out.dn))))
    refine wpQuiet_nil ?_
    intro w3 q3
    have B3 : Hid (Below w.heap.size w w3) := B1.out.trans (q3.below (B := w1.heap.size) |>.mono B1.out.size)
    have C3 := Lib.hid (HC.out.below B3.out)
    have X3 := Lib.hid (q3.blk XB.out)
    have NO := Lib.hid (QS.next_owed H.out.good H.out.few)
    have NN := Lib.hid (QS.next_none H.out.good H.out.few)
    have hlo := H.out.good.lo
    have u2 := Lib.hid (rowB_u2 (by rw [hlo]; exact hf))
    have T3 := Lib.hid C3.out.t
    have O3 := Lib.hid (Rd.of_own C3.out.o)
    have R3 := Lib.hid C3.out.r2
    have hbl := s.base_le H.out.good
    clear q3 t0 t1 t2 t3 t4 t5 ft0 ft1 ft2 ft3 ft4 ft5 C1 H1 XB B1 C3
    generalize rowB s.ow = L at *
    have t0 := cell_of_row w3 q 0 _ _ _ T3.out
    have ft0 := frozen_of_row w3 q 0 _ _ T3.out
    have t1 := cell_of_row w3 q 1 _ _ _ T3.out
    have ft1 := frozen_of_row w3 q 1 _ _ T3.out
    have t2 := cell_of_row w3 q 2 _ _ _ T3.out
    have ft2 := frozen_of_row w3 q 2 _ _ T3.out
    have t3 := cell_of_row w3 q 3 _ _ _ T3.out
    have ft3 := frozen_of_row w3 q 3 _ _ T3.out
    have t4 := cell_of_row w3 q 4 _ _ _ T3.out
    have ft4 := frozen_of_row w3 q 4 _ _ T3.out
    have t5 := cell_of_row w3 q 5 _ _ _ T3.out
    have ft5 := frozen_of_row w3 q 5 _ _ T3.out
    go_upto_if 26 with fail
    go_cut [6, 7] (fun s6 s7 wx => s6 = .int .u64 s.ends.1 ∧ s7 = .int .u64 s.ends.2 ∧ Hid (Qt w3 wx))
    case first =>
      rcases Nat.eq_zero_or_pos L.length with hL | hL
      · have e := NN.out hL
        obtain rfl : L = [] := List.eq_nil_of_length_eq_zero hL
        have E1 : Hid (s.ends = (s.fresh, s.b.length)) := by show _ = _; unfold QS.ends; rw [if_pos e]
        clear e hL
        go_wp2_with fail
        go_meet
        rw [E1.out]
        exact ⟨rfl, rfl, Lib.hid (Qt.refl _)⟩
      · obtain ⟨b7, o7, x, y, rfl, He, k0, k1, u1, u2', u3, u4⟩ := R3.out.sp u2.out hL
        simp only [Nat.zero_mul, Nat.add_zero] at k0 k1
        have hLb : decide ((L.length : Int) > 0) = true := decide_eq_true (by omega)
        have hLb' : decide (0 < (L.length : Int)) = true := decide_eq_true (by omega)
        have hi0' : (0 : Int) < (L.length : Int) := by omega
        obtain ⟨n1, n2, n3, n4⟩ := NO.out hL
        rw [He.out] at n1 n2
        simp only at n1 n2
        have hle := QS.runTo_le (QS.firstOf_le s.ow)
        have E1 : Hid (s.ends = (QS.firstOf s.ow, QS.runTo s.ow (QS.firstOf s.ow))) := by show _ = _; unfold QS.ends; rw [if_neg (by omega)]
        have u5 : y + 1 < 18446744073709551616 := by omega
        have n1' := Lib.hid n1
        have n2' := Lib.hid n2
        clear n1 n2 n3 n4 hle
        go_upto_region 5 with fail
        refine wp_region_qt (by kernel_rfl) (by kernel_rfl) ?_
        repeat (go_big_quiet_step (fail))
        refine wpQuiet_nil ?_
        intro w5 q5
        go_wp2_with fail
        go_meet
        rw [E1.out, ← n1'.out, ← n2'.out]
        exact ⟨rfl, rfl, Lib.hid q5⟩
    case rest =>
    obtain ⟨rfl, rfl, Q5⟩ := hcut
    have B5 : Hid (Below w.heap.size w wc) := B3.out.trans (Q5.out.below (B := w3.heap.size) |>.mono B3.out.size)
    have T5 := Lib.hid (Q5.out.blk T3.out)
    have X5 := Lib.hid (Q5.out.blk X3.out)
    have O5 := Lib.hid (O3.out.qt Q5.out)
    clear NO NN u2 R3 T3 X3 O3 B3 Q5 t0 t1 t2 t3 t4 t5 ft0 ft1 ft2 ft3 ft4 ft5
    generalize wc = w5 at *
    obtain ⟨ei1, ei2, ei3⟩ := EI.out
    generalize hE1 : s.ends.1 = a at *
    generalize hE2 : s.ends.2 = z at *
    clear hE1 hE2
    have t0 := cell_of_row w5 q 0 _ _ _ T5.out
    have ft0 := frozen_of_row w5 q 0 _ _ T5.out
    have t1 := cell_of_row w5 q 1 _ _ _ T5.out
    have ft1 := frozen_of_row w5 q 1 _ _ T5.out
    have t2 := cell_of_row w5 q 2 _ _ _ T5.out
    have ft2 := frozen_of_row w5 q 2 _ _ T5.out
    have t3 := cell_of_row w5 q 3 _ _ _ T5.out
    have ft3 := frozen_of_row w5 q 3 _ _ T5.out
    have t4 := cell_of_row w5 q 4 _ _ _ T5.out
    have ft4 := frozen_of_row w5 q 4 _ _ T5.out
    have t5 := cell_of_row w5 q 5 _ _ _ T5.out
    have ft5 := frozen_of_row w5 q 5 _ _ T5.out
    have x0 := cell_of_row w5 w.heap.size 0 _ _ _ X5.out
    have fx0 := frozen_of_row w5 w.heap.size 0 _ _ X5.out
    have x1 := cell_of_row w5 w.heap.size 1 _ _ _ X5.out
    have fx1 := frozen_of_row w5 w.heap.size 1 _ _ X5.out
    by_cases hz : z = a
    · have HN2 : Hid (s.next most = none) := by show _ = _; rw [HN.out, if_pos hz]
      subst hz
      go_wp2_with fail
      have E5 := Lib.hid (heap_setCell_same _ w.heap.size 1 _ _ (.slice none 0 0) (heap_setCell_same w5 w.heap.size 0 _ _ (.int .u64 0) X5.out))
      refine bodyPost_ret (results_cell_tmp_row rfl _ _ w.heap.size _ _ _ _ rfl E5.out Try.underlying117 rfl infoPiece) rfl ⟨?_, ?_⟩
      · unfold QS.NextVal
        rw [HN2.out]
        rfl
      · have hb5 := B5.out
        repeat (first | exact Below.refl _ _ | exact hb5 | (refine Below.setCell ?_ (by first | exact Nat.le_refl _ | omega | (simp; done) | (simp; omega)) _) | (refine Below.alloc ?_ (by first | exact Nat.le_refl _ | omega | (simp; done) | (simp; omega)) _) | (refine Below.drew ?_) | (refine below_drewN ?_ _))
    · have hzb : ((z : Int) == (a : Int)) = false := by simp; omega
      have hzb' : decide ((a : Int) = (z : Int)) = false := decide_eq_false (by omega)
      have hzb2 : decide ((z : Int) = (a : Int)) = false := decide_eq_false (by omega)
      obtain ⟨z', hz'⟩ : ∃ z' : Nat, z' = min z (a + (min most s.b.length).toNat) := ⟨_, rfl⟩
      have HN2 : Hid (s.next most = some (a, z')) := by show _ = _; rw [HN.out, if_neg hz, ← hz']
      have HZ : Hid ((z' : Int) = min (z : Int) ((a : Int) + most)) := by show _ = _; omega
      have l1 : a ≤ z' := by omega
      have l2 : z' ≤ s.b.length := by omega
      clear hz' hz
      obtain ⟨iB, hiB, bz0, bz1, bz2⟩ := info_parts infoByte
      obtain ⟨AB, hrunB, hcutB⟩ := piece_run (P := Try.prog) (t := 70) Try.underlying70 hiB bz1 A (s.b.length - s.base) c (a - s.base) (z' - s.base) (by omega) (by omega) O5.out.cap
      have RB := Lib.hid (hcutB w5.drew _ O5.out.drew)
      have e1 : z' - s.base - (a - s.base) = z' - a := by omega
      have e2 : ((a - s.base : Nat) : Int) = (a : Int) - s.base := by omega
      have e3 : ((z' - s.base : Nat) : Int) = (z' : Int) - s.base := by omega
      rw [e1] at RB hrunB
      rw [e2, e3] at hrunB
      have wa : IntKind.u64.wrap ((a : Int) - s.base) = (a : Int) - s.base := IntWalk.u64_in _ (by omega)
      have wz : IntKind.u64.wrap ((z' : Int) - s.base) = (z' : Int) - s.base := IntWalk.u64_in _ (by omega)
      have wm : IntKind.u64.wrap most = most := IntWalk.u64_in _ (by omega)
      have wm2 : IntKind.u64.wrap ((a : Int) + most) = (a : Int) + most := IntWalk.u64_in _ (by omega)
      have hx : (((U8 (s.b.drop s.base)).drop ((a - s.base) * 1)).take ((z' - a) * 1)) = U8 ((s.b.drop a).take (z' - a)) := by
        simp [U8, ← List.map_drop, ← List.map_take, List.drop_drop, show s.base + (a - s.base) = a by omega]
      rw [hx] at RB
      clear hcutB e1 e2 e3 hx
      go_upto_region 9 with fail
      rw [← HZ.out]
      have hc := O5.out.cap
      have hmx := O5.out.max
      unfold maxLen at hmx
      go_region_law
        ((refine step_append_rd _ (by rfl) (.const (.slice none 0 0)) (.tmp 69) 70 (by rfl) w5.heap.size 5 iB _ 1 1 Try.underlying70 hiB bz0 bz1 bz2 rfl (by decide) (.slice none 0 0) 0 [] (by rfl) (World.ownsRow_nil _ _ _ _)
              AB (z' - a) (c - (a - s.base)) (U8 ((s.b.drop a).take (z' - a))) (by rfl) RB.out (U8_one _) (by unfold maxLen; omega) (by omega) (by simp) ?_; intro v6 w6 ho6 hg6 hv6
          rw [Nat.zero_add, List.nil_append] at ho6
          obtain ⟨A6, c6, ev6, hA6⟩ := own_slice ho6
          subst ev6
          have HV6 := Lib.hid hv6
          have HO6 := Lib.hid ho6
          have B6 : Hid (Below w5.heap.size w5 w6) := ((Below.refl _ _).drew).grown hg6 (Nat.le_refl _) (fun g hg => by simp [Value.ownBlock] at hg)
          have X6 := Lib.hid ((B6.out.block w.heap.size (lt_of_block X5.out)).trans X5.out)
          clear ho6 hg6 hv6 hA6
          have y0 := cell_of_row w6 w.heap.size 0 _ _ _ X6.out
          have fy0 := frozen_of_row w6 w.heap.size 0 _ _ X6.out
          have y1 := cell_of_row w6 w.heap.size 1 _ _ _ X6.out
          have fy1 := frozen_of_row w6 w.heap.size 1 _ _ X6.out))
      all_goals go_wp2_with fail
      all_goals
        have E6 := Lib.hid (heap_setCell_same _ w.heap.size 1 _ _ (.slice A6 (z' - a) c6) (heap_setCell_same w6 w.heap.size 0 _ _ (.int .u64 a) X6.out))
        have hs5 := B5.out.size
        refine bodyPost_ret (results_cell_tmp_row rfl _ _ w.heap.size _ _ _ _ rfl E6.out Try.underlying117 rfl infoPiece) rfl ⟨?_, ?_⟩
        · unfold QS.NextVal
          rw [HN2.out]
          refine ⟨A6, c6, rfl, ?_, fun b off e hn => Nat.le_trans hs5 (own_base2 HO6.out b off e hn)⟩
          have h5 := lt_of_block X5.out
          exact (Rd.of_own HO6.out).chg (((Chg.refl (fun j => j = w.heap.size) w6).setCell (p := ⟨w.heap.size, 0, none⟩) (.inl rfl) _).setCell (p := ⟨w.heap.size, 1, none⟩) (.inl rfl) _) (fun b off e hn e' => by have := own_base2 HO6.out b off e hn; omega)
        · have hb6 := B5.out.trans (B6.out.mono hs5)
          repeat (first | exact Below.refl _ _ | exact hb6 | (refine Below.setCell ?_ (by first | exact Nat.le_refl _ | omega | (simp; done) | (simp; omega)) _) | (refine Below.alloc ?_ (by first | exact Nat.le_refl _ | omega | (simp; done) | (simp; omega)) _) | (refine Below.drew ?_) | (refine below_drewN ?_ _))

end Go.Proofs.Ytpkbimmhimgamaa
namespace Go.Proofs.Ytpkbimmhimgamaa
set_option linter.unusedSimpArgs false
set_option linter.unusedVariables false
set_option linter.unnecessarySimpa false
open Go.RowKit
attribute [local go_sem ↓] run_min_int run_max_int
/-- The copy on the way. -/
structure FkSt (w : World) (s : QS) (A : Option Addr) (c : Nat) (La : List Sp) (A1 : Option Addr) (c1 : Nat) (A2 : Option Addr) (c2 : Nat) (W : World) : Prop where
  t : W.heap[w.heap.size]? = some (.cells #[.int .i64 s.room, .int .u64 s.base, .int .u64 s.fresh, .slice A (s.b.length - s.base) c, .slice A1 La.length c1, .slice A2 (rowB s.ow).length c2] 85 (0, 0))
  b : Below w.heap.size w W
theorem FkSt.below {w W W' : World} {s : QS} {A A1 A2 : Option Addr} {c c1 c2 : Nat} {La : List Sp} (h : FkSt w s A c La A1 c1 A2 c2 W) (b : Below W.heap.size W W') : FkSt w s A c La A1 c1 A2 c2 W' :=
  ⟨(b.block _ (lt_of_block h.t)).trans h.t, h.b.trans (b.mono h.b.size)⟩
theorem FkSt.set3 {w W : World} {s : QS} {A A1 A2 A' : Option Addr} {c c1 c2 c' : Nat} {La : List Sp} (h : FkSt w s A c La A1 c1 A2 c2 W) : FkSt w s A' c' La A1 c1 A2 c2 (W.setCell ⟨w.heap.size, 3, none⟩ (.slice A' (s.b.length - s.base) c')) :=
  ⟨by simpa using heap_setCell_same W w.heap.size 3 _ _ (.slice A' (s.b.length - s.base) c') h.t, h.b.setCell (p := ⟨w.heap.size, 3, none⟩) (Nat.le_refl _) _⟩
end Go.Proofs.Ytpkbimmhimgamaa
