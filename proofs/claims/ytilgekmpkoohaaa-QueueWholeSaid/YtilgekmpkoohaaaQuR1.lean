/-
  The reference's queue: the object, NewQueue, Base, within.
-/
import Derived.Test.YtilgekmpkoohaaaQue7
namespace Go.Proofs.Ytilgekmpkoohaaa
set_option linter.unusedSimpArgs false
set_option linter.unusedVariables false
set_option linter.unnecessarySimpa false
open Go.RowKit
attribute [local go_sem ↓] run_min_int run_max_int

structure QuRC (w : World) (F : Nat → Prop) (q : Nat) (s : QS) (A : Option Addr) (c : Nat) (A1 : Option Addr) (c1 : Nat) (A2 : Option Addr) (c2 : Nat) : Prop where
  t : w.heap[q]? = some (.cells #[.int .i64 s.room, .slice A s.b.length c, .slice A1 s.ak.length c1, .slice A2 s.ow.length c2, .int .i64 s.fresh] 41 (0, 0))
  o : w.ownsRow 0 5 1 (.slice A s.b.length c) s.b.length (U8 s.b)
  o1 : w.ownsRow 0 4 1 (.slice A1 s.ak.length c1) s.ak.length (Bs s.ak)
  o2 : w.ownsRow 0 4 1 (.slice A2 s.ow.length c2) s.ow.length (Bs s.ow)
  fq : F q
  fo : ∀ g, (Value.slice A s.b.length c).ownBlock = some g → F g ∧ g ≠ q
  fo1 : ∀ g, (Value.slice A1 s.ak.length c1).ownBlock = some g → F g ∧ g ≠ q ∧ (Value.slice A s.b.length c).ownBlock ≠ some g
  fo2 : ∀ g, (Value.slice A2 s.ow.length c2).ownBlock = some g → F g ∧ g ≠ q ∧ (Value.slice A s.b.length c).ownBlock ≠ some g ∧ (Value.slice A1 s.ak.length c1).ownBlock ≠ some g
structure QuRP (w : World) (F : Nat → Prop) (q : Nat) (s : QS) : Prop where
  good : s.Good
  few : s.Few
  ex : ∃ A c A1 c1 A2 c2, QuRC w F q s A c A1 c1 A2 c2
theorem QuRC.chg {w w' : World} {F G H : Nat → Prop} {q : Nat} {s : QS} {A A1 A2 : Option Addr} {c c1 c2 : Nat} (h : QuRC w F q s A c A1 c1 A2 c2) (hc : Chg G w w') (hd : ∀ k, k < w.heap.size → F k → ¬ G k) (hs : ∀ k, k < w.heap.size → F k → H k) : QuRC w' H q s A c A1 c1 A2 c2 := by
  have hq := lt_of_block h.t
  exact ⟨hc.blk h.t (hd q hq h.fq), own_chg h.o hc (fun k hk => hd k (h.o.lt k hk).2 (h.fo k hk).1), own_chg h.o1 hc (fun k hk => hd k (h.o1.lt k hk).2 (h.fo1 k hk).1), own_chg h.o2 hc (fun k hk => hd k (h.o2.lt k hk).2 (h.fo2 k hk).1), hs q hq h.fq,
    fun g hg => ⟨hs g (h.o.lt g hg).2 (h.fo g hg).1, (h.fo g hg).2⟩, fun g hg => ⟨hs g (h.o1.lt g hg).2 (h.fo1 g hg).1, (h.fo1 g hg).2⟩, fun g hg => ⟨hs g (h.o2.lt g hg).2 (h.fo2 g hg).1, (h.fo2 g hg).2⟩⟩
theorem QuRC.below {w w' : World} {F : Nat → Prop} {q : Nat} {s : QS} {A A1 A2 : Option Addr} {c c1 c2 : Nat} (h : QuRC w F q s A c A1 c1 A2 c2) (b : Below w.heap.size w w') : QuRC w' F q s A c A1 c1 A2 c2 :=
  h.chg (chg_below b (F := fun _ => False)) (fun _ _ _ h => h) (fun _ _ h => h)
theorem QuRP.chg {w w' : World} {F G H : Nat → Prop} {q : Nat} {s : QS} (h : QuRP w F q s) (hc : Chg G w w') (hd : ∀ k, k < w.heap.size → F k → ¬ G k) (hs : ∀ k, k < w.heap.size → F k → H k) : QuRP w' H q s := by
  obtain ⟨g, f, A, c, A1, c1, A2, c2, hC⟩ := h
  exact ⟨g, f, A, c, A1, c1, A2, c2, hC.chg hc hd hs⟩
theorem QuRP.below {w w' : World} {F : Nat → Prop} {q : Nat} {s : QS} (h : QuRP w F q s) (b : Below w.heap.size w w') : QuRP w' F q s :=
  h.chg (chg_below b (F := fun _ => False)) (fun _ _ _ h => h) (fun _ _ h => h)
theorem QuRP.sub {w : World} {F G : Nat → Prop} {q : Nat} {s : QS} (h : QuRP w F q s) (hs : ∀ k, k < w.heap.size → F k → G k) : QuRP w G q s := h.chg (Chg.refl (fun _ => False) w) (fun _ _ _ h => h) hs
theorem QuRP.dn {w : World} {F : Nat → Prop} {q : Nat} {s : QS} (h : QuRP w F q s) {k : Nat} : QuRP (w.drewN k) F q s := h.below (Qt.below (show Qt w (w.drewN k) from ⟨k, rfl⟩))
theorem QuRP.lt {w : World} {F : Nat → Prop} {q : Nat} {s : QS} (h : QuRP w F q s) : q < w.heap.size := by
  obtain ⟨g, f, A, c, A1, c1, A2, c2, hC⟩ := h
  exact lt_of_block hC.t

theorem quR_new (room : Int) (w : World) :
    Calls Try.prog 24 #[.int .i64 room] w fun e w' => e = .returned (.pointer (some ⟨w.heap.size, 0, none⟩)) ∧ QuRP w' (fun k => w.heap.size ≤ k) w.heap.size (QS.new room) ∧ Below w.heap.size w w' := by
  have hr : ((QS.new room).room : Int) = max 1 (min room 65536) := by simp [QS.new]; omega
  have HR := Lib.hid hr
  clear hr
  go_enter Try.func24, Try.ntmps24
  go_wp2
  go_ret
  refine ⟨rfl, ⟨QS.Good.new room, by simp [QS.Few, QS.new], none, 0, none, 0, none, 0, ?_⟩, box_below _ _⟩
  refine ⟨?_, World.ownsRow_nil _ _ _ _, World.ownsRow_nil _ _ _ _, World.ownsRow_nil _ _ _ _, Nat.le_refl _, (fun g hg => by simp [Value.ownBlock] at hg), (fun g hg => by simp [Value.ownBlock] at hg), (fun g hg => by simp [Value.ownBlock] at hg)⟩
  rw [HR.out]
  exact heap_alloc_new w _

theorem withinR_any (off n : Int) (e : Nat) (w : World) (ho : isU64 off) (hn : isU64 n) (he : e ≤ 4611686018427387903) :
    Calls Try.prog 40 #[.int .u64 off, .int .u64 n, .int .i64 e] w fun e' w' => e' = .returned (.bool (decide (QS.within off n e))) ∧ w = w' := by
  obtain ⟨o0, o1⟩ := ho
  obtain ⟨n0, n1⟩ := hn
  have we : IntKind.u64.wrap (e : Int) = (e : Int) := IntWalk.u64_in _ (by omega)
  by_cases h1 : 0 < n
  · by_cases h2 : off ≤ (e : Int)
    · by_cases h3 : n ≤ (e : Int) - off
      · rw [decide_eq_true (show QS.within off n e from ⟨h1, h2, h3⟩)]
        go_enter Try.func40, Try.ntmps40
        go_wp2
        go_ret
        exact ⟨rfl, rfl⟩
      · rw [decide_eq_false (show ¬ QS.within off n e from fun h => h3 h.2.2)]
        have h3' : decide (n ≤ (e : Int) - off) = false := decide_eq_false h3
        go_enter Try.func40, Try.ntmps40
        go_wp2
        go_ret
        exact ⟨rfl, rfl⟩
    · rw [decide_eq_false (show ¬ QS.within off n e from fun h => h2 h.2.1)]
      have h2' : decide (off ≤ (e : Int)) = false := decide_eq_false h2
      go_enter Try.func40, Try.ntmps40
      go_wp2
      go_ret
      exact ⟨rfl, rfl⟩
  · rw [decide_eq_false (show ¬ QS.within off n e from fun h => h1 h.1)]
    obtain rfl : n = 0 := by omega
    go_enter Try.func40, Try.ntmps40
    go_wp2
    go_ret
    exact ⟨rfl, rfl⟩

set_option maxHeartbeats 1000000 in
theorem quR_base (w : World) (F : Nat → Prop) (q : Nat) (s : QS) (h : QuRP w F q s) :
    Calls Try.prog 27 #[.pointer (some ⟨q, 0, none⟩)] w fun e w' => e = .returned (.int .i64 s.base) ∧ w = w' := by
  have hf : s.b.length ≤ 1000000 := h.few
  obtain ⟨A, c, A1, c1, A2, c2, hC⟩ := h.ex
  have HC := Lib.hid hC
  have hbl := s.base_le h.good
  have hla := h.good.la
  have HA := Lib.hid (fun i => QS.below_base h.good (i := i))
  have HB := Lib.hid (QS.at_base h.good)
  clear hC
  have t0 := cell_of_row w q 0 _ _ _ HC.out.t
  have t1 := cell_of_row w q 1 _ _ _ HC.out.t
  have t2 := cell_of_row w q 2 _ _ _ HC.out.t
  have t3 := cell_of_row w q 3 _ _ _ HC.out.t
  have t4 := cell_of_row w q 4 _ _ _ HC.out.t
  go_enter Try.func27, Try.ntmps27
  go_wp2_with fail
  go_loopw [3] (fun i wr => ∃ k : Nat, k ≤ s.base ∧ i = .int .i64 k ∧ wr = w) (fun i _ => s.b.length - (intOf i).toNat)
  case atStart => exact ⟨0, Nat.zero_le _, rfl, by first | rfl | trivial⟩
  case round =>
    obtain ⟨k, hk, rfl, rfl⟩ := hrel
    by_cases hlt : k < s.b.length
    · obtain ⟨b, off, rfl, hc⟩ := (Rd.of_own HC.out.o1).bool (k := k) (by omega)
      by_cases ht : s.ak.getD k false = true
      · rw [ht] at hc
        have hk1 : k + 1 ≤ s.base := by
          rcases Nat.lt_or_ge k s.base with h1 | h1
          · exact h1
          · obtain rfl : k = s.base := by omega
            rw [HB.out] at ht
            cases ht
        go_wp2
        go_roundw
        case rel => exact ⟨k + 1, hk1, by go_num, by first | rfl | trivial⟩
        case measure => simp [intOf]; omega
      · have ht' : s.ak.getD k false = false := by simpa using ht
        rw [ht'] at hc
        have hk1 : Hid (k = s.base) := by
          show k = s.base
          rcases Nat.lt_or_ge k s.base with h1 | h1
          · exact absurd (HA.out k h1) ht
          · omega
        go_wp2
        go_ret
        rw [hk1.out]
        exact ⟨rfl, rfl⟩
    · have hk1 : Hid (s.b.length = s.base) := by show _ = _; omega
      go_wp2
      go_ret
      have e := hk1.out
      exact ⟨by first | (rw [e]; done) | exact ret_int (by omega), rfl⟩

end Go.Proofs.Ytilgekmpkoohaaa
