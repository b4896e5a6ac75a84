/-
  Walks of package queue: what only reads.
-/
import Derived.Test.YtilgekmpkoohaaaQueN
import Derived.Test.YtilgekmpkoohaaaSpanN
import Derived.Test.YtilgekmpkoohaaaSeq
namespace Go.Proofs.Ytilgekmpkoohaaa
set_option linter.unusedSimpArgs false
set_option linter.unusedVariables false
set_option linter.unnecessarySimpa false
open Go.RowKit

def U8 (l : List Int) : List Value := l.map (Value.int .u8)
@[simp] theorem U8_length (l : List Int) : (U8 l).length = l.length := by simp [U8]
theorem U8_append (a b : List Int) : U8 (a ++ b) = U8 a ++ U8 b := by simp [U8]
theorem U8_one (l : List Int) : ∀ u ∈ U8 l, u.oneCell' = true := by
  intro u hu
  obtain ⟨x, _, rfl⟩ := List.mem_map.1 hu
  rfl
theorem infoByte : (Try.prog.info? 5).map (fun i => (i.zero, i.size, i.bytes)) = some (some (.int .u8 0), 1, 1) := by kernel_rfl
theorem Ss_one' (l : List Sp) : ∀ u ∈ Ss l, u.oneCell' = true := by
  intro u hu
  obtain ⟨x, _, hx⟩ := List.mem_flatMap.1 hu
  simp at hx
  rcases hx with rfl | rfl <;> rfl

/-- The cells of a queue. -/
structure QueC (w : World) (F : Nat → Prop) (q : Nat) (s : QS) (A : Option Addr) (c : Nat) (La : List Sp) (A1 : Option Addr) (c1 : Nat) (A2 : Option Addr) (c2 : Nat) : Prop where
  t : w.heap[q]? = some (.cells #[.int .i64 s.room, .int .u64 s.base, .int .u64 s.fresh, .slice A (s.b.length - s.base) c, .slice A1 La.length c1, .slice A2 (rowB s.ow).length c2] 63 (0, 0))
  o : w.ownsRow 0 5 1 (.slice A (s.b.length - s.base) c) (s.b.length - s.base) (U8 (s.b.drop s.base))
  r1 : Rd w 2 A1 La.length c1 (Ss La)
  r2 : Rd w 2 A2 (rowB s.ow).length c2 (Ss (rowB s.ow))
  ak : QS.AkRow s La
  fq : F q
  fo : ∀ g, (Value.slice A (s.b.length - s.base) c).ownBlock = some g → F g ∧ g ≠ q
  f1 : ∀ b off, A1 = some ⟨b, off, none⟩ → 0 < La.length → F b ∧ b ≠ q ∧ (Value.slice A (s.b.length - s.base) c).ownBlock ≠ some b
  f2 : ∀ b off, A2 = some ⟨b, off, none⟩ → 0 < (rowB s.ow).length → F b ∧ b ≠ q ∧ (Value.slice A (s.b.length - s.base) c).ownBlock ≠ some b
structure QueP (w : World) (F : Nat → Prop) (q : Nat) (s : QS) : Prop where
  good : s.Good
  few : s.Few
  ex : ∃ A c La A1 c1 A2 c2, QueC w F q s A c La A1 c1 A2 c2
theorem QueC.chg {w w' : World} {F G H : Nat → Prop} {q : Nat} {s : QS} {A A1 A2 : Option Addr} {c c1 c2 : Nat} {La : List Sp} (h : QueC w F q s A c La A1 c1 A2 c2) (hc : Chg G w w') (hd : ∀ k, k < w.heap.size → F k → ¬ G k) (hs : ∀ k, k < w.heap.size → F k → H k) : QueC w' H q s A c La A1 c1 A2 c2 := by
  have hq := lt_of_block h.t
  refine ⟨hc.blk h.t (hd q hq h.fq), own_chg h.o hc (fun k hk => hd k (h.o.lt k hk).2 (h.fo k hk).1), h.r1.chg hc (fun b off e hn => hd b (h.r1.lt (by omega) hn b off e) (h.f1 b off e hn).1), h.r2.chg hc (fun b off e hn => hd b (h.r2.lt (by omega) hn b off e) (h.f2 b off e hn).1), h.ak, hs q hq h.fq, fun g hg => ⟨hs g (h.o.lt g hg).2 (h.fo g hg).1, (h.fo g hg).2⟩, fun b off e hn => ⟨hs b (h.r1.lt (by omega) hn b off e) (h.f1 b off e hn).1, (h.f1 b off e hn).2⟩, fun b off e hn => ⟨hs b (h.r2.lt (by omega) hn b off e) (h.f2 b off e hn).1, (h.f2 b off e hn).2⟩⟩
theorem QueC.below {w w' : World} {F : Nat → Prop} {q : Nat} {s : QS} {A A1 A2 : Option Addr} {c c1 c2 : Nat} {La : List Sp} (h : QueC w F q s A c La A1 c1 A2 c2) (b : Below w.heap.size w w') : QueC w' F q s A c La A1 c1 A2 c2 :=
  h.chg (chg_below b (F := fun _ => False)) (fun _ _ _ h => h) (fun _ _ h => h)
theorem QueP.chg {w w' : World} {F G H : Nat → Prop} {q : Nat} {s : QS} (h : QueP w F q s) (hc : Chg G w w') (hd : ∀ k, k < w.heap.size → F k → ¬ G k) (hs : ∀ k, k < w.heap.size → F k → H k) : QueP w' H q s := by
  obtain ⟨g, f, A, c, La, A1, c1, A2, c2, hC⟩ := h
  exact ⟨g, f, A, c, La, A1, c1, A2, c2, hC.chg hc hd hs⟩
theorem QueP.below {w w' : World} {F : Nat → Prop} {q : Nat} {s : QS} (h : QueP w F q s) (b : Below w.heap.size w w') : QueP w' F q s :=
  h.chg (chg_below b (F := fun _ => False)) (fun _ _ _ h => h) (fun _ _ h => h)
theorem QueP.sub {w : World} {F G : Nat → Prop} {q : Nat} {s : QS} (h : QueP w F q s) (hs : ∀ k, k < w.heap.size → F k → G k) : QueP w G q s := h.chg (Chg.refl (fun _ => False) w) (fun _ _ _ h => h) hs
theorem QueP.dn {w : World} {F : Nat → Prop} {q : Nat} {s : QS} (h : QueP w F q s) {k : Nat} : QueP (w.drewN k) F q s := h.below (Qt.below (show Qt w (w.drewN k) from ⟨k, rfl⟩))
theorem QueP.lt {w : World} {F : Nat → Prop} {q : Nat} {s : QS} (h : QueP w F q s) : q < w.heap.size := by
  obtain ⟨g, f, A, c, La, A1, c1, A2, c2, hC⟩ := h
  exact lt_of_block hC.t

theorem ahead_any (off n : Int) (e : Nat) (w : World) (ho : isU64 off) (hn : isU64 n) (he : e ≤ 4611686018427387903) :
    Calls Try.prog 29 #[.int .u64 off, .int .u64 n, .int .u64 e] w fun e' w' => e' = .returned (.bool (decide (QS.within off n e))) ∧ w = w' := by
  obtain ⟨o0, o1⟩ := ho
  obtain ⟨n0, n1⟩ := hn
  by_cases h1 : 0 < n
  · by_cases h2 : off ≤ (e : Int)
    · by_cases h3 : n ≤ (e : Int) - off
      · rw [decide_eq_true (show QS.within off n e from ⟨h1, h2, h3⟩)]
        go_enter Try.func29, Try.ntmps29
        go_wp2
        go_ret
        exact ⟨rfl, rfl⟩
      · rw [decide_eq_false (show ¬ QS.within off n e from fun h => h3 h.2.2)]
        have h3' : decide (n ≤ (e : Int) - off) = false := decide_eq_false h3
        go_enter Try.func29, Try.ntmps29
        go_wp2
        go_ret
        exact ⟨rfl, rfl⟩
    · rw [decide_eq_false (show ¬ QS.within off n e from fun h => h2 h.2.1)]
      have h2' : decide (off ≤ (e : Int)) = false := decide_eq_false h2
      go_enter Try.func29, Try.ntmps29
      go_wp2
      go_ret
      exact ⟨rfl, rfl⟩
  · rw [decide_eq_false (show ¬ QS.within off n e from fun h => h1 h.1)]
    obtain rfl : n = 0 := by omega
    go_enter Try.func29, Try.ntmps29
    go_wp2
    go_ret
    exact ⟨rfl, rfl⟩

theorem que_end (w : World) (F : Nat → Prop) (q : Nat) (s : QS) (h : QueP w F q s) :
    Calls Try.prog 15 #[.pointer (some ⟨q, 0, none⟩)] w fun e w' => e = .returned (.int .u64 s.b.length) ∧ Qt w w' := by
  obtain ⟨A, c, La, A1, c1, A2, c2, hC⟩ := h.ex
  have hb := s.base_le h.good
  have hf : s.b.length ≤ 1000000 := h.few
  have HB := Lib.hid hb
  have t0 := cell_of_row w q 0 _ _ _ hC.t
  have t1 := cell_of_row w q 1 _ _ _ hC.t
  have t2 := cell_of_row w q 2 _ _ _ hC.t
  have t3 := cell_of_row w q 3 _ _ _ hC.t
  have t4 := cell_of_row w q 4 _ _ _ hC.t
  have t5 := cell_of_row w q 5 _ _ _ hC.t
  clear hC h
  have E := Lib.hid (show (s.base : Int) + ((s.b.length - s.base : Nat) : Int) = s.b.length by omega)
  have z : IntKind.u64.wrap ((s.base : Int) + ((s.b.length - s.base : Nat) : Int)) = s.b.length := by rw [IntWalk.u64_in _ (by omega)]; omega
  have z2 : IntKind.u64.wrap ((s.b.length - s.base : Nat) : Int) = ((s.b.length - s.base : Nat) : Int) := IntWalk.u64_in _ (by omega)
  go_enter Try.func15, Try.ntmps15
  go_wp2_with fail
  refine wp_region_qt (by kernel_rfl) (by kernel_rfl) ?_
  repeat (go_big_quiet_step (fail))
  refine wpQuiet_nil ?_
  intro w1 q1
  go_wp2
  go_ret
  exact ⟨by first | rfl | exact ret_int E.out, q1⟩

theorem que_base (w : World) (F : Nat → Prop) (q : Nat) (s : QS) (h : QueP w F q s) :
    Calls Try.prog 13 #[.pointer (some ⟨q, 0, none⟩)] w fun e w' => e = .returned (.int .u64 s.base) ∧ w = w' := by
  obtain ⟨A, c, La, A1, c1, A2, c2, hC⟩ := h.ex
  have t0 := cell_of_row w q 0 _ _ _ hC.t
  have t1 := cell_of_row w q 1 _ _ _ hC.t
  have t2 := cell_of_row w q 2 _ _ _ hC.t
  have t3 := cell_of_row w q 3 _ _ _ hC.t
  have t4 := cell_of_row w q 4 _ _ _ hC.t
  have t5 := cell_of_row w q 5 _ _ _ hC.t
  clear hC h
  go_enter Try.func13, Try.ntmps13
  go_wp2
  go_ret
  exact ⟨rfl, rfl⟩
theorem que_fresh (w : World) (F : Nat → Prop) (q : Nat) (s : QS) (h : QueP w F q s) :
    Calls Try.prog 12 #[.pointer (some ⟨q, 0, none⟩)] w fun e w' => e = .returned (.int .u64 s.fresh) ∧ w = w' := by
  obtain ⟨A, c, La, A1, c1, A2, c2, hC⟩ := h.ex
  have t0 := cell_of_row w q 0 _ _ _ hC.t
  have t1 := cell_of_row w q 1 _ _ _ hC.t
  have t2 := cell_of_row w q 2 _ _ _ hC.t
  have t3 := cell_of_row w q 3 _ _ _ hC.t
  have t4 := cell_of_row w q 4 _ _ _ hC.t
  have t5 := cell_of_row w q 5 _ _ _ hC.t
  clear hC h
  go_enter Try.func12, Try.ntmps12
  go_wp2
  go_ret
  exact ⟨rfl, rfl⟩

theorem que_owed (w : World) (F : Nat → Prop) (q : Nat) (s : QS) (h : QueP w F q s) :
    Calls Try.prog 11 #[.pointer (some ⟨q, 0, none⟩)] w fun e w' => ∃ A c, e = .returned (.slice A (rowB s.ow).length c) ∧
      RdN w' w.heap.size A (rowB s.ow).length c (Ss (rowB s.ow)) ∧ Below w.heap.size w w' := by
  obtain ⟨i0, hi0, hz0, hz1, hz2⟩ := info_parts infoSpan
  obtain ⟨A, c, La, A1, c1, A2, c2, hC⟩ := h.ex
  have t0 := cell_of_row w q 0 _ _ _ hC.t
  have t1 := cell_of_row w q 1 _ _ _ hC.t
  have t2 := cell_of_row w q 2 _ _ _ hC.t
  have t3 := cell_of_row w q 3 _ _ _ hC.t
  have t4 := cell_of_row w q 4 _ _ _ hC.t
  have t5 := cell_of_row w q 5 _ _ _ hC.t
  have R := Lib.hid hC.r2
  have hl := (rowB_spec s.ow (by rw [h.good.lo]; exact h.few)).2.2
  have hf : s.b.length ≤ 1000000 := h.few
  have hw := h.good.lo
  have HL : (rowB s.ow).length ≤ 1000000 := by omega
  clear hC h hl hw hf
  go_enter Try.func11, Try.ntmps11
  go_wp2_with (
    at_builtin
    refine wpList_append_rd _ rfl (.const (.slice none 0 0)) (.tmp 8) 32 rfl w.heap.size 36 i0 _ 2 16 Try.underlying32 hi0 hz0 hz1 hz2 rfl (by decide) (.slice none 0 0) 0 [] rfl (World.ownsRow_nil _ _ _ _) A2 (rowB s.ow).length c2 (Ss (rowB s.ow)) rfl R.out (Ss_one' _) (by unfold maxLen; omega) (by omega) (Nat.le_refl _) ?_
    intro v2 w2 hown2 hg2 _
    have hb2 : Below w.heap.size w w2 := (Below.refl _ _).grown hg2 (Nat.le_refl _) (fun g hg => by simp [Value.ownBlock] at hg)
    rw [Nat.zero_add, List.nil_append] at hown2
    obtain ⟨A2, cc, hv, hA2⟩ := own_slice hown2
    subst hv)
  go_ret
  exact ⟨A2, cc, rfl, RdN.of_own hown2 (Nat.le_refl _), hb2⟩

end Go.Proofs.Ytilgekmpkoohaaa
