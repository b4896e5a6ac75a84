/-
  The program's budget of challenges: New, Ask. · The program's budget of challenges: Ask. · The budget's Fork; the reference's budget: NewBudget, Ask, Fork.
-/
import Derived.Test.YtpfmhkkglaghgaaGreatBudP
import Derived.Test.YtpfmhkkglaghgaaGreatLedP
import Derived.Test.YtpfmhkkglaghgaaGreatNumI
import Derived.Deep.RegionLaw
import Derived.Deep.DeepCutAuto
namespace Go.Proofs.YtpfmhkkglaghgaaGreat
set_option linter.unusedSimpArgs false
set_option linter.unusedVariables false
set_option linter.unnecessarySimpa false
open Go.RowKit
attribute [local go_sem ↓] run_min_int run_max_int

/-- An object of which one field, the third, is a row of numbers of its own. -/
structure BuC (w : World) (F : Nat → Prop) (q : Nat) (T : TypeId) (cs : Array Value) (A : Option Addr) (c : Nat) (l : List Int) : Prop where
  t : w.heap[q]? = some (.cells cs T (0, 0))
  e3 : cs[3]? = some (.slice A l.length c)
  o : w.ownsRow 0 27 1 (.slice A l.length c) l.length (Us l)
  fq : F q
  fo : ∀ g, (Value.slice A l.length c).ownBlock = some g → F g ∧ g ≠ q
theorem BuC.chg {w w' : World} {F G H : Nat → Prop} {q : Nat} {T : TypeId} {cs : Array Value} {A : Option Addr} {c : Nat} {l : List Int} (h : BuC w F q T cs A c l) (hc : Chg G w w') (hd : ∀ k, k < w.heap.size → F k → ¬ G k) (hs : ∀ k, k < w.heap.size → F k → H k) : BuC w' H q T cs A c l := by
  have hq := lt_of_block h.t
  exact ⟨hc.blk h.t (hd q hq h.fq), h.e3, own_chg h.o hc (fun k hk => hd k (h.o.lt k hk).2 (h.fo k hk).1), hs q hq h.fq, fun g hg => ⟨hs g (h.o.lt g hg).2 (h.fo g hg).1, (h.fo g hg).2⟩⟩
theorem BuC.below {w w' : World} {F : Nat → Prop} {q : Nat} {T : TypeId} {cs : Array Value} {A : Option Addr} {c : Nat} {l : List Int} (h : BuC w F q T cs A c l) (b : Below w.heap.size w w') : BuC w' F q T cs A c l :=
  h.chg (chg_below b (F := fun _ => False)) (fun _ _ _ h => h) (fun _ _ h => h)
/-- Another field has been stored. -/
theorem BuC.set {w : World} {F : Nat → Prop} {q : Nat} {T : TypeId} {cs : Array Value} {A : Option Addr} {c : Nat} {l : List Int} (h : BuC w F q T cs A c l) (i : Nat) (hi : i ≠ 3) (v : Value) : BuC (w.setCell ⟨q, i, none⟩ v) F q T (cs.setIfInBounds i v) A c l := by
  have hC : Chg (fun j => j = q) w (w.setCell ⟨q, i, none⟩ v) := (Chg.refl (fun j => j = q) w).setCell (p := ⟨q, i, none⟩) (.inl rfl) _
  exact ⟨heap_setCell_same w q i _ _ v h.t, by rw [Array.getElem?_setIfInBounds_ne hi]; exact h.e3, own_chg h.o hC (fun k hk e => (h.fo k hk).2 e), h.fq, h.fo⟩
/-- Another row stands in the third. -/
theorem BuC.put {w : World} {F G : Nat → Prop} {q : Nat} {T : TypeId} {cs : Array Value} {A A' : Option Addr} {c c' : Nat} {l l' : List Int} (h : BuC w F q T cs A c l) (ho : w.ownsRow 0 27 1 (.slice A' l'.length c') l'.length (Us l')) (hg : ∀ g, (Value.slice A' l'.length c').ownBlock = some g → G g ∧ g ≠ q) (hq : G q) :
    BuC (w.setCell ⟨q, 3, none⟩ (.slice A' l'.length c')) G q T (cs.setIfInBounds 3 (.slice A' l'.length c')) A' c' l' := by
  have hC : Chg (fun j => j = q) w (w.setCell ⟨q, 3, none⟩ (.slice A' l'.length c')) := (Chg.refl (fun j => j = q) w).setCell (p := ⟨q, 3, none⟩) (.inl rfl) _
  have h3 : 3 < cs.size := (Array.getElem?_eq_some_iff.1 h.e3).1
  exact ⟨heap_setCell_same w q 3 _ _ _ h.t, by rw [Array.getElem?_setIfInBounds_self_of_lt h3], own_chg ho hC (fun k hk e => (hg k hk).2 e), hq, hg⟩
/-- Its row has grown by one. -/
theorem BuC.app {W w1 w5 : World} {F : Nat → Prop} {q : Nat} {T : TypeId} {cs : Array Value} {A A5 : Option Addr} {c c5 : Nat} {l : List Int} {x : Int} (h : BuC W F q T cs A c l) (b : Below W.heap.size W w1) (hg : w1.grownBy w5 (Value.slice A l.length c).ownBlock)
    (ho : w5.ownsRow 0 27 1 (.slice A5 (l ++ [x]).length c5) (l ++ [x]).length (Us (l ++ [x])))
    (hv : (Value.slice A5 (l ++ [x]).length c5).ownBlock = (Value.slice A l.length c).ownBlock ∨ (Value.slice A5 (l ++ [x]).length c5).ownBlock = some w1.heap.size) (hF : ∀ k, W.heap.size ≤ k → F k) :
    BuC (w5.setCell ⟨q, 3, none⟩ (.slice A5 (l ++ [x]).length c5)) F q T (cs.setIfInBounds 3 (.slice A5 (l ++ [x]).length c5)) A5 c5 (l ++ [x]) := by
  have hq := lt_of_block h.t
  have hs := b.size
  have h1 := h.below b
  have hT : w5.heap[q]? = some (.cells cs T (0, 0)) := (hg.block q (lt_of_block h1.t) (fun e => (h.fo q e.symm).2 rfl)).trans h1.t
  have hC : Chg (fun j => j = q) w5 (w5.setCell ⟨q, 3, none⟩ (.slice A5 (l ++ [x]).length c5)) := (Chg.refl (fun j => j = q) w5).setCell (p := ⟨q, 3, none⟩) (.inl rfl) _
  have h3 : 3 < cs.size := (Array.getElem?_eq_some_iff.1 h.e3).1
  have hfo : ∀ g, (Value.slice A5 (l ++ [x]).length c5).ownBlock = some g → F g ∧ g ≠ q := fun g e => by
    rcases hv with e' | e'
    · exact h.fo g (e'.symm.trans e)
    · rw [e] at e'
      have := Option.some.inj e'
      exact ⟨hF _ (by omega), by omega⟩
  exact ⟨heap_setCell_same w5 q 3 _ _ _ hT, by rw [Array.getElem?_setIfInBounds_self_of_lt h3], own_chg ho hC (fun k hk e => (hfo k hk).2 e), h.fq, hfo⟩

def budRow (s : BS) (A : Option Addr) (n c : Nat) (g : Int) : Array Value := #[.int .i64 s.most, .int .u64 s.every, .int .u64 s.now, .slice A n c, .int .i64 g]
structure BudP (w : World) (F : Nat → Prop) (q : Nat) (s : BS) : Prop where
  good : s.Good
  ex : ∃ A c l g, BuC w F q 150 (budRow s A l.length c g) A c l ∧ s.Keeps l ∧ l.length ≤ s.most ∧ ∀ t ∈ l, 0 ≤ t ∧ t ≤ s.now
theorem BudP.chg {w w' : World} {F G H : Nat → Prop} {q : Nat} {s : BS} (h : BudP w F q s) (hc : Chg G w w') (hd : ∀ k, k < w.heap.size → F k → ¬ G k) (hs : ∀ k, k < w.heap.size → F k → H k) : BudP w' H q s := by
  obtain ⟨g, A, c, l, n, hC, r⟩ := h
  exact ⟨g, A, c, l, n, hC.chg hc hd hs, r⟩
theorem BudP.below {w w' : World} {F : Nat → Prop} {q : Nat} {s : BS} (h : BudP w F q s) (b : Below w.heap.size w w') : BudP w' F q s :=
  h.chg (chg_below b (F := fun _ => False)) (fun _ _ _ h => h) (fun _ _ h => h)
theorem BudP.sub {w : World} {F G : Nat → Prop} {q : Nat} {s : BS} (h : BudP w F q s) (hs : ∀ k, k < w.heap.size → F k → G k) : BudP w G q s := h.chg (Chg.refl (fun _ => False) w) (fun _ _ _ h => h) hs
theorem BudP.lt {w : World} {F : Nat → Prop} {q : Nat} {s : BS} (h : BudP w F q s) : q < w.heap.size ∧ F q := by
  obtain ⟨g, A, c, l, n, hC, r⟩ := h
  exact ⟨lt_of_block hC.t, hC.fq⟩

theorem bud_new (most every : Int) (w : World) (he : isU64 every) :
    Calls Tryz.prog 43 #[.int .i64 most, .int .u64 every] w fun e w' => e = .returned (.pointer (some ⟨w.heap.size, 0, none⟩)) ∧ BudP w' (fun k => k = w.heap.size) w.heap.size (BS.new most every) ∧ Below w.heap.size w w' := by
  have hr : ((BS.new most every).most : Int) = max 0 (min most 64) := by simp only [BS.new]; omega
  have HR := Lib.hid hr
  clear hr
  have HE := Lib.hid he
  clear he
  go_enter Tryz.func43, Tryz.ntmps43
  go_wp2
  go_ret
  refine ⟨rfl, ⟨BS.Good.new HE.out, none, 0, [], 0, ⟨?_, rfl, World.ownsRow_nil _ _ _ _, rfl, (fun g hg => by simp [Value.ownBlock] at hg)⟩, fun n _ => rfl, Nat.zero_le _, fun t ht => by cases ht⟩, box_below _ _⟩
  unfold budRow
  rw [HR.out]
  exact heap_alloc_new w _

theorem bsince_any (t d : Int) (w : World) (ht : isU64 t) (hd : isU64 d) (h : d ≤ t) :
    Calls Tryz.prog 84 #[.int .u64 t, .int .u64 d] w fun e w' => e = .returned (.int .u64 (t - d)) ∧ Qt w w' := by
  have HD := Lib.hid (show t - d = if t < d then 0 else t - d by rw [if_neg (by omega)])
  go_enter Tryz.func84, Tryz.ntmps84
  go_wp2_with fail
  refine (satSub_any t d (t - d) w ht hd HD.out).mono ?_
  rintro e w1 ⟨rfl, n, rfl⟩
  go_wp2
  go_ret
  exact ⟨rfl, ⟨n, rfl⟩⟩

theorem still_take (e n : Int) (l : List Int) {k : Nat} (hk : k < l.length) : BS.still e n (l.take (k + 1)) = BS.still e n (l.take k) ++ (if n - l[k] < e then [l[k]] else []) := by
  unfold BS.still
  rw [List.take_succ_eq_append_getElem hk, List.filter_append]
  by_cases h : n - l[k] < e
  · simp [h]
  · simp [h]
theorem still_len (e n : Int) (l : List Int) : (BS.still e n l).length ≤ l.length := List.length_filter_le _ _

end Go.Proofs.YtpfmhkkglaghgaaGreat

namespace Go.Proofs.YtpfmhkkglaghgaaGreat
set_option linter.unusedSimpArgs false
set_option linter.unusedVariables false
set_option linter.unnecessarySimpa false
open Go.RowKit
attribute [local go_sem ↓] run_min_int run_max_int

set_option maxHeartbeats 4000000 in
set_option maxRecDepth 100000 in
theorem bud_ask (w : World) (F : Nat → Prop) (q : Nat) (s : BS) (n : Int) (h : BudP w F q s) (hn : isU64 n) :
    Calls Tryz.prog 53 #[.pointer (some ⟨q, 0, none⟩), .int .u64 n] w fun e w' => e = .returned (.bool (s.ask n).2) ∧ BudP w' (Grow F w) q (s.ask n).1 ∧ Chg F w w' := by
  obtain ⟨i0, hi0, hz0, hz1, hz2⟩ := info_parts infoU64
  have GA := Lib.hid (h.good.ask hn)
  have hn0 := hn.1
  have hn1 := hn.2
  have hno := h.good.n0.1
  have hno1 := h.good.n0.2
  have he0 := h.good.e0.1
  have he1 := h.good.e0.2
  have hm64 := h.good.m0
  obtain ⟨A, c, l, g, hC, hk, hlm, hlt⟩ := h.ex
  obtain ⟨k1, k2, k3⟩ := hk.ask n
  clear h
  obtain ⟨m, hm⟩ : ∃ m, m = max s.now n := ⟨_, rfl⟩
  have hm0 : 0 ≤ m := by omega
  have hm1 : m < 18446744073709551616 := by omega
  have hsm : s.now ≤ m := by omega
  rw [← hm] at k1 k2 k3
  obtain ⟨S, hS⟩ : ∃ S, S = BS.still s.every m l := ⟨_, rfl⟩
  rw [← hS] at k1 k2 k3
  have hSl : S.length ≤ l.length := by rw [hS]; exact still_len _ _ _
  have hSt : Hid (∀ t ∈ S, 0 ≤ t ∧ t ≤ m) := Lib.hid (fun t ht => by
    rw [hS] at ht
    have := hlt t (List.mem_filter.1 ht).1
    omega)
  have HS := Lib.hid hS
  have HL := Lib.hid hlt
  have ASK : Hid (s.ask n = if s.most ≤ S.length then ({ s with now := m }, false) else ({ s with now := m, all := s.all ++ [m] }, true)) := Lib.hid (by unfold BS.ask; rw [← hm, ← k1])
  have K2 := Lib.hid k2
  have K3 := Lib.hid k3
  have HM := Lib.hid hm
  clear k1 k2 k3 hk hS hlt
  have HC0 := Lib.hid hC
  have hFq := hC.fq
  have HC := Lib.hid (hC.set 2 (by omega) (.int .u64 m))
  have hqs := lt_of_block hC.t
  have D1 : Hid (Chg F w (w.setCell ⟨q, 2, none⟩ (.int .u64 m))) := Lib.hid ((Chg.refl F w).setCell (p := ⟨q, 2, none⟩) (.inl hC.fq) _)
  have ht0 : w.heap[q]? = some (.cells #[.int .i64 s.most, .int .u64 s.every, .int .u64 s.now, .slice A l.length c, .int .i64 g] 150 (0, 0)) := hC.t
  have t0 := cell_of_row w q 0 _ _ _ ht0
  have ft0 := frozen_of_row w q 0 _ _ ht0
  have t1 := cell_of_row w q 1 _ _ _ ht0
  have ft1 := frozen_of_row w q 1 _ _ ht0
  have t2 := cell_of_row w q 2 _ _ _ ht0
  have ft2 := frozen_of_row w q 2 _ _ ht0
  have t3 := cell_of_row w q 3 _ _ _ ht0
  have ft3 := frozen_of_row w q 3 _ _ ht0
  have t4 := cell_of_row w q 4 _ _ _ ht0
  have ft4 := frozen_of_row w q 4 _ _ ht0
  clear hC ht0
  go_enter Tryz.func53, Tryz.ntmps53
  go_upto_region 4 with fail
  rw [← hm]
  clear hm t0 t1 t2 t3 t4 ft0 ft1 ft2 ft3 ft4
  have hsz : (w.setCell ⟨q, 2, none⟩ (.int .u64 m)).heap.size = w.heap.size := by simp
  generalize (w.setCell ⟨q, 2, none⟩ (.int .u64 m)) = w1 at *
  have ht1 : w1.heap[q]? = some (.cells #[.int .i64 s.most, .int .u64 s.every, .int .u64 m, .slice A l.length c, .int .i64 g] 150 (0, 0)) := HC.out.t
  have t0 := cell_of_row w1 q 0 _ _ _ ht1
  have ft0 := frozen_of_row w1 q 0 _ _ ht1
  have t1 := cell_of_row w1 q 1 _ _ _ ht1
  have ft1 := frozen_of_row w1 q 1 _ _ ht1
  have t2 := cell_of_row w1 q 2 _ _ _ ht1
  have ft2 := frozen_of_row w1 q 2 _ _ ht1
  have t3 := cell_of_row w1 q 3 _ _ _ ht1
  have ft3 := frozen_of_row w1 q 3 _ _ ht1
  have t4 := cell_of_row w1 q 4 _ _ _ ht1
  have ft4 := frozen_of_row w1 q 4 _ _ ht1
  have HT1 := Lib.hid ht1
  clear ht1
  have B0 : Hid (Below w1.heap.size w1 w1) := Lib.hid (Below.refl _ _)
  have O0 : Hid (w1.ownsRow w1.heap.size 27 1 (.slice none 0 0) (BS.still s.every m (l.take 0)).length (Us (BS.still s.every m (l.take 0)))) := Lib.hid (World.ownsRow_nil _ _ _ _)
  go_wp2_with fail
  go_loopw [5, 7, 24] (fun v tv iv wr => ∃ j : Nat, j ≤ l.length ∧ iv = .int .i64 j ∧ Hid (Below w1.heap.size w1 wr) ∧ Hid (wr.ownsRow w1.heap.size 27 1 v (BS.still s.every m (l.take j)).length (Us (BS.still s.every m (l.take j))))) (fun _ _ i _ => l.length - (intOf i).toNat)
  case atStart => exact ⟨0, Nat.zero_le _, rfl, B0, O0⟩
  case round =>
    obtain ⟨j, hj, rfl, B, O⟩ := hrel
    have hgs : w1.heap.size ≤ wr.heap.size := B.out.size
    clear t0 t1 t2 t3 t4 ft0 ft1 ft2 ft3 ft4
    by_cases hlt : j < l.length
    · have hq1 := lt_of_block HT1.out
      have ht2 : wr.heap[q]? = some (.cells #[.int .i64 s.most, .int .u64 s.every, .int .u64 m, .slice A l.length c, .int .i64 g] 150 (0, 0)) := (B.out.block q hq1).trans HT1.out
      have t0 := cell_of_row wr q 0 _ _ _ ht2
      have ft0 := frozen_of_row wr q 0 _ _ ht2
      have t1 := cell_of_row wr q 1 _ _ _ ht2
      have ft1 := frozen_of_row wr q 1 _ _ ht2
      have t2 := cell_of_row wr q 2 _ _ _ ht2
      have ft2 := frozen_of_row wr q 2 _ _ ht2
      have t3 := cell_of_row wr q 3 _ _ _ ht2
      have ft3 := frozen_of_row wr q 3 _ _ ht2
      have t4 := cell_of_row wr q 4 _ _ _ ht2
      have ft4 := frozen_of_row wr q 4 _ _ ht2
      clear ht2
      have R := (Rd.of_own HC.out.o).below B.out
      obtain ⟨bb, oo, eA, hx⟩ := R.u64 (k := j) hlt
      subst eA
      rw [show l.getD j 0 = l[j] by simp [List.getD, hlt]] at hx
      have hlj := HL.out l[j] (List.getElem_mem hlt)
      have hst := Lib.hid (still_take s.every m l hlt)
      have hlen : (BS.still s.every m (l.take j)).length ≤ 64 := Nat.le_trans (still_len _ _ _) (by simp; omega)
      generalize l[j] = x at *
      clear R
      have hx0 : 0 ≤ x := hlj.1
      have hx1 : x ≤ m := by omega
      clear hlj
      go_upto_region 8 with fail
      have U1 : isU64 m := ⟨hm0, hm1⟩
      have U2 : isU64 x := ⟨hx0, by omega⟩
      have HS1 := Lib.hid (fun W => bsince_any m x W U1 U2 hx1)
      clear U1 U2
      refine wp_region_qt (by kernel_rfl) (by kernel_rfl) ?_
      repeat (first | go_big_quiet_step ((go_at_call 84; exact Qt.callN (HS1.out _))) | quiet_step ((go_at_call 84; exact Qt.callN (HS1.out _))))
      refine wpQuiet_nil ?_
      intro w2 q2
      have B2 : Hid (Below w1.heap.size w1 w2) := Lib.hid (B.out.trans q2.below)
      have O2 : Hid (w2.ownsRow w1.heap.size 27 1 u5 (BS.still s.every m (l.take j)).length (Us (BS.still s.every m (l.take j)))) := Lib.hid (by obtain ⟨k, rfl⟩ := q2; exact own_chg O.out ((Qt.chg ⟨k, rfl⟩ : Chg (fun _ => False) wr _)) (fun _ _ h => h))
      have hgs : w1.heap.size ≤ w2.heap.size := B2.out.size
      clear B O q2 hx t0 t1 t2 t3 t4 ft0 ft1 ft2 ft3 ft4
      by_cases hin : m - x < s.every
      · have hind : decide (m - x < s.every) = true := decide_eq_true hin
        have HT : Hid (BS.still s.every m (l.take (j + 1)) = BS.still s.every m (l.take j) ++ [x]) := Lib.hid (by rw [hst.out, if_pos hin])
        go_wp2_with (
          at_builtin
          refine wpList_app1 _ rfl (.tmp 39) (.tmp 41) 61 rfl (w1.heap.size) 27 i0 (.int .u64 0) 1 8 Tryz.underlying61 hi0 hz0 hz1 hz2 rfl (by decide) u5 ((BS.still s.every m (l.take j)).length) (Us (BS.still s.every m (l.take j))) rfl O2.out #[.int .u64 x] _ rfl (by simp) rfl (by simp [Value.oneCell']) (by unfold maxLen; omega) (by omega) (by have := hgs; simp; omega) ?_
          intro v4 w4 ho4 hg4 hk4
          have B4 : Hid (Below w1.heap.size w1 w4) := Lib.hid (B2.out.grown hg4 hgs (fun g hg => (O2.out.lt g hg).1))
          have O4 : Hid (w4.ownsRow w1.heap.size 27 1 v4 (BS.still s.every m (l.take (j + 1))).length (Us (BS.still s.every m (l.take (j + 1))))) := Lib.hid (by rw [HT.out, Us_append, List.length_append]; exact ho4)
          clear ho4 hg4 hk4)
        go_roundw
        case rel => exact ⟨j + 1, hlt, by go_num, B4, O4⟩
        case measure => simp [intOf] <;> omega
      · have hind : decide (m - x < s.every) = false := decide_eq_false hin
        have HT : Hid (BS.still s.every m (l.take (j + 1)) = BS.still s.every m (l.take j)) := Lib.hid (by rw [hst.out, if_neg hin, List.append_nil])
        go_wp2_with fail
        go_roundw
        case rel => exact ⟨j + 1, hlt, by go_num, B2, by rw [HT.out]; exact O2⟩
        case measure => simp [intOf] <;> omega
    · obtain rfl : j = l.length := by omega
      have O9 : Hid (wr.ownsRow w1.heap.size 27 1 u5 S.length (Us S)) := Lib.hid (by have := O.out; rw [List.take_length] at this; rw [HS.out]; exact this)
      obtain ⟨A9, c9, ev9, hA9⟩ := own_slice O9.out
      subst ev9
      have hq1 := lt_of_block HT1.out
      have C2 := HC.out.below B.out
      have C3 := Lib.hid (C2.put (G := Grow F w) (own_base O9.out (fun _ _ => Nat.zero_le _)) (fun g hg => ⟨.inr (by have := (O9.out.lt g hg).1; omega), by have := (O9.out.lt g hg).1; omega⟩) (.inl HC.out.fq))
      have ht2 : wr.heap[q]? = some (.cells #[.int .i64 s.most, .int .u64 s.every, .int .u64 m, .slice A l.length c, .int .i64 g] 150 (0, 0)) := (B.out.block q hq1).trans HT1.out
      have D3 : Hid (Chg F w (wr.setCell ⟨q, 3, none⟩ (.slice A9 S.length c9))) := Lib.hid ((D1.out.thenBelow B.out (by omega)).setCell (p := ⟨q, 3, none⟩) (.inl HC.out.fq) _)
      have t0 := cell_of_row wr q 0 _ _ _ ht2
      have ft0 := frozen_of_row wr q 0 _ _ ht2
      have t1 := cell_of_row wr q 1 _ _ _ ht2
      have ft1 := frozen_of_row wr q 1 _ _ ht2
      have t2 := cell_of_row wr q 2 _ _ _ ht2
      have ft2 := frozen_of_row wr q 2 _ _ ht2
      have t3 := cell_of_row wr q 3 _ _ _ ht2
      have ft3 := frozen_of_row wr q 3 _ _ ht2
      have t4 := cell_of_row wr q 4 _ _ _ ht2
      have ft4 := frozen_of_row wr q 4 _ _ ht2
      clear ht2 C2 O hA9 O9
      go_upto_region 12 with fail
      clear t0 t1 t2 t3 t4 ft0 ft1 ft2 ft3 ft4
      generalize (wr.setCell ⟨q, 3, none⟩ (.slice A9 S.length c9)) = w3 at *
      have ht3 : w3.heap[q]? = some (.cells #[.int .i64 s.most, .int .u64 s.every, .int .u64 m, .slice A9 S.length c9, .int .i64 g] 150 (0, 0)) := C3.out.t
      have t0 := cell_of_row w3 q 0 _ _ _ ht3
      have ft0 := frozen_of_row w3 q 0 _ _ ht3
      have t1 := cell_of_row w3 q 1 _ _ _ ht3
      have ft1 := frozen_of_row w3 q 1 _ _ ht3
      have t2 := cell_of_row w3 q 2 _ _ _ ht3
      have ft2 := frozen_of_row w3 q 2 _ _ ht3
      have t3 := cell_of_row w3 q 3 _ _ _ ht3
      have ft3 := frozen_of_row w3 q 3 _ _ ht3
      have t4 := cell_of_row w3 q 4 _ _ _ ht3
      have ft4 := frozen_of_row w3 q 4 _ _ ht3
      clear ht3
      refine wp_region_qt (by kernel_rfl) (by kernel_rfl) ?_
      repeat (go_big_quiet_step (fail))
      refine wpQuiet_nil ?_
      intro w4 q4
      have C4 := Lib.hid (C3.out.below q4.below)
      have D4 := Lib.hid (D3.out.qt q4)
      clear C3 D3 q4 t0 t1 t2 t3 t4 ft0 ft1 ft2 ft3 ft4
      by_cases hfull : s.most ≤ S.length
      · have hfd : decide ((s.most : Int) ≤ (S.length : Int)) = true := decide_eq_true (by omega)
        have hfd' : decide (s.most ≤ S.length) = true := decide_eq_true hfull
        have e2 := ASK.out
        rw [if_pos hfull] at e2
        go_wp2
        go_ret
        rw [e2]
        refine ⟨rfl, ⟨by have := GA.out; rw [e2] at this; exact this, A9, c9, S, g, C4.out, ?_, by show S.length ≤ s.most; omega, hSt.out⟩, D4.out⟩
        have := K3.out (by rw [e2])
        rw [e2] at this
        exact this
      · have hfd : decide ((s.most : Int) ≤ (S.length : Int)) = false := decide_eq_false (by omega)
        have hfd' : decide (s.most ≤ S.length) = false := decide_eq_false hfull
        have e2 := ASK.out
        rw [if_neg hfull] at e2
        have hgrow : Hid (∀ (v : World), w.heap.size ≤ v.heap.size → ∀ j, v.heap.size ≤ j → Grow F w j) := Lib.hid (fun v h j hj => .inr (by omega))
        have ht4 : w4.heap[q]? = some (.cells #[.int .i64 s.most, .int .u64 s.every, .int .u64 m, .slice A9 S.length c9, .int .i64 g] 150 (0, 0)) := C4.out.t
        have hw4 := D4.out.size
        go_upto_region 14 with fail
        have t0 := cell_of_row w4 q 0 _ _ _ ht4
        have ft0 := frozen_of_row w4 q 0 _ _ ht4
        have t1 := cell_of_row w4 q 1 _ _ _ ht4
        have ft1 := frozen_of_row w4 q 1 _ _ ht4
        have t2 := cell_of_row w4 q 2 _ _ _ ht4
        have ft2 := frozen_of_row w4 q 2 _ _ ht4
        have t3 := cell_of_row w4 q 3 _ _ _ ht4
        have ft3 := frozen_of_row w4 q 3 _ _ ht4
        have t4 := cell_of_row w4 q 4 _ _ _ ht4
        have ft4 := frozen_of_row w4 q 4 _ _ ht4
        have hq4 := lt_of_block ht4
        clear ht4
        go_cut [] (fun wx => ∃ (A5 : Option Addr) (c5 : Nat), Hid (BuC wx (Grow F w) q 150 #[.int .i64 s.most, .int .u64 s.every, .int .u64 m, .slice A5 (S ++ [m]).length c5, .int .i64 g] A5 c5 (S ++ [m])) ∧ Hid (Chg F w wx))
        case first =>
          go_region_law
            ((refine step_append_rd _ (by rfl) (.tmp 62) (.tmp 67) 61 (by rfl) 0 27 i0 _ 1 8 Tryz.underlying61 hi0 hz0 hz1 hz2 rfl (by decide) _ S.length (Us S) (by rfl) ((C4.out.o.alloc _).drew)
                  _ 1 1 [.int .u64 m] (by rfl) ((Rd.lit w4 1 #[.int .u64 m] 27 1 _ rfl (by simp) (by unfold maxLen; omega)).drew) (by simp [Value.oneCell'])
                  (by unfold maxLen; omega) (by omega) (by simp) ?_; intro v5 w5 ho5 hg5 hv5
              obtain ⟨A5, c5, ev5, hA5⟩ := own_slice ho5
              subst ev5
              have HV5 := Lib.hid hv5
              have HO5 := Lib.hid ho5
              have HG5 := Lib.hid hg5
              have B5 : Hid (Below w4.heap.size w4 (w4.alloc (.cells #[.int .u64 m] 27)).drew) := Lib.hid ((box_below w4 _).drew)
              have S5 := Lib.hid (C4.out.below B5.out)
              have T5 : Hid (w5.heap[q]? = some (.cells #[.int .i64 s.most, .int .u64 s.every, .int .u64 m, .slice A9 S.length c9, .int .i64 g] 150 (0, 0))) := Lib.hid ((hg5.block q (lt_of_block S5.out.t) (fun e => (C4.out.fo q e.symm).2 rfl)).trans S5.out.t)
              clear ho5 hg5 hv5 hA5
              have y1 := cell_of_row w5 q 3 _ _ _ T5.out
              have fy1 := frozen_of_row w5 q 3 _ _ T5.out))
          all_goals
            have e1 : (S ++ [m]).length = S.length + 1 := by simp
            have HO := HO5.out
            have HV := HV5.out
            rw [← e1, show Us S ++ [Value.int .u64 m] = Us (S ++ [m]) by simp [Us]] at HO
            rw [← e1] at HV
            have K5 := Lib.hid (C4.out.app B5.out HG5.out HO HV (fun j hj => hgrow.out w4 hw4 j hj))
            have D5 := Lib.hid (((D4.out.thenBelow B5.out hw4).grown HG5.out (fun g e => (C4.out.fo g e).1)).setCell (p := ⟨q, 3, none⟩) (.inl hFq) (.slice A5 (S ++ [m]).length c5))
            rw [e1] at K5 D5
            clear HO HV
            go_wp2_with fail
            go_meet
            exact ⟨A5, c5, Lib.hid (by rw [e1]; exact K5.out), D5⟩
        case rest =>
        obtain ⟨A5, c5, S5, D5⟩ := hcut
        generalize wc = w5 at *
        clear t0 t1 t2 t3 t4 ft0 ft1 ft2 ft3 ft4 C4 D4
        have ht5 := S5.out.t
        have t0 := cell_of_row w5 q 0 _ _ _ ht5
        have ft0 := frozen_of_row w5 q 0 _ _ ht5
        have t1 := cell_of_row w5 q 1 _ _ _ ht5
        have ft1 := frozen_of_row w5 q 1 _ _ ht5
        have t2 := cell_of_row w5 q 2 _ _ _ ht5
        have ft2 := frozen_of_row w5 q 2 _ _ ht5
        have t3 := cell_of_row w5 q 3 _ _ _ ht5
        have ft3 := frozen_of_row w5 q 3 _ _ ht5
        have t4 := cell_of_row w5 q 4 _ _ _ ht5
        have ft4 := frozen_of_row w5 q 4 _ _ ht5
        clear ht5
        have K5 := Lib.hid (S5.out.set 4 (by omega) (.int .i64 (wrap64 (g + 1))))
        have D6 := Lib.hid (D5.out.setCell (p := ⟨q, 4, none⟩) (.inl hFq) (.int .i64 (wrap64 (g + 1))))
        go_wp2
        go_ret
        rw [e2]
        refine ⟨rfl, ⟨by have := GA.out; rw [e2] at this; exact this, A5, c5, S ++ [m], _, K5.out, ?_, by simp; omega, ?_⟩, D6.out⟩
        · have := K2.out (by rw [e2])
          rw [e2] at this
          exact this
        · intro t ht
          rcases List.mem_append.1 ht with h | h
          · exact hSt.out t h
          · rw [List.mem_singleton.1 h]; exact ⟨hm0, Int.le_refl _⟩

end Go.Proofs.YtpfmhkkglaghgaaGreat

namespace Go.Proofs.YtpfmhkkglaghgaaGreat
set_option linter.unusedSimpArgs false
set_option linter.unusedVariables false
set_option linter.unnecessarySimpa false
open Go.RowKit
attribute [local go_sem ↓] run_min_int run_max_int

theorem bsub_any (a b : Int) (w : World) (ha : isU64 a) (hb : isU64 b) (h : b ≤ a) :
    Calls Tryz.prog 100 #[.int .u64 a, .int .u64 b] w fun e w' => e = .returned (.int .u64 (a - b)) ∧ Qt w w' := by
  obtain ⟨a0, a1⟩ := ha
  obtain ⟨b0, b1⟩ := hb
  have h' : ¬ a < b := by omega
  go_enter Tryz.func100, Tryz.ntmps100
  go_wp2
  go_ret
  exact ⟨rfl, Qt.refl _⟩

def budRowR (s : BS) (A : Option Addr) (n c : Nat) : Array Value := #[.int .i64 s.most, .int .u64 s.every, .int .u64 s.now, .slice A n c]
structure BudR (w : World) (F : Nat → Prop) (q : Nat) (s : BS) : Prop where
  good : s.Good
  ex : ∃ A c, BuC w F q 179 (budRowR s A s.all.length c) A c s.all
theorem BudR.chg {w w' : World} {F G H : Nat → Prop} {q : Nat} {s : BS} (h : BudR w F q s) (hc : Chg G w w') (hd : ∀ k, k < w.heap.size → F k → ¬ G k) (hs : ∀ k, k < w.heap.size → F k → H k) : BudR w' H q s := by
  obtain ⟨g, A, c, hC⟩ := h
  exact ⟨g, A, c, hC.chg hc hd hs⟩
theorem BudR.below {w w' : World} {F : Nat → Prop} {q : Nat} {s : BS} (h : BudR w F q s) (b : Below w.heap.size w w') : BudR w' F q s :=
  h.chg (chg_below b (F := fun _ => False)) (fun _ _ _ h => h) (fun _ _ h => h)
theorem BudR.sub {w : World} {F G : Nat → Prop} {q : Nat} {s : BS} (h : BudR w F q s) (hs : ∀ k, k < w.heap.size → F k → G k) : BudR w G q s := h.chg (Chg.refl (fun _ => False) w) (fun _ _ _ h => h) hs
theorem BudR.lt {w : World} {F : Nat → Prop} {q : Nat} {s : BS} (h : BudR w F q s) : q < w.heap.size ∧ F q := by
  obtain ⟨g, A, c, hC⟩ := h
  exact ⟨lt_of_block hC.t, hC.fq⟩

theorem budR_new (most every : Int) (w : World) (he : isU64 every) :
    Calls Tryz.prog 61 #[.int .i64 most, .int .u64 every] w fun e w' => e = .returned (.pointer (some ⟨w.heap.size, 0, none⟩)) ∧ BudR w' (fun k => k = w.heap.size) w.heap.size (BS.new most every) ∧ Below w.heap.size w w' := by
  have hr : ((BS.new most every).most : Int) = max 0 (min most 64) := by simp only [BS.new]; omega
  have HR := Lib.hid hr
  clear hr
  have HE := Lib.hid he
  clear he
  go_enter Tryz.func61, Tryz.ntmps61
  go_wp2
  go_ret
  refine ⟨rfl, ⟨BS.Good.new HE.out, none, 0, ⟨?_, rfl, World.ownsRow_nil _ _ _ _, rfl, (fun g hg => by simp [Value.ownBlock, BS.new] at hg)⟩⟩, box_below _ _⟩
  unfold budRowR
  rw [HR.out]
  exact heap_alloc_new w _

set_option maxHeartbeats 4000000 in
set_option maxRecDepth 100000 in
theorem budR_ask (w : World) (F : Nat → Prop) (q : Nat) (s : BS) (n : Int) (h : BudR w F q s) (hn : isU64 n) (hll : s.all.length ≤ 1000000) :
    Calls Tryz.prog 65 #[.pointer (some ⟨q, 0, none⟩), .int .u64 n] w fun e w' => e = .returned (.bool (s.ask n).2) ∧ BudR w' (Grow F w) q (s.ask n).1 ∧ Chg F w w' := by
  obtain ⟨i0, hi0, hz0, hz1, hz2⟩ := info_parts infoU64
  have GA := Lib.hid (h.good.ask hn)
  have hn0 := hn.1
  have hn1 := hn.2
  have hno := h.good.n0.1
  have hno1 := h.good.n0.2
  have he0 := h.good.e0.1
  have he1 := h.good.e0.2
  have hm64 := h.good.m0
  have hlt := h.good.le
  obtain ⟨A, c, hC⟩ := h.ex
  clear h
  obtain ⟨m, hm⟩ : ∃ m, m = max s.now n := ⟨_, rfl⟩
  have hm0 : 0 ≤ m := by omega
  have hm1 : m < 18446744073709551616 := by omega
  have hsm : s.now ≤ m := by omega
  obtain ⟨N, hN⟩ : ∃ N, N = (BS.still s.every m s.all).length := ⟨_, rfl⟩
  have HN := Lib.hid hN
  have HL := Lib.hid hlt
  have hNl : N ≤ s.all.length := by rw [hN]; exact still_len _ _ _
  have ASK : Hid (s.ask n = if s.most ≤ N then ({ s with now := m }, false) else ({ s with now := m, all := s.all ++ [m] }, true)) := Lib.hid (by unfold BS.ask; rw [← hm, ← hN])
  clear hN hlt
  have hFq := hC.fq
  have HC := Lib.hid (hC.set 2 (by omega) (.int .u64 m))
  have hqs := lt_of_block hC.t
  have D1 : Hid (Chg F w (w.setCell ⟨q, 2, none⟩ (.int .u64 m))) := Lib.hid ((Chg.refl F w).setCell (p := ⟨q, 2, none⟩) (.inl hC.fq) _)
  have ht0 : w.heap[q]? = some (.cells #[.int .i64 s.most, .int .u64 s.every, .int .u64 s.now, .slice A s.all.length c] 179 (0, 0)) := hC.t
  have t0 := cell_of_row w q 0 _ _ _ ht0
  have ft0 := frozen_of_row w q 0 _ _ ht0
  have t1 := cell_of_row w q 1 _ _ _ ht0
  have ft1 := frozen_of_row w q 1 _ _ ht0
  have t2 := cell_of_row w q 2 _ _ _ ht0
  have ft2 := frozen_of_row w q 2 _ _ ht0
  have t3 := cell_of_row w q 3 _ _ _ ht0
  have ft3 := frozen_of_row w q 3 _ _ ht0
  clear hC ht0
  go_enter Tryz.func65, Tryz.ntmps65
  go_upto_region 2 with fail
  rw [← hm]
  clear hm t0 t1 t2 t3 ft0 ft1 ft2 ft3
  have hsz : (w.setCell ⟨q, 2, none⟩ (.int .u64 m)).heap.size = w.heap.size := by simp
  generalize (w.setCell ⟨q, 2, none⟩ (.int .u64 m)) = w1 at *
  have HT1 : Hid (w1.heap[q]? = some (.cells #[.int .i64 s.most, .int .u64 s.every, .int .u64 m, .slice A s.all.length c] 179 (0, 0))) := Lib.hid HC.out.t
  go_wp2_with fail
  go_loopw [5, 6] (fun v iv wr => ∃ j : Nat, j ≤ s.all.length ∧ iv = .int .i64 j ∧ v = .int .i64 (BS.still s.every m (s.all.take j)).length ∧ Hid (Below w1.heap.size w1 wr)) (fun _ i _ => s.all.length - (intOf i).toNat)
  case atStart => exact ⟨0, Nat.zero_le _, rfl, rfl, Lib.hid (Below.refl _ _)⟩
  case round =>
    obtain ⟨j, hj, rfl, rfl, B⟩ := hrel
    have hgs : w1.heap.size ≤ wr.heap.size := B.out.size
    have hq1 := lt_of_block HT1.out
    have ht2 : wr.heap[q]? = some (.cells #[.int .i64 s.most, .int .u64 s.every, .int .u64 m, .slice A s.all.length c] 179 (0, 0)) := (B.out.block q hq1).trans HT1.out
    have t0 := cell_of_row wr q 0 _ _ _ ht2
    have ft0 := frozen_of_row wr q 0 _ _ ht2
    have t1 := cell_of_row wr q 1 _ _ _ ht2
    have ft1 := frozen_of_row wr q 1 _ _ ht2
    have t2 := cell_of_row wr q 2 _ _ _ ht2
    have ft2 := frozen_of_row wr q 2 _ _ ht2
    have t3 := cell_of_row wr q 3 _ _ _ ht2
    have ft3 := frozen_of_row wr q 3 _ _ ht2
    have HT2 := Lib.hid ht2
    clear ht2
    have hlen : (BS.still s.every m (s.all.take j)).length ≤ j := Nat.le_trans (still_len _ _ _) (by simp; omega)
    by_cases hlt : j < s.all.length
    · have R := (Rd.of_own HC.out.o).below B.out
      obtain ⟨bb, oo, eA, hx⟩ := R.u64 (k := j) hlt
      subst eA
      rw [show s.all.getD j 0 = s.all[j] by simp [List.getD, hlt]] at hx
      have hlj := HL.out s.all[j] (List.getElem_mem hlt)
      have hst := Lib.hid (still_take s.every m s.all hlt)
      generalize s.all[j] = x at *
      clear R
      have hx0 : 0 ≤ x := hlj.1
      have hx1 : x ≤ m := by omega
      clear hlj
      have U1 : isU64 m := ⟨hm0, hm1⟩
      have U2 : isU64 x := ⟨hx0, by omega⟩
      have HS1 := Lib.hid (fun W => bsub_any m x W U1 U2 hx1)
      clear U1 U2
      generalize hK : (BS.still s.every m (s.all.take j)).length = K at *
      go_upto_region 6 with fail
      refine wp_region_qt (by kernel_rfl) (by kernel_rfl) ?_
      repeat (first | go_big_quiet_step ((go_at_call 100; exact Qt.callN (HS1.out _))) | quiet_step ((go_at_call 100; exact Qt.callN (HS1.out _))))
      refine wpQuiet_nil ?_
      intro w2 q2
      have B2 : Hid (Below w1.heap.size w1 w2) := Lib.hid (B.out.trans q2.below)
      clear B q2 hx t0 t1 t2 t3 ft0 ft1 ft2 ft3 HT2
      by_cases hin : m - x < s.every
      · have hind : decide (m - x < s.every) = true := decide_eq_true hin
        have HT : Hid ((BS.still s.every m (s.all.take (j + 1))).length = K + 1) := Lib.hid (by rw [hst.out, if_pos hin, List.length_append, hK]; rfl)
        go_wp2_with fail
        go_roundw
        case rel => exact ⟨j + 1, hlt, by go_num, by rw [HT.out]; go_num, B2⟩
        case measure => simp [intOf] <;> omega
      · have hind : decide (m - x < s.every) = false := decide_eq_false hin
        have HT : Hid ((BS.still s.every m (s.all.take (j + 1))).length = K) := Lib.hid (by rw [hst.out, if_neg hin, List.append_nil, hK])
        go_wp2_with fail
        go_roundw
        case rel => exact ⟨j + 1, hlt, by go_num, by rw [HT.out], B2⟩
        case measure => simp [intOf] <;> omega
    · obtain rfl : j = s.all.length := by omega
      have hNN : (BS.still s.every m (s.all.take s.all.length)).length = N := by rw [List.take_length]; exact HN.out.symm
      rw [hNN]
      clear hNN
      have C4 := Lib.hid ((HC.out.chg (Chg.refl (fun _ => False) w1) (fun _ _ _ h => h) (H := Grow F w) (fun k _ h => .inl h)).below B.out)
      have D4 := Lib.hid (D1.out.thenBelow B.out (by omega))
      by_cases hfull : s.most ≤ N
      · have hfd : decide ((s.most : Int) ≤ (N : Int)) = true := decide_eq_true (by omega)
        have hfd' : decide (s.most ≤ N) = true := decide_eq_true hfull
        have e2 := ASK.out
        rw [if_pos hfull] at e2
        go_wp2
        go_ret
        rw [e2]
        exact ⟨rfl, ⟨by have := GA.out; rw [e2] at this; exact this, A, c, C4.out⟩, D4.out⟩
      · have hfd : decide ((s.most : Int) ≤ (N : Int)) = false := decide_eq_false (by omega)
        have hfd' : decide (s.most ≤ N) = false := decide_eq_false hfull
        have e2 := ASK.out
        rw [if_neg hfull] at e2
        have hgrow : Hid (∀ (v : World), w.heap.size ≤ v.heap.size → ∀ j, v.heap.size ≤ j → Grow F w j) := Lib.hid (fun v h j hj => .inr (by omega))
        have hw4 := D4.out.size
        have hq4 := lt_of_block HT2.out
        go_upto_region 10 with fail
        go_cut [] (fun wx => ∃ (A5 : Option Addr) (c5 : Nat), Hid (BuC wx (Grow F w) q 179 #[.int .i64 s.most, .int .u64 s.every, .int .u64 m, .slice A5 (s.all ++ [m]).length c5] A5 c5 (s.all ++ [m])) ∧ Hid (Chg F w wx))
        case first =>
          go_region_law
            ((refine step_append_rd _ (by rfl) (.tmp 54) (.tmp 59) 61 (by rfl) 0 27 i0 _ 1 8 Tryz.underlying61 hi0 hz0 hz1 hz2 rfl (by decide) _ s.all.length (Us s.all) (by rfl) ((C4.out.o.alloc _).drew)
                  _ 1 1 [.int .u64 m] (by rfl) ((Rd.lit wr 1 #[.int .u64 m] 27 1 _ rfl (by simp) (by unfold maxLen; omega)).drew) (by simp [Value.oneCell'])
                  (by unfold maxLen; omega) (by omega) (by simp) ?_; intro v5 w5 ho5 hg5 hv5
              obtain ⟨A5, c5, ev5, hA5⟩ := own_slice ho5
              subst ev5
              have HV5 := Lib.hid hv5
              have HO5 := Lib.hid ho5
              have HG5 := Lib.hid hg5
              have B5 : Hid (Below wr.heap.size wr (wr.alloc (.cells #[.int .u64 m] 27)).drew) := Lib.hid ((box_below wr _).drew)
              have S5 := Lib.hid (C4.out.below B5.out)
              have T5 : Hid (w5.heap[q]? = some (.cells #[.int .i64 s.most, .int .u64 s.every, .int .u64 m, .slice A s.all.length c] 179 (0, 0))) := Lib.hid ((hg5.block q (lt_of_block S5.out.t) (fun e => (C4.out.fo q e.symm).2 rfl)).trans S5.out.t)
              clear ho5 hg5 hv5 hA5
              have y1 := cell_of_row w5 q 3 _ _ _ T5.out
              have fy1 := frozen_of_row w5 q 3 _ _ T5.out))
          all_goals
            have e1 : (s.all ++ [m]).length = s.all.length + 1 := by simp
            have HO := HO5.out
            have HV := HV5.out
            rw [← e1, show Us s.all ++ [Value.int .u64 m] = Us (s.all ++ [m]) by simp [Us]] at HO
            rw [← e1] at HV
            have K5 := Lib.hid (C4.out.app B5.out HG5.out HO HV (fun j hj => hgrow.out wr hw4 j hj))
            have D5 := Lib.hid (((D4.out.thenBelow B5.out hw4).grown HG5.out (fun g e => (C4.out.fo g e).1)).setCell (p := ⟨q, 3, none⟩) (.inl hFq) (.slice A5 (s.all ++ [m]).length c5))
            rw [e1] at K5 D5
            clear HO HV
            go_wp2_with fail
            go_meet
            exact ⟨A5, c5, Lib.hid (by rw [e1]; exact K5.out), D5⟩
        case rest =>
        obtain ⟨A5, c5, S5, D5⟩ := hcut
        generalize wc = w5 at *
        clear t0 t1 t2 t3 ft0 ft1 ft2 ft3 C4 D4
        go_wp2
        go_ret
        rw [e2]
        exact ⟨rfl, ⟨by have := GA.out; rw [e2] at this; exact this, A5, c5, S5.out⟩, D5.out⟩

end Go.Proofs.YtpfmhkkglaghgaaGreat
