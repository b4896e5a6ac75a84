/-
  Part of the proof of EngineNumbers.
-/
import Derived.Test.YtpkbimmhimgamaaGreatPAP
import Derived.Test.YtpkbimmhimgamaaGreatPAQ
import Derived.Laws.MakeOwn
import Derived.Deep.RegionHeld3
import Derived.Deep.DeepCutAuto
namespace Go.Proofs.YtpkbimmhimgamaaGreat
set_option linter.unusedSimpArgs false
set_option linter.unusedVariables false
set_option linter.unnecessarySimpa false
open Go.RowKit
/-- A block of bytes of the call's own. -/
structure ByB (w : World) (g : Nat) (l : List Int) (W : World) : Prop where
  t : W.heap[g]? = some (.cells (U8 l).toArray 5 (0, 0))
  bel : Below w.heap.size w W
  ge : w.heap.size ≤ g
theorem ByB.made (w : World) (m : Nat) : ByB w w.heap.size (List.replicate m 0) (w.alloc (.cells (madeCells #[.int .u8 0] m) 5)) := by
  have e : madeCells #[.int .u8 0] m = (U8 (List.replicate m 0)).toArray := by
    apply Array.toList_inj.1
    rw [toList_madeCells_one]
    simp [U8]
  refine ⟨?_, box_below w _, Nat.le_refl _⟩
  rw [e]
  exact heap_alloc_new w _
theorem ByB.put {w W : World} {g : Nat} {l : List Int} (h : ByB w g l W) (k : Nat) (x : Int) : ByB w g (l.set k x) (W.setCell ⟨g, k, none⟩ (.int .u8 x)) := by
  refine ⟨?_, h.bel.setCell h.ge _, h.ge⟩
  have := heap_setCell_same W g k _ _ (.int .u8 x) h.t
  simpa [U8, List.map_set] using this
theorem ByB.cell {w W : World} {g : Nat} {l : List Int} (h : ByB w g l W) {k : Nat} {x : Int} (hk : l[k]? = some x) : W.cell? ⟨g, k, none⟩ = some (.int .u8 x) ∧ W.frozen? ⟨g, k, none⟩ = false := by
  refine ⟨(cell_of_row W g k _ _ _ h.t).trans ?_, frozen_of_row W g k _ _ h.t⟩
  simp [U8, hk]
theorem ByB.own {w W : World} {g : Nat} {l : List Int} (h : ByB w g l W) (hl : l.length ≤ maxLen) : W.ownsRow w.heap.size 5 1 (.slice (some ⟨g, 0, none⟩) l.length l.length) l.length (U8 l) :=
  ⟨by simp [U8], .inr ⟨g, l.length, (U8 l).toArray, rfl, h.ge, h.t, Nat.le_refl _, hl, by simp [U8], by rw [List.take_of_length_le (by simp [U8])]⟩⟩
/-- Bytes in blocks from B on. -/
structure Rd8 (w : World) (B : Nat) (A : Option Addr) (n c : Nat) (l : List Int) : Prop where
  rd : Rd w 1 A n c (U8 l)
  nw : ∀ b off, A = some ⟨b, off, none⟩ → 0 < n → B ≤ b
theorem Rd8.below {w w' : World} {B n c : Nat} {A : Option Addr} {l : List Int} (h : Rd8 w B A n c l) (q : Below w.heap.size w w') : Rd8 w' B A n c l := ⟨h.rd.below q, h.nw⟩
theorem Rd8.of_own {w : World} {base B : Nat} {e : TypeId} {n c : Nat} {A : Option Addr} {l : List Int} (h : w.ownsRow base e 1 (.slice A n c) n (U8 l)) (hB : B ≤ base) : Rd8 w B A n c l := by
  refine ⟨Rd.of_own h, fun b off e hn => ?_⟩
  obtain ⟨A', c', e', h'⟩ := own_slice h
  injection e' with e1 e2 e3
  obtain ⟨g, eg, hg⟩ := h' hn
  rw [e1, eg] at e
  injection e with e
  injection e with e
  omega
theorem ByB.rdn {w W : World} {g : Nat} {l : List Int} (h : ByB w g l W) (hl : l.length ≤ maxLen) : Rd8 W w.heap.size (some ⟨g, 0, none⟩) l.length l.length l :=
  ⟨Rd.of_own (h.own hl), fun b off e _ => by injection e with e; injection e with e; have := h.ge; omega⟩

theorem fill_back (n : Int) (k j : Nat) (h : j < k) : (List.replicate (k - j) (0 : Int) ++ bytesN j n).set (k - 1 - j) (byteN n j) = List.replicate (k - (j + 1)) 0 ++ bytesN (j + 1) n := by
  obtain ⟨m, rfl⟩ : ∃ m, k = m + 1 + j := ⟨k - 1 - j, by omega⟩
  have e1 : m + 1 + j - j = m + 1 := by omega
  have e2 : m + 1 + j - 1 - j = m := by omega
  have e3 : m + 1 + j - (j + 1) = m := by omega
  rw [e1, e2, e3, bytesN_succ, List.replicate_succ', List.append_assoc]
  rw [List.set_append_right _ _ (by simp)]
  simp

set_option maxHeartbeats 2000000 in
set_option maxRecDepth 100000 in
theorem oct_put (n : Int) (w : World) (h0 : 0 ≤ n) (h1 : n ≤ 4611686018427387903) :
    Calls Tryz.prog 100 #[.int .u64 n] w fun e w' => ∃ A c, e = .returned (.tuple #[.slice A (putN n).length c, .bool true]) ∧ Rd8 w' w.heap.size A (putN n).length c (putN n) ∧ Below w.heap.size w w' := by
  obtain ⟨iB, hiB, bz0, bz1, bz2⟩ := info_parts infoByte
  have hn : isU64 n := ⟨h0, by omega⟩
  have C0 := Lib.hid (octSize_any n w hn)
  have hlen := putN_len n h0 h1
  have htop := top_lt n h0 (sizeN n) rfl (size_pow n h0 h1).2
  obtain ⟨k, hk⟩ : ∃ k, k = sizeN n := ⟨_, rfl⟩
  have hk' : k = 1 ∨ k = 2 ∨ k = 4 ∨ k = 8 := by have := sizeN_cases n; omega
  have hP : putN n = (bytesN k n).set 0 (byteN n (k - 1) + codeN k) := by
    unfold putN
    rw [← hk]
    obtain ⟨k', rfl⟩ : ∃ k', k = k' + 1 := ⟨k - 1, by omega⟩
    rw [bytesN_succ]
    simp
  rw [← hk] at hlen htop C0
  have HL := Lib.hid hlen
  have HP := Lib.hid htop
  have HQ := Lib.hid hP
  have hkne : ((k : Int) == 0) = false := by simp; omega
  have hk8 : k ≤ 8 ∧ 1 ≤ k := by omega
  have MK := run_make (P := Tryz.prog) w 36 5 iB _ Tryz.underlying36 hiB bz0 .i64 .i64 k k (by omega) (Int.le_refl _) (by rw [bz2]; omega) (by omega)
  simp only [Int.toNat_natCast, bz1, Nat.mul_one] at MK
  have F0 : Hid (ByB w w.heap.size (List.replicate (k - 0) 0 ++ bytesN 0 n) (w.alloc (.cells (madeCells #[.int .u8 0] k) 5))) := Lib.hid (by simpa [bytesN] using ByB.made w k)
  clear hk hlen htop hP
  go_enter Tryz.func100, Tryz.ntmps100
  go_wp2_with fail
  refine C0.out.mono ?_
  rintro e w1 ⟨rfl, rfl⟩
  clear C0
  go_wp2_with fail
  go_loopw [15] (fun i wr => ∃ j : Nat, j ≤ k ∧ i = .int .i64 j ∧ Hid (ByB w w.heap.size (List.replicate (k - j) 0 ++ bytesN j n) wr)) (fun i _ => k - (intOf i).toNat)
  case atStart => exact ⟨0, Nat.zero_le _, rfl, F0⟩
  case round =>
    obtain ⟨j, hj, rfl, FL⟩ := hrel
    by_cases hlt : j < k
    · obtain ⟨m, hm⟩ : ∃ m : Nat, m = k - 1 - j := ⟨_, rfl⟩
      have hmi : (k : Int) - 1 - (j : Int) = m := by omega
      have hmk : (m : Int) < k := by omega
      have hm0 : (0 : Int) ≤ m := by omega
      have FN : Hid (ByB w w.heap.size (List.replicate (k - (j + 1)) 0 ++ bytesN (j + 1) n) (wr.setCell ⟨w.heap.size, m, none⟩ (.int .u8 (byteN n j)))) := Lib.hid (by
        have := FL.out.put m (byteN n j)
        rw [hm, fill_back n k j hlt] at this
        rw [hm]
        exact this)
      obtain ⟨y, hy⟩ : ∃ y, (List.replicate (k - j) (0 : Int) ++ bytesN j n)[m]? = some y := ⟨_, List.getElem?_eq_getElem (by simp [bytesN]; omega)⟩
      obtain ⟨q1, q2⟩ := FL.out.cell hy
      have hb := byteN_u8 n j
      have hr := byteN_rng n j
      have ht8 : (8 * (j : Int)).toNat = 8 * j := by omega
      have w8 : IntKind.u64.wrap (8 * (j : Int)) = 8 * (j : Int) := IntWalk.u64_in _ (by omega)
      have j8 : j ≤ 7 := by omega
      have hgl := lt_of_block FL.out.t
      generalize byteN n j = z at *
      clear hm hy
      go_wp2
      go_roundw
      case rel => exact ⟨j + 1, by omega, by go_num, FN⟩
      case measure => simp [intOf]; omega
    · obtain rfl : j = k := by omega
      have FE : Hid (ByB w w.heap.size (bytesN j n) wr) := Lib.hid (by simpa using FL.out)
      have hb0 : (bytesN j n)[0]? = some (byteN n (j - 1)) := by
        obtain ⟨k', rfl⟩ : ∃ k', j = k' + 1 := ⟨j - 1, by omega⟩
        rw [bytesN_succ]; simp
      obtain ⟨q1, q2⟩ := FE.out.cell hb0
      have hgl := lt_of_block FE.out.t
      obtain ⟨t0, t1⟩ := HP.out
      have FF : Hid (ByB w w.heap.size (putN n) (wr.setCell ⟨w.heap.size, 0, none⟩ (.int .u8 (byteN n (j - 1) + codeN j)))) := Lib.hid (by rw [HQ.out]; exact FE.out.put 0 _)
      have hF1 : j = 1 → Hid (ByB w w.heap.size (putN n) wr) := fun e => Lib.hid (by
        subst e
        have : putN n = bytesN 1 n := by rw [HQ.out]; simp [codeN, bytesN]
        rw [this]
        exact FE.out)
      have o64 := or64 (byteN n (j - 1)) t0 t1
      have o128 := or128 (byteN n (j - 1)) t0 t1
      have o192 := or192 (byteN n (j - 1)) t0 t1
      generalize byteN n (j - 1) = z at *
      clear FL FE hb0 F0 MK
      have HF1 := Lib.hid hF1
      clear hF1
      have hm8 : (putN n).length ≤ maxLen := by have := HL.out; unfold maxLen; omega
      rcases hk' with rfl | rfl | rfl | rfl
      · have FF := HF1.out rfl
        go_wp2
        go_ret2
        exact ⟨_, _, by rw [HL.out]; rfl, FF.out.rdn hm8, FF.out.bel⟩
      all_goals
        go_wp2
        go_ret2
        exact ⟨_, _, by rw [HL.out]; rfl, FF.out.rdn hm8, FF.out.bel⟩

theorem fill_front (x : Int) (j : Nat) (h : j < 8) : ((eightN x).take j ++ List.replicate (8 - j) (0 : Int)).set j (byteN x (7 - j)) = (eightN x).take (j + 1) ++ List.replicate (8 - (j + 1)) 0 := by
  have hl : ((eightN x).take j).length = j := by simp [eightN, bytesN]; omega
  obtain ⟨m, hm⟩ : ∃ m, 8 - j = m + 1 := ⟨7 - j, by omega⟩
  have e : 8 - (j + 1) = m := by omega
  rw [take_snoc8 (eightN_get x h), hm, e, List.replicate_succ, List.set_append_right _ _ (by omega), hl, Nat.sub_self]
  simp

set_option maxHeartbeats 1000000 in
set_option maxRecDepth 100000 in
theorem oct_eight (x : Int) (w : World) (hx : isU64 x) :
    Calls Tryz.prog 205 #[.int .u64 x] w fun e w' => ∃ A c, e = .returned (.slice A (eightN x).length c) ∧ Rd8 w' w.heap.size A (eightN x).length c (eightN x) ∧ Below w.heap.size w w' := by
  obtain ⟨iB, hiB, bz0, bz1, bz2⟩ := info_parts infoByte
  have F0 : Hid (ByB w w.heap.size ((eightN x).take 0 ++ List.replicate (8 - 0) 0) (w.alloc (.cells (madeCells #[.int .u8 0] 8) 5))) := Lib.hid (by simpa using ByB.made w 8)
  have MK0 := run_make (P := Tryz.prog) w 36 5 iB _ Tryz.underlying36 hiB bz0 .i64 .i64 (8 : Nat) (8 : Nat) (by omega) (Int.le_refl _) (by rw [bz2]; omega) (by omega)
  simp only [bz1, Nat.mul_one] at MK0
  have MK : Sem.run Tryz.prog (Instr.makeSlice 36 (.int .i64 8) (.int .i64 8)) w = .ok (.slice (some ⟨w.heap.size, 0, none⟩) 8 8) (w.alloc (.cells (madeCells #[.int .u8 0] 8) 5)) := MK0
  clear MK0
  obtain ⟨x0, x1⟩ := hx
  have hl8 : Hid ((eightN x).length = 8) := Lib.hid (by simp [eightN, bytesN])
  go_enter Tryz.func205, Tryz.ntmps205
  go_wp2_with fail
  go_loopw [8] (fun i wr => ∃ j : Nat, j ≤ 8 ∧ i = .int .i64 j ∧ Hid (ByB w w.heap.size ((eightN x).take j ++ List.replicate (8 - j) 0) wr)) (fun i _ => 8 - (intOf i).toNat)
  case atStart => exact ⟨0, Nat.zero_le _, rfl, F0⟩
  case round =>
    obtain ⟨j, hj, rfl, FL⟩ := hrel
    by_cases hlt : j < 8
    · obtain ⟨m, hm⟩ : ∃ m : Nat, m = 7 - j := ⟨_, rfl⟩
      have hmi : (56 : Int) - 8 * (j : Int) = 8 * (m : Int) := by omega
      have FN : Hid (ByB w w.heap.size ((eightN x).take (j + 1) ++ List.replicate (8 - (j + 1)) 0) (wr.setCell ⟨w.heap.size, j, none⟩ (.int .u8 (byteN x m)))) := Lib.hid (by
        have := FL.out.put j (byteN x m)
        rw [hm, fill_front x j hlt] at this
        rw [hm]
        exact this)
      obtain ⟨y, hy⟩ : ∃ y, ((eightN x).take j ++ List.replicate (8 - j) (0 : Int))[j]? = some y := ⟨_, List.getElem?_eq_getElem (by simp [eightN, bytesN]; omega)⟩
      obtain ⟨q1, q2⟩ := FL.out.cell hy
      have hb := byteN_u8 x m
      have hr := byteN_rng x m
      have ht8 : (8 * (m : Int)).toNat = 8 * m := by omega
      have w8 : IntKind.u64.wrap (8 * (m : Int)) = 8 * (m : Int) := IntWalk.u64_in _ (by omega)
      have m8 : m ≤ 7 := by omega
      have i1 : (0 : Int) ≤ j := by omega
      have i2 : (j : Int) < 8 := by omega
      have hgl := lt_of_block FL.out.t
      generalize byteN x m = z at *
      clear hm hy
      go_wp2
      go_roundw
      case rel => exact ⟨j + 1, by omega, by go_num, FN⟩
      case measure => simp [intOf]; omega
    · obtain rfl : j = 8 := by omega
      have FE : Hid (ByB w w.heap.size (eightN x) wr) := Lib.hid (by
        have := FL.out
        rw [List.take_of_length_le (by simp [eightN, bytesN])] at this
        simpa using this)
      clear FL F0 MK
      go_wp2
      go_ret
      exact ⟨_, _, by rw [hl8.out]; rfl, FE.out.rdn (by rw [hl8.out]; unfold maxLen; omega), FE.out.bel⟩

theorem own_bel {w w' : World} {base : Nat} {e : TypeId} {size n : Nat} {v : Value} {xs : List Value} (h : w.ownsRow base e size v n xs) (b : Below w.heap.size w w') : w'.ownsRow base e size v n xs := own_chg h (chg_below b (F := fun _ => False)) (fun _ _ h => h)
theorem Rd8.grown {w w' : World} {B n c : Nat} {A : Option Addr} {l : List Int} (h : Rd8 w B A n c l) {row : Option Nat} (hg : w.grownBy w' row) (hr : ∀ k, row = some k → k < B) : Rd8 w' B A n c l :=
  ⟨h.rd.grown hg (fun b off e hn e' => by have := h.nw b off e hn; have := hr b e'; omega), h.nw⟩
/-- Where Encode stands: its row, what the calls gave, its argument's box. -/
structure EnSt (w : World) (hx : Nat) (bx : Obj) (W0 W : World) (v : Value) (D : List Int) (rs : List (Option Addr × Nat × List Int)) : Prop where
  own : W.ownsRow w.heap.size 5 1 v D.length (U8 D)
  bel : Below w.heap.size w W
  box : W.heap[hx]? = some bx
  chg : Chg (fun k => w.heap.size ≤ k ∧ k ≠ hx) W0 W
  nbx : v.ownBlock ≠ some hx
  rs : ∀ r ∈ rs, Rd W 1 r.1 r.2.2.length r.2.1 (U8 r.2.2) ∧ ∀ b off, r.1 = some ⟨b, off, none⟩ → 0 < r.2.2.length → v.ownBlock ≠ some b
theorem EnSt.drew {w W0 W : World} {hx : Nat} {bx : Obj} {v : Value} {D : List Int} {rs : List (Option Addr × Nat × List Int)} (h : EnSt w hx bx W0 W v D rs) : EnSt w hx bx W0 W.drew v D rs :=
  ⟨h.own, h.bel.drew, h.box, h.chg.drew, h.nbx, fun r hr => ⟨(h.rs r hr).1.drew, (h.rs r hr).2⟩⟩
theorem EnSt.call {w W0 W W' : World} {hx : Nat} {bx : Obj} {v : Value} {D : List Int} {rs : List (Option Addr × Nat × List Int)} (h : EnSt w hx bx W0 W v D rs) (b : Below W.heap.size W W') {A : Option Addr} {c : Nat} {l : List Int} (r : Rd8 W' W.heap.size A l.length c l) : EnSt w hx bx W0 W' v D (rs ++ [(A, c, l)]) := by
  refine ⟨own_bel h.own b, h.bel.trans (b.mono h.bel.size), (b.block _ (lt_of_block h.box)).trans h.box, h.chg.thenBelow b h.chg.size, h.nbx, fun q hq => ?_⟩
  rcases List.mem_append.1 hq with hq | hq
  · exact ⟨(h.rs q hq).1.below b, (h.rs q hq).2⟩
  · obtain rfl := List.mem_singleton.1 hq
    exact ⟨r.rd, fun k off e hn e' => by have := (h.own.lt k e').2; have := r.nw k off e hn; omega⟩
theorem EnSt.app {w W0 W W' : World} {hx : Nat} {bx : Obj} {v v' : Value} {D l : List Int} {rs : List (Option Addr × Nat × List Int)} (h : EnSt w hx bx W0 W v D rs) (o : W'.ownsRow w.heap.size 5 1 v' (D.length + l.length) (U8 D ++ U8 l)) (g : W.grownBy W' v.ownBlock) (k : v'.ownBlock = v.ownBlock ∨ v'.ownBlock = some W.heap.size) : EnSt w hx bx W0 W' v' (D ++ l) rs := by
  have hb := lt_of_block h.box
  refine ⟨by rw [U8_append, List.length_append]; exact o, h.bel.grown g h.bel.size (fun j e => (h.own.lt j e).1), (g.block _ hb (fun e => h.nbx e.symm)).trans h.box, h.chg.grown g (fun j e => .inl ⟨(h.own.lt j e).1, fun e' => h.nbx (by rw [e, e'])⟩), ?_, fun q hq => ⟨(h.rs q hq).1.grown g (fun b off e hn e' => (h.rs q hq).2 b off e hn e'), fun b off e hn => ?_⟩⟩
  · rcases k with k | k
    · rw [k]; exact h.nbx
    · rw [k]; intro e; injection e with e; omega
  · rcases k with k | k
    · rw [k]; exact (h.rs q hq).2 b off e hn
    · rw [k]
      intro e'
      injection e' with e'
      have := (h.rs q hq).1.lt (by omega) hn b off e
      omega

theorem EnSt.base {w W0 W : World} {hx : Nat} {bx : Obj} {v : Value} {D : List Int} {rs : List (Option Addr × Nat × List Int)} (h : EnSt w hx bx W0 W v D rs) : EnSt w hx bx W W v D rs := ⟨h.own, h.bel, h.box, Chg.refl _ _, h.nbx, h.rs⟩

end Go.Proofs.YtpkbimmhimgamaaGreat
