/-
  Acknowledgments as bytes, by the program: octet.Put, octet.Eight, ack.row, ack.Encode.
-/
import Derived.Test.YtkedfipeebjcjaaOct7
import Derived.Test.YtkedfipeebjcjaaSpanN
import Derived.Laws.MakeOwn
import Derived.Deep.RegionHeld3
import Derived.Deep.DeepCutAuto
namespace Go.Proofs.Ytkedfipeebjcjaa
set_option linter.unusedSimpArgs false
set_option linter.unusedVariables false
set_option linter.unnecessarySimpa false
open Go.RowKit

/-- A block of bytes of the call's own. -/
structure ByB (w : World) (g : Nat) (l : List Int) (W : World) : Prop where
  t : W.heap[g]? = some (.cells (U8 l).toArray 5 (0, 0))
  bel : Below w.heap.size w W
  ge : w.heap.size ≤ g
theorem ByB.made (w : World) (m : Nat) : ByB w w.heap.size (List.replicate m 0) (w.alloc (.cells (madeCells #[.int .u8 0] m) 5)) := by
  have e : madeCells #[.int .u8 0] m = (U8 (List.replicate m 0)).toArray := by
    apply Array.toList_inj.1
    rw [toList_madeCells_one]
    simp [U8]
  refine ⟨?_, box_below w _, Nat.le_refl _⟩
  rw [e]
  exact heap_alloc_new w _
theorem ByB.put {w W : World} {g : Nat} {l : List Int} (h : ByB w g l W) (k : Nat) (x : Int) : ByB w g (l.set k x) (W.setCell ⟨g, k, none⟩ (.int .u8 x)) := by
  refine ⟨?_, h.bel.setCell h.ge _, h.ge⟩
  have := heap_setCell_same W g k _ _ (.int .u8 x) h.t
  simpa [U8, List.map_set] using this
theorem ByB.cell {w W : World} {g : Nat} {l : List Int} (h : ByB w g l W) {k : Nat} {x : Int} (hk : l[k]? = some x) : W.cell? ⟨g, k, none⟩ = some (.int .u8 x) ∧ W.frozen? ⟨g, k, none⟩ = false := by
  refine ⟨(cell_of_row W g k _ _ _ h.t).trans ?_, frozen_of_row W g k _ _ h.t⟩
  simp [U8, hk]
theorem ByB.own {w W : World} {g : Nat} {l : List Int} (h : ByB w g l W) (hl : l.length ≤ maxLen) : W.ownsRow w.heap.size 5 1 (.slice (some ⟨g, 0, none⟩) l.length l.length) l.length (U8 l) :=
  ⟨by simp [U8], .inr ⟨g, l.length, (U8 l).toArray, rfl, h.ge, h.t, Nat.le_refl _, hl, by simp [U8], by rw [List.take_of_length_le (by simp [U8])]⟩⟩
/-- Bytes in blocks from B on. -/
structure Rd8 (w : World) (B : Nat) (A : Option Addr) (n c : Nat) (l : List Int) : Prop where
  rd : Rd w 1 A n c (U8 l)
  nw : ∀ b off, A = some ⟨b, off, none⟩ → 0 < n → B ≤ b
theorem Rd8.below {w w' : World} {B n c : Nat} {A : Option Addr} {l : List Int} (h : Rd8 w B A n c l) (q : Below w.heap.size w w') : Rd8 w' B A n c l := ⟨h.rd.below q, h.nw⟩
theorem Rd8.of_own {w : World} {base B : Nat} {e : TypeId} {n c : Nat} {A : Option Addr} {l : List Int} (h : w.ownsRow base e 1 (.slice A n c) n (U8 l)) (hB : B ≤ base) : Rd8 w B A n c l := by
  refine ⟨Rd.of_own h, fun b off e hn => ?_⟩
  obtain ⟨A', c', e', h'⟩ := own_slice h
  injection e' with e1 e2 e3
  obtain ⟨g, eg, hg⟩ := h' hn
  rw [e1, eg] at e
  injection e with e
  injection e with e
  omega
theorem ByB.rdn {w W : World} {g : Nat} {l : List Int} (h : ByB w g l W) (hl : l.length ≤ maxLen) : Rd8 W w.heap.size (some ⟨g, 0, none⟩) l.length l.length l :=
  ⟨Rd.of_own (h.own hl), fun b off e _ => by injection e with e; injection e with e; have := h.ge; omega⟩

theorem fill_back (n : Int) (k j : Nat) (h : j < k) : (List.replicate (k - j) (0 : Int) ++ bytesN j n).set (k - 1 - j) (byteN n j) = List.replicate (k - (j + 1)) 0 ++ bytesN (j + 1) n := by
  obtain ⟨m, rfl⟩ : ∃ m, k = m + 1 + j := ⟨k - 1 - j, by omega⟩
  have e1 : m + 1 + j - j = m + 1 := by omega
  have e2 : m + 1 + j - 1 - j = m := by omega
  have e3 : m + 1 + j - (j + 1) = m := by omega
  rw [e1, e2, e3, bytesN_succ, List.replicate_succ', List.append_assoc]
  rw [List.set_append_right _ _ (by simp)]
  simp

set_option maxHeartbeats 2000000 in
set_option maxRecDepth 100000 in
theorem oct_put (n : Int) (w : World) (h0 : 0 ≤ n) (h1 : n ≤ 4611686018427387903) :
    Calls Try.prog 90 #[.int .u64 n] w fun e w' => ∃ A c, e = .returned (.tuple #[.slice A (putN n).length c, .bool true]) ∧ Rd8 w' w.heap.size A (putN n).length c (putN n) ∧ Below w.heap.size w w' := by
  obtain ⟨iB, hiB, bz0, bz1, bz2⟩ := info_parts infoByte
  have hn : isU64 n := ⟨h0, by omega⟩
  have C0 := Lib.hid (octSize_any n w hn)
  have hlen := putN_len n h0 h1
  have htop := top_lt n h0 (sizeN n) rfl (size_pow n h0 h1).2
  obtain ⟨k, hk⟩ : ∃ k, k = sizeN n := ⟨_, rfl⟩
  have hk' : k = 1 ∨ k = 2 ∨ k = 4 ∨ k = 8 := by have := sizeN_cases n; omega
  have hP : putN n = (bytesN k n).set 0 (byteN n (k - 1) + codeN k) := by
    unfold putN
    rw [← hk]
    obtain ⟨k', rfl⟩ : ∃ k', k = k' + 1 := ⟨k - 1, by omega⟩
    rw [bytesN_succ]
    simp
  rw [← hk] at hlen htop C0
  have HL := Lib.hid hlen
  have HP := Lib.hid htop
  have HQ := Lib.hid hP
  have hkne : ((k : Int) == 0) = false := by simp; omega
  have hk8 : k ≤ 8 ∧ 1 ≤ k := by omega
  have MK := run_make (P := Try.prog) w 22 5 iB _ Try.underlying22 hiB bz0 .i64 .i64 k k (by omega) (Int.le_refl _) (by rw [bz2]; omega) (by omega)
  simp only [Int.toNat_natCast, bz1, Nat.mul_one] at MK
  have F0 : Hid (ByB w w.heap.size (List.replicate (k - 0) 0 ++ bytesN 0 n) (w.alloc (.cells (madeCells #[.int .u8 0] k) 5))) := Lib.hid (by simpa [bytesN] using ByB.made w k)
  clear hk hlen htop hP
  go_enter Try.func90, Try.ntmps90
  go_wp2_with fail
  refine C0.out.mono ?_
  rintro e w1 ⟨rfl, rfl⟩
  clear C0
  go_wp2_with fail
  go_loopw [15] (fun i wr => ∃ j : Nat, j ≤ k ∧ i = .int .i64 j ∧ Hid (ByB w w.heap.size (List.replicate (k - j) 0 ++ bytesN j n) wr)) (fun i _ => k - (intOf i).toNat)
  case atStart => exact ⟨0, Nat.zero_le _, rfl, F0⟩
  case round =>
    obtain ⟨j, hj, rfl, FL⟩ := hrel
    by_cases hlt : j < k
    · obtain ⟨m, hm⟩ : ∃ m : Nat, m = k - 1 - j := ⟨_, rfl⟩
      have hmi : (k : Int) - 1 - (j : Int) = m := by omega
      have hmk : (m : Int) < k := by omega
      have hm0 : (0 : Int) ≤ m := by omega
      have FN : Hid (ByB w w.heap.size (List.replicate (k - (j + 1)) 0 ++ bytesN (j + 1) n) (wr.setCell ⟨w.heap.size, m, none⟩ (.int .u8 (byteN n j)))) := Lib.hid (by
        have := FL.out.put m (byteN n j)
        rw [hm, fill_back n k j hlt] at this
        rw [hm]
        exact this)
      obtain ⟨y, hy⟩ : ∃ y, (List.replicate (k - j) (0 : Int) ++ bytesN j n)[m]? = some y := ⟨_, List.getElem?_eq_getElem (by simp [bytesN]; omega)⟩
      obtain ⟨q1, q2⟩ := FL.out.cell hy
      have hb := byteN_u8 n j
      have hr := byteN_rng n j
      have ht8 : (8 * (j : Int)).toNat = 8 * j := by omega
      have w8 : IntKind.u64.wrap (8 * (j : Int)) = 8 * (j : Int) := IntWalk.u64_in _ (by omega)
      have j8 : j ≤ 7 := by omega
      have hgl := lt_of_block FL.out.t
      generalize byteN n j = z at *
      clear hm hy
      go_wp2
      go_roundw
      case rel => exact ⟨j + 1, by omega, by go_num, FN⟩
      case measure => simp [intOf]; omega
    · obtain rfl : j = k := by omega
      have FE : Hid (ByB w w.heap.size (bytesN j n) wr) := Lib.hid (by simpa using FL.out)
      have hb0 : (bytesN j n)[0]? = some (byteN n (j - 1)) := by
        obtain ⟨k', rfl⟩ : ∃ k', j = k' + 1 := ⟨j - 1, by omega⟩
        rw [bytesN_succ]; simp
      obtain ⟨q1, q2⟩ := FE.out.cell hb0
      have hgl := lt_of_block FE.out.t
      obtain ⟨t0, t1⟩ := HP.out
      have FF : Hid (ByB w w.heap.size (putN n) (wr.setCell ⟨w.heap.size, 0, none⟩ (.int .u8 (byteN n (j - 1) + codeN j)))) := Lib.hid (by rw [HQ.out]; exact FE.out.put 0 _)
      have hF1 : j = 1 → Hid (ByB w w.heap.size (putN n) wr) := fun e => Lib.hid (by
        subst e
        have : putN n = bytesN 1 n := by rw [HQ.out]; simp [codeN, bytesN]
        rw [this]
        exact FE.out)
      have o64 := or64 (byteN n (j - 1)) t0 t1
      have o128 := or128 (byteN n (j - 1)) t0 t1
      have o192 := or192 (byteN n (j - 1)) t0 t1
      generalize byteN n (j - 1) = z at *
      clear FL FE hb0 F0 MK
      have HF1 := Lib.hid hF1
      clear hF1
      have hm8 : (putN n).length ≤ maxLen := by have := HL.out; unfold maxLen; omega
      rcases hk' with rfl | rfl | rfl | rfl
      · have FF := HF1.out rfl
        go_wp2
        go_ret2
        exact ⟨_, _, by rw [HL.out]; rfl, FF.out.rdn hm8, FF.out.bel⟩
      all_goals
        go_wp2
        go_ret2
        exact ⟨_, _, by rw [HL.out]; rfl, FF.out.rdn hm8, FF.out.bel⟩

theorem fill_front (x : Int) (j : Nat) (h : j < 8) : ((eightN x).take j ++ List.replicate (8 - j) (0 : Int)).set j (byteN x (7 - j)) = (eightN x).take (j + 1) ++ List.replicate (8 - (j + 1)) 0 := by
  have hl : ((eightN x).take j).length = j := by simp [eightN, bytesN]; omega
  obtain ⟨m, hm⟩ : ∃ m, 8 - j = m + 1 := ⟨7 - j, by omega⟩
  have e : 8 - (j + 1) = m := by omega
  rw [take_snoc8 (eightN_get x h), hm, e, List.replicate_succ, List.set_append_right _ _ (by omega), hl, Nat.sub_self]
  simp

set_option maxHeartbeats 1000000 in
set_option maxRecDepth 100000 in
theorem oct_eight (x : Int) (w : World) (hx : isU64 x) :
    Calls Try.prog 77 #[.int .u64 x] w fun e w' => ∃ A c, e = .returned (.slice A (eightN x).length c) ∧ Rd8 w' w.heap.size A (eightN x).length c (eightN x) ∧ Below w.heap.size w w' := by
  obtain ⟨iB, hiB, bz0, bz1, bz2⟩ := info_parts infoByte
  have F0 : Hid (ByB w w.heap.size ((eightN x).take 0 ++ List.replicate (8 - 0) 0) (w.alloc (.cells (madeCells #[.int .u8 0] 8) 5))) := Lib.hid (by simpa using ByB.made w 8)
  have MK0 := run_make (P := Try.prog) w 22 5 iB _ Try.underlying22 hiB bz0 .i64 .i64 (8 : Nat) (8 : Nat) (by omega) (Int.le_refl _) (by rw [bz2]; omega) (by omega)
  simp only [bz1, Nat.mul_one] at MK0
  have MK : Sem.run Try.prog (Instr.makeSlice 22 (.int .i64 8) (.int .i64 8)) w = .ok (.slice (some ⟨w.heap.size, 0, none⟩) 8 8) (w.alloc (.cells (madeCells #[.int .u8 0] 8) 5)) := MK0
  clear MK0
  obtain ⟨x0, x1⟩ := hx
  have hl8 : Hid ((eightN x).length = 8) := Lib.hid (by simp [eightN, bytesN])
  go_enter Try.func77, Try.ntmps77
  go_wp2_with fail
  go_loopw [8] (fun i wr => ∃ j : Nat, j ≤ 8 ∧ i = .int .i64 j ∧ Hid (ByB w w.heap.size ((eightN x).take j ++ List.replicate (8 - j) 0) wr)) (fun i _ => 8 - (intOf i).toNat)
  case atStart => exact ⟨0, Nat.zero_le _, rfl, F0⟩
  case round =>
    obtain ⟨j, hj, rfl, FL⟩ := hrel
    by_cases hlt : j < 8
    · obtain ⟨m, hm⟩ : ∃ m : Nat, m = 7 - j := ⟨_, rfl⟩
      have hmi : (56 : Int) - 8 * (j : Int) = 8 * (m : Int) := by omega
      have FN : Hid (ByB w w.heap.size ((eightN x).take (j + 1) ++ List.replicate (8 - (j + 1)) 0) (wr.setCell ⟨w.heap.size, j, none⟩ (.int .u8 (byteN x m)))) := Lib.hid (by
        have := FL.out.put j (byteN x m)
        rw [hm, fill_front x j hlt] at this
        rw [hm]
        exact this)
      obtain ⟨y, hy⟩ : ∃ y, ((eightN x).take j ++ List.replicate (8 - j) (0 : Int))[j]? = some y := ⟨_, List.getElem?_eq_getElem (by simp [eightN, bytesN]; omega)⟩
      obtain ⟨q1, q2⟩ := FL.out.cell hy
      have hb := byteN_u8 x m
      have hr := byteN_rng x m
      have ht8 : (8 * (m : Int)).toNat = 8 * m := by omega
      have w8 : IntKind.u64.wrap (8 * (m : Int)) = 8 * (m : Int) := IntWalk.u64_in _ (by omega)
      have m8 : m ≤ 7 := by omega
      have i1 : (0 : Int) ≤ j := by omega
      have i2 : (j : Int) < 8 := by omega
      have hgl := lt_of_block FL.out.t
      generalize byteN x m = z at *
      clear hm hy
      go_wp2
      go_roundw
      case rel => exact ⟨j + 1, by omega, by go_num, FN⟩
      case measure => simp [intOf]; omega
    · obtain rfl : j = 8 := by omega
      have FE : Hid (ByB w w.heap.size (eightN x) wr) := Lib.hid (by
        have := FL.out
        rw [List.take_of_length_le (by simp [eightN, bytesN])] at this
        simpa using this)
      clear FL F0 MK
      go_wp2
      go_ret
      exact ⟨_, _, by rw [hl8.out]; rfl, FE.out.rdn (by rw [hl8.out]; unfold maxLen; omega), FE.out.bel⟩

theorem own_bel {w w' : World} {base : Nat} {e : TypeId} {size n : Nat} {v : Value} {xs : List Value} (h : w.ownsRow base e size v n xs) (b : Below w.heap.size w w') : w'.ownsRow base e size v n xs := own_chg h (chg_below b (F := fun _ => False)) (fun _ _ h => h)
theorem Rd8.grown {w w' : World} {B n c : Nat} {A : Option Addr} {l : List Int} (h : Rd8 w B A n c l) {row : Option Nat} (hg : w.grownBy w' row) (hr : ∀ k, row = some k → k < B) : Rd8 w' B A n c l :=
  ⟨h.rd.grown hg (fun b off e hn e' => by have := h.nw b off e hn; have := hr b e'; omega), h.nw⟩
set_option maxHeartbeats 4000000 in
set_option maxRecDepth 100000 in
theorem ack_row (w : World) (A : Option Addr) (c : Nat) (l : List Sp) (hr : Rd w 2 A l.length c (Ss l)) (hg : Gd l) (h0 : ∀ s ∈ l, 0 ≤ s.1) (hl : l.length ≤ 32) :
    Calls Try.prog 76 #[.slice A l.length c] w fun e w' => ∃ A' c', e = .returned (.slice A' (rowBytes l).length c') ∧ Rd8 w' w.heap.size A' (rowBytes l).length c' (rowBytes l) ∧ Below w.heap.size w w' := by
  obtain ⟨i0, hi0, hz0, hz1, hz2⟩ := info_parts infoByte
  have HR := Lib.hid hr
  have HG := Lib.hid hg
  have H0 := Lib.hid h0
  have w8 : IntKind.u8.wrap (l.length : Int) = (l.length : Int) := IntWalk.u8_in _ (by omega)
  have O0 := Lib.hid (World.ownsRow_lit (base := w.heap.size) (e := 5) (size := 1) w #[.int .u8 l.length] 1 (Nat.le_refl _) (by unfold maxLen; omega) rfl)
  have B0 := Lib.hid (box_below w (.cells #[.int .u8 l.length] 5))
  clear hr hg h0
  go_enter Try.func76, Try.ntmps76
  go_wp2_with fail
  go_loopw [3, 4, 17] (fun a lv iv wr => ∃ (j : Nat) (low : Int) (D : List Int), j ≤ l.length ∧ iv = .int .i64 j ∧ lv = .int .u64 low ∧ 0 ≤ low ∧ low ≤ 4611686018427387905 ∧ Hid (∀ s ∈ l.drop j, low ≤ s.1) ∧ Hid (D ++ rowGo low (l.drop j) = rowBytes l) ∧ D.length ≤ 1 + 16 * j ∧ Hid (Below w.heap.size w wr) ∧ Hid (wr.ownsRow w.heap.size 5 1 a D.length (U8 D))) (fun _ _ i _ => l.length - (intOf i).toNat)
  case atStart => exact ⟨0, 0, [(l.length : Int)], by omega, by rfl, by rfl, by omega, by omega, Lib.hid (fun s hs => H0.out s (by simpa using hs)), Lib.hid (by simp [rowBytes]), by simp, B0, O0⟩
  case round =>
    obtain ⟨j, low, D, hj, rfl, rfl, hlow, hlow2, hlo, hD, hDl, B, O⟩ := hrel
    by_cases hlt : j < l.length
    · obtain ⟨bb, off, eA, d0, d1⟩ := (HR.out.below B.out).span hlt
      subst eA
      have hs := HG.out.1 l[j] (List.getElem_mem hlt)
      have hs0 : 0 ≤ l[j].1 := H0.out _ (List.getElem_mem hlt)
      have hs1 : l[j].1 ≤ l[j].2 := hs.1
      have hs2 : l[j].2 ≤ 4611686018427387903 := hs.2
      have hs3 : low ≤ l[j].1 := hlo.out _ (by rw [List.drop_eq_getElem_cons hlt]; exact List.mem_cons_self ..)
      have HD' : Hid ((D ++ putN (l[j].1 - low)) ++ putN (l[j].2 - l[j].1) ++ rowGo (l[j].2 + 2) (l.drop (j + 1)) = rowBytes l) := Lib.hid (by rw [← hD.out, rowGo_drop hlt low]; simp)
      have HN := Lib.hid (gd_drop HG.out hlt)
      have i1 : (0 : Int) ≤ j := by omega
      have i2 : (j : Int) < l.length := by omega
      have hcap := HR.out.cap
      have hmax := HR.out.max
      unfold maxLen at hmax
      clear hs hlo hD
      generalize hx : l[j].1 = x at *
      generalize hy : l[j].2 = y at *
      clear hx hy
      have wx : IntKind.u64.wrap (x - low) = x - low := IntWalk.u64_in _ (by omega)
      have wy : IntKind.u64.wrap (y - x) = y - x := IntWalk.u64_in _ (by omega)
      have wz : IntKind.u64.wrap (y + 2) = y + 2 := IntWalk.u64_in _ (by omega)
      have L1 := putN_le (x - low) (by omega) (by omega)
      have L2 := putN_le (y - x) (by omega) (by omega)
      have eb := box_below wr (.cells #[.int .u64 x, .int .u64 y] 68)
      have nb := heap_alloc_new wr (.cells #[.int .u64 x, .int .u64 y] 68)
      have B1 := Lib.hid (B.out.trans (eb.mono B.out.size))
      have O1 := Lib.hid (O.out.alloc (.cells #[.int .u64 x, .int .u64 y] 68))
      have sz : (wr.alloc (.cells #[.int .u64 x, .int .u64 y] 68)).heap.size = wr.heap.size + 1 := by simp
      have NB := Lib.hid nb
      have hsz := B.out.size
      have hlb := Lib.hid (fun g e => (O.out.lt g e).2)
      clear eb nb O B
      go_upto_region 6 with fail
      clear d0 d1
      generalize (wr.alloc (.cells #[.int .u64 x, .int .u64 y] 68)) = wb at *
      generalize wr.heap.size = hb at *
      have x0 : wb.cell? ⟨hb, 0, none⟩ = some (.int .u64 x) := cell_of_row wb hb 0 _ _ _ NB.out
      have C1 := Lib.hid (oct_put (x - low) wb (by omega) (by omega))
      go_wp2_with fail
      refine C1.out.mono ?_
      rintro e w5 ⟨A5, c5, rfl, r5, b5⟩
      have R5 := Lib.hid r5
      have O5 := Lib.hid (own_bel O1.out b5)
      have B5 := Lib.hid (B1.out.trans (b5.mono B1.out.size))
      have N5 := Lib.hid ((b5.block _ (lt_of_block NB.out)).trans NB.out)
      have s5 := b5.size
      clear C1 r5 b5 x0 NB B1 O1
      have x0 : w5.cell? ⟨hb, 0, none⟩ = some (.int .u64 x) := cell_of_row w5 hb 0 _ _ _ N5.out
      have x1 : w5.cell? ⟨hb, 1, none⟩ = some (.int .u64 y) := cell_of_row w5 hb 1 _ _ _ N5.out
      have C1 := Lib.hid (oct_put (y - x) w5 (by omega) (by omega))
      go_wp2_with fail
      refine C1.out.mono ?_
      rintro e w6 ⟨A6, c6, rfl, r6, b6⟩
      have R6 := Lib.hid r6
      have R5' := Lib.hid (R5.out.below b6)
      have O6 := Lib.hid (own_bel O5.out b6)
      have B6 := Lib.hid (B5.out.trans (b6.mono B5.out.size))
      have N6 := Lib.hid ((b6.block _ (lt_of_block N5.out)).trans N5.out)
      have s6 := b6.size
      have LO : Hid (∀ g, u3.ownBlock = some g → w.heap.size ≤ g ∧ g < hb) := Lib.hid (fun g e => by have h := O6.out.lt g e; exact ⟨h.1, hlb.out g e⟩)
      clear C1 r6 b6 x0 x1 R5 O5 B5 N5
      go_upto_region 8 with fail
      have D1 : (D ++ putN (x - low)).length = D.length + (putN (x - low)).length := by simp
      go_wp2_with (first
        | (at_builtin
           refine wpList_append_rd _ rfl (.tmp 38) (.tmp 39) 22 rfl w.heap.size 5 i0 _ 1 1 Try.underlying22 hi0 hz0 hz1 hz2 rfl (by decide) u3 D.length (U8 D) rfl O6.out A5 (putN (x - low)).length c5 (U8 (putN (x - low))) rfl R5'.out.rd (U8_one _) (by unfold maxLen; omega) (by omega) (Nat.le_trans B6.out.size (Nat.le_refl _)) ?_
           intro v7 w7 o7 g7 k7)
        | (at_builtin
           refine wpList_append_rd _ rfl (.tmp 40) (.tmp 41) 22 rfl w.heap.size 5 i0 _ 1 1 Try.underlying22 hi0 hz0 hz1 hz2 rfl (by decide) v7 _ _ rfl o7 A6 (putN (y - x)).length c6 (U8 (putN (y - x))) rfl (R6.out.grown g7 (fun k e => by have := LO.out k e; omega)).rd (U8_one _) (by unfold maxLen; omega) (by omega) (Nat.le_trans B6.out.size g7.size) ?_
           intro v8 w8 o8 g8 k8
           have L7 : Hid (∀ g, v7.ownBlock = some g → w.heap.size ≤ g ∧ g ≠ hb) := Lib.hid (fun g e => by
             have := lt_of_block N6.out
             have := B6.out.size
             rcases k7 with k7 | k7
             · have := LO.out g (k7 ▸ e); omega
             · rw [k7] at e; injection e with e; omega)
           have N8 : Hid (w8.heap[hb]? = some (.cells #[.int .u64 x, .int .u64 y] 68 (0, 0))) := Lib.hid (((g8.block hb (Nat.lt_of_lt_of_le (lt_of_block N6.out) g7.size) (fun e => (L7.out hb e.symm).2 rfl)).trans (g7.block hb (lt_of_block N6.out) (fun e => by have := LO.out hb e.symm; omega))).trans N6.out)
           have B8 : Hid (Below w.heap.size w w8) := Lib.hid ((B6.out.grown g7 B6.out.size (fun k e => (LO.out k e).1)).grown g8 (Nat.le_trans B6.out.size g7.size) (fun k e => (L7.out k e).1))
           have O8 : Hid (w8.ownsRow w.heap.size 5 1 v8 (D ++ putN (x - low) ++ putN (y - x)).length (U8 (D ++ putN (x - low) ++ putN (y - x)))) := Lib.hid (by
             rw [U8_append, U8_append, List.length_append, List.length_append]; exact o8)
           have x1 : w8.cell? ⟨hb, 1, none⟩ = some (.int .u64 y) := cell_of_row w8 hb 1 _ _ _ N8.out
           clear o7 g7 k7 o8 g8 k8 L7))
      go_roundw
      case rel => exact ⟨j + 1, y + 2, _, by omega, by go_num, rfl, by omega, by omega, HN, HD', by simp; omega, B8, O8⟩
      case measure => simp [intOf]; omega
    · obtain rfl : j = l.length := by omega
      have O9 : Hid (wr.ownsRow w.heap.size 5 1 u3 (rowBytes l).length (U8 (rowBytes l))) := Lib.hid (by
        have := hD.out
        rw [List.drop_length] at this
        simp only [rowGo, List.append_nil] at this
        rw [← this]
        exact O.out)
      clear hD
      obtain ⟨A', c', hv, -⟩ := own_slice O9.out
      subst hv
      go_wp2
      go_ret
      exact ⟨_, _, rfl, Rd8.of_own O9.out (Nat.le_refl _), B.out⟩

/-- Where Encode stands: its row, what the calls gave, its argument's box. -/
structure EnSt (w : World) (hx : Nat) (bx : Obj) (W0 W : World) (v : Value) (D : List Int) (rs : List (Option Addr × Nat × List Int)) : Prop where
  own : W.ownsRow w.heap.size 5 1 v D.length (U8 D)
  bel : Below w.heap.size w W
  box : W.heap[hx]? = some bx
  chg : Chg (fun k => w.heap.size ≤ k ∧ k ≠ hx) W0 W
  nbx : v.ownBlock ≠ some hx
  rs : ∀ r ∈ rs, Rd W 1 r.1 r.2.2.length r.2.1 (U8 r.2.2) ∧ ∀ b off, r.1 = some ⟨b, off, none⟩ → 0 < r.2.2.length → v.ownBlock ≠ some b
theorem EnSt.drew {w W0 W : World} {hx : Nat} {bx : Obj} {v : Value} {D : List Int} {rs : List (Option Addr × Nat × List Int)} (h : EnSt w hx bx W0 W v D rs) : EnSt w hx bx W0 W.drew v D rs :=
  ⟨h.own, h.bel.drew, h.box, h.chg.drew, h.nbx, fun r hr => ⟨(h.rs r hr).1.drew, (h.rs r hr).2⟩⟩
theorem EnSt.call {w W0 W W' : World} {hx : Nat} {bx : Obj} {v : Value} {D : List Int} {rs : List (Option Addr × Nat × List Int)} (h : EnSt w hx bx W0 W v D rs) (b : Below W.heap.size W W') {A : Option Addr} {c : Nat} {l : List Int} (r : Rd8 W' W.heap.size A l.length c l) : EnSt w hx bx W0 W' v D (rs ++ [(A, c, l)]) := by
  refine ⟨own_bel h.own b, h.bel.trans (b.mono h.bel.size), (b.block _ (lt_of_block h.box)).trans h.box, h.chg.thenBelow b h.chg.size, h.nbx, fun q hq => ?_⟩
  rcases List.mem_append.1 hq with hq | hq
  · exact ⟨(h.rs q hq).1.below b, (h.rs q hq).2⟩
  · obtain rfl := List.mem_singleton.1 hq
    exact ⟨r.rd, fun k off e hn e' => by have := (h.own.lt k e').2; have := r.nw k off e hn; omega⟩
theorem EnSt.app {w W0 W W' : World} {hx : Nat} {bx : Obj} {v v' : Value} {D l : List Int} {rs : List (Option Addr × Nat × List Int)} (h : EnSt w hx bx W0 W v D rs) (o : W'.ownsRow w.heap.size 5 1 v' (D.length + l.length) (U8 D ++ U8 l)) (g : W.grownBy W' v.ownBlock) (k : v'.ownBlock = v.ownBlock ∨ v'.ownBlock = some W.heap.size) : EnSt w hx bx W0 W' v' (D ++ l) rs := by
  have hb := lt_of_block h.box
  refine ⟨by rw [U8_append, List.length_append]; exact o, h.bel.grown g h.bel.size (fun j e => (h.own.lt j e).1), (g.block _ hb (fun e => h.nbx e.symm)).trans h.box, h.chg.grown g (fun j e => .inl ⟨(h.own.lt j e).1, fun e' => h.nbx (by rw [e, e'])⟩), ?_, fun q hq => ⟨(h.rs q hq).1.grown g (fun b off e hn e' => (h.rs q hq).2 b off e hn e'), fun b off e hn => ?_⟩⟩
  · rcases k with k | k
    · rw [k]; exact h.nbx
    · rw [k]; intro e; injection e with e; omega
  · rcases k with k | k
    · rw [k]; exact (h.rs q hq).2 b off e hn
    · rw [k]
      intro e'
      injection e' with e'
      have := (h.rs q hq).1.lt (by omega) hn b off e
      omega

theorem EnSt.base {w W0 W : World} {hx : Nat} {bx : Obj} {v : Value} {D : List Int} {rs : List (Option Addr × Nat × List Int)} (h : EnSt w hx bx W0 W v D rs) : EnSt w hx bx W W v D rs := ⟨h.own, h.bel, h.box, Chg.refl _ _, h.nbx, h.rs⟩

set_option maxHeartbeats 8000000 in
set_option maxRecDepth 100000 in
theorem ack_encode (w : World) (a : Ak) (h : AkR w a) (hm : mayB a.sp a.mm = true) (g1 : Gd a.sp) (g2 : Gd a.mm) (p1 : ∀ s ∈ a.sp, 0 ≤ s.1) (p2 : ∀ s ∈ a.mm, 0 ≤ s.1) (l1 : a.sp.length ≤ 32) (l2 : a.mm.length ≤ 32) :
    Calls Try.prog 65 #[a.val] w fun e w' => ∃ A c, e = .returned (.tuple #[.slice A (putAckP ⟨a.sp, a.mm, a.tr, a.xo, a.od⟩).length c, .int .i64 0]) ∧ Rd8 w' w.heap.size A (putAckP ⟨a.sp, a.mm, a.tr, a.xo, a.od⟩).length c (putAckP ⟨a.sp, a.mm, a.tr, a.xo, a.od⟩) ∧ Below w.heap.size w w' := by
  obtain ⟨i0, hi0, hz0, hz1, hz2⟩ := info_parts infoByte
  have KM := Lib.hid (fun (W : World) (q : Below w.heap.size w W) => may_any W a ⟨h.rs.below q, h.rm.below q, h.us, h.um, h.ut, h.ux⟩)
  have HMB := Lib.hid hm
  have r1 := Lib.hid (rowBytes_le g1 p1 l1)
  have r2 := Lib.hid (rowBytes_le g2 p2 l2)
  obtain ⟨A, c, B, d, sp, mk, tr, xo, od⟩ := a
  unfold Ak.val Ak.cells at *
  simp only at h KM HMB g1 g2 p1 p2 l1 l2 r1 r2 ⊢
  rw [HMB.out] at KM
  have H := Lib.hid h
  have G1 := Lib.hid g1
  have G2 := Lib.hid g2
  have Q1 := Lib.hid p1
  have Q2 := Lib.hid p2
  have b0 := box_below w (.cells #[.slice A sp.length c, .slice B mk.length d, .int .u64 tr, .int .u64 xo, .bool od] 48)
  have n0 := heap_alloc_new w (.cells #[.slice A sp.length c, .slice B mk.length d, .int .u64 tr, .int .u64 xo, .bool od] 48)
  have B0 := Lib.hid b0
  have N0 := Lib.hid n0
  have s0 : (w.alloc (.cells #[.slice A sp.length c, .slice B mk.length d, .int .u64 tr, .int .u64 xo, .bool od] 48)).heap.size = w.heap.size + 1 := by simp
  clear h hm g1 g2 p1 p2 b0 n0
  go_enter Try.func65, Try.ntmps65
  go_upto_region 1 with fail
  generalize (w.alloc (.cells #[.slice A sp.length c, .slice B mk.length d, .int .u64 tr, .int .u64 xo, .bool od] 48)) = w1 at *
  have z0 := cell_of_row w1 w.heap.size 0 _ _ _ N0.out
  have z1 := cell_of_row w1 w.heap.size 1 _ _ _ N0.out
  have z2 := cell_of_row w1 w.heap.size 2 _ _ _ N0.out
  have z3 := cell_of_row w1 w.heap.size 3 _ _ _ N0.out
  have z4 := cell_of_row w1 w.heap.size 4 _ _ _ N0.out
  go_wp2_with fail
  refine (KM.out w1 B0.out).mono ?_
  rintro e w2 ⟨rfl, b2⟩
  have B2 := Lib.hid (B0.out.trans (b2.mono (by omega)))
  have N2 := Lib.hid ((b2.block _ (lt_of_block N0.out)).trans N0.out)
  have s2 := b2.size
  clear z0 z1 z2 z3 z4 N0 b2 KM B0
  go_upto_region 3 with fail
  have b3 := box_below w2 (.cells #[.int .u8 2] 5)
  have hlb := lt_of_block N2.out
  have E3 : Hid (EnSt w w.heap.size (.cells #[.slice A sp.length c, .slice B mk.length d, .int .u64 tr, .int .u64 xo, .bool od] 48) (w2.alloc (.cells #[.int .u8 2] 5)) (w2.alloc (.cells #[.int .u8 2] 5)) (.slice (some ⟨w2.heap.size, 0, none⟩) 1 1) [2] []) := Lib.hid
    ⟨World.ownsRow_lit (base := w.heap.size) (e := 5) (size := 1) w2 #[.int .u8 2] 1 (by omega) (by unfold maxLen; omega) rfl, B2.out.trans (b3.mono (by omega)), (b3.block _ hlb).trans N2.out, Chg.refl _ _, fun e => by simp [Value.ownBlock] at e; omega, fun r hr => by cases hr⟩
  have z0 := cell_of_row (w2.alloc (.cells #[.int .u8 2] 5)) w.heap.size 0 _ _ _ E3.out.box
  have K3 := Lib.hid (ack_row (w2.alloc (.cells #[.int .u8 2] 5)) A c sp (H.out.rs.below E3.out.bel) G1.out Q1.out l1)
  clear b3 N2 B2
  go_wp2_with (first
    | (go_at_call 76; refine K3.out.mono ?_; rintro e w3 ⟨A3, c3, rfl, r3, b3⟩; have E4 := Lib.hid (E3.out.call b3 r3))
    | (at_builtin
       refine wpList_append_rd _ rfl (.tmp 8) (.tmp 11) 22 rfl w.heap.size 5 i0 _ 1 1 Try.underlying22 hi0 hz0 hz1 hz2 rfl (by decide) _ 1 (U8 [2]) rfl E4.out.own A3 (rowBytes sp).length c3 (U8 (rowBytes sp)) rfl r3.rd (U8_one _) (by have := r1.out; unfold maxLen; omega) (by have := r1.out; omega) E4.out.bel.size ?_
       intro v4 w4 o4 g4 k4
       have E5 := Lib.hid (E4.out.app o4 g4 k4).base
       clear o4 g4 k4 E4 E3 K3 r3 b3 z0))
  have D5 : ([2] ++ rowBytes sp).length ≤ 601 := by have := r1.out; simp; omega
  have R2 := r2.out
  generalize hD : [2] ++ rowBytes sp = D at *
  have HD := Lib.hid hD
  clear hD r1
  have Z1 := mixF_cell (F := fun k => w.heap.size ≤ k ∧ k ≠ w.heap.size) (v := .slice B mk.length d) (cell_of_row w4 w.heap.size 1 _ _ _ E5.out.box) (fun e => e.2 rfl)
  have Z2 := mixF_cell (F := fun k => w.heap.size ≤ k ∧ k ≠ w.heap.size) (v := .int .u64 tr) (cell_of_row w4 w.heap.size 2 _ _ _ E5.out.box) (fun e => e.2 rfl)
  have Z3 := mixF_cell (F := fun k => w.heap.size ≤ k ∧ k ≠ w.heap.size) (v := .int .u64 xo) (cell_of_row w4 w.heap.size 3 _ _ _ E5.out.box) (fun e => e.2 rfl)
  go_upto_region 4 with fail
  go_cut [4] (fun s4 wx => ∃ rs, Hid (EnSt w w.heap.size (.cells #[.slice A sp.length c, .slice B mk.length d, .int .u64 tr, .int .u64 xo, .bool od] 48) w4 wx s4 (((D ++ rowBytes mk) ++ eightN tr) ++ eightN xo) rs))
  case first =>
    have E6 := Lib.hid E5.out.drew
    refine wp_region_chg (fun k => w.heap.size ≤ k ∧ k ≠ w.heap.size) (by kernel_rfl) (by kernel_rfl) ?_
    repeat (refine wpMix_seg 1 _ _ rfl ?_; simp only [List.take_succ_cons, List.take_zero, List.drop_succ_cons, List.drop_zero]; go_big_quiet_step (fail); refine wpQuiet_nil ?_)
    have K6 := Lib.hid (ack_row w4.drew B d mk (H.out.rm.below E6.out.bel) G2.out Q2.out l2)
    refine wpMix_bar rfl (by rfl) ?_
    go_wp2_with fail
    (with_reducible refine K6.out.mono ?_)
    rintro e w6 ⟨A6, c6, rfl, r6, b6⟩
    have E7 := Lib.hid (E6.out.call b6 r6)
    have R7 := Lib.hid (E7.out.rs (A6, c6, rowBytes mk) (by simp)).1
    simp only at R7
    clear K6 E6 E5 r6 b6
    go_wp2
    refine ⟨chg_mixF E7.out.chg, ?_⟩
    repeat (refine wpMix_seg 1 _ _ rfl ?_; simp only [List.take_succ_cons, List.take_zero, List.drop_succ_cons, List.drop_zero]; go_big_quiet_step (fail); refine wpQuiet_nil ?_)
    refine wpMix_bar rfl (by rfl) ?_
    go_wp2_with (
      at_builtin
      refine wpList_append_rd _ rfl (.tmp 13) (.tmp 16) 22 rfl w.heap.size 5 i0 _ 1 1 Try.underlying22 hi0 hz0 hz1 hz2 rfl (by decide) _ D.length (U8 D) rfl E7.out.own A6 (rowBytes mk).length c6 (U8 (rowBytes mk)) rfl R7.out (U8_one _) (by unfold maxLen; omega) (by omega) E7.out.bel.size ?_
      intro v7 w7 o7 g7 k7
      have E8 := Lib.hid (E7.out.app o7 g7 k7)
      clear o7 g7 k7 E7 R7)
    refine ⟨chg_mixF E8.out.chg, ?_⟩
    repeat (refine wpMix_seg 1 _ _ rfl ?_; simp only [List.take_succ_cons, List.take_zero, List.drop_succ_cons, List.drop_zero]; go_big_quiet_step (fail); refine wpQuiet_nil ?_)
    have D8 : (D ++ rowBytes mk).length ≤ 1201 := by simp; omega
    have K8 := Lib.hid (oct_eight tr w7 H.out.ut)
    refine wpMix_bar rfl (by rfl) ?_
    go_wp2_with fail
    (with_reducible refine K8.out.mono ?_)
    rintro e w8 ⟨A8, c8, rfl, r8, b8⟩
    have E9 := Lib.hid (E8.out.call b8 r8)
    have R9 := Lib.hid (E9.out.rs (A8, c8, eightN tr) (by simp)).1
    simp only at R9
    have h8 : (eightN tr).length = 8 := by simp [eightN, bytesN]
    have h8' : (eightN tr).length ≤ 8 := by omega
    clear K8 E8 r8 b8 h8
    go_wp2
    refine ⟨chg_mixF E9.out.chg, ?_⟩
    repeat (refine wpMix_seg 1 _ _ rfl ?_; simp only [List.take_succ_cons, List.take_zero, List.drop_succ_cons, List.drop_zero]; go_big_quiet_step (fail); refine wpQuiet_nil ?_)
    refine wpMix_bar rfl (by rfl) ?_
    go_wp2_with (
      at_builtin
      refine wpList_append_rd _ rfl (.tmp 17) (.tmp 20) 22 rfl w.heap.size 5 i0 _ 1 1 Try.underlying22 hi0 hz0 hz1 hz2 rfl (by decide) _ (D ++ rowBytes mk).length (U8 (D ++ rowBytes mk)) rfl E9.out.own A8 (eightN tr).length c8 (U8 (eightN tr)) rfl R9.out (U8_one _) (by unfold maxLen; omega) (by omega) E9.out.bel.size ?_
      intro v9 w9 o9 g9 k9
      have E10 := Lib.hid (E9.out.app o9 g9 k9)
      clear o9 g9 k9 E9 R9)
    refine ⟨chg_mixF E10.out.chg, ?_⟩
    repeat (refine wpMix_seg 1 _ _ rfl ?_; simp only [List.take_succ_cons, List.take_zero, List.drop_succ_cons, List.drop_zero]; go_big_quiet_step (fail); refine wpQuiet_nil ?_)
    have D10 : (D ++ rowBytes mk ++ eightN tr).length ≤ 1209 := by simp at D8 ⊢; omega
    have K8 := Lib.hid (oct_eight xo w9 H.out.ux)
    refine wpMix_bar rfl (by rfl) ?_
    go_wp2_with fail
    (with_reducible refine K8.out.mono ?_)
    rintro e w10 ⟨A10, c10, rfl, r8, b8⟩
    have E11 := Lib.hid (E10.out.call b8 r8)
    have R11 := Lib.hid (E11.out.rs (A10, c10, eightN xo) (by simp)).1
    simp only at R11
    have h8 : (eightN xo).length = 8 := by simp [eightN, bytesN]
    have h8' : (eightN xo).length ≤ 8 := by omega
    clear K8 E10 r8 b8 h8
    go_wp2
    refine ⟨chg_mixF E11.out.chg, ?_⟩
    repeat (refine wpMix_seg 1 _ _ rfl ?_; simp only [List.take_succ_cons, List.take_zero, List.drop_succ_cons, List.drop_zero]; go_big_quiet_step (fail); refine wpQuiet_nil ?_)
    refine wpMix_bar rfl (by rfl) ?_
    go_wp2_with (
      at_builtin
      refine wpList_append_rd _ rfl (.tmp 21) (.tmp 24) 22 rfl w.heap.size 5 i0 _ 1 1 Try.underlying22 hi0 hz0 hz1 hz2 rfl (by decide) _ (D ++ rowBytes mk ++ eightN tr).length (U8 (D ++ rowBytes mk ++ eightN tr)) rfl E11.out.own A10 (eightN xo).length c10 (U8 (eightN xo)) rfl R11.out (U8_one _) (by unfold maxLen; omega) (by omega) E11.out.bel.size ?_
      intro v11 w11 o11 g11 k11
      have E12 := Lib.hid (E11.out.app o11 g11 k11)
      clear o11 g11 k11 E11 R11)
    refine ⟨chg_mixF E12.out.chg, ?_⟩
    repeat (refine wpMix_seg 1 _ _ rfl ?_; simp only [List.take_succ_cons, List.take_zero, List.drop_succ_cons, List.drop_zero]; go_big_quiet_step (fail); refine wpQuiet_nil ?_)
    refine wpMix_nil ?_
    go_wp2_with fail
    go_meet
    exact ⟨_, E12⟩
  case rest =>
    obtain ⟨rs, E12⟩ := hcut
    clear Z1 Z2 Z3 E5
    have hgs := E12.out.bel.size
    have hT : Hid (putAckP ⟨sp, mk, tr, xo, od⟩ = (D ++ rowBytes mk ++ eightN tr ++ eightN xo) ++ [if od then 1 else 0]) := Lib.hid (by rw [← HD.out]; simp [putAckP])
    have hTl : (D ++ rowBytes mk ++ eightN tr ++ eightN xo).length ≤ 1217 := by
      simp [eightN, bytesN] at D5 ⊢
      omega
    generalize hTT : D ++ rowBytes mk ++ eightN tr ++ eightN xo = T at *
    clear hTT HD
    have z4 : wc.cell? ⟨w.heap.size, 4, none⟩ = some (.bool od) := cell_of_row wc w.heap.size 4 _ _ _ E12.out.box
    cases od with
    | true =>
      go_wp2_with (
        at_builtin
        refine wpList_app1 _ rfl (.tmp 28) (.tmp 29) 22 rfl (w.heap.size) 5 i0 (.int .u8 0) 1 1 Try.underlying22 hi0 hz0 hz1 hz2 rfl (by decide) u4 (T.length) (U8 T) rfl E12.out.own #[.int .u8 1] _ rfl (by simp) rfl (by simp [Value.oneCell']) (by unfold maxLen; omega) (by omega) (by have := hgs; simp; omega) ?_
        intro v13 w13 o13 g13 k13
        have B13 : Hid (Below w.heap.size w w13) := Lib.hid (E12.out.bel.grown g13 hgs (fun g hg => (E12.out.own.lt g hg).1))
        have O13 : Hid (w13.ownsRow w.heap.size 5 1 v13 (T ++ [1]).length (U8 (T ++ [1]))) := Lib.hid (by rw [U8_append, List.length_append]; exact o13)
        clear o13 g13 k13)
      have e := hT.out
      simp only [if_true] at e
      rw [e]
      obtain ⟨A', c', hv, -⟩ := own_slice O13.out
      subst hv
      go_ret2
      exact ⟨_, _, rfl, Rd8.of_own O13.out (Nat.le_refl _), B13.out⟩
    | false =>
      go_wp2_with (
        at_builtin
        refine wpList_app1 _ rfl (.tmp 31) (.tmp 32) 22 rfl (w.heap.size) 5 i0 (.int .u8 0) 1 1 Try.underlying22 hi0 hz0 hz1 hz2 rfl (by decide) u4 (T.length) (U8 T) rfl E12.out.own #[.int .u8 0] _ rfl (by simp) rfl (by simp [Value.oneCell']) (by unfold maxLen; omega) (by omega) (by have := hgs; simp; omega) ?_
        intro v13 w13 o13 g13 k13
        have B13 : Hid (Below w.heap.size w w13) := Lib.hid (E12.out.bel.grown g13 hgs (fun g hg => (E12.out.own.lt g hg).1))
        have O13 : Hid (w13.ownsRow w.heap.size 5 1 v13 (T ++ [0]).length (U8 (T ++ [0]))) := Lib.hid (by rw [U8_append, List.length_append]; exact o13)
        clear o13 g13 k13)
      have e := hT.out
      simp only [Bool.false_eq_true, if_false] at e
      rw [e]
      obtain ⟨A', c', hv, -⟩ := own_slice O13.out
      subst hv
      go_ret2
      exact ⟨_, _, rfl, Rd8.of_own O13.out (Nat.le_refl _), B13.out⟩

end Go.Proofs.Ytkedfipeebjcjaa
