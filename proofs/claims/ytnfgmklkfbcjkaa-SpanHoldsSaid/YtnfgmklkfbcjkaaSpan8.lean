/-
  Walks: Row, Part.
-/
import Derived.Test.YtnfgmklkfbcjkaaSpan7
import Derived.Test.YtnfgmklkfbcjkaaSpanM
import Derived.Test.YtnfgmklkfbcjkaaSpanW
namespace Go.Proofs.Ytnfgmklkfbcjkaa
set_option linter.unusedSimpArgs false
set_option linter.unusedVariables false
set_option linter.unnecessarySimpa false
open Go.RowKit
attribute [local go_sem ↓] run_min_int run_max_int

set_option maxRecDepth 100000 in
set_option maxHeartbeats 3200000 in
theorem row_any (A : Option Addr) (n c : Nat) (l : List Int) (w : World) (h : Rd w 1 A n c (W16 l)) (hw : ∀ x ∈ l, 0 ≤ x ∧ x ≤ 65535) :
    Calls Try.prog 39 #[.slice A n c] w fun e w' => ∃ A' c', e = .returned (.slice A' (rowP l).length c') ∧ Rd w' 2 A' (rowP l).length c' (Ss (rowP l)) ∧ Below w.heap.size w w' := by
  have hl := h.len
  simp only [W16_length, Nat.mul_one] at hl
  have Hl := Lib.hid hl
  clear hl
  have hmax := h.cap
  have hmax' := h.max
  unfold maxLen at hmax'
  obtain ⟨H, hH⟩ : ∃ H, H = min (n / 2) 60 := ⟨_, rfl⟩
  have HH := Lib.hid hH
  have hH60 : H ≤ 60 := by omega
  have hH2 : 2 * H ≤ n := by omega
  clear hH
  go_enter Try.func39, Try.ntmps39
  go_wp2
  go_loopw [3, 4] (fun out ii wr => ∃ (j t : Nat) (Ax : Option Addr) (cx : Nat), Hid (t = 2 * j) ∧ t ≤ 2 * H ∧ ii = .int .i64 t ∧ out = .slice Ax (rowAll l j).length cx ∧ Rd wr 2 Ax (rowAll l j).length cx (Ss (rowAll l j)) ∧ Below w.heap.size w wr) (fun _ ii _ => n - (intOf ii).toNat)
  case atStart => exact ⟨0, 0, none, 0, Lib.hid rfl, Nat.zero_le _, rfl, rfl, Rd.nil_ _ _, Below.refl _ _⟩
  case round =>
    obtain ⟨j, t, Ax, cx, Ht, htH, rfl, rfl, Rx, hb⟩ := hrel
    by_cases hlt : j < H
    · have hti : t + 1 < n := by have := Ht.out; omega
      have ht120 : t < 120 := by have := Ht.out; omega
      obtain ⟨b, off, x0, rfl, Hx0, k1, x1, x2⟩ := (h.below hb).u16 hw (show t < n by omega)
      obtain ⟨y0, Hy0, k2, y1, y2⟩ := (h.below hb).u16at hw hti
      obtain ⟨g1, g2, g3⟩ := rowAll_ok l j
      have hg := g1.good
      have hu := g3.u2 g1
      have hlen : (rowAll l j).length ≤ 8796093021952 := by omega
      obtain ⟨r0, hr0, hr1, hr2⟩ : ∃ r, x0 % 200 = r ∧ 0 ≤ r ∧ r < 200 := ⟨_, rfl, by omega, by omega⟩
      obtain ⟨r3, hr3, hr4, hr5⟩ : ∃ r, y0 % 6 = r ∧ 0 ≤ r ∧ r < 6 := ⟨_, rfl, by omega, by omega⟩
      have Ex : Hid (rowAll l (j + 1) = addP (rowAll l j) (r0, r0 + r3)) := by
        show _ = _
        rw [rowAll_succ]
        congr 1
        unfold rp
        rw [← Ht.out, Hx0.out, Hy0.out, hr0, hr3]
      have hsp : IsSpan (r0, r0 + r3) := ⟨by simp only; omega, by simp only [maxPn_eq]; omega⟩
      have Hg := Lib.hid hg
      have Hs := Lib.hid hsp
      have Hlen := Lib.hid hlen
      clear hg hsp g1 hlen
      generalize rowAll l j = X at *
      go_wp2_with fail
      refine (addSpan_any Ax _ cx X r0 (r0 + r3) _ Rx Hg.out Hs.out hr1 hu Hlen.out).mono ?_
      rintro e w2 ⟨A2, c2, rfl, R2, b2⟩
      clear hr0 hr3
      have hb2 := hb.trans (b2.mono hb.size)
      go_wp2
      go_roundw
      case rel => exact ⟨j + 1, t + 2, A2, c2, Lib.hid (by have := Ht.out; omega), by have := Ht.out; omega, by go_num, by rw [Ex.out], by rw [Ex.out]; exact R2, hb2⟩
      case measure => simp [intOf]; omega
    · obtain rfl : j = H := by have := Ht.out; omega
      have hno : ¬ (t + 1 < n) ∨ (t + 1 < n ∧ ¬ t < 120) := by have := Ht.out; have := HH.out; omega
      obtain ⟨g1, g2, g3⟩ := rowAll_ok l j
      have EP : Hid (rowP l = lastP (rowAll l j) 32) := by show _ = _; unfold rowP; rw [Hl.out, HH.out]
      have Hlen : Hid ((rowAll l j).length ≤ 8796093021952) := by show _ ≤ _; omega
      clear g2
      generalize rowAll l j = X at *
      rcases hno with hno | ⟨hno1, hno2⟩
      all_goals
        go_wp2_with fail
        refine (lastSpans_any Ax _ cx X 32 _ Rx (by omega) (by omega) Hlen.out).mono ?_
        rintro e w2 ⟨A2, c2, rfl, R2, b2⟩
        go_wp2
        go_ret
        rw [EP.out]
        exact ⟨A2, c2, rfl, R2, hb.trans (b2.mono hb.size)⟩

theorem cands_take_succ (a b : List Sp) (i : Nat) (h : i < a.length) : cands (a.take (i + 1)) b = cands (a.take i) b ++ b.flatMap (cand a[i]) := flatMap_take_succ _ a i h

set_option maxHeartbeats 3200000 in
theorem part_any (A B : Option Addr) (n m c d : Nat) (a b : List Sp) (w : World) (ha : Rd w 2 A n c (Ss a)) (hb : Rd w 2 B m d (Ss b)) (hua : U2s a) (hub : U2s b) (hga : Gd a) (hn : n ≤ 32) (hm : m ≤ 32) :
    Calls Try.prog 40 #[.slice A n c, .slice B m d] w fun e w' => ∃ A' c', e = .returned (.slice A' (partP a b).length c') ∧ Rd w' 2 A' (partP a b).length c' (Ss (partP a b)) ∧ Below w.heap.size w w' := by
  have hl := ha.len
  have hml := hb.len
  rw [Ss_length] at hl hml
  obtain rfl : a.length = n := by omega
  obtain rfl : b.length = m := by omega
  clear hl hml
  have hmax := ha.cap
  have hmax' := ha.max
  have hmaxb := hb.cap
  have hmaxb' := hb.max
  unfold maxLen at hmax' hmaxb'
  have Ga := Lib.hid hga
  clear hga
  go_enter Try.func40, Try.ntmps40
  go_wp2
  go_loopw [5, 6] (fun out ii wr => ∃ (i : Nat) (Ax : Option Addr) (nx cx : Nat) (X : List Sp), i ≤ a.length ∧ ii = .int .i64 i ∧ Hid (X = addList (cands (a.take i) b)) ∧ nx ≤ 1024 ∧ out = .slice Ax nx cx ∧ Rd wr 2 Ax nx cx (Ss X) ∧ Below w.heap.size w wr) (fun _ ii _ => a.length - (intOf ii).toNat)
  case atStart => exact ⟨0, none, 0, 0, [], Nat.zero_le _, rfl, Lib.hid (by simp [cands, addList_nil]), by omega, rfl, Rd.nil_ _ _, Below.refl _ _⟩
  case round =>
    obtain ⟨i, Ax, nx, cx, X, hi, rfl, HX, hnx, rfl, Rx, hbr⟩ := hrel
    by_cases hlt : i < a.length
    · obtain ⟨p1, o1, x, y, rfl, He, hc1, hc2, u1, u2, u3, u4⟩ := (ha.below hbr).sp hua hlt
      go_wp2
      go_loopw [5, 7] (fun out kk wq => ∃ (k : Nat) (Ay : Option Addr) (ny cy : Nat) (Y : List Sp), k ≤ b.length ∧ kk = .int .i64 k ∧ Hid (Y = addList (cands (a.take i) b ++ (b.take k).flatMap (cand (x, y)))) ∧ out = .slice Ay ny cy ∧ Rd wq 2 Ay ny cy (Ss Y) ∧ Below w.heap.size w wq) (fun _ kk _ => b.length - (intOf kk).toNat)
      case atStart => exact ⟨0, Ax, nx, cx, X, Nat.zero_le _, rfl, Lib.hid (by rw [HX.out]; simp), rfl, Rx, hbr⟩
      case round =>
        obtain ⟨k, Ay, ny, cy, Y, hk, rfl, HY, rfl, Ry, hbq⟩ := hrel
        have hokL : ∀ s ∈ cands (a.take i) b ++ (b.take k).flatMap (cand (x, y)), IsSpan s := by
          intro s hs
          rcases List.mem_append.1 hs with hs | hs
          · exact cands_ok b (fun z hz => Ga.out.1 z (List.mem_of_mem_take hz)) s hs
          · obtain ⟨z, _, hs⟩ := List.mem_flatMap.1 hs
            exact cand_ok (by have := Ga.out.1 _ (List.getElem_mem hlt); rw [He.out] at this; exact this) s hs
        obtain ⟨y1, y2, y3⟩ := addList_gd _ hokL
        rw [← HY.out] at y1 y2 y3
        have hWY : Within Y 4611686018427387903 := by
          refine Within.of_mem y1 (fun q hq => ?_)
          obtain ⟨s, hs, h4, h5⟩ := (y3 q).1 hq
          have h6 := (hokL s hs).2
          have h7 : 0 ≤ s.1 := by
            rcases List.mem_append.1 hs with hs | hs
            · have : Mem s.1 (cands (a.take i) b) := ⟨s, hs, Int.le_refl _, (hokL s (List.mem_append.2 (.inl hs))).1⟩
              obtain ⟨z, hz, h8, _⟩ := ((cands_mem _ _ _).1 this).1
              have := (hua z (List.mem_of_mem_take hz)).1.1
              omega
            · obtain ⟨z, _, hs'⟩ := List.mem_flatMap.1 hs
              have : Mem s.1 (cand (x, y) z) := ⟨s, hs', Int.le_refl _, (hokL s (List.mem_append.2 (.inr hs))).1⟩
              have := ((cand_mem _ _ _).1 this).1.1
              simp only at this
              omega
          rw [maxPn_eq] at h6
          omega
        have huY := hWY.u2 y1
        have hnY : ny ≤ 1024 := by
          have e1 := Ry.len
          rw [Ss_length] at e1
          have e2 := cands_len (a.take i) b
          have e3 := flatMap_len (cand (x, y)) (b.take k) 1 (fun z _ => cand_len _ _)
          simp only [List.length_append, List.length_take] at y2 e2 e3
          have e4 : min i a.length * b.length ≤ 31 * 32 := Nat.mul_le_mul (by omega) hm
          omega
        have GY := Lib.hid y1.good
        have hcells := (ha.below hbq).spat hua hlt
        obtain ⟨x', y', He', hd1, hd2, _⟩ := hcells
        have hxy : x' = x ∧ y' = y := by
          have := He'.out
          rw [He.out] at this
          injection this with e1 e2
          exact ⟨e1.symm, e2.symm⟩
        obtain ⟨rfl, rfl⟩ := hxy
        clear y1 y2 y3 hWY He'
        by_cases hkl : k < b.length
        · obtain ⟨p2, o2, z, p, rfl, He2, hc3, hc4, v1, v2, v3, v4⟩ := (hb.below hbq).sp hub hkl
          have Hsp : Hid (cands (a.take i) b ++ (b.take (k + 1)).flatMap (cand (x', y')) = (cands (a.take i) b ++ (b.take k).flatMap (cand (x', y'))) ++ cand (x', y') (z, p)) := by
            show _ = _
            rw [flatMap_take_succ _ _ _ hkl, He2.out, List.append_assoc]
          have i1 : (0 : Int) ≤ (i : Int) := by omega
          have i2 : (i : Int) < (a.length : Int) := by omega
          have i3 : (0 : Int) ≤ (k : Int) := by omega
          have i4 : (k : Int) < (b.length : Int) := by omega
          go_wp2
          go_region_held3 (fun W => W.cell? ⟨p1, o1 + i * 2, none⟩ = some (.int .u64 x') ∧ W.cell? ⟨p1, o1 + i * 2 + 1, none⟩ = some (.int .u64 y') ∧ W.cell? ⟨p2, o2 + k * 2, none⟩ = some (.int .u64 z) ∧ W.cell? ⟨p2, o2 + k * 2 + 1, none⟩ = some (.int .u64 p))
            (first
              | go_keep)
            (first | fail)
          all_goals
            have hb1 : Below w.heap.size w ((wr.alloc (.cells #[.int .u64 (max x' z), .int .u64 (min y' p)] 43)).drew) := (hbq.alloc hbq.size _).drew
            have Ry1 : Rd ((wr.alloc (.cells #[.int .u64 (max x' z), .int .u64 (min y' p)] 43)).drew) 2 Ay ny cy (Ss Y) := (Ry.below ((Below.refl _ _).alloc (Nat.le_refl _) _)).drew
            have e1 : ((wr.alloc (.cells #[.int .u64 (max x' z), .int .u64 (min y' p)] 43)).drew).cell? ⟨wr.heap.size, 0, none⟩ = some (.int .u64 (max x' z)) := cell_of_row _ wr.heap.size 0 _ _ _ (heap_alloc_new wr _)
            have e2 : ((wr.alloc (.cells #[.int .u64 (max x' z), .int .u64 (min y' p)] 43)).drew).cell? ⟨wr.heap.size, 1, none⟩ = some (.int .u64 (min y' p)) := cell_of_row _ wr.heap.size 1 _ _ _ (heap_alloc_new wr _)
            clear i1 i2 i3 i4 hc3 hc4 hd1 hd2
            obtain ⟨lo, hlo⟩ : ∃ lo, max x' z = lo := ⟨_, rfl⟩
            obtain ⟨hi', hhi⟩ : ∃ hi, min y' p = hi := ⟨_, rfl⟩
            have Hlo := Lib.hid hlo
            have Hhi := Lib.hid hhi
            rw [hlo, hhi] at hb1 Ry1 e1 e2 ⊢
            clear hlo hhi
            generalize (wr.alloc (.cells #[.int .u64 lo, .int .u64 hi'] 43)).drew = w1 at *
            by_cases hle : lo ≤ hi'
            · have t1 : decide (lo ≤ hi') = true := by simpa using hle
              have Hc : Hid (cand (x', y') (z, p) = [(lo, hi')]) := by
                show _ = _
                unfold cand
                simp only [Hlo.out, Hhi.out]
                rw [if_pos hle]
              have hsp : IsSpan (lo, hi') := cand_ok (x := (x', y')) (y := (z, p)) (by have := Ga.out.1 _ (List.getElem_mem hlt); rw [He.out] at this; exact this) _ (by rw [Hc.out]; exact List.mem_singleton.2 rfl)
              have Hs := Lib.hid hsp
              have hlo0 : 0 ≤ lo := by have := Hlo.out; omega
              have HYl : Hid (ny ≤ 8796093021952) := by show _ ≤ _; omega
              clear hsp
              go_wp2_with fail
              refine (addSpan_any Ay ny cy Y lo hi' _ Ry1 GY.out Hs.out hlo0 huY HYl.out).mono ?_
              rintro e w2 ⟨A2, c2, rfl, R2, b2⟩
              go_wp2
              go_roundw
              case rel => exact ⟨k + 1, A2, _, c2, addP Y (lo, hi'), by omega, by go_num, Lib.hid (by rw [Hsp.out, Hc.out, addList_snoc, HY.out]), rfl, R2, hb1.trans (b2.mono hb1.size)⟩
              case measure => simp [intOf]; omega
            · have t1 : decide (lo ≤ hi') = false := by simpa using hle
              have Hc : Hid (cand (x', y') (z, p) = []) := by
                show _ = _
                unfold cand
                simp only [Hlo.out, Hhi.out]
                rw [if_neg hle]
              go_wp2
              go_roundw
              case rel => exact ⟨k + 1, Ay, ny, cy, Y, by omega, by go_num, Lib.hid (by rw [Hsp.out, Hc.out, List.append_nil, HY.out]), rfl, Ry1, hb1⟩
              case measure => simp [intOf]; omega
        · obtain rfl : k = b.length := by omega
          have HX2 : Hid (Y = addList (cands (a.take (i + 1)) b)) := by show _ = _; rw [HY.out, cands_take_succ _ _ _ hlt, He.out, List.take_length]
          clear hd1 hd2
          go_wp2
          go_roundw
          case rel => exact ⟨i + 1, Ay, ny, cy, Y, by omega, by go_num, HX2, hnY, rfl, Ry, hbq⟩
          case measure => simp [intOf]; omega
    · obtain rfl : i = a.length := by omega
      have EP : Hid (partP a b = lastP X 32) := by show _ = _; unfold partP; rw [HX.out, List.take_length]
      have HXl : Hid (nx ≤ 8796093021952) := by show _ ≤ _; omega
      go_wp2_with fail
      refine (lastSpans_any Ax nx cx X 32 _ Rx (by omega) (by omega) HXl.out).mono ?_
      rintro e w2 ⟨A2, c2, rfl, R2, b2⟩
      go_wp2
      go_ret
      rw [EP.out]
      exact ⟨A2, c2, rfl, R2, hbr.trans (b2.mono hbr.size)⟩
end Go.Proofs.Ytnfgmklkfbcjkaa
