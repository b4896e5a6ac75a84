/-
  Walks of package fold that the proof reaches (picked out of the text of rows 1-4).
-/
import Derived.Test.YteigflkpopcjkaaPrfP
import Derived.Test.YteigflkpopcjkaaNums
import Derived.Deep.QuietTactic
import Derived.BigQuiet
namespace Go.Proofs.Yteigflkpopcjkaa
set_option linter.unusedSimpArgs false
set_option linter.unusedVariables false
set_option linter.unnecessarySimpa false
open Go.RowKit

theorem infoBool : (Try.prog.info? 4).map (fun i => (i.zero, i.size, i.bytes)) = some (some (.bool false), 1, 1) := by kernel_rfl
set_option maxHeartbeats 800000 in
theorem xors_any (A : Option Addr) (n c : Nat) (l : List Int) (w : World) (h : Rd w 1 A n c (Us l)) (hn : n ≤ 17592186043904) :
    Calls Try.prog 83 #[.slice A n c] w fun e w' =>
      e = .returned (.slice (some ⟨w.heap.size, 0, none⟩) (n + 1) (n + 1)) ∧
      w'.ownsRow w.heap.size 25 1 (.slice (some ⟨w.heap.size, 0, none⟩) (n + 1) (n + 1)) (n + 1) (Us (scan xor64 0 l)) ∧ Below w.heap.size w w' := by
  obtain ⟨i0, hi, hz0, hz1, hz2⟩ := info_parts infoU64
  have hl := h.len
  simp only [Us_length, Nat.mul_one] at hl
  subst hl
  go_enter Try.func83, Try.ntmps83
  go_wp2_with (at_make; refine wpList_make_full _ rfl _ _ 59 rfl w.heap.size 25 i0 (.int .u64 0) 1 Try.underlying59 hi hz0 hz1 _ _ _ _ (l.length + 1) rfl rfl ?c1 ?c2 ?b2 ?b3 (Nat.le_refl _) ?_)
  case c1 => omega
  case c2 => omega
  case b2 => rw [hz2]; omega
  case b3 => unfold maxLen; omega
  intro w0 hown0 hgrow0
  have e0 : (madeCells #[Value.int .u64 0] (l.length + 1)).toList = Us (part xor64 0 0 l 0) := by
    rw [part_zero, toList_madeCells_one]
    simp [Us]
  rw [e0] at hown0
  clear e0
  go_wp2
  go_loopw [12] (fun i wr => ∃ k : Nat, k ≤ l.length ∧ i = .int .i64 k ∧
      wr.ownsRow w.heap.size 25 1 (.slice (some ⟨w.heap.size, 0, none⟩) (l.length + 1) (l.length + 1)) (l.length + 1) (Us (part xor64 0 0 l k)) ∧ Below w.heap.size w wr) (fun i _ => l.length - (intOf i).toNat)
  case atStart => exact ⟨0, Nat.zero_le _, rfl, hown0, (Below.refl _ _).grown hgrow0 (Nat.le_refl _) (fun k h => by cases h)⟩
  case round =>
    obtain ⟨k, hk, rfl, hown, hb⟩ := hrel
    by_cases hlt : k < l.length
    · obtain ⟨b, off, rfl, hc⟩ := (h.below hb).u64 hlt
      have c1 := hown.cellAt k (by omega)
      rw [Us_get _ _ (by rw [part_length _ _ _ _ _ hk]; omega), part_at] at c1
      have c2 := hown.cellAt (k + 1) (by omega)
      rw [Us_get _ _ (by rw [part_length _ _ _ _ _ hk]; omega)] at c2
      have c3 := hown.frozenAt (k + 1)
      have c4 := hown.stored (k + 1) (.int .u64 (scanAt xor64 0 l (k + 1)))
      have e4 : (Us (part xor64 0 0 l k)).set (k + 1) (.int .u64 (scanAt xor64 0 l (k + 1))) = Us (part xor64 0 0 l (k + 1)) := by
        rw [← part_set _ _ _ _ _ hlt]; simp [Us, List.map_set]
      rw [e4] at c4
      clear e4
      have H4 := Lib.hid c4
      have H5 := Lib.hid (scanAt_succ xor64 0 l k hlt)
      clear c4
      go_wp2
      go_roundw
      case rel =>
        refine ⟨k + 1, by omega, by go_num, ?_, ?_⟩
        · have := H4.out.1
          rw [H5.out] at this
          exact this
        · exact hb.setCell (Nat.le_refl _) _
      case measure => simp [intOf]; omega
    · obtain rfl : k = l.length := by omega
      rw [part_end] at hown
      go_wp2
      go_ret
      exact ⟨rfl, hown, hb⟩
set_option maxHeartbeats 800000 in
theorem odds_any (A : Option Addr) (n c : Nat) (l : List Bool) (w : World) (h : Rd w 1 A n c (Bs l)) (hn : n ≤ 140737488351232) :
    Calls Try.prog 84 #[.slice A n c] w fun e w' =>
      e = .returned (.slice (some ⟨w.heap.size, 0, none⟩) (n + 1) (n + 1)) ∧
      w'.ownsRow w.heap.size 4 1 (.slice (some ⟨w.heap.size, 0, none⟩) (n + 1) (n + 1)) (n + 1) (Bs (scan (· != ·) false l)) ∧ Below w.heap.size w w' := by
  obtain ⟨i0, hi, hz0, hz1, hz2⟩ := info_parts infoBool
  have hl := h.len
  simp only [Bs_length, Nat.mul_one] at hl
  subst hl
  go_enter Try.func84, Try.ntmps84
  go_wp2_with (at_make; refine wpList_make_full _ rfl _ _ 22 rfl w.heap.size 4 i0 (.bool false) 1 Try.underlying22 hi hz0 hz1 _ _ _ _ (l.length + 1) rfl rfl ?c1 ?c2 ?b2 ?b3 (Nat.le_refl _) ?_)
  case c1 => omega
  case c2 => omega
  case b2 => rw [hz2]; omega
  case b3 => unfold maxLen; omega
  intro w0 hown0 hgrow0
  have e0 : (madeCells #[Value.bool false] (l.length + 1)).toList = Bs (part (· != ·) false false l 0) := by
    rw [part_zero, toList_madeCells_one]
    simp [Bs]
  rw [e0] at hown0
  clear e0
  go_wp2
  go_loopw [12] (fun i wr => ∃ k : Nat, k ≤ l.length ∧ i = .int .i64 k ∧
      wr.ownsRow w.heap.size 4 1 (.slice (some ⟨w.heap.size, 0, none⟩) (l.length + 1) (l.length + 1)) (l.length + 1) (Bs (part (· != ·) false false l k)) ∧ Below w.heap.size w wr) (fun i _ => l.length - (intOf i).toNat)
  case atStart => exact ⟨0, Nat.zero_le _, rfl, hown0, (Below.refl _ _).grown hgrow0 (Nat.le_refl _) (fun k h => by cases h)⟩
  case round =>
    obtain ⟨k, hk, rfl, hown, hb⟩ := hrel
    by_cases hlt : k < l.length
    · obtain ⟨b, off, rfl, hc⟩ := (h.below hb).bool hlt
      have c1 := hown.cellAt k (by omega)
      rw [Bs_get _ _ (by rw [part_length _ _ _ _ _ hk]; omega), part_at] at c1
      have c2 := hown.cellAt (k + 1) (by omega)
      rw [Bs_get _ _ (by rw [part_length _ _ _ _ _ hk]; omega)] at c2
      have c3 := hown.frozenAt (k + 1)
      have c4 := hown.stored (k + 1) (.bool (scanAt (· != ·) false l (k + 1)))
      have e4 : (Bs (part (· != ·) false false l k)).set (k + 1) (.bool (scanAt (· != ·) false l (k + 1))) = Bs (part (· != ·) false false l (k + 1)) := by
        rw [← part_set _ _ _ _ _ hlt]; simp [Bs, List.map_set]
      rw [e4] at c4
      clear e4
      have H4 := Lib.hid c4
      have H5 := Lib.hid (scanAt_succ (· != ·) false l k hlt)
      clear c4
      go_wp2
      go_roundw
      case rel =>
        refine ⟨k + 1, by omega, by go_num, ?_, ?_⟩
        · have := H4.out.1
          rw [H5.out] at this
          exact this
        · exact hb.setCell (Nat.le_refl _) _
      case measure => simp [intOf]; omega
    · obtain rfl : k = l.length := by omega
      rw [part_end] at hown
      go_wp2
      go_ret
      exact ⟨rfl, hown, hb⟩
def overV (l : List Int) (i j : Int) : Value :=
  if 0 ≤ i ∧ i ≤ j ∧ j < l.length then .tuple #[.int .u64 (xor64 (l.getD j.toNat 0) (l.getD i.toNat 0)), .bool true] else .tuple #[.int .u64 0, .bool false]
theorem overV_yes {l : List Int} {i j : Nat} (h : i ≤ j) (hj : j < l.length) : overV l i j = .tuple #[.int .u64 (xor64 (l.getD j 0) (l.getD i 0)), .bool true] := by
  unfold overV; rw [if_pos (by omega)]; simp
theorem overV_no {l : List Int} {i j : Int} (h : ¬ (0 ≤ i ∧ i ≤ j ∧ j < l.length)) : overV l i j = .tuple #[.int .u64 0, .bool false] := by
  unfold overV; rw [if_neg h]
theorem ret_eq {a b : Value} (h : a = b) : Ending.returned a = .returned b := by rw [h]
set_option maxHeartbeats 800000 in
theorem over_any (A : Option Addr) (n c : Nat) (l : List Int) (i j : Int) (w : World) (h : Rd w 1 A n c (Us l)) :
    Calls Try.prog 85 #[.slice A n c, .int .i64 i, .int .i64 j] w fun e w' =>
      e = .returned (overV l i j) ∧ Qt w w' := by
  have hl := h.len
  simp only [Us_length, Nat.mul_one] at hl
  subst hl
  have hmax := h.cap
  have hmax' := h.max
  unfold maxLen at hmax'
  by_cases h1 : 0 ≤ i
  · by_cases h2 : i ≤ j
    · by_cases h3 : j < l.length
      · obtain ⟨i, rfl⟩ := Int.eq_ofNat_of_zero_le h1
        obtain ⟨j, rfl⟩ := Int.eq_ofNat_of_zero_le (by omega : 0 ≤ j)
        have hj : j < l.length := by omega
        have hi : i < l.length := by omega
        obtain ⟨b, off, rfl, hc⟩ := h.u64 hj
        obtain ⟨b', off', e', hc'⟩ := h.u64 hi
        injection e' with e'
        injection e' with e1 e2
        subst e1
        subst e2
        go_enter Try.func85, Try.ntmps85
        go_wp2
        go_quiet (fail)
        go_wp2
        go_ret2
        exact ⟨ret_eq (by rw [overV_yes (by omega) hj]; simp [hj, hi, xor64]), (Qt.refl w).drewN _⟩
      · have h3' : decide (j < (l.length : Int)) = false := by simpa using h3
        go_enter Try.func85, Try.ntmps85
        go_wp2
        go_ret2
        exact ⟨ret_eq (by rw [overV_no (by omega)]; rfl), Qt.refl w⟩
    · go_enter Try.func85, Try.ntmps85
      go_wp2
      go_ret2
      exact ⟨ret_eq (by rw [overV_no (by omega)]; rfl), Qt.refl w⟩
  · go_enter Try.func85, Try.ntmps85
    go_wp2
    go_ret2
    exact ⟨ret_eq (by rw [overV_no (by omega)]; rfl), Qt.refl w⟩
def oddV (l : List Bool) (i j : Int) : Value :=
  if 0 ≤ i ∧ i ≤ j ∧ j < l.length then .tuple #[.bool (l.getD j.toNat false != l.getD i.toNat false), .bool true] else .tuple #[.bool false, .bool false]
theorem oddV_yes {l : List Bool} {i j : Nat} (h : i ≤ j) (hj : j < l.length) : oddV l i j = .tuple #[.bool (l.getD j false != l.getD i false), .bool true] := by
  unfold oddV; rw [if_pos (by omega)]; simp
theorem oddV_no {l : List Bool} {i j : Int} (h : ¬ (0 ≤ i ∧ i ≤ j ∧ j < l.length)) : oddV l i j = .tuple #[.bool false, .bool false] := by
  unfold oddV; rw [if_neg h]
set_option maxHeartbeats 800000 in
theorem odd_any (A : Option Addr) (n c : Nat) (l : List Bool) (i j : Int) (w : World) (h : Rd w 1 A n c (Bs l)) :
    Calls Try.prog 86 #[.slice A n c, .int .i64 i, .int .i64 j] w fun e w' =>
      e = .returned (oddV l i j) ∧ Qt w w' := by
  have hl := h.len
  simp only [Bs_length, Nat.mul_one] at hl
  subst hl
  have hmax := h.cap
  have hmax' := h.max
  unfold maxLen at hmax'
  by_cases h1 : 0 ≤ i
  · by_cases h2 : i ≤ j
    · by_cases h3 : j < l.length
      · obtain ⟨i, rfl⟩ := Int.eq_ofNat_of_zero_le h1
        obtain ⟨j, rfl⟩ := Int.eq_ofNat_of_zero_le (by omega : 0 ≤ j)
        have hj : j < l.length := by omega
        have hi : i < l.length := by omega
        obtain ⟨b, off, rfl, hc⟩ := h.bool hj
        obtain ⟨b', off', e', hc'⟩ := h.bool hi
        injection e' with e'
        injection e' with e1 e2
        subst e1
        subst e2
        go_enter Try.func86, Try.ntmps86
        go_wp2
        go_quiet (fail)
        go_wp2
        go_ret2
        exact ⟨ret_eq (by rw [oddV_yes (by omega) hj]; simp [hj, hi]; cases l[j] <;> cases l[i] <;> rfl), (Qt.refl w).drewN _⟩
      · have h3' : decide (j < (l.length : Int)) = false := by simpa using h3
        go_enter Try.func86, Try.ntmps86
        go_wp2
        go_ret2
        exact ⟨ret_eq (by rw [oddV_no (by omega)]; rfl), Qt.refl w⟩
    · go_enter Try.func86, Try.ntmps86
      go_wp2
      go_ret2
      exact ⟨ret_eq (by rw [oddV_no (by omega)]; rfl), Qt.refl w⟩
  · go_enter Try.func86, Try.ntmps86
    go_wp2
    go_ret2
    exact ⟨ret_eq (by rw [oddV_no (by omega)]; rfl), Qt.refl w⟩
theorem xors_rd (A : Option Addr) (n c : Nat) (l : List Int) (w : World) (h : Rd w 1 A n c (Us l)) (hn : n ≤ 17592186043904) :
    Calls Try.prog 83 #[.slice A n c] w fun e w' => ∃ A' c', e = .returned (.slice A' (n + 1) c') ∧ Rd w' 1 A' (n + 1) c' (Us (scan xor64 0 l)) ∧ Below w.heap.size w w' :=
  (xors_any A n c l w h hn).mono fun _ _ ⟨he, ho, hb⟩ => ⟨_, _, he, Rd.of_own ho, hb⟩
theorem odds_rd (A : Option Addr) (n c : Nat) (l : List Bool) (w : World) (h : Rd w 1 A n c (Bs l)) (hn : n ≤ 140737488351232) :
    Calls Try.prog 84 #[.slice A n c] w fun e w' => ∃ A' c', e = .returned (.slice A' (n + 1) c') ∧ Rd w' 1 A' (n + 1) c' (Bs (scan (· != ·) false l)) ∧ Below w.heap.size w w' :=
  (odds_any A n c l w h hn).mono fun _ _ ⟨he, ho, hb⟩ => ⟨_, _, he, Rd.of_own ho, hb⟩
end Go.Proofs.Yteigflkpopcjkaa
