/-
  Walks of package fold that the proof reaches (picked out of the text of rows 1-4). · proof.Sum: what must be shown of what is claimed. · The reference's Sum.
-/
import Derived.Test.YtpfmhkkglaghgaaGreatPrfP
import Derived.Test.YtpfmhkkglaghgaaGreatNumI
import Derived.Deep.QuietTactic
import Derived.BigQuiet
import Derived.Deep.RegionHeld3
import Derived.Deep.DeepCutAuto
import Derived.Test.YtpfmhkkglaghgaaGreatLookR
namespace Go.Proofs.YtpfmhkkglaghgaaGreat
set_option linter.unusedSimpArgs false
set_option linter.unusedVariables false
set_option linter.unnecessarySimpa false
open Go.RowKit

set_option maxHeartbeats 800000 in
theorem xors_any (A : Option Addr) (n c : Nat) (l : List Int) (w : World) (h : Rd w 1 A n c (Us l)) (hn : n ≤ 17592186043904) :
    Calls Tryz.prog 110 #[.slice A n c] w fun e w' =>
      e = .returned (.slice (some ⟨w.heap.size, 0, none⟩) (n + 1) (n + 1)) ∧
      w'.ownsRow w.heap.size 27 1 (.slice (some ⟨w.heap.size, 0, none⟩) (n + 1) (n + 1)) (n + 1) (Us (scan xor64 0 l)) ∧ Below w.heap.size w w' := by
  obtain ⟨i0, hi, hz0, hz1, hz2⟩ := info_parts infoU64
  have hl := h.len
  simp only [Us_length, Nat.mul_one] at hl
  subst hl
  go_enter Tryz.func110, Tryz.ntmps110
  go_wp2_with (at_make; refine wpList_make_full _ rfl _ _ 61 rfl w.heap.size 27 i0 (.int .u64 0) 1 Tryz.underlying61 hi hz0 hz1 _ _ _ _ (l.length + 1) rfl rfl ?c1 ?c2 ?b2 ?b3 (Nat.le_refl _) ?_)
  case c1 => omega
  case c2 => omega
  case b2 => rw [hz2]; omega
  case b3 => unfold maxLen; omega
  intro w0 hown0 hgrow0
  have e0 : (madeCells #[Value.int .u64 0] (l.length + 1)).toList = Us (part xor64 0 0 l 0) := by
    rw [part_zero, toList_madeCells_one]
    simp [Us]
  rw [e0] at hown0
  clear e0
  go_wp2
  go_loopw [12] (fun i wr => ∃ k : Nat, k ≤ l.length ∧ i = .int .i64 k ∧
      wr.ownsRow w.heap.size 27 1 (.slice (some ⟨w.heap.size, 0, none⟩) (l.length + 1) (l.length + 1)) (l.length + 1) (Us (part xor64 0 0 l k)) ∧ Below w.heap.size w wr) (fun i _ => l.length - (intOf i).toNat)
  case atStart => exact ⟨0, Nat.zero_le _, rfl, hown0, (Below.refl _ _).grown hgrow0 (Nat.le_refl _) (fun k h => by cases h)⟩
  case round =>
    obtain ⟨k, hk, rfl, hown, hb⟩ := hrel
    by_cases hlt : k < l.length
    · obtain ⟨b, off, rfl, hc⟩ := (h.below hb).u64 hlt
      have c1 := hown.cellAt k (by omega)
      rw [Us_get _ _ (by rw [part_length _ _ _ _ _ hk]; omega), part_at] at c1
      have c2 := hown.cellAt (k + 1) (by omega)
      rw [Us_get _ _ (by rw [part_length _ _ _ _ _ hk]; omega)] at c2
      have c3 := hown.frozenAt (k + 1)
      have c4 := hown.stored (k + 1) (.int .u64 (scanAt xor64 0 l (k + 1)))
      have e4 : (Us (part xor64 0 0 l k)).set (k + 1) (.int .u64 (scanAt xor64 0 l (k + 1))) = Us (part xor64 0 0 l (k + 1)) := by
        rw [← part_set _ _ _ _ _ hlt]; simp [Us, List.map_set]
      rw [e4] at c4
      clear e4
      have H4 := Lib.hid c4
      have H5 := Lib.hid (scanAt_succ xor64 0 l k hlt)
      clear c4
      go_wp2
      go_roundw
      case rel =>
        refine ⟨k + 1, by omega, by go_num, ?_, ?_⟩
        · have := H4.out.1
          rw [H5.out] at this
          exact this
        · exact hb.setCell (Nat.le_refl _) _
      case measure => simp [intOf]; omega
    · obtain rfl : k = l.length := by omega
      rw [part_end] at hown
      go_wp2
      go_ret
      exact ⟨rfl, hown, hb⟩
set_option maxHeartbeats 800000 in
theorem odds_any (A : Option Addr) (n c : Nat) (l : List Bool) (w : World) (h : Rd w 1 A n c (Bs l)) (hn : n ≤ 140737488351232) :
    Calls Tryz.prog 111 #[.slice A n c] w fun e w' =>
      e = .returned (.slice (some ⟨w.heap.size, 0, none⟩) (n + 1) (n + 1)) ∧
      w'.ownsRow w.heap.size 4 1 (.slice (some ⟨w.heap.size, 0, none⟩) (n + 1) (n + 1)) (n + 1) (Bs (scan (· != ·) false l)) ∧ Below w.heap.size w w' := by
  obtain ⟨i0, hi, hz0, hz1, hz2⟩ := info_parts infoBool
  have hl := h.len
  simp only [Bs_length, Nat.mul_one] at hl
  subst hl
  go_enter Tryz.func111, Tryz.ntmps111
  go_wp2_with (at_make; refine wpList_make_full _ rfl _ _ 62 rfl w.heap.size 4 i0 (.bool false) 1 Tryz.underlying62 hi hz0 hz1 _ _ _ _ (l.length + 1) rfl rfl ?c1 ?c2 ?b2 ?b3 (Nat.le_refl _) ?_)
  case c1 => omega
  case c2 => omega
  case b2 => rw [hz2]; omega
  case b3 => unfold maxLen; omega
  intro w0 hown0 hgrow0
  have e0 : (madeCells #[Value.bool false] (l.length + 1)).toList = Bs (part (· != ·) false false l 0) := by
    rw [part_zero, toList_madeCells_one]
    simp [Bs]
  rw [e0] at hown0
  clear e0
  go_wp2
  go_loopw [12] (fun i wr => ∃ k : Nat, k ≤ l.length ∧ i = .int .i64 k ∧
      wr.ownsRow w.heap.size 4 1 (.slice (some ⟨w.heap.size, 0, none⟩) (l.length + 1) (l.length + 1)) (l.length + 1) (Bs (part (· != ·) false false l k)) ∧ Below w.heap.size w wr) (fun i _ => l.length - (intOf i).toNat)
  case atStart => exact ⟨0, Nat.zero_le _, rfl, hown0, (Below.refl _ _).grown hgrow0 (Nat.le_refl _) (fun k h => by cases h)⟩
  case round =>
    obtain ⟨k, hk, rfl, hown, hb⟩ := hrel
    by_cases hlt : k < l.length
    · obtain ⟨b, off, rfl, hc⟩ := (h.below hb).bool hlt
      have c1 := hown.cellAt k (by omega)
      rw [Bs_get _ _ (by rw [part_length _ _ _ _ _ hk]; omega), part_at] at c1
      have c2 := hown.cellAt (k + 1) (by omega)
      rw [Bs_get _ _ (by rw [part_length _ _ _ _ _ hk]; omega)] at c2
      have c3 := hown.frozenAt (k + 1)
      have c4 := hown.stored (k + 1) (.bool (scanAt (· != ·) false l (k + 1)))
      have e4 : (Bs (part (· != ·) false false l k)).set (k + 1) (.bool (scanAt (· != ·) false l (k + 1))) = Bs (part (· != ·) false false l (k + 1)) := by
        rw [← part_set _ _ _ _ _ hlt]; simp [Bs, List.map_set]
      rw [e4] at c4
      clear e4
      have H4 := Lib.hid c4
      have H5 := Lib.hid (scanAt_succ (· != ·) false l k hlt)
      clear c4
      go_wp2
      go_roundw
      case rel =>
        refine ⟨k + 1, by omega, by go_num, ?_, ?_⟩
        · have := H4.out.1
          rw [H5.out] at this
          exact this
        · exact hb.setCell (Nat.le_refl _) _
      case measure => simp [intOf]; omega
    · obtain rfl : k = l.length := by omega
      rw [part_end] at hown
      go_wp2
      go_ret
      exact ⟨rfl, hown, hb⟩
def overV (l : List Int) (i j : Int) : Value :=
  if 0 ≤ i ∧ i ≤ j ∧ j < l.length then .tuple #[.int .u64 (xor64 (l.getD j.toNat 0) (l.getD i.toNat 0)), .bool true] else .tuple #[.int .u64 0, .bool false]
theorem overV_yes {l : List Int} {i j : Nat} (h : i ≤ j) (hj : j < l.length) : overV l i j = .tuple #[.int .u64 (xor64 (l.getD j 0) (l.getD i 0)), .bool true] := by
  unfold overV; rw [if_pos (by omega)]; simp
theorem overV_no {l : List Int} {i j : Int} (h : ¬ (0 ≤ i ∧ i ≤ j ∧ j < l.length)) : overV l i j = .tuple #[.int .u64 0, .bool false] := by
  unfold overV; rw [if_neg h]
theorem ret_eq {a b : Value} (h : a = b) : Ending.returned a = .returned b := by rw [h]
set_option maxHeartbeats 800000 in
theorem over_any (A : Option Addr) (n c : Nat) (l : List Int) (i j : Int) (w : World) (h : Rd w 1 A n c (Us l)) :
    Calls Tryz.prog 112 #[.slice A n c, .int .i64 i, .int .i64 j] w fun e w' =>
      e = .returned (overV l i j) ∧ Qt w w' := by
  have hl := h.len
  simp only [Us_length, Nat.mul_one] at hl
  subst hl
  have hmax := h.cap
  have hmax' := h.max
  unfold maxLen at hmax'
  by_cases h1 : 0 ≤ i
  · by_cases h2 : i ≤ j
    · by_cases h3 : j < l.length
      · obtain ⟨i, rfl⟩ := Int.eq_ofNat_of_zero_le h1
        obtain ⟨j, rfl⟩ := Int.eq_ofNat_of_zero_le (by omega : 0 ≤ j)
        have hj : j < l.length := by omega
        have hi : i < l.length := by omega
        obtain ⟨b, off, rfl, hc⟩ := h.u64 hj
        obtain ⟨b', off', e', hc'⟩ := h.u64 hi
        injection e' with e'
        injection e' with e1 e2
        subst e1
        subst e2
        go_enter Tryz.func112, Tryz.ntmps112
        go_wp2
        go_quiet (fail)
        go_wp2
        go_ret2
        exact ⟨ret_eq (by rw [overV_yes (by omega) hj]; simp [hj, hi, xor64]), (Qt.refl w).drewN _⟩
      · have h3' : decide (j < (l.length : Int)) = false := by simpa using h3
        go_enter Tryz.func112, Tryz.ntmps112
        go_wp2
        go_ret2
        exact ⟨ret_eq (by rw [overV_no (by omega)]; rfl), Qt.refl w⟩
    · go_enter Tryz.func112, Tryz.ntmps112
      go_wp2
      go_ret2
      exact ⟨ret_eq (by rw [overV_no (by omega)]; rfl), Qt.refl w⟩
  · go_enter Tryz.func112, Tryz.ntmps112
    go_wp2
    go_ret2
    exact ⟨ret_eq (by rw [overV_no (by omega)]; rfl), Qt.refl w⟩
def oddV (l : List Bool) (i j : Int) : Value :=
  if 0 ≤ i ∧ i ≤ j ∧ j < l.length then .tuple #[.bool (l.getD j.toNat false != l.getD i.toNat false), .bool true] else .tuple #[.bool false, .bool false]
theorem oddV_yes {l : List Bool} {i j : Nat} (h : i ≤ j) (hj : j < l.length) : oddV l i j = .tuple #[.bool (l.getD j false != l.getD i false), .bool true] := by
  unfold oddV; rw [if_pos (by omega)]; simp
theorem oddV_no {l : List Bool} {i j : Int} (h : ¬ (0 ≤ i ∧ i ≤ j ∧ j < l.length)) : oddV l i j = .tuple #[.bool false, .bool false] := by
  unfold oddV; rw [if_neg h]
set_option maxHeartbeats 800000 in
theorem odd_any (A : Option Addr) (n c : Nat) (l : List Bool) (i j : Int) (w : World) (h : Rd w 1 A n c (Bs l)) :
    Calls Tryz.prog 113 #[.slice A n c, .int .i64 i, .int .i64 j] w fun e w' =>
      e = .returned (oddV l i j) ∧ Qt w w' := by
  have hl := h.len
  simp only [Bs_length, Nat.mul_one] at hl
  subst hl
  have hmax := h.cap
  have hmax' := h.max
  unfold maxLen at hmax'
  by_cases h1 : 0 ≤ i
  · by_cases h2 : i ≤ j
    · by_cases h3 : j < l.length
      · obtain ⟨i, rfl⟩ := Int.eq_ofNat_of_zero_le h1
        obtain ⟨j, rfl⟩ := Int.eq_ofNat_of_zero_le (by omega : 0 ≤ j)
        have hj : j < l.length := by omega
        have hi : i < l.length := by omega
        obtain ⟨b, off, rfl, hc⟩ := h.bool hj
        obtain ⟨b', off', e', hc'⟩ := h.bool hi
        injection e' with e'
        injection e' with e1 e2
        subst e1
        subst e2
        go_enter Tryz.func113, Tryz.ntmps113
        go_wp2
        go_quiet (fail)
        go_wp2
        go_ret2
        exact ⟨ret_eq (by rw [oddV_yes (by omega) hj]; simp [hj, hi]; cases l[j] <;> cases l[i] <;> rfl), (Qt.refl w).drewN _⟩
      · have h3' : decide (j < (l.length : Int)) = false := by simpa using h3
        go_enter Tryz.func113, Tryz.ntmps113
        go_wp2
        go_ret2
        exact ⟨ret_eq (by rw [oddV_no (by omega)]; rfl), Qt.refl w⟩
    · go_enter Tryz.func113, Tryz.ntmps113
      go_wp2
      go_ret2
      exact ⟨ret_eq (by rw [oddV_no (by omega)]; rfl), Qt.refl w⟩
  · go_enter Tryz.func113, Tryz.ntmps113
    go_wp2
    go_ret2
    exact ⟨ret_eq (by rw [oddV_no (by omega)]; rfl), Qt.refl w⟩
theorem xors_rd (A : Option Addr) (n c : Nat) (l : List Int) (w : World) (h : Rd w 1 A n c (Us l)) (hn : n ≤ 17592186043904) :
    Calls Tryz.prog 110 #[.slice A n c] w fun e w' => ∃ A' c', e = .returned (.slice A' (n + 1) c') ∧ Rd w' 1 A' (n + 1) c' (Us (scan xor64 0 l)) ∧ Below w.heap.size w w' :=
  (xors_any A n c l w h hn).mono fun _ _ ⟨he, ho, hb⟩ => ⟨_, _, he, Rd.of_own ho, hb⟩
theorem odds_rd (A : Option Addr) (n c : Nat) (l : List Bool) (w : World) (h : Rd w 1 A n c (Bs l)) (hn : n ≤ 140737488351232) :
    Calls Tryz.prog 111 #[.slice A n c] w fun e w' => ∃ A' c', e = .returned (.slice A' (n + 1) c') ∧ Rd w' 1 A' (n + 1) c' (Bs (scan (· != ·) false l)) ∧ Below w.heap.size w w' :=
  (odds_any A n c l w h hn).mono fun _ _ ⟨he, ho, hb⟩ => ⟨_, _, he, Rd.of_own ho, hb⟩
end Go.Proofs.YtpfmhkkglaghgaaGreat

namespace Go.Proofs.YtpfmhkkglaghgaaGreat
set_option linter.unusedSimpArgs false
set_option linter.unusedVariables false
set_option linter.unnecessarySimpa false
open Go.RowKit

/-- Two rows of the call's own: nonces and coins, the first k laid. -/
structure SumRows (B : Nat) (gp gq : Nat) (mk : List Sp) (l : List Snt) (k : Nat) (W : World) : Prop where
  p : W.ownsRow B 27 1 (.slice (some ⟨gp, 0, none⟩) l.length l.length) l.length (Us ((l.take k).map Snt.nonce ++ List.replicate (l.length - k) 0))
  q : W.ownsRow B 4 1 (.slice (some ⟨gq, 0, none⟩) l.length l.length) l.length (Bs ((l.take k).map (LS.odd mk) ++ List.replicate (l.length - k) false))
  ne : gp ≠ gq
  bp : B ≤ gp
  bq : B ≤ gq
theorem SumRows.below {B gp gq k : Nat} {mk : List Sp} {l : List Snt} {W W' : World} (h : SumRows B gp gq mk l k W) (b : Below W.heap.size W W') : SumRows B gp gq mk l k W' :=
  ⟨own_chg h.p (chg_below b (F := fun _ => False)) (fun _ _ h => h), own_chg h.q (chg_below b (F := fun _ => False)) (fun _ _ h => h), h.ne, h.bp, h.bq⟩
theorem set_next {α β : Type} (f : α → β) (z : β) (l : List α) (k : Nat) (hk : k < l.length) : ((l.take k).map f ++ List.replicate (l.length - k) z).set k (f l[k]) = (l.take (k + 1)).map f ++ List.replicate (l.length - (k + 1)) z := by
  have e : l.length - k = (l.length - (k + 1)) + 1 := by omega
  have hl : ((l.take k).map f).length = k := by rw [List.length_map, List.length_take]; omega
  rw [List.set_append_right _ _ (by rw [hl]; exact Nat.le_refl _), hl, Nat.sub_self, e, List.replicate_succ, List.set_cons_zero, List.take_succ_eq_append_getElem hk, List.map_append, List.append_assoc]
  rfl
theorem SumRows.set_ {B gp gq k : Nat} {mk : List Sp} {l : List Snt} {W : World} (h : SumRows B gp gq mk l k W) (hk : k < l.length) :
    SumRows B gp gq mk l (k + 1) ((W.setCell ⟨gp, k, none⟩ (.int .u64 l[k].nonce)).setCell ⟨gq, k, none⟩ (.bool (LS.odd mk l[k]))) := by
  have h1 := (h.p.stored k (.int .u64 l[k].nonce)).1
  have h2 := own_chg h.q ((Chg.refl (fun j => j = gp) W).setCell (p := ⟨gp, k, none⟩) (.inl rfl) (.int .u64 l[k].nonce)) (fun j hj e => by
    simp [Value.ownBlock] at hj
    exact h.ne (e.symm.trans hj.symm))
  have h3 := own_chg h1 ((Chg.refl (fun j => j = gq) (W.setCell ⟨gp, k, none⟩ (.int .u64 l[k].nonce))).setCell (p := ⟨gq, k, none⟩) (.inl rfl) (.bool (LS.odd mk l[k]))) (fun j hj e => by
    simp [Value.ownBlock] at hj
    exact h.ne (hj.trans e))
  have h4 := (h2.stored k (.bool (LS.odd mk l[k]))).1
  have e1 : (Us ((l.take k).map Snt.nonce ++ List.replicate (l.length - k) 0)).set k (.int .u64 l[k].nonce) = Us ((l.take (k + 1)).map Snt.nonce ++ List.replicate (l.length - (k + 1)) 0) := by
    rw [← set_next Snt.nonce 0 l k hk]; simp [Us, List.map_set]
  have e2 : (Bs ((l.take k).map (LS.odd mk) ++ List.replicate (l.length - k) false)).set k (.bool (LS.odd mk l[k])) = Bs ((l.take (k + 1)).map (LS.odd mk) ++ List.replicate (l.length - (k + 1)) false) := by
    rw [← set_next (LS.odd mk) false l k hk]; simp [Bs, List.map_set]
  rw [e1] at h3
  rw [e2] at h4
  exact ⟨h3, h4, h.ne, h.bp, h.bq⟩
theorem sum_chg {gp gq k : Nat} {u v : Value} : (∀ W : World, Chg (fun j => j = gp ∨ j = gq) W (W.setCell ⟨gp, k, none⟩ u)) ∧ ∀ W : World, Chg (fun j => j = gp ∨ j = gq) W ((W.setCell ⟨gp, k, none⟩ u).setCell ⟨gq, k, none⟩ v) :=
  ⟨fun W => (Chg.refl (fun j => j = gp ∨ j = gq) W).setCell (p := ⟨gp, k, none⟩) (.inl (.inl rfl)) _, fun W => ((Chg.refl (fun j => j = gp ∨ j = gq) W).setCell (p := ⟨gp, k, none⟩) (.inl (.inl rfl)) _).setCell (p := ⟨gq, k, none⟩) (.inl (.inr rfl)) _⟩
theorem SumRows.lt {B gp gq k : Nat} {mk : List Sp} {l : List Snt} {W : World} (h : SumRows B gp gq mk l k W) (hn : 0 < l.length) : gp < W.heap.size ∧ gq < W.heap.size :=
  ⟨(h.p.lt gp (by simp [Value.ownBlock])).2, (h.q.lt gq (by simp [Value.ownBlock])).2⟩
theorem SumRows.cells {B gp gq k : Nat} {mk : List Sp} {l : List Snt} {W : World} (h : SumRows B gp gq mk l k W) (hk : k < l.length) :
    (∃ x, W.cell? ⟨gp, k, none⟩ = some x) ∧ W.frozen? ⟨gp, k, none⟩ = false ∧ (∃ y, W.cell? ⟨gq, k, none⟩ = some y) ∧ W.frozen? ⟨gq, k, none⟩ = false := by
  refine ⟨?_, h.p.frozenAt k, ?_, h.q.frozenAt k⟩
  · have := h.p.cellAt k (by omega)
    have hl := h.p.1
    simp at hl
    rw [this]
    exact ⟨_, List.getElem?_eq_getElem (by simp; omega)⟩
  · have := h.q.cellAt k (by omega)
    rw [this]
    exact ⟨_, List.getElem?_eq_getElem (by simp; omega)⟩

theorem SumRows.made (w : World) (mk : List Sp) (l : List Snt) (hl : l.length ≤ maxLen) :
    SumRows w.heap.size w.heap.size (w.heap.size + 1) mk l 0 (((w.alloc (.cells (madeCells #[.int .u64 0] l.length) 27)).alloc (.cells (madeCells #[.bool false] l.length) 4)).drew) ∧ Below w.heap.size w (((w.alloc (.cells (madeCells #[.int .u64 0] l.length) 27)).alloc (.cells (madeCells #[.bool false] l.length) 4)).drew) := by
  have h1 := World.ownsRow_lit (base := w.heap.size) (e := 27) (size := 1) w (madeCells #[.int .u64 0] l.length) l.length (Nat.le_refl _) hl (by rw [size_madeCells]; omega)
  have z1 : (w.alloc (.cells (madeCells #[.int .u64 0] l.length) 27)).heap.size = w.heap.size + 1 := by simp
  have b1 := box_below w (.cells (madeCells #[.int .u64 0] l.length) 27)
  generalize (w.alloc (.cells (madeCells #[.int .u64 0] l.length) 27)) = w1 at *
  have h2 := World.ownsRow_lit (base := w.heap.size) (e := 4) (size := 1) w1 (madeCells #[.bool false] l.length) l.length (by omega) hl (by rw [size_madeCells]; omega)
  have b2 := box_below w1 (.cells (madeCells #[.bool false] l.length) 4)
  have h1' := h1.alloc (.cells (madeCells #[.bool false] l.length) 4)
  rw [toList_madeCells_one] at h1' h2
  rw [z1] at h2
  exact ⟨⟨show (w1.alloc _).ownsRow _ _ _ _ _ _ from by simpa [Us] using h1', show (w1.alloc _).ownsRow _ _ _ _ _ _ from by simpa [Bs] using h2, by omega, Nat.le_refl _, by omega⟩, (b1.trans (b2.mono b1.size)).drew⟩
theorem SumRows.made' (w : World) (mk : List Sp) (l : List Snt) (hl : l.length ≤ maxLen) :
    SumRows w.heap.size (w.heap.size + 1) w.heap.size mk l 0 (((w.alloc (.cells (madeCells #[.bool false] l.length) 4)).alloc (.cells (madeCells #[.int .u64 0] l.length) 27)).drew) ∧ Below w.heap.size w (((w.alloc (.cells (madeCells #[.bool false] l.length) 4)).alloc (.cells (madeCells #[.int .u64 0] l.length) 27)).drew) := by
  have h1 := World.ownsRow_lit (base := w.heap.size) (e := 4) (size := 1) w (madeCells #[.bool false] l.length) l.length (Nat.le_refl _) hl (by rw [size_madeCells]; omega)
  have z1 : (w.alloc (.cells (madeCells #[.bool false] l.length) 4)).heap.size = w.heap.size + 1 := by simp
  have b1 := box_below w (.cells (madeCells #[.bool false] l.length) 4)
  generalize (w.alloc (.cells (madeCells #[.bool false] l.length) 4)) = w1 at *
  have h2 := World.ownsRow_lit (base := w.heap.size) (e := 27) (size := 1) w1 (madeCells #[.int .u64 0] l.length) l.length (by omega) hl (by rw [size_madeCells]; omega)
  have b2 := box_below w1 (.cells (madeCells #[.int .u64 0] l.length) 27)
  have h1' := h1.alloc (.cells (madeCells #[.int .u64 0] l.length) 27)
  rw [toList_madeCells_one] at h1' h2
  rw [z1] at h2
  exact ⟨⟨show (w1.alloc _).ownsRow _ _ _ _ _ _ from by simpa [Us] using h2, show (w1.alloc _).ownsRow _ _ _ _ _ _ from by simpa [Bs] using h1', by omega, by omega, Nat.le_refl _⟩, (b1.trans (b2.mono b1.size)).drew⟩

/-- What stays: the ledger, what is claimed and marked, all that is kept. -/
structure SumSt (w : World) (F : Nat → Prop) (b : Nat) (s : LS) (A1 A2 A3 : Option Addr) (c1 c2 c3 : Nat) (cl mk : List Sp) (W : World) : Prop where
  led : LedP W F b s
  r1 : Rd W 2 A1 cl.length c1 (Ss cl)
  r2 : Rd W 2 A2 mk.length c2 (Ss mk)
  r3 : Rd W 8 A3 s.kept.length c3 (Sns s.kept)
  bel : Below w.heap.size w W
theorem SumSt.below {w W W' : World} {F : Nat → Prop} {b : Nat} {s : LS} {A1 A2 A3 : Option Addr} {c1 c2 c3 : Nat} {cl mk : List Sp} (h : SumSt w F b s A1 A2 A3 c1 c2 c3 cl mk W) (q : Below W.heap.size W W') : SumSt w F b s A1 A2 A3 c1 c2 c3 cl mk W' :=
  ⟨h.led.below q, h.r1.below q, h.r2.below q, h.r3.below q, h.bel.trans (q.mono h.bel.size)⟩
theorem SumSt.chg {w w4 W W' : World} {F : Nat → Prop} {b gp gq : Nat} {s : LS} {A1 A2 A3 : Option Addr} {c1 c2 c3 : Nat} {cl mk : List Sp} (h4 : SumSt w F b s A1 A2 A3 c1 c2 c3 cl mk w4) (q : Below w4.heap.size w4 W) : SumSt w F b s A1 A2 A3 c1 c2 c3 cl mk W := h4.below q
/-- The first loop: k rows laid. -/
structure SumL1 (w w4 : World) (gp gq : Nat) (mk : List Sp) (l : List Snt) (k : Nat) (W : World) : Prop where
  rows : SumRows w4.heap.size gp gq mk l k W
  bel : Below w4.heap.size w4 W
theorem SumL1.below {w w4 W W' : World} {gp gq k : Nat} {mk : List Sp} {l : List Snt} (h : SumL1 w w4 gp gq mk l k W) (b : Below W.heap.size W W') : SumL1 w w4 gp gq mk l k W' :=
  ⟨h.rows.below b, h.bel.trans (b.mono h.bel.size)⟩
theorem SumL1.set_ {w w4 W : World} {gp gq k : Nat} {mk : List Sp} {l : List Snt} (h : SumL1 w w4 gp gq mk l k W) (hk : k < l.length) :
    SumL1 w w4 gp gq mk l (k + 1) ((W.setCell ⟨gp, k, none⟩ (.int .u64 l[k].nonce)).setCell ⟨gq, k, none⟩ (.bool (LS.odd mk l[k]))) :=
  ⟨h.rows.set_ hk, (h.bel.setCell h.rows.bp _).setCell h.rows.bq _⟩

theorem hasP_mono (cl : List Sp) (n : Int) (k : Nat) (h : hasP (cl.take k) n = true) : hasP cl n = true := by
  obtain ⟨s, hs, h1⟩ := (hasP_iff _ _).1 h
  exact (hasP_iff _ _).2 ⟨s, List.mem_of_mem_take hs, h1⟩
/-- The second loop: k claims told. -/
structure SumL2 (w : World) (F : Nat → Prop) (b : Nat) (s : LS) (A1 A2 A3 Ap Aq : Option Addr) (c1 c2 c3 cp cq : Nat) (cl mk : List Sp) (k : Nat) (X : Int) (O : Bool) (W : World) : Prop where
  st : SumSt w F b s A1 A2 A3 c1 c2 c3 cl mk W
  p : Rd W 1 Ap (s.kept.length + 1) cp (Us (scan xor64 0 (s.kept.map Snt.nonce)))
  q : Rd W 1 Aq (s.kept.length + 1) cq (Bs (scan (· != ·) false (s.kept.map (LS.odd mk))))
  rg : ∀ i, (h : i < cl.length) → i < k → (s.low : Int) ≤ cl[i].1 ∧ cl[i].2 < s.all.length
  ns : LS.noSkip s.kept (cl.take k)
  x : X = LS.sumX (cl.take k) s.kept
  o : O = LS.sumO (cl.take k) mk s.kept
theorem SumL2.below {w W W' : World} {F : Nat → Prop} {b : Nat} {s : LS} {A1 A2 A3 Ap Aq : Option Addr} {c1 c2 c3 cp cq : Nat} {cl mk : List Sp} {k : Nat} {X : Int} {O : Bool} (h : SumL2 w F b s A1 A2 A3 Ap Aq c1 c2 c3 cp cq cl mk k X O W) (q : Below W.heap.size W W') :
    SumL2 w F b s A1 A2 A3 Ap Aq c1 c2 c3 cp cq cl mk k X O W' := ⟨h.st.below q, h.p.below q, h.q.below q, h.rg, h.ns, h.x, h.o⟩

set_option maxHeartbeats 8000000 in
set_option maxRecDepth 100000 in
theorem sum_any (w : World) (F : Nat → Prop) (b : Nat) (s : LS) (A1 A2 : Option Addr) (c1 c2 : Nat) (cl mk : List Sp) (h : LedP w F b s) (h1 : Rd w 2 A1 cl.length c1 (Ss cl)) (h2 : Rd w 2 A2 mk.length c2 (Ss mk)) (u1 : U2s cl) (u2 : U2s mk) :
    Calls Tryz.prog 87 #[.pointer (some ⟨b, 0, none⟩), .slice A1 cl.length c1, .slice A2 mk.length c2] w fun e w' => e = .returned (.tuple #[.int .u64 (s.sum cl mk).1, .bool (s.sum cl mk).2.1, .bool (s.sum cl mk).2.2]) ∧ Below w.heap.size w w' := by
  obtain ⟨i0, hi0, hz0, hz1, hz2⟩ := info_parts infoU64
  obtain ⟨j0, hj0, hy0, hy1, hy2⟩ := info_parts infoBool
  have H := Lib.hid h
  have R1 := Lib.hid h1
  have R2 := Lib.hid h2
  have U1 := Lib.hid u1
  have U2 := Lib.hid u2
  have G := Lib.hid h.good
  have k1 := s.kept_le
  have k2 := h.good.ring256
  have x1 := h1.cap
  have x2 := h1.max
  unfold maxLen at x2
  clear h h1 h2 u1 u2
  by_cases g1 : Good cl
  · by_cases g2 : Good mk
    · have b1 := Lib.hid (good_any A1 _ c1 cl w R1.out U1.out)
      rw [goodB_true g1] at b1
      go_enter Tryz.func87, Tryz.ntmps87
      go_wp2_with fail
      refine b1.out.mono ?_
      rintro e w1 ⟨rfl, q1⟩
      have b2 := Lib.hid (good_any A2 _ c2 mk w1 (R2.out.below q1) U2.out)
      rw [goodB_true g2] at b2
      have H1 := Lib.hid (H.out.below q1)
      have R1' := Lib.hid (R1.out.below q1)
      have R2' := Lib.hid (R2.out.below q1)
      have Q1 := Lib.hid q1
      clear q1 H R1 R2
      go_wp2_with fail
      refine b2.out.mono ?_
      rintro e w2 ⟨rfl, q2⟩
      have H2 := Lib.hid (H1.out.below q2)
      have R1 := Lib.hid (R1'.out.below q2)
      have R2 := Lib.hid (R2'.out.below q2)
      have Q2 := Lib.hid (Q1.out.trans (q2.mono Q1.out.size))
      clear q2 H1 R1' R2' Q1
      go_wp2_with fail
      refine (led_low w2 F b s H2.out).mono ?_
      rintro e w3 ⟨rfl, q3⟩
      have H3 := Lib.hid (H2.out.qt q3)
      have Q3 : Hid (Below w2.heap.size w2 w3) := q3.below
      clear H2 q3
      go_wp2_with fail
      refine (led_all w3 F b s H3.out).mono ?_
      rintro e w4 ⟨A3, c3, rfl, o3, q4⟩
      have S4 : Hid (SumSt w F b s A1 A2 A3 c1 c2 c3 cl mk w4) := ⟨H3.out.below q4, (R1.out.below Q3.out).below q4, (R2.out.below Q3.out).below q4, Rd.of_own o3, (Q2.out.trans (Q3.out.mono Q2.out.size)).trans (q4.mono (Q2.out.trans (Q3.out.mono Q2.out.size)).size)⟩
      clear o3 q4 H3 R1 R2 Q2 Q3 b1 b2
      go_upto_region 4 with fail
      go_cut [11, 12] (fun p q wx => ∃ gp gq : Nat, p = .slice (some ⟨gp, 0, none⟩) s.kept.length s.kept.length ∧ q = .slice (some ⟨gq, 0, none⟩) s.kept.length s.kept.length ∧ Hid (SumRows w4.heap.size gp gq mk s.kept 0 wx ∧ Below w4.heap.size w4 wx))
      case first =>
        have M1 := fun W : World => run_make (P := Tryz.prog) W 61 27 i0 _ Tryz.underlying61 hi0 hz0 .i64 .i64 s.kept.length s.kept.length (by omega) (Int.le_refl _) (by rw [hz2]; omega) (by omega)
        have M2 := fun W : World => run_make (P := Tryz.prog) W 62 4 j0 _ Tryz.underlying62 hj0 hy0 .i64 .i64 s.kept.length s.kept.length (by omega) (Int.le_refl _) (by rw [hy2]; omega) (by omega)
        simp only [Int.toNat_natCast, hz1, hy1, Nat.mul_one] at M1 M2
        go_region
        · go_wp2_with fail
          go_meet
          exact ⟨_, _, rfl, rfl, SumRows.made w4 mk s.kept (by unfold maxLen; omega)⟩
        · go_wp2_with fail
          go_meet
          exact ⟨_, _, rfl, rfl, SumRows.made' w4 mk s.kept (by unfold maxLen; omega)⟩
      case rest =>
        obtain ⟨gp, gq, rfl, rfl, RW⟩ := hcut
        have L0 : Hid (SumL1 w w4 gp gq mk s.kept 0 wc) := ⟨RW.out.1, RW.out.2⟩
        clear RW
        go_wp2_with fail
        go_loopw [53] (fun i wr => ∃ k : Nat, k ≤ s.kept.length ∧ i = .int .i64 k ∧ Hid (SumL1 w w4 gp gq mk s.kept k wr)) (fun i _ => s.kept.length - (intOf i).toNat)
        case atStart => exact ⟨0, Nat.zero_le _, rfl, L0⟩
        case round =>
          obtain ⟨k, hk, rfl, L1⟩ := hrel
          by_cases hlt : k < s.kept.length
          · obtain ⟨bb, off, rfl, d0, d1, d2, d3, d4, d5, d6, d7⟩ := (S4.out.below L1.out.bel).r3.snt hlt
            have ok := (G.out.keptOk s.kept[k] (List.getElem_mem _)).pn
            have BX := Lib.hid (heap_alloc_new wr (.cells #[.int .u64 s.kept[k].pn, .int .u64 s.kept[k].off, .int .u64 s.kept[k].len, .int .u64 s.kept[k].nonce, .int .u64 s.kept[k].at_, .bool s.kept[k].coin, .bool s.kept[k].used, .int .i64 s.kept[k].state] 66))
            have EB := box_below wr (.cells #[.int .u64 s.kept[k].pn, .int .u64 s.kept[k].off, .int .u64 s.kept[k].len, .int .u64 s.kept[k].nonce, .int .u64 s.kept[k].at_, .bool s.kept[k].coin, .bool s.kept[k].used, .int .i64 s.kept[k].state] 66)
            have L2 := Lib.hid (L1.out.below EB)
            have ST := Lib.hid (fun W (h : SumL1 w w4 gp gq mk s.kept k W) => h.set_ hlt)
            have CE := Lib.hid (fun W (h : SumL1 w w4 gp gq mk s.kept k W) => h.rows.cells hlt)
            have OD : Hid (LS.odd mk s.kept[k] = (s.kept[k].coin && !hasP mk s.kept[k].pn)) := rfl
            clear EB
            generalize LS.odd mk s.kept[k] = od at *
            generalize s.kept[k] = y at *
            obtain ⟨pn, of, len, nonce, at_, coin, used, state⟩ := y
            simp only at d0 d1 d2 d3 d4 d5 d6 d7 ok BX L2 ST OD ⊢
            obtain ⟨ok0, ok1⟩ := ok
            go_upto_region 8 with fail
            obtain ⟨ne1, ne2⟩ := L1.out.rows.lt (by omega)
            have nF : ¬ (wr.heap.size = gp ∨ wr.heap.size = gq) := by omega
            have X0 := mixF_cell (F := fun j => j = gp ∨ j = gq) (cell_of_row _ wr.heap.size 0 _ _ _ BX.out) nF
            have X3 := mixF_cell (F := fun j => j = gp ∨ j = gq) (cell_of_row _ wr.heap.size 3 _ _ _ BX.out) nF
            have X5 := mixF_cell (F := fun j => j = gp ∨ j = gq) (cell_of_row _ wr.heap.size 5 _ _ _ BX.out) nF
            simp only [List.getElem_toArray, List.getElem_cons_zero, List.getElem_cons_succ] at X0 X3 X5
            have R2 := Lib.hid ((S4.out.below L2.out.bel).r2)
            have SC := Lib.hid (sum_chg (gp := gp) (gq := gq) (k := k) (u := .int .u64 nonce) (v := .bool od))
            generalize hW : (wr.alloc (.cells #[.int .u64 pn, .int .u64 of, .int .u64 len, .int .u64 nonce, .int .u64 at_, .bool coin, .bool used, .int .i64 state] 66)) = wb at *
            clear hW d0 d1 d2 d3 d4 d5 d6 d7 ne1 ne2
            have i1 : (0 : Int) ≤ k := by omega
            have i2 : (k : Int) < s.kept.length := by omega
            cases coin with
            | true =>
              have HH := Lib.hid (has_yes A2 _ c2 mk pn _ (R2.out.below (Below.refl _ _).drew) U2.out g2 ok0 ok1)
              generalize hasP mk pn = hm at *
              obtain rfl : od = !hm := by have := OD.out; simpa using this
              refine wp_region_chg (fun j => j = gp ∨ j = gq) (by kernel_rfl) (by kernel_rfl) ?_
              repeat (refine wpMix_seg 1 _ _ rfl ?_; simp only [List.take_succ_cons, List.take_zero, List.drop_succ_cons, List.drop_zero]; go_big_quiet_step (fail); refine wpQuiet_nil ?_)
              refine wpMix_bar rfl (by rfl) ?_
              go_wp2_with fail
              refine HH.out.mono ?_
              rintro e w9 ⟨rfl, b9⟩
              have B9 : Hid (Below wb.heap.size wb w9) := ((Below.refl _ _).drew).trans b9
              have L9 := Lib.hid (L2.out.below B9.out)
              obtain ⟨⟨x, e1⟩, f1, ⟨y, e2⟩, f2⟩ := CE.out w9 L9.out
              have hne := L9.out.rows.ne
              have hne' : gq ≠ gp := fun e => hne e.symm
              clear b9
              go_wp2
              refine ⟨chg_mixF (chg_below B9.out), ?_⟩
              repeat (refine wpMix_seg 1 _ _ rfl ?_; simp only [List.take_succ_cons, List.take_zero, List.drop_succ_cons, List.drop_zero]; go_big_quiet_step (fail); refine wpQuiet_nil ?_)
              refine wpMix_bar rfl (by rfl) ?_
              go_wp2
              refine ⟨chg_mixF ((chg_below B9.out).step (SC.out.1 w9) (fun _ _ h => h)), ?_⟩
              repeat (refine wpMix_seg 1 _ _ rfl ?_; simp only [List.take_succ_cons, List.take_zero, List.drop_succ_cons, List.drop_zero]; go_big_quiet_step (fail); refine wpQuiet_nil ?_)
              refine wpMix_bar rfl (by rfl) ?_
              go_wp2
              refine ⟨chg_mixF ((chg_below B9.out).step (SC.out.2 w9) (fun _ _ h => h)), ?_⟩
              repeat (refine wpMix_seg 1 _ _ rfl ?_; simp only [List.take_succ_cons, List.take_zero, List.drop_succ_cons, List.drop_zero]; go_big_quiet_step (fail); refine wpQuiet_nil ?_)
              refine wpMix_nil ?_
              go_wp2
              go_roundw
              case rel => exact ⟨k + 1, by omega, by go_num, ST.out w9 L9.out⟩
              case measure => simp [intOf]; omega
            | false =>
              obtain rfl : od = false := by have := OD.out; simpa using this
              refine wp_region_chg (fun j => j = gp ∨ j = gq) (by kernel_rfl) (by kernel_rfl) ?_
              repeat (refine wpMix_seg 1 _ _ rfl ?_; simp only [List.take_succ_cons, List.take_zero, List.drop_succ_cons, List.drop_zero]; go_big_quiet_step (fail); refine wpQuiet_nil ?_)
              refine wpMix_skip (by rfl) ?_
              simp only [Act.put, List.setIfInBounds_toArray, List.set_cons_zero, List.set_cons_succ]
              repeat (refine wpMix_seg 1 _ _ rfl ?_; simp only [List.take_succ_cons, List.take_zero, List.drop_succ_cons, List.drop_zero]; go_big_quiet_step (fail); refine wpQuiet_nil ?_)
              have B9 : Hid (Below wb.heap.size wb wb.drew) := (Below.refl _ _).drew
              generalize wb.drew = w9 at *
              have L9 := Lib.hid (L2.out.below B9.out)
              obtain ⟨⟨x, e1⟩, f1, ⟨y, e2⟩, f2⟩ := CE.out w9 L9.out
              have hne := L9.out.rows.ne
              have hne' : gq ≠ gp := fun e => hne e.symm
              refine wpMix_bar rfl (by rfl) ?_
              go_wp2
              refine ⟨chg_mixF ((chg_below B9.out).step (SC.out.1 w9) (fun _ _ h => h)), ?_⟩
              repeat (refine wpMix_seg 1 _ _ rfl ?_; simp only [List.take_succ_cons, List.take_zero, List.drop_succ_cons, List.drop_zero]; go_big_quiet_step (fail); refine wpQuiet_nil ?_)
              refine wpMix_bar rfl (by rfl) ?_
              go_wp2
              refine ⟨chg_mixF ((chg_below B9.out).step (SC.out.2 w9) (fun _ _ h => h)), ?_⟩
              repeat (refine wpMix_seg 1 _ _ rfl ?_; simp only [List.take_succ_cons, List.take_zero, List.drop_succ_cons, List.drop_zero]; go_big_quiet_step (fail); refine wpQuiet_nil ?_)
              refine wpMix_nil ?_
              go_wp2
              go_roundw
              case rel => exact ⟨k + 1, by omega, by go_num, ST.out w9 L9.out⟩
              case measure => simp [intOf]; omega
          · obtain rfl : k = s.kept.length := by omega
            have RP : Hid (Rd wr 1 (some ⟨gp, 0, none⟩) s.kept.length s.kept.length (Us (s.kept.map Snt.nonce))) := by
              have := Rd.of_own L1.out.rows.p
              have h : Rd wr 1 (some ⟨gp, 0, none⟩) s.kept.length s.kept.length (Us (s.kept.map Snt.nonce)) := by simpa using this
              exact h
            have RQ : Hid (Rd wr 1 (some ⟨gq, 0, none⟩) s.kept.length s.kept.length (Bs (s.kept.map (LS.odd mk)))) := by
              have := Rd.of_own L1.out.rows.q
              have h : Rd wr 1 (some ⟨gq, 0, none⟩) s.kept.length s.kept.length (Bs (s.kept.map (LS.odd mk))) := by simpa using this
              exact h
            have S5 := Lib.hid (S4.out.below L1.out.bel)
            clear L1 S4 L0
            go_wp2_with fail
            refine (xors_rd _ _ _ (s.kept.map Snt.nonce) wr RP.out (by omega)).mono ?_
            rintro e w6 ⟨Ap, cp, rfl, hp, b6⟩
            have RP6 := Lib.hid hp
            have RQ6 := Lib.hid (RQ.out.below b6)
            have S6 := Lib.hid (S5.out.below b6)
            clear hp b6 RP RQ S5
            go_wp2_with fail
            refine (odds_rd _ _ _ (s.kept.map (LS.odd mk)) w6 RQ6.out (by omega)).mono ?_
            rintro e w7 ⟨Aq, cq, rfl, hq, b7⟩
            have L7 : Hid (SumL2 w F b s A1 A2 A3 Ap Aq c1 c2 c3 cp cq cl mk 0 0 false w7) := ⟨S6.out.below b7, RP6.out.below b7, hq, fun i hi h => by omega, fun x hx h => by simp [hasP] at h, (LS.sum_zero cl mk s.kept).1.symm, (LS.sum_zero cl mk s.kept).2.symm⟩
            clear hq b7 RP6 RQ6 S6
            go_wp2_with fail
            go_loopw [82, 17, 18] (fun i x o wr => ∃ (k : Nat) (X : Int) (O : Bool), k ≤ cl.length ∧ i = .int .i64 k ∧ x = .int .u64 X ∧ o = .bool O ∧ Hid (SumL2 w F b s A1 A2 A3 Ap Aq c1 c2 c3 cp cq cl mk k X O wr)) (fun i _ _ _ => cl.length - (intOf i).toNat)
            case atStart => exact ⟨0, 0, false, Nat.zero_le _, rfl, rfl, rfl, L7⟩
            case round =>
              obtain ⟨k, X, O, hk, rfl, rfl, rfl, L2⟩ := hrel
              by_cases hlt : k < cl.length
              · obtain ⟨sb, so, x, y, rfl, Hx, x0, y0, x1, x2, y1, y2⟩ := L2.out.st.r1.sp U1.out hlt
                have EB := box_below wr (.cells #[.int .u64 x, .int .u64 y] 141)
                have BX := Lib.hid (heap_alloc_new wr (.cells #[.int .u64 x, .int .u64 y] 141))
                have L3 := Lib.hid (L2.out.below EB)
                have k3 := s.low_le
                have k4 := G.out.len
                have k5 := G.out.lim1
                have K6 : Hid (s.kept.length = s.all.length - s.low) := by
                  have h : s.kept.length = s.all.length - s.low := by simp [LS.kept]
                  exact h
                clear EB L2
                go_upto_region 16 with fail
                generalize hW : (wr.alloc (.cells #[.int .u64 x, .int .u64 y] 141)) = wb at *
                have v0 := cell_of_row wb wr.heap.size 0 _ _ _ BX.out
                have v1 := cell_of_row wb wr.heap.size 1 _ _ _ BX.out
                clear hW x0 y0
                generalize wr.heap.size = gb at *
                by_cases e1 : x < s.low
                · have c1' : decide (x < (s.low : Int)) = true := by simpa using e1
                  have HS := Lib.hid (LS.sum_no (s := s) (cl := cl) (mk := mk) (fun h => by
                    have := (h.2.2.1 cl[k] (List.getElem_mem hlt)).1
                    rw [Hx.out] at this
                    simp only at this
                    omega))
                  refine wp_region_qt (by kernel_rfl) (by kernel_rfl) ?_
                  repeat (go_big_quiet_step (fail))
                  refine wpQuiet_nil ?_
                  intro w5 q5
                  go_wp2
                  go_ret3
                  rw [HS.out]
                  exact ⟨rfl, L3.out.st.bel.trans q5.below⟩
                · have c1' : decide (x < (s.low : Int)) = false := by simp; omega
                  by_cases e2 : (s.all.length : Int) ≤ y
                  · have HS := Lib.hid (LS.sum_no (s := s) (cl := cl) (mk := mk) (fun h => by
                      have := (h.2.2.1 cl[k] (List.getElem_mem hlt)).2
                      rw [Hx.out] at this
                      simp only at this
                      omega))
                    refine wp_region_qt (by kernel_rfl) (by kernel_rfl) ?_
                    repeat (first | go_big_quiet_step ((go_at_call 86; exact Qt.callN (led_next _ F b s L3.out.st.led.dn))) | quiet_step ((go_at_call 86; exact Qt.callN (led_next _ F b s L3.out.st.led.dn))))
                    refine wpQuiet_nil ?_
                    intro w5 q5
                    go_wp2
                    go_ret3
                    rw [HS.out]
                    exact ⟨rfl, L3.out.st.bel.trans q5.below⟩
                  · have hsp := (g1 k hlt).1.1
                    rw [Hx.out] at hsp
                    simp only at hsp
                    refine wp_region_qt (by kernel_rfl) (by kernel_rfl) ?_
                    repeat (first | go_big_quiet_step ((go_at_call 86; exact Qt.callN (led_next _ F b s L3.out.st.led.dn))) | quiet_step ((go_at_call 86; exact Qt.callN (led_next _ F b s L3.out.st.led.dn))))
                    refine wpQuiet_nil ?_
                    intro w5 q5
                    have L5 := Lib.hid (L3.out.below q5.below)
                    have v0 := cell_of_row w5 gb 0 _ _ _ ((q5.below.block _ (lt_of_block BX.out)).trans BX.out)
                    have v1 := cell_of_row w5 gb 1 _ _ _ ((q5.below.block _ (lt_of_block BX.out)).trans BX.out)
                    clear q5 L3
                    obtain ⟨f, hf⟩ : ∃ f : Nat, x = s.low + f := ⟨(x - s.low).toNat, by omega⟩
                    obtain ⟨t, ht⟩ : ∃ t : Nat, y = s.low + t := ⟨(y - s.low).toNat, by omega⟩
                    subst hf
                    subst ht
                    have Wa : IntKind.u64.wrap ((s.low : Int) + f - s.low) = f := by rw [IntWalk.u64_in _ (by omega)]; omega
                    have Wb : IntKind.u64.wrap ((s.low : Int) + t - s.low) = t := by rw [IntWalk.u64_in _ (by omega)]; omega
                    have Wc : IntKind.i64.wrap (f : Int) = f := IntWalk.i64_in _ (by omega)
                    have Wd : IntKind.i64.wrap (t : Int) = t := IntWalk.i64_in _ (by omega)
                    have We : IntKind.i64.wrap ((t : Int) + 1) = t + 1 := IntWalk.i64_in _ (by omega)
                    go_wp2_with fail
                    refine wp_region_qt (by kernel_rfl) (by kernel_rfl) ?_
                    repeat (go_big_quiet_step (fail))
                    refine wpQuiet_nil ?_
                    intro w8 q8
                    have r3c := L5.out.st.r3.cap
                    have j1 : f ≤ t + 1 := by omega
                    have j2 : t + 1 ≤ c3 := by have := K6.out; omega
                    have j3 : t + 1 ≤ s.kept.length := by have := K6.out; omega
                    have j4 : (0 : Int) ≤ f := by omega
                    have j5 : (f : Int) ≤ t + 1 := by omega
                    have j6 : (t : Int) + 1 ≤ c3 := by omega
                    have j7 : (0 : Int) ≤ (t : Int) + 1 := by omega
                    have j8 : f < c3 := by omega
                    have j9 : ¬ c3 = f := by omega
                    have j10 : ¬ f = c3 := by omega
                    have j11 : ¬ c3 ≤ f := by omega
                    have K5 := Lib.hid k5
                    have L8 := Lib.hid (L5.out.below q8.below)
                    obtain ⟨ab, ao, ha3, -⟩ := L8.out.st.r3.on_ (by omega)
                    have NX : Hid (∀ j, (h : f + j < s.kept.length) → j < t + 1 - f → hasP (cl.take (k + 1)) s.kept[f + j].pn = true) := fun j hj hjt => by
                      rw [LS.hasP_take hlt, Hx.out, G.out.keptPn hj]
                      simp [inSp]
                      omega
                    clear q8 L5 Wa Wb Wc Wd We x1 x2 y1 y2 k4 k5 hsp v0 v1 e1 e2 c1'
                    subst ha3
                    have NZ : Hid (∀ j, (h : f + j < s.kept.length) → j < t + 1 - f → s.kept[f + j].state = 4 → s.sum cl mk = (0, false, false)) := fun j hj hjt hs => LS.sum_no (fun hh => hh.2.2.2 _ (List.getElem_mem hj) (hasP_mono _ _ (k + 1) (NX.out j hj hjt)) hs)
                    go_wp2_with fail
                    go_loopw [113] (fun i wr => ∃ j : Nat, j ≤ t + 1 - f ∧ i = .int .i64 j ∧ Hid (SumL2 w F b s (some ⟨sb, so, none⟩) A2 (some ⟨ab, ao, none⟩) Ap Aq c1 c2 c3 cp cq cl mk k X O wr ∧ ∀ i, (h : f + i < s.kept.length) → i < j → s.kept[f + i].state ≠ 4)) (fun i _ => t + 1 - f - (intOf i).toNat)
                    case atStart => exact ⟨0, Nat.zero_le _, rfl, L8.out, fun i _ h => absurd h (by omega)⟩
                    case round =>
                      obtain ⟨j, hj, rfl, LJ⟩ := hrel
                      by_cases hjt : j < t + 1 - f
                      · have hfj : f + j < s.kept.length := by omega
                        obtain ⟨bb, off, hbo, d0, d1, d2, d3, d4, d5, d6, d7⟩ := LJ.out.1.st.r3.snt hfj
                        injection hbo with hbo
                        injection hbo with hb1 hb2
                        subst hb1
                        subst hb2
                        have NZj := Lib.hid (NZ.out j hfj hjt)
                        have ADV : Hid (s.kept[f + j].state ≠ 4 → ∀ i, (h : f + i < s.kept.length) → i < j + 1 → s.kept[f + i].state ≠ 4) := fun hs i hi hij => by
                          by_cases e : i = j
                          · subst e; exact hs
                          · exact LJ.out.2 i hi (by omega)
                        have ea : ao + (f + j) * 8 = ao + f * 8 + j * 8 := by omega
                        rw [ea] at d0 d1 d2 d3 d4 d5 d6 d7
                        clear ea
                        generalize s.kept[f + j] = z at *
                        obtain ⟨pn, of, len, nonce, at_, coin, used, state⟩ := z
                        simp only at d0 d1 d2 d3 d4 d5 d6 d7 NZj ADV
                        by_cases e4 : state = 4
                        · subst e4
                          go_wp2
                          go_ret3
                          rw [NZj.out (by first | rfl | trivial)]
                          exact ⟨rfl, LJ.out.1.st.bel.trans ((box_below _ _).mono LJ.out.1.st.bel.size)⟩
                        · go_wp2
                          go_roundw
                          case rel => exact ⟨j + 1, by omega, by go_num, LJ.out.1.below (box_below _ _), ADV.out e4⟩
                          case measure => simp [intOf]; omega
                      · obtain rfl : j = t + 1 - f := by omega
                        have hst := LS.step_sum G.out g1 hlt (f := f) (t := t + 1) (by rw [Hx.out]; show (s.low : Int) ≤ s.low + f; omega) (by rw [Hx.out]; show (s.low : Int) + t < s.all.length; have := K6.out; omega) (by rw [Hx.out]; show (f : Int) = (s.low : Int) + f - s.low; omega) (by rw [Hx.out]; show ((t + 1 : Nat) : Int) = (s.low : Int) + t - s.low + 1; omega) mk
                        have ov := over_any Ap (s.kept.length + 1) cp (scan xor64 0 (s.kept.map Snt.nonce)) (f : Int) ((t : Int) + 1) wr LJ.out.1.p
                        rw [show ((t : Int) + 1) = ((t + 1 : Nat) : Int) by push_cast; rfl, overV_yes j1 (by simp; omega), scan_get _ _ _ _ _ (by simp; omega), scan_get _ _ _ _ _ (by simp; omega)] at ov
                        have od := fun W (R : Rd W 1 Aq (s.kept.length + 1) cq (Bs (scan (· != ·) false (s.kept.map (LS.odd mk))))) => odd_any Aq (s.kept.length + 1) cq (scan (· != ·) false (s.kept.map (LS.odd mk))) (f : Int) ((t : Int) + 1) W R
                        rw [show ((t : Int) + 1) = ((t + 1 : Nat) : Int) by push_cast; rfl, oddV_yes j1 (by simp; omega), scan_get _ _ _ _ _ (by simp; omega), scan_get _ _ _ _ _ (by simp; omega)] at od
                        obtain ⟨-, -, hst1, hst2⟩ := hst
                        rw [← LJ.out.1.x] at hst1
                        rw [← LJ.out.1.o] at hst2
                        generalize xor64 (scanAt xor64 0 (s.kept.map Snt.nonce) (t + 1)) (scanAt xor64 0 (s.kept.map Snt.nonce) f) = WX at *
                        generalize (scanAt (fun a b : Bool => a != b) false (s.kept.map (LS.odd mk)) (t + 1) != scanAt (fun a b : Bool => a != b) false (s.kept.map (LS.odd mk)) f) = WO at *
                        rw [show ((t + 1 : Nat) : Int) = (t : Int) + 1 by push_cast; rfl] at ov od
                        have L2' : Hid (∀ W', Below wr.heap.size wr W' → SumL2 w F b s (some ⟨sb, so, none⟩) A2 (some ⟨ab, ao, none⟩) Ap Aq c1 c2 c3 cp cq cl mk (k + 1) (xor64 X WX) (O != WO) W') := fun W' bb => by
                          have h0 := LJ.out.1.below bb
                          refine ⟨h0.st, h0.p, h0.q, fun i hi hik => ?_, fun z hz hp => ?_, hst1.symm, hst2.symm⟩
                          · by_cases e : i = k
                            · subst e
                              rw [Hx.out]
                              have := K6.out
                              show (s.low : Int) ≤ s.low + f ∧ (s.low : Int) + t < s.all.length
                              omega
                            · exact h0.rg i hi (by omega)
                          · rw [LS.hasP_take hlt, Bool.or_eq_true] at hp
                            rcases hp with hp | hp
                            · exact h0.ns z hz hp
                            · obtain ⟨i, hi, rfl⟩ := List.mem_iff_getElem.1 hz
                              rw [Hx.out, G.out.keptPn hi] at hp
                              simp [inSp] at hp
                              have e : f + (i - f) = i := by omega
                              have := LJ.out.2 (i - f) (by omega) (by omega)
                              simpa only [e] using this
                        have OV := Lib.hid ov
                        have OD := Lib.hid od
                        have LW := Lib.hid LJ.out.1
                        clear hst1 hst2 ov od LJ
                        go_wp2_with fail
                        refine OV.out.mono ?_
                        rintro e w9 ⟨rfl, q9⟩
                        have OD9 := Lib.hid (OD.out w9 (LW.out.q.qt q9))
                        have B9 : Hid (Below wr.heap.size wr w9) := q9.below
                        clear q9 OD
                        go_wp2_with fail
                        refine OD9.out.mono ?_
                        rintro e w10 ⟨rfl, q10⟩
                        have L10 := Lib.hid (L2'.out w10 (B9.out.trans (q10.below.mono B9.out.size)))
                        clear q10 L2' B9 OD9 OV LW
                        go_wp2
                        go_roundw
                        case rel => exact ⟨k + 1, xor64 X WX, (O != WO), by omega, by go_num, by first | rfl | (simp [xor64]; done), by first | rfl | (cases O <;> cases WO <;> rfl), L10⟩
                        case measure => simp [intOf]; omega
              · obtain rfl : k = cl.length := by omega
                have hs : s.SumOk cl mk := ⟨g1, g2, fun c hc => by
                  obtain ⟨i, hi, rfl⟩ := List.mem_iff_getElem.1 hc
                  exact L2.out.rg i hi hi, by have := L2.out.ns; rwa [List.take_length] at this⟩
                have hX : X = LS.sumX cl s.kept := by have := L2.out.x; rwa [List.take_length] at this
                have hO : O = LS.sumO cl mk s.kept := by have := L2.out.o; rwa [List.take_length] at this
                have HS := Lib.hid (LS.sum_yes hs)
                subst hX
                subst hO
                clear hs
                go_wp2
                go_ret3
                rw [HS.out]
                exact ⟨rfl, L2.out.st.bel⟩
    · have HS := Lib.hid (LS.sum_no (s := s) (cl := cl) (mk := mk) (fun h => g2 h.2.1))
      have b1 := Lib.hid (good_any A1 _ c1 cl w R1.out U1.out)
      rw [goodB_true g1] at b1
      go_enter Tryz.func87, Tryz.ntmps87
      go_wp2_with fail
      refine b1.out.mono ?_
      rintro e w1 ⟨rfl, q1⟩
      have b2 := Lib.hid (good_any A2 _ c2 mk w1 (R2.out.below q1) U2.out)
      rw [show goodB mk = false from decide_eq_false g2] at b2
      have Q1 := Lib.hid q1
      clear q1 H R1 R2
      go_wp2_with fail
      refine b2.out.mono ?_
      rintro e w2 ⟨rfl, q2⟩
      have Q2 := Lib.hid (Q1.out.trans (q2.mono Q1.out.size))
      clear q2 Q1
      go_wp2
      go_ret3
      rw [HS.out]
      exact ⟨rfl, Q2.out⟩
  · have HS := Lib.hid (LS.sum_no (s := s) (cl := cl) (mk := mk) (fun h => g1 h.1))
    have b1 := Lib.hid (good_any A1 _ c1 cl w R1.out U1.out)
    rw [show goodB cl = false from decide_eq_false g1] at b1
    go_enter Tryz.func87, Tryz.ntmps87
    go_wp2_with fail
    refine b1.out.mono ?_
    rintro e w1 ⟨rfl, q1⟩
    have Q1 := Lib.hid q1
    clear q1 H R1 R2
    go_wp2
    go_ret3
    rw [HS.out]
    exact ⟨rfl, Q1.out⟩

end Go.Proofs.YtpfmhkkglaghgaaGreat

namespace Go.Proofs.YtpfmhkkglaghgaaGreat
set_option linter.unusedSimpArgs false
set_option linter.unusedVariables false
set_option linter.unnecessarySimpa false
open Go.RowKit

theorem below_nil (A : Option Addr) (c : Nat) (q : Int) (w : World) :
    Calls Tryz.prog 97 #[.slice A 0 c, .int .u64 q] w fun e w' => e = .returned (.bool false) ∧ Qt w w' := by
  go_enter Tryz.func97, Tryz.ntmps97
  go_wp2
  go_ret
  exact ⟨rfl, Qt.refl _⟩
theorem good_mono {cl : List Sp} (hg : Good cl) {i j : Nat} (hj : j < cl.length) (hij : i ≤ j) : (cl[i]'(by omega)).1 ≤ cl[j].1 ∧ (cl[i]'(by omega)).2 ≤ cl[j].2 := by
  induction j with
  | zero => obtain rfl : i = 0 := by omega
            exact ⟨Int.le_refl _, Int.le_refl _⟩
  | succ j ih =>
    by_cases e : i = j + 1
    · subst e; exact ⟨Int.le_refl _, Int.le_refl _⟩
    · obtain ⟨h1, h2⟩ := ih (by omega) (by omega)
      obtain ⟨h3, h4⟩ := hg (j + 1) hj
      have h4 := h4 (by omega)
      have h5 := (hg j (by omega)).1.1
      have h3 := h3.1
      simp only [Nat.add_sub_cancel] at h4
      constructor <;> omega

structure SumStR (w : World) (F : Nat → Prop) (b : Nat) (s : LS) (A1 A2 : Option Addr) (c1 c2 : Nat) (cl mk : List Sp) (W : World) : Prop where
  led : LedR W F b s
  r1 : Rd W 2 A1 cl.length c1 (Ss cl)
  r2 : Rd W 2 A2 mk.length c2 (Ss mk)
  bel : Below w.heap.size w W
theorem SumStR.below {w W W' : World} {F : Nat → Prop} {b : Nat} {s : LS} {A1 A2 : Option Addr} {c1 c2 : Nat} {cl mk : List Sp} (h : SumStR w F b s A1 A2 c1 c2 cl mk W) (q : Below W.heap.size W W') : SumStR w F b s A1 A2 c1 c2 cl mk W' :=
  ⟨h.led.below q, h.r1.below q, h.r2.below q, h.bel.trans (q.mono h.bel.size)⟩
theorem SumStR.qt {w W W' : World} {F : Nat → Prop} {b : Nat} {s : LS} {A1 A2 : Option Addr} {c1 c2 : Nat} {cl mk : List Sp} (h : SumStR w F b s A1 A2 c1 c2 cl mk W) (q : Qt W W') : SumStR w F b s A1 A2 c1 c2 cl mk W' := h.below q.below
/-- k of what is kept told. -/
structure SumLR (w : World) (F : Nat → Prop) (b : Nat) (s : LS) (A1 A2 : Option Addr) (c1 c2 : Nat) (cl mk : List Sp) (k : Nat) (X : Int) (O : Bool) (W : World) : Prop where
  st : SumStR w F b s A1 A2 c1 c2 cl mk W
  ns : LS.noSkip (s.kept.take k) cl
  x : X = LS.sumX cl (s.kept.take k)
  o : O = LS.sumO cl mk (s.kept.take k)
theorem noSkip_take {cl : List Sp} {l : List Snt} {k : Nat} (hk : k < l.length) (h : LS.noSkip (l.take k) cl) (h1 : hasP cl l[k].pn = true → l[k].state ≠ 4) : LS.noSkip (l.take (k + 1)) cl := by
  intro x hx hp
  rw [List.take_succ_eq_append_getElem hk, List.mem_append, List.mem_singleton] at hx
  rcases hx with hx | rfl
  · exact h x hx hp
  · exact h1 hp
theorem SumLR.no {w W : World} {F : Nat → Prop} {b : Nat} {s : LS} {A1 A2 : Option Addr} {c1 c2 : Nat} {cl mk : List Sp} {k : Nat} {X : Int} {O : Bool} (h : SumLR w F b s A1 A2 c1 c2 cl mk k X O W) (g : s.Good) (hk : k < s.kept.length) (hp : hasP cl s.kept[k].pn = false) :
    ∀ W', Below W.heap.size W W' → SumLR w F b s A1 A2 c1 c2 cl mk (k + 1) X O W' := fun W' bb =>
  ⟨h.st.below bb, noSkip_take hk h.ns (fun e => by rw [hp] at e; cases e), by rw [LS.sumX_take _ _ g.keptOk _ hk, hp, if_neg (by simp), h.x], by rw [LS.sumO_take _ _ _ _ hk, hp, if_neg (by simp), h.o]⟩
theorem SumLR.yes {w W : World} {F : Nat → Prop} {b : Nat} {s : LS} {A1 A2 : Option Addr} {c1 c2 : Nat} {cl mk : List Sp} {k : Nat} {X : Int} {O : Bool} (h : SumLR w F b s A1 A2 c1 c2 cl mk k X O W) (g : s.Good) (hk : k < s.kept.length) (hp : hasP cl s.kept[k].pn = true) (hs : s.kept[k].state ≠ 4) :
    ∀ W', Below W.heap.size W W' → SumLR w F b s A1 A2 c1 c2 cl mk (k + 1) (xor64 X s.kept[k].nonce) (O != LS.odd mk s.kept[k]) W' := fun W' bb =>
  ⟨h.st.below bb, noSkip_take hk h.ns (fun _ => hs), by rw [LS.sumX_take _ _ g.keptOk _ hk, hp, if_pos rfl, h.x], by rw [LS.sumO_take _ _ _ _ hk, hp, if_pos rfl, h.o]⟩

set_option maxHeartbeats 8000000 in
set_option maxRecDepth 100000 in
theorem sumR_any (w : World) (F : Nat → Prop) (b : Nat) (s : LS) (A1 A2 : Option Addr) (c1 c2 : Nat) (cl mk : List Sp) (h : LedR w F b s) (h1 : Rd w 2 A1 cl.length c1 (Ss cl)) (h2 : Rd w 2 A2 mk.length c2 (Ss mk)) (u1 : U2s cl) (u2 : U2s mk) :
    Calls Tryz.prog 102 #[.pointer (some ⟨b, 0, none⟩), .slice A1 cl.length c1, .slice A2 mk.length c2] w fun e w' => e = .returned (.tuple #[.int .u64 (s.sum cl mk).1, .bool (s.sum cl mk).2.1, .bool (s.sum cl mk).2.2]) ∧ Below w.heap.size w w' := by
  have S0 : Hid (SumStR w F b s A1 A2 c1 c2 cl mk w) := ⟨h, h1, h2, Below.refl _ _⟩
  have U1 := Lib.hid u1
  have U2 := Lib.hid u2
  have G := Lib.hid h.good
  have k1 := s.kept_le
  have k2 := h.good.ring256
  have k3 := s.low_le
  have K4 := Lib.hid h.good.len
  have K5 := Lib.hid h.good.lim1
  have x1 := h1.cap
  have x2 := h1.max
  unfold maxLen at x2
  have HW : Hid (isU64 (s.low : Int)) := by
    have := h.good.len
    have := h.good.lim1
    exact ⟨by omega, by omega⟩
  clear h h1 h2 u1 u2
  by_cases g1 : Good cl
  · have b1 := Lib.hid (refGood_any A1 _ c1 cl w S0.out.r1 U1.out)
    rw [goodB_true g1] at b1
    by_cases g2 : Good mk
    · go_enter Tryz.func102, Tryz.ntmps102
      go_wp2_with fail
      refine b1.out.mono ?_
      rintro e w1 ⟨rfl, q1⟩
      have S1 := Lib.hid (S0.out.qt q1)
      clear q1 b1 S0
      have b2 := Lib.hid (refGood_any A2 _ c2 mk w1 S1.out.r2 U2.out)
      rw [goodB_true g2] at b2
      go_wp2_with fail
      refine b2.out.mono ?_
      rintro e w2 ⟨rfl, q2⟩
      have S2 := Lib.hid (S1.out.qt q2)
      clear q2 b2 S1
      go_wp2_with fail
      refine (ledR_low w2 F b s S2.out.led).mono ?_
      rintro e w3 ⟨rfl, q3⟩
      have S3 := Lib.hid (S2.out.qt q3)
      clear q3 S2
      have HB : Hid (∃ v : Bool, (v = true → s.sum cl mk = (0, false, false)) ∧ (v = false → ∀ _ : 0 < cl.length, (s.low : Int) ≤ cl[0].1) ∧ Calls Tryz.prog 97 #[.slice A1 cl.length c1, .int .u64 s.low] w3 fun e w' => e = .returned (.bool v) ∧ Qt w3 w') := by
        rcases Nat.eq_zero_or_pos cl.length with h0 | h0
        · refine ⟨false, (fun e => by cases e), fun _ h => absurd h (by omega), ?_⟩
          rw [h0]
          exact below_nil A1 c1 s.low w3
        · have e0 : cl.headD (0, 0) = cl[0] := by cases cl with
            | nil => simp at h0
            | cons x r => rfl
          refine ⟨decide (cl[0].1 < (s.low : Int)), fun e => LS.sum_no (fun hh => ?_), fun e _ => ?_, below_any A1 _ c1 cl _ w3 _ (by rw [e0]) S3.out.r1 U1.out h0 HW.out⟩
          · have h1 := of_decide_eq_true e
            have h2 := (hh.2.2.1 _ (List.getElem_mem h0)).1
            omega
          · have h1 := of_decide_eq_false e
            omega
      obtain ⟨v, hv1, hv2, hv3⟩ := HB.out
      have HV1 := Lib.hid hv1
      have HV2 := Lib.hid hv2
      have HV3 := Lib.hid hv3
      clear hv1 hv2 hv3 HB
      go_wp2_with fail
      refine HV3.out.mono ?_
      rintro e w4 ⟨rfl, q4⟩
      have S4 := Lib.hid (S3.out.qt q4)
      clear q4 HV3 S3
      cases v with
      | true =>
        have HS := Lib.hid (HV1.out rfl)
        go_wp2
        go_ret3
        rw [HS.out]
        exact ⟨rfl, S4.out.bel⟩
      | false =>
        have HL := Lib.hid (HV2.out rfl)
        clear HV1 HV2
        go_wp2_with fail
        go_upto_region 4 with fail
        go_cut [42] (fun s42 wx => ∃ v : Bool, s42 = .bool v ∧ Hid ((v = true → s.sum cl mk = (0, false, false)) ∧ (v = false → s.rangeOk cl) ∧ SumStR w F b s A1 A2 c1 c2 cl mk wx))
        case first =>
          rcases Nat.eq_zero_or_pos cl.length with h0 | h0
          · have z0 : decide ((cl.length : Int) > 0) = false := decide_eq_false (by omega)
            have z1 : decide (0 < (cl.length : Int)) = false := decide_eq_false (by omega)
            have z2 : decide (0 < cl.length) = false := decide_eq_false (by omega)
            refine wp_region_qt (by kernel_rfl) (by kernel_rfl) ?_
            repeat (go_big_quiet_step (fail))
            refine wpQuiet_nil ?_
            intro w5 q5
            have S5 := Lib.hid (S4.out.qt q5)
            clear q5
            go_wp2_with fail
            go_meet
            exact ⟨false, rfl, (fun e => by cases e), (fun _ x hx => by
              obtain ⟨i, hi, rfl⟩ := List.mem_iff_getElem.1 hx
              omega), S5.out⟩
          · obtain ⟨m, hm⟩ : ∃ m, cl.length = m + 1 := ⟨cl.length - 1, by omega⟩
            have hml : m < cl.length := by omega
            obtain ⟨sb, so, x, y, rfl, Hx, x0, y0, -, -, y1, y2⟩ := S4.out.r1.sp U1.out hml
            have HM := Lib.hid hm
            have z1 : decide (0 < (cl.length : Int)) = true := decide_eq_true (by omega)
            have z2 : decide (0 < cl.length) = true := decide_eq_true (by omega)
            have z3 : IntKind.i64.wrap ((cl.length : Int) - 1) = m := by rw [IntWalk.i64_in _ (by omega)]; omega
            have z4 : (0 : Int) ≤ m := by omega
            have z5 : (m : Int) < cl.length := by omega
            have CM : Hid (∀ v, (v = true → (s.all.length : Int) ≤ y) → (v = false → y < s.all.length) → (v = true → s.sum cl mk = (0, false, false)) ∧ (v = false → s.rangeOk cl)) := fun v e1 e2 => by
              refine ⟨fun e => LS.sum_no (fun hh => ?_), fun e c hc => ?_⟩
              · have := (hh.2.2.1 _ (List.getElem_mem hml)).2
                rw [Hx.out] at this
                have h := e1 e
                simp only at this
                omega
              · obtain ⟨i, hi, rfl⟩ := List.mem_iff_getElem.1 hc
                have h1 := (good_mono g1 hi (Nat.zero_le i)).1
                have h2 := (good_mono g1 hml (i := i) (by omega)).2
                rw [Hx.out] at h2
                have h3 := HL.out h0
                have h4 := e2 e
                simp only at h2
                exact ⟨by omega, by omega⟩
            clear hm
            by_cases e2 : (s.all.length : Int) ≤ y
            all_goals
              refine wp_region_qt (by kernel_rfl) (by kernel_rfl) ?_
              repeat (first | go_big_quiet_step ((go_at_call 91; exact Qt.callN (ledR_next _ F b s S4.out.led.dn))) | quiet_step ((go_at_call 91; exact Qt.callN (ledR_next _ F b s S4.out.led.dn))))
              refine wpQuiet_nil ?_
              intro w5 q5
              have S5 := Lib.hid (S4.out.qt q5)
              clear q5 z3
              go_wp2_with fail
              go_meet
            · refine ⟨true, by first | rfl | simp [e2], ?_⟩
              obtain ⟨c1, c2⟩ := CM.out true (fun _ => e2) (fun e => by cases e)
              exact ⟨c1, c2, S5.out⟩
            · refine ⟨false, by first | rfl | simp [e2], ?_⟩
              obtain ⟨c1, c2⟩ := CM.out false (fun e => by cases e) (fun _ => by omega)
              exact ⟨c1, c2, S5.out⟩
        case rest =>
          obtain ⟨v, rfl, HC⟩ := hcut
          have S5 := Lib.hid HC.out.2.2
          cases v with
          | true =>
            have HS := Lib.hid (HC.out.1 rfl)
            go_wp2
            go_ret3
            rw [HS.out]
            exact ⟨rfl, S5.out.bel⟩
          | false =>
            have RG := Lib.hid (HC.out.2.1 rfl)
            clear HC S4 HL
            go_wp2_with fail
            refine (ledR_low _ F b s S5.out.led).mono ?_
            rintro e w6 ⟨rfl, q6⟩
            have hkl : s.kept.length = s.all.length - s.low := by simp [LS.kept]
            have HKL := Lib.hid hkl
            have L6 : Hid (SumLR w F b s A1 A2 c1 c2 cl mk 0 0 false w6) := ⟨S5.out.qt q6, (fun x hx => by simp at hx), by simp [LS.sumX, LS.sumN, foldIf], by simp [LS.sumO, foldIf]⟩
            have k6 : s.all.length < 9223372036854775807 := by have := K4.out; have := K5.out; omega
            clear q6 S5 hkl
            go_wp2_with fail
            go_loopw [10, 11, 12] (fun x o i wr => ∃ (k j : Nat) (X : Int) (O : Bool), k ≤ s.kept.length ∧ Hid (j = s.low + k) ∧ j ≤ s.all.length ∧ i = .int .i64 j ∧ x = .int .u64 X ∧ o = .bool O ∧ Hid (SumLR w F b s A1 A2 c1 c2 cl mk k X O wr)) (fun _ _ i _ => s.all.length - (intOf i).toNat)
            case atStart => exact ⟨0, s.low, 0, false, Nat.zero_le _, rfl, k3, rfl, rfl, rfl, L6⟩
            case round =>
              obtain ⟨k, j, X, O, hk, HJ, hj, rfl, rfl, rfl, HF⟩ := hrel
              obtain ⟨A5, c5, Hb5, r0, r1, r2, ho, -⟩ := HF.out.st.led.cells
              have R5 := Lib.hid (Rd.of_own ho)
              clear ho
              by_cases hlt : k < s.kept.length
              · have hlt2 : j < s.all.length := by have := HJ.out; have := HKL.out; omega
                obtain ⟨bb, off, rfl, d0, d1, d2, d3, d4, d5, d6, d7⟩ := R5.out.snt hlt2
                have ek : s.kept[k] = s.all[j] := by
                  rw [s.kept_get hlt]
                  congr 1
                  have := HJ.out
                  omega
                have HJ2 : Hid (j + 1 = s.low + (k + 1)) := by show _ = _; have := HJ.out; omega
                have okx := G.out.keptOk s.kept[k] (List.getElem_mem _)
                have Hno := Lib.hid (fun h => HF.out.no G.out hlt h)
                have Hyes := Lib.hid (fun h => HF.out.yes G.out hlt h)
                have Hsk : Hid (hasP cl s.kept[k].pn = true → s.kept[k].state = 4 → s.sum cl mk = (0, false, false)) := fun e1 e2 => LS.sum_no (fun hh => hh.2.2.2 _ (List.getElem_mem hlt) e1 e2)
                have HOD : Hid (LS.odd mk s.kept[k] = (s.kept[k].coin && !hasP mk s.kept[k].pn)) := rfl
                rw [ek] at okx Hno Hyes Hsk HOD
                obtain ⟨p0, p1⟩ := okx.pn
                have EB := box_below wr (.cells #[.int .u64 s.all[j].pn, .int .u64 s.all[j].off, .int .u64 s.all[j].len, .int .u64 s.all[j].nonce, .int .u64 s.all[j].at_, .bool s.all[j].coin, .bool s.all[j].used, .int .i64 s.all[j].state] 66)
                have BX := Lib.hid (heap_alloc_new wr (.cells #[.int .u64 s.all[j].pn, .int .u64 s.all[j].off, .int .u64 s.all[j].len, .int .u64 s.all[j].nonce, .int .u64 s.all[j].at_, .bool s.all[j].coin, .bool s.all[j].used, .int .i64 s.all[j].state] 66))
                have S6 := Lib.hid (HF.out.st.below EB)
                have B6 := Lib.hid EB
                clear okx ek EB
                generalize LS.odd mk s.all[j] = od at *
                generalize s.all[j] = y at *
                obtain ⟨pn, of, len, nonce, at_, coin, used, state⟩ := y
                simp only at d0 d1 d2 d3 d4 d5 d6 d7 p0 p1 Hno Hyes Hsk HOD BX S6 B6
                go_wp2_with fail
                refine (hasNum_any A1 _ c1 cl pn _ S6.out.r1 U1.out p0 p1).mono ?_
                generalize hasP cl pn = hc at *
                generalize hW : (wr.alloc (.cells #[.int .u64 pn, .int .u64 of, .int .u64 len, .int .u64 nonce, .int .u64 at_, .bool coin, .bool used, .int .i64 state] 66)) = wb at *
                rintro e w7 ⟨rfl, q7⟩
                have B7 : Hid (Below wr.heap.size wr w7) := B6.out.trans q7.below
                have BX7 := Lib.hid (q7.blk BX.out)
                have S7 := Lib.hid (S6.out.qt q7)
                clear hW q7 S6 B6 BX d0 d1 d2 d3 d4 d5 d6 d7 r0 r1 r2
                cases hc with
                | false =>
                  go_wp2
                  go_roundw
                  case rel => exact ⟨k + 1, j + 1, X, O, hlt, HJ2, hlt2, by go_num, rfl, rfl, Hno.out (by first | rfl | trivial) _ B7.out⟩
                  case measure => simp [intOf]; omega
                | true =>
                  have y0 := cell_of_row w7 wr.heap.size 0 _ _ _ BX7.out
                  have y1 := cell_of_row w7 wr.heap.size 1 _ _ _ BX7.out
                  have y2 := cell_of_row w7 wr.heap.size 2 _ _ _ BX7.out
                  have y3 := cell_of_row w7 wr.heap.size 3 _ _ _ BX7.out
                  have y4 := cell_of_row w7 wr.heap.size 4 _ _ _ BX7.out
                  have y5 := cell_of_row w7 wr.heap.size 5 _ _ _ BX7.out
                  have y6 := cell_of_row w7 wr.heap.size 6 _ _ _ BX7.out
                  have y7 := cell_of_row w7 wr.heap.size 7 _ _ _ BX7.out
                  by_cases e4 : state = 4
                  · subst e4
                    have HS := Lib.hid (Hsk.out (by first | rfl | trivial) (by first | rfl | trivial))
                    go_wp2
                    go_ret3
                    rw [HS.out]
                    exact ⟨rfl, S7.out.bel⟩
                  · have ADV := Lib.hid (Hyes.out (by first | rfl | trivial) e4)
                    cases coin with
                    | false =>
                      obtain rfl : od = false := by have := HOD.out; simpa using this
                      go_wp2
                      go_roundw
                      case rel => exact ⟨k + 1, j + 1, xor64 X nonce, (O != false), hlt, HJ2, hlt2, by go_num, by first | rfl | (simp [xor64]; done), by cases O <;> rfl, ADV.out _ B7.out⟩
                      case measure => simp [intOf]; omega
                    | true =>
                      go_wp2_with fail
                      refine (hasNum_any A2 _ c2 mk pn _ S7.out.r2 U2.out p0 p1).mono ?_
                      generalize hasP mk pn = hm at *
                      rintro e w8 ⟨rfl, q8⟩
                      have B8 : Hid (Below wr.heap.size wr w8) := B7.out.trans q8.below
                      clear q8 y0 y1 y2 y3 y4 y5 y6 y7
                      obtain rfl : od = !hm := by have := HOD.out; simpa using this
                      cases hm with
                      | true =>
                        go_wp2
                        go_roundw
                        case rel => exact ⟨k + 1, j + 1, xor64 X nonce, (O != false), hlt, HJ2, hlt2, by go_num, by first | rfl | (simp [xor64]; done), by cases O <;> rfl, ADV.out _ B8.out⟩
                        case measure => simp [intOf]; omega
                      | false =>
                        go_wp2
                        go_roundw
                        case rel => exact ⟨k + 1, j + 1, xor64 X nonce, (O != true), hlt, HJ2, hlt2, by go_num, by first | rfl | (simp [xor64]; done), by cases O <;> rfl, ADV.out _ B8.out⟩
                        case measure => simp [intOf]; omega
              · obtain rfl : k = s.kept.length := by omega
                obtain rfl : j = s.all.length := by have := HJ.out; have := HKL.out; omega
                have hs : s.SumOk cl mk := ⟨g1, g2, RG.out, by have := HF.out.ns; rwa [List.take_length] at this⟩
                have hX : X = LS.sumX cl s.kept := by have := HF.out.x; rwa [List.take_length] at this
                have hO : O = LS.sumO cl mk s.kept := by have := HF.out.o; rwa [List.take_length] at this
                have HS := Lib.hid (LS.sum_yes hs)
                subst hX
                subst hO
                clear hs
                go_wp2
                go_ret3
                rw [HS.out]
                exact ⟨rfl, HF.out.st.bel⟩
    · have HS := Lib.hid (LS.sum_no (s := s) (cl := cl) (mk := mk) (fun h => g2 h.2.1))
      go_enter Tryz.func102, Tryz.ntmps102
      go_wp2_with fail
      refine b1.out.mono ?_
      rintro e w1 ⟨rfl, q1⟩
      have S1 := Lib.hid (S0.out.qt q1)
      clear q1 b1 S0
      have b2 := Lib.hid (refGood_any A2 _ c2 mk w1 S1.out.r2 U2.out)
      rw [show goodB mk = false from decide_eq_false g2] at b2
      go_wp2_with fail
      refine b2.out.mono ?_
      rintro e w2 ⟨rfl, q2⟩
      have S2 := Lib.hid (S1.out.qt q2)
      clear q2 b2 S1
      go_wp2
      go_ret3
      rw [HS.out]
      exact ⟨rfl, S2.out.bel⟩
  · have HS := Lib.hid (LS.sum_no (s := s) (cl := cl) (mk := mk) (fun h => g1 h.1))
    have b1 := Lib.hid (refGood_any A1 _ c1 cl w S0.out.r1 U1.out)
    rw [show goodB cl = false from decide_eq_false g1] at b1
    go_enter Tryz.func102, Tryz.ntmps102
    go_wp2_with fail
    refine b1.out.mono ?_
    rintro e w1 ⟨rfl, q1⟩
    have S1 := Lib.hid (S0.out.qt q1)
    clear q1 b1 S0
    go_wp2
    go_ret3
    rw [HS.out]
    exact ⟨rfl, S1.out.bel⟩

end Go.Proofs.YtpfmhkkglaghgaaGreat
