/-
  The walk of SpanOrder.
-/
import Derived.Test.YtnfgmklkfbcjkaaSpanA
import Derived.Test.YtnfgmklkfbcjkaaSpanL
namespace Go.Proofs.Ytnfgmklkfbcjkaa
set_option linter.unusedSimpArgs false
set_option linter.unusedVariables false
set_option linter.unnecessarySimpa false
open Go.RowKit

def W16 (l : List Int) : List Value := l.map (Value.int .u16)
@[simp] theorem W16_length (l : List Int) : (W16 l).length = l.length := by simp [W16]
theorem Rd.u16 {w : World} {A : Option Addr} {n c : Nat} {l : List Int} {k : Nat} (h : Rd w 1 A n c (W16 l)) (hw : ∀ x ∈ l, 0 ≤ x ∧ x ≤ 65535) (hk : k < n) :
    ∃ b off x, A = some ⟨b, off, none⟩ ∧ Hid (l.getD k 0 = x) ∧ w.cell? ⟨b, off + k, none⟩ = some (.int .u16 x) ∧ 0 ≤ x ∧ x ≤ 65535 := by
  obtain ⟨b, off, u, e, hx, hc⟩ := h.at_ hk
  have hl : k < l.length := by have := h.len; simp at this; omega
  have hm := hw _ (List.getElem_mem hl)
  refine ⟨b, off, l[k], e, Lib.hid (by simp [hl]), ?_, hm.1, hm.2⟩
  rw [hc, ← hx]
  simp [W16, hl]
theorem Rd.u16at {w : World} {b off n c : Nat} {l : List Int} {k : Nat} (h : Rd w 1 (some ⟨b, off, none⟩) n c (W16 l)) (hw : ∀ x ∈ l, 0 ≤ x ∧ x ≤ 65535) (hk : k < n) :
    ∃ x, Hid (l.getD k 0 = x) ∧ w.cell? ⟨b, off + k, none⟩ = some (.int .u16 x) ∧ 0 ≤ x ∧ x ≤ 65535 := by
  obtain ⟨b', off', x, e, h1, h2, h3⟩ := h.u16 hw hk
  injection e with e
  injection e with e1 e2
  subst e1
  subst e2
  exact ⟨x, h1, h2, h3⟩
theorem Rd.drew {w : World} {size : Nat} {A : Option Addr} {n c : Nat} {xs : List Value} (h : Rd w size A n c xs) : Rd w.drew size A n c xs := h.below (Below.refl _ _).drew

def pr (a : List Int) (j : Nat) : Sp := (a.getD (2 * j) 0, a.getD (2 * j) 0 + a.getD (2 * j + 1) 0 % 9)
def addAll (f : Nat → Sp) (j : Nat) : List Sp := (List.range j).foldl (fun l i => addP l (f i)) []
theorem addAll_succ (f : Nat → Sp) (j : Nat) : addAll f (j + 1) = addP (addAll f j) (f j) := by simp [addAll, List.range_succ]
theorem addAll_zero (f : Nat → Sp) : addAll f 0 = [] := rfl
theorem addAll_gd (f : Nat → Sp) (j : Nat) (h : ∀ i, i < j → IsSpan (f i)) : Gd (addAll f j) ∧ (addAll f j).length ≤ j ∧ ∀ n, Mem n (addAll f j) ↔ ∃ i, i < j ∧ (f i).1 ≤ n ∧ n ≤ (f i).2 := by
  induction j with
  | zero => exact ⟨Gd.nil, Nat.le_refl _, fun n => by simp [addAll_zero, Mem_nil]⟩
  | succ j ih =>
    obtain ⟨i1, i2, i3⟩ := ih (fun i hi => h i (by omega))
    obtain ⟨a1, a2⟩ := add_parts _ (f j) i1 (h j (by omega))
    rw [addAll_succ]
    refine ⟨a1, by have := addP_le (addAll f j) (f j); omega, fun n => ?_⟩
    rw [a2 n, i3 n]
    constructor
    · rintro (⟨i, hi, hh⟩ | hh)
      · exact ⟨i, by omega, hh⟩
      · exact ⟨j, by omega, hh⟩
    · rintro ⟨i, hi, hh⟩
      by_cases e : i = j
      · subst e; exact .inr hh
      · exact .inl ⟨i, by omega, hh⟩
theorem addAll_u2 (f : Nat → Sp) (j : Nat) (h : ∀ i, i < j → IsSpan (f i) ∧ 0 ≤ (f i).1) : U2s (addAll f j) := by
  obtain ⟨g1, _, g3⟩ := addAll_gd f j (fun i hi => (h i hi).1)
  intro s hs
  have hsp := g1.1 s hs
  have h1 := hsp.1
  have h2 := hsp.2
  rw [maxPn_eq] at h2
  obtain ⟨i, hi, hh⟩ := (g3 s.1).1 ⟨s, hs, Int.le_refl _, h1⟩
  have := (h i hi).2
  exact ⟨⟨by omega, by omega⟩, ⟨by omega, by omega⟩⟩
theorem addAll_rev (f : Nat → Sp) (H : Nat) (h : ∀ i, i < H → IsSpan (f i)) : addAll f H = addAll (fun i => f (H - 1 - i)) H := by
  obtain ⟨a1, _, a3⟩ := addAll_gd f H h
  obtain ⟨b1, _, b3⟩ := addAll_gd (fun i => f (H - 1 - i)) H (fun i hi => h _ (by omega))
  refine Gd.ext a1 b1 (fun n => ?_)
  rw [a3 n, b3 n]
  constructor
  · rintro ⟨i, hi, hh⟩
    exact ⟨H - 1 - i, by omega, by rw [show H - 1 - (H - 1 - i) = i by omega]; exact hh⟩
  · rintro ⟨i, hi, hh⟩
    exact ⟨H - 1 - i, by omega, hh⟩

theorem pr_ok (a : List Int) (hw : ∀ x ∈ a, 0 ≤ x ∧ x ≤ 65535) (j : Nat) (hj : 2 * j + 1 < a.length) : IsSpan (pr a j) ∧ 0 ≤ (pr a j).1 := by
  have h1 := hw _ (List.getElem_mem (show 2 * j < a.length by omega))
  have h2 := hw _ (List.getElem_mem hj)
  have e1 : a.getD (2 * j) 0 = a[2 * j] := by simp [show 2 * j < a.length by omega]
  have e2 : a.getD (2 * j + 1) 0 = a[2 * j + 1] := by simp [hj]
  simp only [pr, IsSpan, maxPn_eq, e1, e2]
  omega

set_option maxRecDepth 100000 in
set_option maxHeartbeats 8000000 in
theorem spanOrder_any (A : Option Addr) (n c : Nat) (l : List Int) (w : World) (h : Rd w 1 A n c (W16 l)) (hw : ∀ x ∈ l, 0 ≤ x ∧ x ≤ 65535) :
    Calls Try.prog 7 #[.slice A n c] w fun e w' => e = .returned (.bool true) ∧ Below w.heap.size w w' := by
  have hl := h.len
  simp only [W16_length, Nat.mul_one] at hl
  have Hl := Lib.hid hl
  clear hl
  have hmax := h.cap
  have hmax' := h.max
  unfold maxLen at hmax'
  by_cases h5 : 100 < n
  · go_enter Try.func7, Try.ntmps7
    go_wp2_with fail
    refine (spanAlive _).mono ?_
    rintro e w1 ⟨rfl, hb1⟩
    go_wp2_with fail
    refine (spanAlive _).mono ?_
    rintro e w2 ⟨rfl, hb2⟩
    go_wp2
    go_ret
    exact ⟨rfl, hb1.trans (hb2.mono hb1.size)⟩
  · go_enter Try.func7, Try.ntmps7
    go_wp2_with fail
    refine (spanAlive _).mono ?_
    rintro e w1 ⟨rfl, hb1⟩
    go_wp2
    go_loopw [3, 4, 5] (fun x y i wr => ∃ (j t : Nat) (Ax : Option Addr) (cx : Nat) (Ay : Option Addr) (cy : Nat), Hid (t = 2 * j) ∧ i = .int .i64 t ∧ j ≤ n / 2 ∧
        x = .slice Ax (addAll (pr l) j).length cx ∧ y = .slice Ay (addAll (fun i => pr l (n / 2 - 1 - i)) j).length cy ∧
        Rd wr 2 Ax (addAll (pr l) j).length cx (Ss (addAll (pr l) j)) ∧ Rd wr 2 Ay (addAll (fun i => pr l (n / 2 - 1 - i)) j).length cy (Ss (addAll (fun i => pr l (n / 2 - 1 - i)) j)) ∧ Below w.heap.size w wr) (fun _ _ i _ => n - (intOf i).toNat)
    case atStart => exact ⟨0, 0, none, 0, none, 0, Lib.hid rfl, rfl, Nat.zero_le _, rfl, rfl, Rd.nil_ _ _, Rd.nil_ _ _, hb1⟩
    case round =>
      obtain ⟨j, t, Ax, cx, Ay, cy, Ht, rfl, hj, rfl, rfl, Rx, Ry, hb⟩ := hrel
      have hpf : Hid (∀ i, i < n / 2 → IsSpan (pr l i) ∧ 0 ≤ (pr l i).1) := fun i hi => pr_ok l hw i (by rw [Hl.out]; omega)
      have ht2 : t ≤ n := by have := Ht.out; omega
      by_cases hlt : j < n / 2
      · have hti : t + 1 < n := by have := Ht.out; omega
        obtain ⟨b, off, x0, rfl, Hx0, k1, x1, x2⟩ := (h.below hb).u16 hw (show t < n by omega)
        obtain ⟨y0, Hy0, k2, y1, y2⟩ := (h.below hb).u16at hw hti
        obtain ⟨k, hk⟩ : ∃ k : Nat, k = 2 * (n / 2 - 1 - j) := ⟨_, rfl⟩
        have Hk := Lib.hid hk
        have hkn : k + 1 < n := by omega
        have ek : (n : Int) / 2 * 2 - 2 - (t : Int) = (k : Int) := by have := Ht.out; omega
        clear hk
        obtain ⟨x3, Hx3, k3, x4, x5⟩ := (h.below hb).u16at hw (show k < n by omega)
        obtain ⟨y3, Hy3, k4, y4, y5⟩ := (h.below hb).u16at hw hkn
        obtain ⟨r0, hr0, hr1, hr2, Hr⟩ : ∃ r, y0.tmod 9 = r ∧ 0 ≤ r ∧ r ≤ 8 ∧ Hid (r = y0 % 9) := ⟨y0 % 9, Int.tmod_eq_emod_of_nonneg y1, by omega, by omega, Lib.hid rfl⟩
        obtain ⟨r3, hr3, hr4, hr5, Hr3⟩ : ∃ r, y3.tmod 9 = r ∧ 0 ≤ r ∧ r ≤ 8 ∧ Hid (r = y3 % 9) := ⟨y3 % 9, Int.tmod_eq_emod_of_nonneg y4, by omega, by omega, Lib.hid rfl⟩
        have hjn : j ≤ 50 := by omega
        obtain ⟨gx1, gx2, _⟩ := addAll_gd (pr l) j (fun i hi => (hpf.out i (by omega)).1)
        obtain ⟨gy1, gy2, _⟩ := addAll_gd (fun i => pr l (n / 2 - 1 - i)) j (fun i hi => (hpf.out _ (by omega)).1)
        have ux := addAll_u2 (pr l) j (fun i hi => hpf.out i (by omega))
        have uy := addAll_u2 (fun i => pr l (n / 2 - 1 - i)) j (fun i hi => hpf.out _ (by omega))
        have Gx := Lib.hid gx1.good
        have Gy := Lib.hid gy1.good
        have Ex : Hid (addAll (pr l) (j + 1) = addP (addAll (pr l) j) (x0, x0 + r0)) := by
          show _ = _
          rw [addAll_succ]
          congr 1
          unfold pr
          rw [← Ht.out, Hx0.out, Hy0.out, Hr.out]
        have Ey : Hid (addAll (fun i => pr l (n / 2 - 1 - i)) (j + 1) = addP (addAll (fun i => pr l (n / 2 - 1 - i)) j) (x3, x3 + r3)) := by
          show _ = _
          rw [addAll_succ]
          congr 1
          show pr l (n / 2 - 1 - j) = _
          unfold pr
          rw [← Hk.out, Hx3.out, Hy3.out, Hr3.out]
        generalize addAll (pr l) j = X at *
        generalize addAll (fun i => pr l (n / 2 - 1 - i)) j = Y at *
        have s1 : IntKind.u16.wrap r0 = r0 := by rw [IntKind.wrap_u16]; omega
        have s2 : IntKind.u64.wrap r0 = r0 := by rw [IntKind.wrap_u64]; omega
        have s3 : IntKind.u64.wrap x0 = x0 := by rw [IntKind.wrap_u64]; omega
        have s4 : IntKind.u64.wrap (x0 + r0) = x0 + r0 := by rw [IntKind.wrap_u64]; omega
        have s5 : IntKind.u16.wrap r3 = r3 := by rw [IntKind.wrap_u16]; omega
        have s6 : IntKind.u64.wrap r3 = r3 := by rw [IntKind.wrap_u64]; omega
        have s7 : IntKind.u64.wrap x3 = x3 := by rw [IntKind.wrap_u64]; omega
        have s8 : IntKind.u64.wrap (x3 + r3) = x3 + r3 := by rw [IntKind.wrap_u64]; omega
        have S := And.intro s1 (And.intro s2 (And.intro s3 (And.intro s4 (And.intro s5 (And.intro s6 (And.intro s7 s8))))))
        have HS := Lib.hid S
        clear S s1 s2 s3 s4 s5 s6 s7 s8
        have HM := Lib.hid (And.intro hr0 hr3)
        clear hr0 hr3
        have p1 : IsSpan (x0, x0 + r0) := ⟨by simp only; omega, by simp only [maxPn_eq]; omega⟩
        have p2 : IsSpan (x3, x3 + r3) := ⟨by simp only; omega, by simp only [maxPn_eq]; omega⟩
        have P1 := Lib.hid p1
        have P2 := Lib.hid p2
        clear p1 p2
        go_wp2
        obtain ⟨s1, s2, s3, s4, s5, s6, s7, s8⟩ := HS.out
        obtain ⟨hr0, hr3⟩ := HM.out
        have i1 : IntKind.i64.wrap ((t : Int) + 1) = (t : Int) + 1 := IntWalk.i64_in _ (by omega)
        have i2 : 0 ≤ (t : Int) + 1 := by omega
        have i3 : (t : Int) + 1 < (n : Int) := by omega
        have i4 : ((t : Int) + 1).toNat = t + 1 := by omega
        have i5 : (0 : Int) ≤ (t : Int) := by omega
        have i6 : (t : Int) < (n : Int) := by omega
        have hx1 : X.length ≤ 8796093021952 := by omega
        have hy1 : Y.length ≤ 8796093021952 := by omega
        go_region_held3 (fun W => W.cell? ⟨b, off + t, none⟩ = some (.int .u16 x0) ∧ W.cell? ⟨b, off + (t + 1), none⟩ = some (.int .u16 y0))
          (first
            | go_keep
            | (go_split_ands
               refine ⟨?_, ?_⟩ <;> (refine (b2.cell ?_).trans ?_ <;> first | assumption | (exact block_lt_of_cell (by assumption)))))
          (first | (go_at_call 21; refine (add_yes Ax _ cx X x0 (x0 + r0) _ (by first | exact Rx | exact Rx.drew) Gx.out P1.out x1 ux hx1).mono ?_; rintro e w2 ⟨A2, c2, rfl, R2, b2⟩))
        have b2' := Below.trans ((Below.refl wr.heap.size wr).drew) (b2.mono (Nat.le_refl _))
        have hb2 : Below w.heap.size w w2 := hb.trans (b2'.mono hb.size)
        have Ry2 := Ry.below b2'
        have k3' : w2.cell? ⟨b, off + k, none⟩ = some (.int .u16 x3) := (b2'.cell (block_lt_of_cell k3)).trans k3
        have k4' : w2.cell? ⟨b, off + (k + 1), none⟩ = some (.int .u16 y3) := (b2'.cell (block_lt_of_cell k4)).trans k4
        clear i1 i2 i3 i4 i5 i6 k1 k2 k3 k4 b2 b2' s1 s2 s3 s4 s5 s6 s7 s8 hr0 hr3
        go_wp2
        obtain ⟨s1, s2, s3, s4, s5, s6, s7, s8⟩ := HS.out
        obtain ⟨hr0, hr3⟩ := HM.out
        have i1 : IntKind.i64.wrap ((k : Int) + 1) = (k : Int) + 1 := IntWalk.i64_in _ (by omega)
        have i2 : 0 ≤ (k : Int) + 1 := by omega
        have i3 : (k : Int) + 1 < (n : Int) := by omega
        have i4 : ((k : Int) + 1).toNat = k + 1 := by omega
        have i5 : (0 : Int) ≤ (k : Int) := by omega
        have i6 : (k : Int) < (n : Int) := by omega
        go_region_held3 (fun W => W.cell? ⟨b, off + k, none⟩ = some (.int .u16 x3) ∧ W.cell? ⟨b, off + (k + 1), none⟩ = some (.int .u16 y3))
          (first
            | go_keep
            | (go_split_ands
               refine ⟨?_, ?_⟩ <;> (refine (b3.cell ?_).trans ?_ <;> first | assumption | (exact block_lt_of_cell (by assumption)))))
          (first | (go_at_call 21; refine (add_yes Ay _ cy Y x3 (x3 + r3) _ (by first | exact Ry2 | exact Ry2.drew) Gy.out P2.out x4 uy hy1).mono ?_; rintro e w3 ⟨A3, c3, rfl, R3, b3⟩))
        have b3' := Below.trans ((Below.refl w2.heap.size w2).drew) (b3.mono (Nat.le_refl _))
        have hb3 : Below w.heap.size w w3 := hb2.trans (b3'.mono hb2.size)
        have R23 := R2.below b3'
        clear i1 i2 i3 i4 i5 i6 b3 b3' s1 s2 s3 s4 s5 s6 s7 s8 hr0 hr3 k3' k4' ek
        go_wp2_with fail
        go_roundw
        case rel => exact ⟨j + 1, t + 2, A2, c2, A3, c3, Lib.hid (by have := Ht.out; omega), by go_num, by omega, by rw [Ex.out], by rw [Ey.out], by rw [Ex.out]; exact R23, by rw [Ey.out]; exact R3, hb3⟩
        case measure => simp [intOf]; omega
      · obtain rfl : j = n / 2 := by omega
        have hno : ¬ (t + 1 < n) := by have := Ht.out; omega
        have hno' : decide ((t : Int) + 1 < (n : Int)) = false := by simp; omega
        have Erev := Lib.hid (addAll_rev (pr l) (n / 2) (fun i hi => (hpf.out i hi).1))
        obtain ⟨gx1, gx2, _⟩ := addAll_gd (pr l) (n / 2) (fun i hi => (hpf.out i (by omega)).1)
        have ux := addAll_u2 (pr l) (n / 2) (fun i hi => hpf.out i (by omega))
        have Gx := Lib.hid (goodB_true gx1.good)
        rw [← Erev.out] at Ry
        have Elen : Hid ((addAll (fun i => pr l (n / 2 - 1 - i)) (n / 2)).length = (addAll (pr l) (n / 2)).length) := by show _ = _; rw [← Erev.out]
        rw [Elen.out]
        generalize addAll (pr l) (n / 2) = X at *
        go_wp2_with fail
        refine (sameSpans_any Ax Ay _ _ cx cy X X _ Rx Ry).mono ?_
        rw [decide_eq_true (rfl : X = X)]
        rintro e w2 ⟨rfl, q2⟩
        go_wp2_with fail
        refine (good_any Ax _ cx X _ (Rx.qt q2) ux).mono ?_
        rw [Gx.out]
        rintro e w3 ⟨rfl, b3⟩
        have hb2 := hb.trans q2.below
        go_wp2
        go_ret
        exact ⟨rfl, hb2.trans (b3.mono hb2.size)⟩
end Go.Proofs.Ytnfgmklkfbcjkaa
