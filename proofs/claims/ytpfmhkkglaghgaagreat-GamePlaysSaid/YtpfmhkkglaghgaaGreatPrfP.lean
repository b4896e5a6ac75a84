/-
  The running sums of a list, plainly. · The sums of what is claimed, plainly. · What is wrong with an acknowledgment, plainly.
-/
import Derived.Test.YtpfmhkkglaghgaaGreatBase
import Derived.Test.YtpfmhkkglaghgaaGreatLookR
import Derived.Test.YtpfmhkkglaghgaaGreatSpan
namespace Go.Proofs.YtpfmhkkglaghgaaGreat
set_option linter.unusedSimpArgs false
set_option linter.unusedVariables false
set_option linter.unnecessarySimpa false
open Go.RowKit

section
variable {α β : Type}
def scanAt (f : β → α → β) (z : β) (l : List α) (k : Nat) : β := (l.take k).foldl f z
def scan (f : β → α → β) (z : β) (l : List α) : List β := (List.range (l.length + 1)).map (scanAt f z l)
/-- After k rounds: the first k + 1 sums, the rest as made. -/
def part (f : β → α → β) (z y : β) (l : List α) (k : Nat) : List β := (List.range (k + 1)).map (scanAt f z l) ++ List.replicate (l.length - k) y

@[simp] theorem scan_length (f : β → α → β) (z : β) (l : List α) : (scan f z l).length = l.length + 1 := by simp [scan]
@[simp] theorem scanAt_zero (f : β → α → β) (z : β) (l : List α) : scanAt f z l 0 = z := by simp [scanAt]
theorem scanAt_succ (f : β → α → β) (z : β) (l : List α) (k : Nat) (h : k < l.length) : scanAt f z l (k + 1) = f (scanAt f z l k) l[k] := by
  unfold scanAt
  rw [List.take_succ_eq_append_getElem h, List.foldl_append]
  rfl
theorem scanAt_succD (f : β → α → β) (z : β) (l : List α) (k : Nat) (d : α) (h : k < l.length) : scanAt f z l (k + 1) = f (scanAt f z l k) (l.getD k d) := by
  rw [scanAt_succ f z l k h]; simp [h]
theorem scan_get (f : β → α → β) (z d : β) (l : List α) (k : Nat) (h : k ≤ l.length) : (scan f z l).getD k d = scanAt f z l k := by
  have hk : k < l.length + 1 := by omega
  simp [scan, List.getD, hk]
theorem part_length (f : β → α → β) (z y : β) (l : List α) (k : Nat) (h : k ≤ l.length) : (part f z y l k).length = l.length + 1 := by simp [part]; omega
theorem part_zero (f : β → α → β) (z : β) (l : List α) : part f z z l 0 = List.replicate (l.length + 1) z := by simp [part, List.replicate_succ]
theorem part_end (f : β → α → β) (z y : β) (l : List α) : part f z y l l.length = scan f z l := by simp [part, scan]
theorem part_at (f : β → α → β) (z y d : β) (l : List α) (k : Nat) : (part f z y l k).getD k d = scanAt f z l k := by
  simp [part, List.getD, List.getElem?_append_left]
theorem part_set (f : β → α → β) (z y : β) (l : List α) (k : Nat) (h : k < l.length) : (part f z y l k).set (k + 1) (scanAt f z l (k + 1)) = part f z y l (k + 1) := by
  unfold part
  rw [List.set_append_right _ _ (by simp)]
  have e : l.length - k = (l.length - (k + 1)) + 1 := by omega
  rw [e, List.replicate_succ]
  simp [List.range_succ]
theorem scan_take (f : β → α → β) (z : β) (l : List α) (k : Nat) (h : k ≤ l.length) : scan f z (l.take k) = (List.range (k + 1)).map (scanAt f z l) := by
  unfold scan
  rw [List.length_take, Nat.min_eq_left h]
  apply List.map_congr_left
  intro j hj
  have : j ≤ k := by have := List.mem_range.1 hj; omega
  simp [scanAt, List.take_take, Nat.min_eq_left this]
theorem scan_take_succ (f : β → α → β) (z : β) (l : List α) (k : Nat) (h : k < l.length) : scan f z (l.take (k + 1)) = scan f z (l.take k) ++ [scanAt f z l (k + 1)] := by
  rw [scan_take f z l (k + 1) (by omega), scan_take f z l k (by omega), List.range_succ]
  simp
end

/-- One coin turned turns the sums behind it. -/
theorem scanAt_flip (l : List Bool) (k : Nat) (hk : k < l.length) (t : Nat) (ht : t ≤ l.length) :
    scanAt (· != ·) false (l.set k (!l[k])) t = if k < t then !(scanAt (· != ·) false l t) else scanAt (· != ·) false l t := by
  induction t with
  | zero => simp
  | succ t ih =>
    have ih := ih (by omega)
    rw [scanAt_succ _ _ _ _ (by simp; omega), scanAt_succ _ _ _ _ (by omega), ih, List.getElem_set]
    by_cases h1 : k = t
    · subst h1
      simp
    · by_cases h2 : k < t
      · rw [if_neg h1, if_pos h2, if_pos (by omega)]
        cases scanAt (· != ·) false l t <;> simp
      · rw [if_neg h1, if_neg h2, if_neg (by omega)]
end Go.Proofs.YtpfmhkkglaghgaaGreat

namespace Go.Proofs.YtpfmhkkglaghgaaGreat
set_option linter.unusedSimpArgs false
set_option linter.unusedVariables false
set_option linter.unnecessarySimpa false
open Go.RowKit

section
variable {α β : Type} (op : α → α → α) (z : α) (v : β → α)
/-- The sum of those that b tells. -/
def foldIf (b : β → Bool) (l : List β) : α := l.foldl (fun a x => if b x = true then op a (v x) else a) z
def foldAll (l : List β) : α := l.foldl (fun a x => op a (v x)) z
structure Xorish : Prop where
  assoc : ∀ a b c, op (op a b) c = op a (op b c)
  comm : ∀ a b, op a b = op b a
  unit : ∀ a, op a z = a
  self : ∀ a, op a a = z
variable {op z}
theorem foldIf_nil (b : β → Bool) : foldIf op z v b [] = z := rfl
theorem foldIf_snoc (b : β → Bool) (l : List β) (x : β) : foldIf op z v b (l ++ [x]) = if b x = true then op (foldIf op z v b l) (v x) else foldIf op z v b l := by
  simp [foldIf, List.foldl_append]
theorem foldIf_take (b : β → Bool) (l : List β) (k : Nat) (h : k < l.length) : foldIf op z v b (l.take (k + 1)) = if b l[k] = true then op (foldIf op z v b (l.take k)) (v l[k]) else foldIf op z v b (l.take k) := by
  rw [List.take_succ_eq_append_getElem h, foldIf_snoc]
theorem snoc_ind {p : List β → Prop} (h0 : p []) (h1 : ∀ l x, p l → p (l ++ [x])) (l : List β) : p l := by
  have : ∀ n (l : List β), l.length = n → p l := by
    intro n
    induction n with
    | zero => intro l hl; rw [List.length_eq_zero_iff.1 hl]; exact h0
    | succ n ih =>
      intro l hl
      have e := List.take_append_drop n l
      have hd : ∃ x, l.drop n = [x] := by
        have : (l.drop n).length = 1 := by simp; omega
        exact List.length_eq_one_iff.1 this
      obtain ⟨x, hx⟩ := hd
      rw [← e, hx]
      exact h1 _ _ (ih _ (by simp; omega))
  exact this _ l rfl
theorem foldIf_append (H : Xorish op z) (b : β → Bool) (l m : List β) : foldIf op z v b (l ++ m) = op (foldIf op z v b l) (foldIf op z v b m) := by
  refine snoc_ind (p := fun m => foldIf op z v b (l ++ m) = op (foldIf op z v b l) (foldIf op z v b m)) ?_ ?_ m
  · simp [foldIf_nil, H.unit]
  · intro m x ih
    rw [← List.append_assoc, foldIf_snoc, foldIf_snoc, ih]
    split
    · rw [H.assoc]
    · rfl
theorem foldIf_union (H : Xorish op z) (b c d : β → Bool) (l : List β) (hd : ∀ x ∈ l, d x = (b x || c x)) (hn : ∀ x ∈ l, ¬ (b x = true ∧ c x = true)) :
    foldIf op z v d l = op (foldIf op z v b l) (foldIf op z v c l) := by
  revert hd hn
  refine snoc_ind (p := fun l => (∀ x ∈ l, d x = (b x || c x)) → (∀ x ∈ l, ¬ (b x = true ∧ c x = true)) → foldIf op z v d l = op (foldIf op z v b l) (foldIf op z v c l)) ?_ ?_ l
  · intro _ _; simp [foldIf_nil, H.unit]
  · intro l x ih hd hn
    have ih := ih (fun y hy => hd y (by simp [hy])) (fun y hy => hn y (by simp [hy]))
    have h1 := hd x (by simp)
    have h2 := hn x (by simp)
    rw [foldIf_snoc, foldIf_snoc, foldIf_snoc, ih, h1]
    cases hb : b x <;> cases hc : c x <;> simp [hb, hc] at h2 ⊢
    · rw [H.assoc]
    · rw [H.assoc, H.assoc, H.comm (v x)]
theorem foldIf_none (b : β → Bool) (l : List β) (h : ∀ x ∈ l, b x = false) : foldIf op z v b l = z := by
  revert h
  refine snoc_ind (p := fun l => (∀ x ∈ l, b x = false) → foldIf op z v b l = z) ?_ ?_ l
  · intro _; rfl
  · intro l x ih h
    rw [foldIf_snoc, h x (by simp), if_neg (by simp), ih (fun y hy => h y (by simp [hy]))]
theorem foldIf_all (b : β → Bool) (l : List β) (h : ∀ x ∈ l, b x = true) : foldIf op z v b l = foldAll op z v l := by
  revert h
  refine snoc_ind (p := fun l => (∀ x ∈ l, b x = true) → foldIf op z v b l = foldAll op z v l) ?_ ?_ l
  · intro _; rfl
  · intro l x ih h
    rw [foldIf_snoc, h x (by simp), if_pos rfl, ih (fun y hy => h y (by simp [hy]))]
    simp [foldAll, List.foldl_append]
theorem foldAll_append (H : Xorish op z) (l m : List β) : foldAll op z v (l ++ m) = op (foldAll op z v l) (foldAll op z v m) := by
  rw [← foldIf_all v (fun _ => true) _ (fun _ _ => rfl), ← foldIf_all v (fun _ => true) _ (fun _ _ => rfl), ← foldIf_all v (fun _ => true) _ (fun _ _ => rfl), foldIf_append v H]
/-- A stretch: two running sums. -/
theorem foldIf_seg (H : Xorish op z) (b : β → Bool) (l : List β) (f t : Nat) (h1 : f ≤ t) (h2 : t ≤ l.length) (hb : ∀ i, (h : i < l.length) → b l[i] = decide (f ≤ i ∧ i < t)) :
    foldIf op z v b l = op (foldAll op z v (l.take t)) (foldAll op z v (l.take f)) := by
  have e1 : l = l.take f ++ ((l.take t).drop f ++ l.drop t) := by
    have h3 : (l.take t).take f = l.take f := by rw [List.take_take, Nat.min_eq_left h1]
    rw [← List.append_assoc]
    conv => rhs; rw [← h3, List.take_append_drop f (l.take t), List.take_append_drop]
  have e2 : l.take t = l.take f ++ (l.take t).drop f := by
    have h3 : (l.take t).take f = l.take f := by rw [List.take_take, Nat.min_eq_left h1]
    conv => lhs; rw [← List.take_append_drop f (l.take t), h3]
  have a1 : foldIf op z v b (l.take f) = z := foldIf_none v b _ fun x hx => by
    obtain ⟨i, hi, rfl⟩ := List.mem_iff_getElem.1 hx
    simp at hi
    rw [List.getElem_take, hb i (by omega)]
    simp; omega
  have a2 : foldIf op z v b ((l.take t).drop f) = foldAll op z v ((l.take t).drop f) := foldIf_all v b _ fun x hx => by
    obtain ⟨i, hi, rfl⟩ := List.mem_iff_getElem.1 hx
    simp at hi
    rw [List.getElem_drop, List.getElem_take, hb _ (by omega)]
    simp; omega
  have a3 : foldIf op z v b (l.drop t) = z := foldIf_none v b _ fun x hx => by
    obtain ⟨i, hi, rfl⟩ := List.mem_iff_getElem.1 hx
    simp at hi
    rw [List.getElem_drop, hb _ (by omega)]
    simp
  have a4 : foldIf op z v b l = foldAll op z v ((l.take t).drop f) := by
    conv => lhs; rw [e1]
    rw [foldIf_append v H, foldIf_append v H, a1, a2, a3, H.unit, H.comm, H.unit]
  rw [a4]
  conv => rhs; rw [e2]
  rw [foldAll_append v H, H.comm (foldAll op z v (l.take f)), H.assoc, H.self, H.unit]
theorem foldAll_map (f : β → α) (l : List β) (k : Nat) : scanAt op z (l.map f) k = foldAll op z f (l.take k) := by
  unfold scanAt foldAll
  rw [← List.map_take, List.foldl_map]
end

theorem xorNat : Xorish (fun a b : Nat => a ^^^ b) 0 := ⟨Nat.xor_assoc, Nat.xor_comm, Nat.xor_zero, Nat.xor_self⟩
theorem xorBool : Xorish (fun a b : Bool => a != b) false := ⟨by decide, by decide, by decide, by decide⟩

namespace LS
def non (x : Snt) : Nat := x.nonce.toNat
def sumN (cl : List Sp) (l : List Snt) : Nat := foldIf (fun a b : Nat => a ^^^ b) 0 non (fun x => hasP cl x.pn) l
def sumX (cl : List Sp) (l : List Snt) : Int := sumN cl l
def odd (mk : List Sp) (x : Snt) : Bool := x.coin && !hasP mk x.pn
def sumO (cl mk : List Sp) (l : List Snt) : Bool := foldIf (fun a b : Bool => a != b) false (odd mk) (fun x => hasP cl x.pn) l
def rangeOk (s : LS) (cl : List Sp) : Prop := ∀ c ∈ cl, (s.low : Int) ≤ c.1 ∧ c.2 < s.all.length
def noSkip (l : List Snt) (cl : List Sp) : Prop := ∀ x ∈ l, hasP cl x.pn = true → x.state ≠ 4
instance (s : LS) (cl : List Sp) : Decidable (s.rangeOk cl) := by unfold rangeOk; exact inferInstance
instance (l : List Snt) (cl : List Sp) : Decidable (noSkip l cl) := by unfold noSkip; exact inferInstance
def SumOk (s : LS) (cl mk : List Sp) : Prop := Go.Proofs.YtpfmhkkglaghgaaGreat.Good cl ∧ Go.Proofs.YtpfmhkkglaghgaaGreat.Good mk ∧ s.rangeOk cl ∧ noSkip s.kept cl
instance (s : LS) (cl mk : List Sp) : Decidable (s.SumOk cl mk) := by unfold SumOk; exact inferInstance
def sum (s : LS) (cl mk : List Sp) : Int × Bool × Bool := if s.SumOk cl mk then (sumX cl s.kept, sumO cl mk s.kept, true) else (0, false, false)
theorem sum_yes {s : LS} {cl mk : List Sp} (h : s.SumOk cl mk) : s.sum cl mk = (sumX cl s.kept, sumO cl mk s.kept, true) := if_pos h
theorem sum_no {s : LS} {cl mk : List Sp} (h : ¬ s.SumOk cl mk) : s.sum cl mk = (0, false, false) := if_neg h

theorem non_lt {x : Snt} (h : x.ok) : non x < 18446744073709551616 ∧ (non x : Int) = x.nonce := by
  obtain ⟨h1, h2⟩ := h.nonce
  unfold non
  omega
theorem sumN_lt (cl : List Sp) (l : List Snt) (h : ∀ x ∈ l, x.ok) : sumN cl l < 18446744073709551616 := by
  revert h
  refine snoc_ind (p := fun l => (∀ x ∈ l, Snt.ok x) → sumN cl l < 18446744073709551616) ?_ ?_ l
  · intro _; exact (by decide : (0 : Nat) < 18446744073709551616)
  · intro l x ih h
    unfold sumN at ih ⊢
    rw [foldIf_snoc]
    have := ih (fun y hy => h y (by simp [hy]))
    split
    · exact Nat.xor_lt_two_pow (n := 64) this (non_lt (h x (by simp))).1
    · exact this
theorem sumX_u64 (cl : List Sp) (l : List Snt) (h : ∀ x ∈ l, x.ok) : isU64 (sumX cl l) := by
  have := sumN_lt cl l h
  unfold isU64 sumX
  omega
theorem xor64_of {a b : Nat} (ha : a < 18446744073709551616) (hb : b < 18446744073709551616) : xor64 a b = ((a ^^^ b : Nat) : Int) := u64_xor_nat a b ha hb
/-- The reference's round. -/
theorem sumX_take (cl : List Sp) (l : List Snt) (h : ∀ x ∈ l, x.ok) (k : Nat) (hk : k < l.length) :
    sumX cl (l.take (k + 1)) = if hasP cl l[k].pn = true then xor64 (sumX cl (l.take k)) l[k].nonce else sumX cl (l.take k) := by
  have h1 := sumN_lt cl (l.take k) (fun x hx => h x (List.mem_of_mem_take hx))
  obtain ⟨h2, h3⟩ := non_lt (h _ (List.getElem_mem hk))
  unfold sumX
  rw [← h3, xor64_of h1 h2]
  unfold sumN
  rw [foldIf_take _ _ _ _ hk]
  split <;> rfl
theorem sumO_take (cl mk : List Sp) (l : List Snt) (k : Nat) (hk : k < l.length) :
    sumO cl mk (l.take (k + 1)) = if hasP cl l[k].pn = true then (sumO cl mk (l.take k) != odd mk l[k]) else sumO cl mk (l.take k) := foldIf_take _ _ _ _ hk

theorem scanX (l : List Snt) (h : ∀ x ∈ l, x.ok) (k : Nat) : scanAt xor64 0 (l.map Snt.nonce) k = ((foldAll (fun a b : Nat => a ^^^ b) 0 non (l.take k) : Nat) : Int) ∧ foldAll (fun a b : Nat => a ^^^ b) 0 non (l.take k) < 18446744073709551616 := by
  have : ∀ m : List Snt, (∀ x ∈ m, x.ok) → (m.map Snt.nonce).foldl xor64 0 = ((foldAll (fun a b : Nat => a ^^^ b) 0 non m : Nat) : Int) ∧ foldAll (fun a b : Nat => a ^^^ b) 0 non m < 18446744073709551616 := by
    intro m
    refine snoc_ind (p := fun m => (∀ x ∈ m, Snt.ok x) → (m.map Snt.nonce).foldl xor64 0 = ((foldAll (fun a b : Nat => a ^^^ b) 0 non m : Nat) : Int) ∧ foldAll (fun a b : Nat => a ^^^ b) 0 non m < 18446744073709551616) ?_ ?_ m
    · intro _; exact ⟨rfl, by decide⟩
    · intro m x ih hm
      obtain ⟨i1, i2⟩ := ih (fun y hy => hm y (by simp [hy]))
      obtain ⟨h2, h3⟩ := non_lt (hm x (by simp))
      simp only [List.map_append, List.foldl_append, List.map_cons, List.map_nil, List.foldl_cons, List.foldl_nil, foldAll] at i1 i2 ⊢
      rw [i1, ← h3, xor64_of i2 h2]
      exact ⟨rfl, Nat.xor_lt_two_pow (n := 64) i2 h2⟩
  unfold scanAt
  rw [← List.map_take]
  exact this _ fun x hx => h x (List.mem_of_mem_take hx)

theorem hasP_take {cl : List Sp} {k : Nat} (hk : k < cl.length) (n : Int) : hasP (cl.take (k + 1)) n = (hasP (cl.take k) n || inSp n cl[k]) := any_take_succ (inSp n) cl k hk
/-- A later claim has nothing of the earlier ones. -/
theorem later {cl : List Sp} (hg : Go.Proofs.YtpfmhkkglaghgaaGreat.Good cl) {k : Nat} (hk : k < cl.length) {n : Int} (h : hasP (cl.take k) n = true) : n < cl[k].1 := by
  obtain ⟨s, hs, h1, h2⟩ := (hasP_iff _ _).1 h
  obtain ⟨i, hi, rfl⟩ := List.mem_iff_getElem.1 hs
  simp at hi
  rw [List.getElem_take] at h2
  have key : ∀ j, (hj : j < cl.length) → i < j → cl[i].2 < cl[j].1 := by
    intro j
    induction j with
    | zero => intro _ h; omega
    | succ j ih =>
      intro hj hij
      obtain ⟨h4, h5⟩ := hg (j + 1) hj
      have h5 := h5 (by omega)
      have h6 := (hg j (by omega)).1.1
      simp only [Nat.add_sub_cancel] at h5
      by_cases e : i = j
      · subst e; omega
      · have := ih (by omega) (by omega); omega
  have := key k hk (by omega)
  omega

/-- One claim more: the running sums at its two ends. -/
theorem step_sum {s : LS} (g : s.Good) {cl : List Sp} (hg : Go.Proofs.YtpfmhkkglaghgaaGreat.Good cl) {k : Nat} (hk : k < cl.length) (h1 : (s.low : Int) ≤ cl[k].1) (h2 : cl[k].2 < s.all.length) {f t : Nat} (hf : (f : Int) = cl[k].1 - s.low) (ht : (t : Int) = cl[k].2 - s.low + 1) (mk : List Sp) :
    f ≤ t ∧ t ≤ s.kept.length ∧
    sumX (cl.take (k + 1)) s.kept = xor64 (sumX (cl.take k) s.kept) (xor64 (scanAt xor64 0 (s.kept.map Snt.nonce) t) (scanAt xor64 0 (s.kept.map Snt.nonce) f)) ∧
    sumO (cl.take (k + 1)) mk s.kept = (sumO (cl.take k) mk s.kept != (scanAt (· != ·) false (s.kept.map (odd mk)) t != scanAt (· != ·) false (s.kept.map (odd mk)) f)) := by
  have hsp := (hg k hk).1.1
  have hkl : s.kept.length = s.all.length - s.low := by simp [kept]
  have hft : f ≤ t := by omega
  have htl : t ≤ s.kept.length := by omega
  have hseg : ∀ i, (h : i < s.kept.length) → inSp s.kept[i].pn cl[k] = decide (f ≤ i ∧ i < t) := by
    intro i hi
    have := g.keptPn hi
    unfold inSp
    rw [this, ← Bool.decide_and]
    apply decide_eq_decide.2
    omega
  have hun : ∀ x ∈ s.kept, hasP (cl.take (k + 1)) x.pn = (hasP (cl.take k) x.pn || inSp x.pn cl[k]) := fun x _ => hasP_take hk _
  have hdis : ∀ x ∈ s.kept, ¬ (hasP (cl.take k) x.pn = true ∧ inSp x.pn cl[k] = true) := by
    intro x _ ⟨e1, e2⟩
    have := later hg hk e1
    simp [inSp] at e2
    omega
  refine ⟨hft, htl, ?_, ?_⟩
  · obtain ⟨a1, a2⟩ := scanX s.kept g.keptOk t
    obtain ⟨b1, b2⟩ := scanX s.kept g.keptOk f
    rw [a1, b1, xor64_of a2 b2]
    have e1 := foldIf_union (op := fun a b : Nat => a ^^^ b) (z := 0) non xorNat (fun x => hasP (cl.take k) x.pn) (fun x => inSp x.pn cl[k]) (fun x => hasP (cl.take (k + 1)) x.pn) s.kept hun hdis
    have e2 := foldIf_seg (op := fun a b : Nat => a ^^^ b) (z := 0) non xorNat (fun x : Snt => inSp x.pn cl[k]) s.kept f t hft htl hseg
    unfold sumX
    rw [xor64_of (sumN_lt _ _ g.keptOk) (Nat.xor_lt_two_pow (n := 64) a2 b2)]
    unfold sumN
    rw [e1, e2]
  · have e1 := foldIf_union (op := fun a b : Bool => a != b) (z := false) (odd mk) xorBool (fun x => hasP (cl.take k) x.pn) (fun x => inSp x.pn cl[k]) (fun x => hasP (cl.take (k + 1)) x.pn) s.kept hun hdis
    have e2 := foldIf_seg (op := fun a b : Bool => a != b) (z := false) (odd mk) xorBool (fun x : Snt => inSp x.pn cl[k]) s.kept f t hft htl hseg
    unfold sumO
    rw [e1, e2, ← foldAll_map, ← foldAll_map]
theorem sum_zero (cl mk : List Sp) (l : List Snt) : sumX (cl.take 0) l = 0 ∧ sumO (cl.take 0) mk l = false := by
  have h : ∀ x ∈ l, (fun x : Snt => hasP (cl.take 0) x.pn) x = false := fun x _ => by simp [hasP]
  exact ⟨by unfold sumX sumN; rw [foldIf_none _ _ _ h]; rfl, foldIf_none _ _ _ h⟩
end LS
end Go.Proofs.YtpfmhkkglaghgaaGreat

namespace Go.Proofs.YtpfmhkkglaghgaaGreat
set_option linter.unusedSimpArgs false
set_option linter.unusedVariables false
set_option linter.unnecessarySimpa false
open Go.RowKit

def aheadP (n : Int) : List Sp → Option Int
  | [] => none
  | c :: r => if n ≤ c.2 then some (max c.1 n) else aheadP n r
def skipP (sp : List Sp) : List Snt → Option Int
  | [] => none
  | x :: r => if x.state = 4 ∧ hasP sp x.pn = true then some x.pn else skipP sp r
theorem aheadP_drop {n : Int} {cl : List Sp} {k : Nat} (hk : k < cl.length) : aheadP n (cl.drop k) = if n ≤ cl[k].2 then some (max cl[k].1 n) else aheadP n (cl.drop (k + 1)) := by
  rw [List.drop_eq_getElem_cons hk]; rfl
theorem skipP_drop {sp : List Sp} {l : List Snt} {k : Nat} (hk : k < l.length) : skipP sp (l.drop k) = if l[k].state = 4 ∧ hasP sp l[k].pn = true then some l[k].pn else skipP sp (l.drop (k + 1)) := by
  rw [List.drop_eq_getElem_cons hk]; rfl
def sumsP (a : Ak) (s : LS) : Int × Int := if (s.sum a.sp a.mm).1 ≠ a.xo then (6, 0) else if (s.sum a.sp a.mm).2.1 ≠ a.od then (7, 0) else (0, 0)
/-- From the second test on: what is told of those from the j-th on. -/
def skipsP (a : Ak) (s : LS) (o : Option Int) : Int × Int := match o with
  | some p => (5, p)
  | none => sumsP a s
def aheadsP (a : Ak) (s : LS) (o : Option Int) : Int × Int := match o with
  | some p => (4, p)
  | none => skipsP a s (skipP a.sp s.kept)
def Ak.check (a : Ak) (s : LS) : Int × Int := if mayB a.sp a.mm = false then (1, 0) else if a.lo < s.low then (2, 0) else aheadsP a s (aheadP s.all.length a.sp)
theorem Ak.check_may {a : Ak} {s : LS} (h : mayB a.sp a.mm = false) : a.check s = (1, 0) := by unfold Ak.check; rw [if_pos h]
theorem Ak.check_low {a : Ak} {s : LS} (h : mayB a.sp a.mm = true) (h1 : a.lo < s.low) : a.check s = (2, 0) := by unfold Ak.check; rw [if_neg (by simp [h]), if_pos h1]
theorem Ak.check_go {a : Ak} {s : LS} (h : mayB a.sp a.mm = true) (h1 : ¬ a.lo < s.low) : a.check s = aheadsP a s (aheadP s.all.length a.sp) := by unfold Ak.check; rw [if_neg (by simp [h]), if_neg h1]
theorem aheads_yes {a : Ak} {s : LS} {k : Nat} (hk : k < a.sp.length) (h : (s.all.length : Int) ≤ a.sp[k].2) : aheadsP a s (aheadP s.all.length (a.sp.drop k)) = (4, max a.sp[k].1 s.all.length) := by rw [aheadP_drop hk, if_pos h]; rfl
theorem aheads_no {a : Ak} {s : LS} {k : Nat} (hk : k < a.sp.length) (h : ¬ (s.all.length : Int) ≤ a.sp[k].2) : aheadsP a s (aheadP s.all.length (a.sp.drop k)) = aheadsP a s (aheadP s.all.length (a.sp.drop (k + 1))) := by rw [aheadP_drop hk, if_neg h]
theorem aheads_end (a : Ak) (s : LS) : aheadsP a s (aheadP s.all.length (a.sp.drop a.sp.length)) = skipsP a s (skipP a.sp s.kept) := by simp [aheadP, aheadsP]
theorem skips_yes {a : Ak} {s : LS} {k : Nat} (hk : k < s.kept.length) (h : s.kept[k].state = 4) (h1 : hasP a.sp s.kept[k].pn = true) : skipsP a s (skipP a.sp (s.kept.drop k)) = (5, s.kept[k].pn) := by rw [skipP_drop hk, if_pos ⟨h, h1⟩]; rfl
theorem skips_no {a : Ak} {s : LS} {k : Nat} (hk : k < s.kept.length) (h : ¬ (s.kept[k].state = 4 ∧ hasP a.sp s.kept[k].pn = true)) : skipsP a s (skipP a.sp (s.kept.drop k)) = skipsP a s (skipP a.sp (s.kept.drop (k + 1))) := by rw [skipP_drop hk, if_neg h]
theorem skips_end (a : Ak) (s : LS) : skipsP a s (skipP a.sp (s.kept.drop s.kept.length)) = sumsP a s := by simp [skipP, skipsP]
theorem sums_x {a : Ak} {s : LS} (h : (s.sum a.sp a.mm).1 ≠ a.xo) : sumsP a s = (6, 0) := by unfold sumsP; rw [if_pos h]
theorem sums_o {a : Ak} {s : LS} (h : (s.sum a.sp a.mm).1 = a.xo) (h1 : (s.sum a.sp a.mm).2.1 ≠ a.od) : sumsP a s = (7, 0) := by unfold sumsP; rw [if_neg (by simp [h]), if_pos h1]
theorem sums_ok {a : Ak} {s : LS} (h : (s.sum a.sp a.mm).1 = a.xo) (h1 : (s.sum a.sp a.mm).2.1 = a.od) : sumsP a s = (0, 0) := by unfold sumsP; rw [if_neg (by simp [h]), if_neg (by simp [h1])]

end Go.Proofs.YtpfmhkkglaghgaaGreat
