/-
  CountNums of the references. · The laws of chapter 27, plainly: how many numbers a row has; what is claimed is what came; when it tells.
-/
import Derived.Test.YtkedfipeebjcjaaSpan
import Derived.Test.YtkedfipeebjcjaaPee6
import Derived.Test.YtkedfipeebjcjaaPee4
namespace Go.Proofs.Ytkedfipeebjcjaa
set_option linter.unusedSimpArgs false
set_option linter.unusedVariables false
set_option linter.unnecessarySimpa false
open Go.RowKit

set_option maxHeartbeats 800000 in
theorem countNums_any (A : Option Addr) (n c : Nat) (l : List Sp) (w : World) (h : Rd w 2 A n c (Ss l)) (hu : U2s l) (hg : Good l) :
    Calls Try.prog 19 #[.slice A n c] w fun e w' => e = .returned (.int .u64 (sumTo l l.length)) ∧ Qt w w' := by
  have hl := h.len
  rw [Ss_length] at hl
  obtain rfl : l.length = n := by omega
  clear hl
  have hmax := h.cap
  have hmax' := h.max
  unfold maxLen at hmax'
  have Hg := Lib.hid hg
  clear hg
  go_enter Try.func19, Try.ntmps19
  go_wp2
  go_loopw [3, 4] (fun x i wr => ∃ k : Nat, k ≤ l.length ∧ i = .int .i64 k ∧ x = .int .u64 (sumTo l k) ∧ Qt w wr) (fun _ i _ => l.length - (intOf i).toNat)
  case atStart => exact ⟨0, Nat.zero_le _, rfl, by rw [sumTo_zero], Qt.refl w⟩
  case round =>
    obtain ⟨k, hk, rfl, rfl, hq⟩ := hrel
    by_cases hlt : k < l.length
    · obtain ⟨b, off, x, y, rfl, He, hc1, hc2, u1, u2, u3, u4⟩ := (h.qt hq).sp hu hlt
      obtain ⟨g1, g2⟩ := sumTo_le l Hg.out hu.lo k hk
      obtain ⟨g3, g4⟩ := sumTo_le l Hg.out hu.lo (k + 1) hlt
      have hs := sumTo_succ l k hlt
      rw [He.out] at hs
      have Hs : Hid (sumTo l (k + 1) = sumTo l k + (y - x + 1)) := hs
      have hxy : x ≤ y := by have := (Hg.out k hlt).1.1; rw [He.out] at this; exact this
      rw [hs] at g3 g4
      clear hs
      generalize sumTo l k = S at *
      go_wp2
      refine wp_region_qt (by kernel_rfl) (by kernel_rfl) ?_
      repeat (go_big_quiet_step (fail))
      refine wpQuiet_nil ?_
      intro wd qd
      go_wp2
      go_roundw
      case rel => exact ⟨k + 1, by omega, by go_num, by rw [Hs.out]; congr 1; omega, hq.trans qd⟩
      case measure => simp [intOf]; omega
    · obtain rfl : k = l.length := by omega
      go_wp2
      go_ret
      exact ⟨rfl, hq⟩

end Go.Proofs.Ytkedfipeebjcjaa

namespace Go.Proofs.Ytkedfipeebjcjaa
set_option linter.unusedSimpArgs false
set_option linter.unusedVariables false
set_option linter.unnecessarySimpa false
open Go.RowKit

def sz (l : List Sp) : Int := (l.map fun s => s.2 - s.1 + 1).sum
theorem sumTo_sz (l : List Sp) : sumTo l l.length = sz l := by
  unfold sumTo sz
  rw [List.take_length]
  have : ∀ (z : Int), l.foldl (fun n s => n + (s.2 - s.1 + 1)) z = z + (l.map fun s => s.2 - s.1 + 1).sum := by
    induction l with
    | nil => intro z; simp
    | cons a l ih => intro z; simp only [List.foldl_cons, List.map_cons, List.sum_cons, ih]; omega
  rw [this]; omega
theorem sz_append (a b : List Sp) : sz (a ++ b) = sz a + sz b := by simp [sz]
theorem sz_cons (a : Sp) (b : List Sp) : sz (a :: b) = (a.2 - a.1 + 1) + sz b := by simp [sz]
/-- Spans that touch s and have none of its numbers, taken in one by one. -/
theorem eat_sz (s : Sp) (r : List Sp) (hg : Gd r) (hs : s.1 ≤ s.2) (ht : ∀ x ∈ r, s.2 < x.1) :
    (eaten s r (eatN s r)).2 - (eaten s r (eatN s r)).1 + 1 = (s.2 - s.1 + 1) + sz (r.take (eatN s r)) := by
  induction r generalizing s with
  | nil => simp [eatN, eaten, sz]
  | cons x r ih =>
    have hx := hg.1 x (List.mem_cons_self ..)
    have htx := ht x (List.mem_cons_self ..)
    have hp := (List.pairwise_cons.1 hg.2).1
    have hx1 := hx.1
    by_cases hc : x.1 ≤ s.2 + 1
    · have e : eatN s (x :: r) = eatN (mrg s x) r + 1 := by simp [eatN, hc]
      have e2 : eaten s (x :: r) (eatN (mrg s x) r + 1) = eaten (mrg s x) r (eatN (mrg s x) r) := by simp [eaten]
      rw [e, e2, ih (mrg s x) hg.tail (by simp only [mrg]; omega) (fun y hy => by have := hp y hy; simp only [mrg]; omega), List.take_succ_cons, sz_cons]
      simp only [mrg]
      omega
    · have e : eatN s (x :: r) = 0 := by simp [eatN, hc]
      rw [e]
      simp [eaten, sz]
theorem add_sz (l : List Sp) (s : Sp) (hl : Gd l) (hs : s.1 ≤ s.2) (hd : ∀ n, Mem n l → ¬ (s.1 ≤ n ∧ n ≤ s.2)) : sz (addP l s) = sz l + (s.2 - s.1 + 1) := by
  have hno : ∀ x ∈ l, ¬ (x.2 + 1 < s.1) → s.2 < x.1 ∨ x.2 + 1 = s.1 := by
    intro x hx hc
    have hx1 := (hl.1 x hx).1
    have h1 := hd x.1 ⟨x, hx, Int.le_refl _, hx1⟩
    have h2 := hd x.2 ⟨x, hx, hx1, Int.le_refl _⟩
    by_cases h3 : s.2 < x.1
    · exact .inl h3
    · right
      by_cases h4 : x.2 < s.1
      · omega
      · -- x reaches into s: then s.1 is one of x
        have h5 := hd s.1 ⟨x, hx, by omega, by omega⟩
        omega
  have hr : Gd (l.drop (skipN s l)) := hl.sub (List.drop_sublist _ _)
  unfold addP
  have hsplit : l = l.take (skipN s l) ++ (l.drop (skipN s l)).take (eatN s (l.drop (skipN s l))) ++ l.drop (skipN s l + eatN s (l.drop (skipN s l))) := by
    rw [List.append_assoc, ← List.drop_drop, List.take_append_drop, List.take_append_drop]
  rw [sz_append, sz_append, sz_cons]
  conv => rhs; rw [hsplit, sz_append, sz_append]
  have hz : sz ([] : List Sp) = 0 := rfl
  rw [hz]
  suffices h : (eaten s (l.drop (skipN s l)) (eatN s (l.drop (skipN s l)))).2 - (eaten s (l.drop (skipN s l)) (eatN s (l.drop (skipN s l)))).1 + 1 = (s.2 - s.1 + 1) + sz ((l.drop (skipN s l)).take (eatN s (l.drop (skipN s l)))) by omega
  have hsub : ∀ x ∈ l.drop (skipN s l), x ∈ l := fun x hx => List.mem_of_mem_drop hx
  have hskip := skipN_end s l
  have hdl : ∀ x0 r0, l.drop (skipN s l) = x0 :: r0 → ¬ x0.2 + 1 < s.1 := by
    intro x0 r0 e
    have hlt : skipN s l < l.length := by
      rcases Nat.lt_or_ge (skipN s l) l.length with h | h
      · exact h
      · rw [List.drop_eq_nil_of_le h] at e; cases e
    have e2 : x0 = l[skipN s l] := by rw [List.drop_eq_getElem_cons hlt] at e; injection e with e _; exact e.symm
    rw [e2]
    exact hskip hlt
  generalize l.drop (skipN s l) = r at *
  cases r with
  | nil => simp [eatN, eaten, sz]
  | cons x r0 =>
    have hx := hr.1 x (List.mem_cons_self ..)
    have hx1 := hx.1
    have hp := (List.pairwise_cons.1 hr.2).1
    have h0 := hdl x r0 rfl
    have hrest : ∀ y ∈ r0, s.2 < y.1 := by
      intro y hy
      have h1 := hp y hy
      have h2 := (hr.1 y (List.mem_cons_of_mem _ hy)).1
      rcases hno y (hsub y (List.mem_cons_of_mem _ hy)) (by omega) with h3 | h3
      · exact h3
      · omega
    rcases hno x (hsub x (List.mem_cons_self ..)) h0 with h1 | h1
    · exact eat_sz s (x :: r0) hr hs (fun y hy => by
        rcases List.mem_cons.1 hy with rfl | hy
        · exact h1
        · exact hrest y hy)
    · have hc : x.1 ≤ s.2 + 1 := by omega
      have e : eatN s (x :: r0) = eatN (mrg s x) r0 + 1 := by simp [eatN, hc]
      have e2 : eaten s (x :: r0) (eatN (mrg s x) r0 + 1) = eaten (mrg s x) r0 (eatN (mrg s x) r0) := by simp [eaten]
      rw [e, e2, eat_sz (mrg s x) r0 hr.tail (by simp only [mrg]; omega) (fun y hy => by have := hrest y hy; have := hp y hy; simp only [mrg]; omega), List.take_succ_cons, sz_cons]
      simp only [mrg]
      omega
theorem fromP_sz (l : List Sp) (q : Int) (h : ∀ x ∈ l, x.1 ≤ x.2) : sz (fromP l q) ≤ sz l := by
  induction l with
  | nil => exact Int.le_refl _
  | cons a l ih =>
    have i1 := ih (fun x hx => h x (List.mem_cons_of_mem _ hx))
    have ha := h a (List.mem_cons_self ..)
    have e : fromP (a :: l) q = from1 q a ++ fromP l q := by simp [fromP]
    rw [e, sz_append, sz_cons]
    by_cases hq : q ≤ a.2
    · rw [from1_yes hq]
      have e2 : sz [(max a.1 q, a.2)] = a.2 - max a.1 q + 1 := by simp [sz]
      rw [e2]
      omega
    · rw [from1_no hq]
      have e2 : sz ([] : List Sp) = 0 := rfl
      rw [e2]
      omega
theorem gotL_sz (l : List Hp) (hl : ∀ h ∈ l, h.pn ≤ maxPn) (hn : (l.map (·.pn)).Nodup) : sz (gotL l) = l.length := by
  have key : ∀ k, k ≤ l.length → sz (gotL (l.take k)) = k := by
    intro k
    induction k with
    | zero => intro _; rw [List.take_zero]; rfl
    | succ k ih =>
      intro hk
      have hk' : k < l.length := hk
      have e : l.take (k + 1) = l.take k ++ [l[k]] := by rw [List.take_succ_eq_append_getElem hk']
      rw [e, gotL_snoc]
      have sp := gotL_spec (l.take k) (fun h hh => hl h (List.mem_of_mem_take hh))
      rw [add_sz _ _ sp.1 (Int.le_refl _) ?_, ih (by omega)]
      · simp only
        omega
      · intro n hm
        obtain ⟨x, hx, rfl⟩ := (sp.2 n).1 hm
        simp only
        intro h2
        have h3 : x.pn = l[k].pn := by omega
        have h4 : (l.take (k + 1)).map (·.pn) = (l.take k).map (·.pn) ++ [l[k].pn] := by rw [e, List.map_append]; rfl
        have h5 : ((l.take (k + 1)).map (·.pn)).Nodup := hn.sublist ((List.take_sublist _ _).map _)
        rw [h4, List.nodup_append] at h5
        exact h5.2.2 x.pn (List.mem_map.2 ⟨x, hx, rfl⟩) l[k].pn (by simp) h3
  have := key l.length (Nat.le_refl _)
  rwa [List.take_length] at this

def hpOf (d : DatD) : Hp := ⟨d.pn, d.nonce, decide (d.ecn = 1), decide (d.ecn = 3)⟩
namespace PS
/-- q is p behind raises: the floor went up, what lies below it went away, all else stands. -/
structure Up (p q : PS) : Prop where
  f : p.floor ≤ q.floor
  l : q.l = p.l.filter fun h => decide (q.floor ≤ h.pn)
  s : q.s = p.s
  b : q.bytes = p.bytes
  w : q.waits = p.waits
  t : q.trigger = p.trigger
  n : q.next = p.next
  d : q.due = p.due
  dl : q.delay = p.delay
theorem Up.raise (p : PS) (t : Int) : Up p (p.raise t) := ⟨by show p.floor ≤ max p.floor t; omega, rfl, rfl, rfl, rfl, rfl, rfl, rfl, rfl⟩
theorem Up.trans {p q r : PS} (h : Up p q) (k : Up q r) : Up p r :=
  ⟨Int.le_trans h.f k.f, by
    rw [k.l, h.l, List.filter_filter]
    refine List.filter_congr fun x _ => ?_
    have := k.f
    by_cases h1 : r.floor ≤ x.pn
    · simp only [h1, decide_true, Bool.true_and, decide_eq_true_eq]; omega
    · simp only [h1, decide_false, Bool.false_and], k.s.trans h.s, k.b.trans h.b, k.w.trans h.w, k.t.trans h.t, k.n.trans h.n, k.d.trans h.d, k.dl.trans h.dl⟩
theorem Up.refl {p : PS} (h : ∀ x ∈ p.l, p.floor ≤ x.pn) : Up p p := ⟨Int.le_refl _, (List.filter_eq_self.2 fun x hx => decide_eq_true (h x hx)).symm, rfl, rfl, rfl, rfl, rfl, rfl, rfl⟩
theorem Up.low {p q : PS} (h : Up p q) : ∀ x ∈ q.l, q.floor ≤ x.pn := fun x hx => by
  rw [h.l] at hx
  exact of_decide_eq_true (List.mem_filter.1 hx).2
theorem Up.capG {p q : PS} (h : Up p q) : Up p q.capG := by
  unfold PS.capG
  split
  · exact h.trans (Up.raise _ _)
  · exact h
theorem Up.capM {p q : PS} (h : Up p q) : Up p q.capM := by
  unfold PS.capM
  split
  · exact h.trans (Up.raise _ _)
  · exact h
theorem kept_up (p : PS) (d : DatD) : Up (p.laid d) (p.kept d) := ((Up.raise (p.laid d) d.least).capG).capM

/-- Is it new? -/
def Fresh (p : PS) (d : DatD) : Prop := ¬ (d.pn < p.floor ∨ hasP p.got d.pn = true)
theorem fresh_not {p : PS} {a b : Nat} (h : p.Mid a b) {d : DatD} (hf : p.Fresh d) : ∀ x ∈ p.l, x.pn ≠ d.pn := fun x hx e => hf (.inr ((hasP_iff _ _).2 (((gotL_spec p.l h.le).2 d.pn).2 ⟨x, hx, e⟩)))
def silent (q : PS) (d : DatD) (now : Int) : PS := { q with next := max q.next (d.pn + 1), waits := q.waits + 1, trigger := d.nonce, due := min (now + q.delay) 18446744073709551615 }
def newest' (q : PS) (d : DatD) : PS := { q with next := max q.next (d.pn + 1), waits := q.waits + 1, trigger := d.nonce }
/-- The four ways. -/
theorem take_ways (p : PS) (d : DatD) (now : Int) :
    (¬ p.Fresh d ∧ p.take d now = (p, none)) ∨
    (p.Fresh d ∧ d.pn < (p.kept d).floor ∧ p.take d now = (p.kept d, none)) ∨
    (p.Fresh d ∧ (p.kept d).floor ≤ d.pn ∧ p.take d now = (((p.kept d).newest' d).still, some ((p.kept d).newest' d).told)) ∨
    (p.Fresh d ∧ (p.kept d).floor ≤ d.pn ∧ ¬ (2 ≤ p.waits + 1 ∨ d.ecn = 3 ∨ d.pn ≠ p.next) ∧ p.take d now = ((p.kept d).silent d now, none)) := by
  have U := kept_up p d
  have e1 : (p.kept d).next = p.next := U.n
  have e2 : (p.kept d).waits = p.waits := U.w
  have e3 : (p.kept d).delay = p.delay := U.dl
  unfold take
  by_cases h1 : d.pn < p.floor ∨ hasP p.got d.pn = true
  · exact .inl ⟨fun h => h h1, by rw [if_pos h1]⟩
  · rw [if_neg h1]
    by_cases h2 : d.pn < (p.kept d).floor
    · exact .inr (.inl ⟨h1, h2, by rw [if_pos h2]⟩)
    · rw [if_neg h2]
      by_cases h3 : 2 ≤ p.waits + 1 ∨ d.ecn = 3 ∨ d.pn ≠ p.next
      · refine .inr (.inr (.inl ⟨h1, by omega, ?_⟩))
        rw [if_pos h3]
        unfold newest'
        rw [e1, e2]
      · refine .inr (.inr (.inr ⟨h1, by omega, h3, ?_⟩))
        rw [if_neg h3]
        simp only [silent, e1, e2, e3]

/-- What came, how often it told, against the receiver. -/
structure Truth (p : PS) (came : List DatD) (named : Nat) : Prop where
  l : p.l = (came.filter fun d => decide (p.floor ≤ d.pn)).map hpOf
  nod : (came.map (·.pn)).Nodup
  ok : ∀ d ∈ came, d.Ok ∧ 0 ≤ d.pn
  nx : ∀ h ∈ p.l, h.pn < p.next
  wt : p.waits = 1 → ∃ h ∈ p.l, h.nonce = p.trigger ∧ ∀ x ∈ p.l, x.pn ≤ h.pn
  nm : (named : Int) + p.waits ≤ came.length
theorem Truth.new (delay : Int) : (PS.new delay).Truth [] 0 := ⟨rfl, List.nodup_nil, (fun d hd => by cases hd), (fun h hh => by cases hh), (fun e => absurd (show (0 : Int) = 1 from e) (by decide)), by show ((0 : Nat) : Int) + 0 ≤ ((0 : Nat) : Int); decide⟩
/-- A packet that came is no new one. -/
theorem Truth.stale {p : PS} {came : List DatD} {n : Nat} (h : p.Truth came n) {a b : Nat} (hm : p.Mid a b) {d : DatD} (hf : p.Fresh d) : ∀ c ∈ came, c.pn ≠ d.pn := fun c hc e => by
  have h1 : ¬ d.pn < p.floor := fun h => hf (.inl h)
  have : hpOf c ∈ p.l := by
    rw [h.l]
    exact List.mem_map.2 ⟨c, List.mem_filter.2 ⟨hc, decide_eq_true (by omega)⟩, rfl⟩
  exact fresh_not hm hf _ this e
/-- The list behind the packet. -/
theorem Truth.laid {p : PS} {came : List DatD} {n : Nat} (h : p.Truth came n) {d : DatD} (hd : d.Ok) (h0 : 0 ≤ d.pn) (hf : p.Fresh d) {a b : Nat} (hm : p.Mid a b) :
    (p.kept d).l = ((came ++ [d]).filter fun x => decide ((p.kept d).floor ≤ x.pn)).map hpOf ∧ ((came ++ [d]).map (·.pn)).Nodup ∧ ∀ x ∈ came ++ [d], x.Ok ∧ 0 ≤ x.pn := by
  have U := kept_up p d
  have hfl : p.floor ≤ (p.kept d).floor := U.f
  refine ⟨?_, ?_, ?_⟩
  · rw [U.l]
    show (p.l ++ [hpOf d]).filter _ = _
    rw [h.l, List.filter_append, List.filter_append, List.map_append]
    congr 1
    · rw [List.filter_map, List.filter_filter]
      congr 1
      refine List.filter_congr fun x _ => ?_
      show (decide ((p.kept d).floor ≤ x.pn) && decide (p.floor ≤ x.pn)) = decide ((p.kept d).floor ≤ x.pn)
      by_cases h1 : (p.kept d).floor ≤ x.pn
      · simp only [h1, decide_true, Bool.true_and, decide_eq_true_eq]; omega
      · simp only [h1, decide_false, Bool.false_and]
    · by_cases h1 : (p.kept d).floor ≤ d.pn
      · simp [h1, hpOf]
      · simp [h1, hpOf]
  · rw [List.map_append, List.nodup_append]
    refine ⟨h.nod, by simp, fun x hx y hy e => ?_⟩
    obtain ⟨c, hc, rfl⟩ := List.mem_map.1 hx
    simp only [List.map_cons, List.map_nil, List.mem_singleton] at hy
    exact h.stale hm hf c hc (e.trans hy)
  · intro x hx
    rcases List.mem_append.1 hx with hx | hx
    · exact h.ok x hx
    · rw [List.mem_singleton] at hx
      subst hx
      exact ⟨hd, h0⟩
theorem kept_mem {p : PS} {d : DatD} {x : Hp} : x ∈ (p.kept d).l ↔ (x ∈ p.l ∨ x = hpOf d) ∧ (p.kept d).floor ≤ x.pn := by
  rw [(kept_up p d).l]
  show x ∈ (p.l ++ [hpOf d]).filter _ ↔ _
  rw [List.mem_filter, List.mem_append, List.mem_singleton, decide_eq_true_eq]

/-- What is told is so. -/
structure IsTrue (came : List DatD) (a : AckD) : Prop where
  ex : ∃ f : Int, a.sp = gotL ((came.filter fun d => decide (f ≤ d.pn)).map hpOf) ∧ a.mm = markL ((came.filter fun d => decide (f ≤ d.pn)).map hpOf) ∧ a.xo = xorL ((came.filter fun d => decide (f ≤ d.pn)).map hpOf) ∧ a.od = oddL ((came.filter fun d => decide (f ≤ d.pn)).map hpOf) ∧
    ∃ d ∈ came, f ≤ d.pn ∧ d.nonce = a.tr
set_option maxHeartbeats 1000000 in
theorem Truth.take {p : PS} {came : List DatD} {n : Nat} (h : p.Truth came n) (hg : p.Good) (hw : p.Waits) {d : DatD} (hd : d.Ok) (h0 : 0 ≤ d.pn) (now : Int) :
    (¬ p.Fresh d ∧ p.take d now = (p, none)) ∨
    (p.Fresh d ∧ (p.take d now).2 = none ∧ (p.take d now).1.Truth (came ++ [d]) n) ∨
    (p.Fresh d ∧ ∃ a, (p.take d now).2 = some a ∧ IsTrue (came ++ [d]) a ∧ (p.take d now).1.Truth (came ++ [d]) (n + 1)) := by
  have U := kept_up p d
  have hm := hg.mid
  have hwt := hg.wt
  have nm := h.nm
  have len : (came ++ [d]).length = came.length + 1 := by simp
  rcases take_ways p d now with ⟨h1, h2⟩ | ⟨h1, h2, h3⟩ | ⟨h1, h2, h3⟩ | ⟨h1, h2, h4, h3⟩
  · exact .inl ⟨h1, h2⟩
  · obtain ⟨l1, l2, l3⟩ := h.laid hd h0 h1 hm
    refine .inr (.inl ⟨h1, by rw [h3], ?_⟩)
    rw [h3]
    have hne : d.pn < p.floor → False := fun e => h1 (.inl e)
    refine ⟨l1, l2, l3, fun x hx => ?_, fun e => ?_, ?_⟩
    · have := kept_mem.1 hx
      rw [show (p.kept d).next = p.next from U.n]
      rcases this.1 with e | e
      · exact h.nx x e
      · subst e
        have e2 : (hpOf d).pn = d.pn := rfl
        omega
    · rw [show (p.kept d).waits = p.waits from U.w] at e
      obtain ⟨y, hy, e1, e2⟩ := h.wt e
      have hk := hm.kept_ne hd h0 (fun e => h1 (.inl e)) (fun e => h1 (.inr e))
      obtain ⟨z, tl, hz⟩ := List.exists_cons_of_ne_nil hk
      have hz1 : z ∈ (p.kept d).l := by rw [hz]; exact List.mem_cons_self ..
      have hz2 := kept_mem.1 hz1
      have e5 : (hpOf d).pn = d.pn := rfl
      have hfy : (p.kept d).floor ≤ y.pn := by
        rcases hz2.1 with e4 | e4
        · have := e2 z e4; omega
        · subst e4; omega
      refine ⟨y, kept_mem.2 ⟨.inl hy, hfy⟩, by rw [e1]; exact U.t.symm, fun x hx => ?_⟩
      have hx2 := kept_mem.1 hx
      rcases hx2.1 with e4 | e4
      · exact e2 x e4
      · subst e4; omega
    · rw [show (p.kept d).waits = p.waits from U.w, len]
      omega
  · obtain ⟨l1, l2, l3⟩ := h.laid hd h0 h1 hm
    refine .inr (.inr ⟨h1, ((p.kept d).newest' d).told, by rw [h3], ⟨(p.kept d).floor, ?_, ?_, ?_, ?_, d, by simp, h2, rfl⟩, ?_⟩)
    · show gotL (p.kept d).l = _; rw [← l1]
    · show markL (p.kept d).l = _; rw [← l1]
    · show (p.kept d).l.foldl _ 0 = _; rw [← l1]; rfl
    · show (p.kept d).l.foldl _ false = _; rw [← l1]; rfl
    · rw [h3]
      show (((p.kept d).newest' d).still).Truth (came ++ [d]) (n + 1)
      refine PS.Truth.mk l1 l2 l3 (fun x hx => ?_) (fun e => ?_) ?_
      rotate_left
      · exact absurd (show (0 : Int) = 1 from e) (by decide)
      rotate_left
      · show x.pn < max (p.kept d).next (d.pn + 1)
        rw [show (p.kept d).next = p.next from U.n]
        rcases (kept_mem.1 hx).1 with e | e
        · have := h.nx x e; omega
        · subst e
          have e2 : (hpOf d).pn = d.pn := rfl
          omega
      · show ((n + 1 : Nat) : Int) + 0 ≤ ((came ++ [d]).length : Int)
        rw [len]
        rcases hwt with e | e
        · omega
        · omega
  · obtain ⟨l1, l2, l3⟩ := h.laid hd h0 h1 hm
    have hw0 : p.waits = 0 := by
      rcases hwt with e | e
      · exact e.1
      · omega
    have hpn : d.pn = p.next := by
      have := h4
      by_cases hc : d.pn = p.next
      · exact hc
      · exact absurd (.inr (.inr hc)) this
    refine .inr (.inl ⟨h1, by rw [h3], ?_⟩)
    rw [h3]
    refine ⟨l1, l2, l3, fun x hx => ?_, fun e => ⟨hpOf d, kept_mem.2 ⟨.inr rfl, h2⟩, rfl, fun x hx => ?_⟩, ?_⟩
    · show x.pn < max (p.kept d).next (d.pn + 1)
      rw [show (p.kept d).next = p.next from U.n]
      rcases (kept_mem.1 hx).1 with e | e
      · have := h.nx x e; omega
      · subst e
        have e2 : (hpOf d).pn = d.pn := rfl
        omega
    · show x.pn ≤ d.pn
      rcases (kept_mem.1 hx).1 with e | e
      · have := h.nx x e; omega
      · subst e; exact Int.le_refl _
    · show (n : Int) + ((p.kept d).waits + 1) ≤ _
      rw [show (p.kept d).waits = p.waits from U.w, len]
      omega
theorem Truth.still {p : PS} {came : List DatD} {n : Nat} (h : p.Truth came n) (hw : p.waits = 1) : p.still.Truth came (n + 1) ∧ IsTrue came p.told := by
  obtain ⟨y, hy, e1, e2⟩ := h.wt hw
  have nm := h.nm
  refine ⟨⟨h.l, h.nod, h.ok, h.nx, (fun e => absurd (show (0 : Int) = 1 from e) (by decide)), by show ((n + 1 : Nat) : Int) + 0 ≤ _; omega⟩, ⟨p.floor, ?_, ?_, ?_, ?_, ?_⟩⟩
  · show gotL p.l = _; rw [← h.l]
  · show markL p.l = _; rw [← h.l]
  · show p.l.foldl _ 0 = _; rw [← h.l]; rfl
  · show p.l.foldl _ false = _; rw [← h.l]; rfl
  · rw [h.l] at hy
    obtain ⟨d, hd, rfl⟩ := List.mem_map.1 hy
    obtain ⟨d1, d2⟩ := List.mem_filter.1 hd
    exact ⟨d, d1, of_decide_eq_true d2, e1⟩

/-- A packet that is taken without telling and without falling out again: it waits, and its time is set. -/
theorem soon_ways {p : PS} (hg : p.Good) (hw : p.Waits) {d : DatD} (hd : d.Ok) (h0 : 0 ≤ d.pn) (now : Int) :
    ((p.take d now).2 ≠ none ∧ (p.take d now).1.waits = 0 ∧ (p.take d now).1.due = 18446744073709551615) ∨
    ((p.take d now).2 = none ∧ (p.take d now).1.waits = p.waits ∧ (p.take d now).1.due = p.due ∧ sz (p.take d now).1.got ≤ sz p.got) ∨
    ((p.take d now).2 = none ∧ p.waits = 0 ∧ (p.take d now).1.waits = 1 ∧ (p.take d now).1.due = min (now + p.delay) 18446744073709551615) := by
  have U := kept_up p d
  have hm := hg.mid
  rcases take_ways p d now with ⟨h1, h2⟩ | ⟨h1, h2, h3⟩ | ⟨h1, h2, h3⟩ | ⟨h1, h2, h4, h3⟩
  · exact .inr (.inl ⟨by rw [h2], by rw [h2], by rw [h2], by rw [h2]; exact Int.le_refl _⟩)
  · refine .inr (.inl ⟨by rw [h3], by rw [h3]; exact U.w, by rw [h3]; exact U.d, ?_⟩)
    rw [h3]
    have e : (p.kept d).l = p.l.filter fun h => decide ((p.kept d).floor ≤ h.pn) := by
      rw [U.l]
      show (p.l ++ [hpOf d]).filter _ = _
      rw [List.filter_append]
      have : [hpOf d].filter (fun h => decide ((p.kept d).floor ≤ h.pn)) = [] := by
        have e5 : (hpOf d).pn = d.pn := rfl
        simp [e5]; omega
      rw [this, List.append_nil]
    show sz (gotL (p.kept d).l) ≤ sz (gotL p.l)
    rw [e, ← gotL_from p.l hm.le]
    exact fromP_sz _ _ fun x hx => (hm.gd.1 x hx).1
  · exact .inl ⟨by rw [h3]; simp, by rw [h3]; rfl, by rw [h3]; rfl⟩
  · refine .inr (.inr ⟨by rw [h3], ?_, ?_, ?_⟩)
    · rcases hg.wt with e | e
      · exact e.1
      · omega
    · rw [h3]
      show (p.kept d).waits + 1 = 1
      rw [show (p.kept d).waits = p.waits from U.w]
      rcases hg.wt with e | e
      · omega
      · omega
    · rw [h3]
      show min (now + (p.kept d).delay) _ = _
      rw [show (p.kept d).delay = p.delay from U.dl]
end PS
end Go.Proofs.Ytkedfipeebjcjaa
