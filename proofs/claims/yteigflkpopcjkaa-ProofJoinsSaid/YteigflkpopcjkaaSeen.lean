/-
  Plain law of what was seen: claims of numbers that are there. · Walks of the references' spans that the proof reaches: AddSpan, CutSpan, FromNum (picked out of the texts of rows 5-9). · law14.seen: a row of numbers that are there.
-/
import Derived.Test.YteigflkpopcjkaaTrapP
import Derived.Test.YteigflkpopcjkaaAsk
import Derived.StillTailTactics
import Derived.Test.YteigflkpopcjkaaPrfA
namespace Go.Proofs.Yteigflkpopcjkaa
set_option linter.unusedSimpArgs false
set_option linter.unusedVariables false
set_option linter.unnecessarySimpa false
open Go.RowKit

theorem Mem_lo {l : List Sp} (h : Gd l) {s : Sp} (hs : s ∈ l) : Mem s.1 l ∧ Mem s.2 l := by
  have := (h.1 s hs).1
  exact ⟨⟨s, hs, Int.le_refl _, this⟩, ⟨s, hs, this, Int.le_refl _⟩⟩
theorem cut1_mem (s x : Sp) (hs : s.1 ≤ s.2) (hx : x.1 ≤ x.2) (n : Int) : Mem n (cut1 s x) ↔ (x.1 ≤ n ∧ n ≤ x.2) ∧ ¬ (s.1 ≤ n ∧ n ≤ s.2) := by
  have h0 := Mem_nil n
  unfold cut1
  split
  · rw [Mem_cons]
    constructor
    · rintro (h | h)
      · exact ⟨h, by omega⟩
      · exact absurd h h0
    · rintro ⟨h, _⟩; exact .inl h
  · rw [Mem_append]
    split <;> split <;> simp only [Mem_cons, h0, or_false, false_or] <;> constructor <;> intro h <;> first | omega | cases h
theorem cut1_in (s x : Sp) (hs : s.1 ≤ s.2) (hx : x.1 ≤ x.2) : ∀ y ∈ cut1 s x, x.1 ≤ y.1 ∧ y.1 ≤ y.2 ∧ y.2 ≤ x.2 := by
  intro y hy
  unfold cut1 at hy
  split at hy
  · obtain rfl := List.mem_singleton.1 hy; omega
  · rcases List.mem_append.1 hy with hy | hy <;> split at hy
    · obtain rfl := List.mem_singleton.1 hy; simp only; omega
    · cases hy
    · obtain rfl := List.mem_singleton.1 hy; simp only; omega
    · cases hy
theorem cut1_pw (s x : Sp) (hs : s.1 ≤ s.2) (hx : x.1 ≤ x.2) : (cut1 s x).Pairwise (fun a b => a.2 + 1 < b.1) := by
  unfold cut1
  split
  · exact List.pairwise_singleton _ _
  · split <;> split <;> simp
    omega
theorem cut_parts (l : List Sp) (s : Sp) (hl : Gd l) (hs : s.1 ≤ s.2) : Gd (cutP l s) ∧ ∀ n, Mem n (cutP l s) ↔ Mem n l ∧ ¬ (s.1 ≤ n ∧ n ≤ s.2) := by
  induction l with
  | nil => exact ⟨Gd.nil, fun n => by simp [cutP, Mem_nil]⟩
  | cons x r ih =>
    obtain ⟨i1, i2⟩ := ih hl.tail
    have hx := hl.1 x (List.mem_cons_self ..)
    have e : cutP (x :: r) s = cut1 s x ++ cutP r s := by simp [cutP]
    rw [e]
    refine ⟨⟨fun y hy => ?_, ?_⟩, fun n => ?_⟩
    · rcases List.mem_append.1 hy with hy | hy
      · have := cut1_in s x hs hx.1 y hy
        exact ⟨this.2.1, by have := hx.2; omega⟩
      · exact i1.1 y hy
    · rw [List.pairwise_append]
      refine ⟨cut1_pw s x hs hx.1, i1.2, fun a ha b hb => ?_⟩
      have h1 := cut1_in s x hs hx.1 a ha
      obtain ⟨z, hz, hb⟩ := List.mem_flatMap.1 hb
      have h2 := (List.pairwise_cons.1 hl.2).1 z hz
      have h3 := cut1_in s z hs (hl.1 z (List.mem_cons_of_mem _ hz)).1 b hb
      omega
    · rw [Mem_append, cut1_mem s x hs hx.1, i2 n, Mem_cons]
      constructor
      · rintro (⟨h, h'⟩ | ⟨h, h'⟩)
        · exact ⟨.inl h, h'⟩
        · exact ⟨.inr h, h'⟩
      · rintro ⟨h | h, h'⟩
        · exact .inl ⟨h, h'⟩
        · exact .inr ⟨h, h'⟩

/-! How many. -/
theorem from_parts (l : List Sp) (q : Int) (hl : Gd l) : (Gd (fromP l q) ∧ ∀ y ∈ fromP l q, ∃ x ∈ l, x.1 ≤ y.1 ∧ y.2 = x.2) ∧ ∀ n, Mem n (fromP l q) ↔ Mem n l ∧ q ≤ n := by
  induction l with
  | nil => exact ⟨⟨Gd.nil, fun y hy => by cases hy⟩, fun n => by simp [fromP, Mem]⟩
  | cons x r ih =>
    obtain ⟨⟨i1, i2⟩, i3⟩ := ih hl.tail
    have hx := hl.1 x (by simp)
    have hp := (List.pairwise_cons.1 hl.2).1
    have e : fromP (x :: r) q = from1 q x ++ fromP r q := rfl
    rw [e]
    by_cases h : q ≤ x.2
    · rw [from1_yes h]
      refine ⟨⟨⟨fun y hy => ?_, ?_⟩, fun y hy => ?_⟩, fun n => ?_⟩
      · rcases List.mem_cons.1 hy with rfl | hy
        · exact ⟨by have := hx.1; show max x.1 q ≤ x.2; omega, hx.2⟩
        · exact i1.1 y hy
      · refine List.pairwise_cons.2 ⟨fun y hy => ?_, i1.2⟩
        obtain ⟨z, hz, h1, h2⟩ := i2 y hy
        have := hp z hz
        show x.2 + 1 < y.1
        omega
      · rcases List.mem_cons.1 hy with rfl | hy
        · exact ⟨x, by simp, by show x.1 ≤ max x.1 q; omega, rfl⟩
        · obtain ⟨z, hz, h1⟩ := i2 y hy
          exact ⟨z, List.mem_cons_of_mem _ hz, h1⟩
      · rw [List.singleton_append, Mem_cons, Mem_cons, i3 n]
        have hr : Mem n r → q ≤ n := fun ⟨z, hz, h1, h2⟩ => by have := hp z hz; omega
        constructor
        · rintro (⟨h1, h2⟩ | ⟨h1, h2⟩)
          · simp only at h1 h2; exact ⟨.inl ⟨by omega, h2⟩, by omega⟩
          · exact ⟨.inr h1, h2⟩
        · rintro ⟨h1 | h1, h2⟩
          · exact .inl ⟨by show max x.1 q ≤ n; omega, h1.2⟩
          · exact .inr ⟨h1, h2⟩
    · rw [from1_no h, List.nil_append]
      refine ⟨⟨i1, fun y hy => ?_⟩, fun n => ?_⟩
      · obtain ⟨z, hz, h1⟩ := i2 y hy
        exact ⟨z, List.mem_cons_of_mem _ hz, h1⟩
      · rw [Mem_cons, i3 n]
        constructor
        · rintro ⟨h1, h2⟩; exact ⟨.inr h1, h2⟩
        · rintro ⟨h1 | h1, h2⟩
          · omega
          · exact ⟨h1, h2⟩

/-- A row whose numbers are all of another one lies inside it. -/
theorem inside_mem {a b : List Sp} (ha : Gd a) (hb : Gd b) (h : ∀ n, Mem n a → Mem n b) : InsideP a b := by
  intro s hs
  have hsp := (ha.1 s hs).1
  obtain ⟨t, ht, t1, t2⟩ := h s.1 ⟨s, hs, Int.le_refl _, hsp⟩
  refine ⟨t, ht, t1, ?_⟩
  apply Int.not_lt.1
  intro hlt
  obtain ⟨u, hu, u1, u2⟩ := h (t.2 + 1) ⟨s, hs, by omega, by omega⟩
  obtain ⟨i, hi, rfl⟩ := List.mem_iff_getElem.1 ht
  obtain ⟨j, hj, rfl⟩ := List.mem_iff_getElem.1 hu
  have pw := List.pairwise_iff_getElem.1 hb.2
  rcases Nat.lt_trichotomy i j with h1 | h1 | h1
  · have := pw i j hi hj h1; omega
  · subst h1; omega
  · have := pw j i hj hi h1
    have := (hb.1 _ (List.getElem_mem hi)).1
    omega

theorem headD_get {l : List Sp} (h : 0 < l.length) : (l.headD (0, 0)).1 = l[0].1 := by
  cases l with
  | nil => simp at h
  | cons x r => rfl
/-- What seen tells: claims of numbers that are kept and not skipped, marks among them. -/
structure SeenOk (s : LS) (cl mk : List Sp) : Prop where
  gc : Gd cl
  gm : Gd mk
  lc : cl.length ≤ 32
  lm : mk.length ≤ 32
  mem : ∀ n, Mem n cl → ∃ i, ∃ h : i < s.kept.length, n = s.kept[i].pn ∧ s.kept[i].state ≠ 4
  sub : ∀ n, Mem n mk → Mem n cl
theorem SeenOk.range {s : LS} {cl mk : List Sp} (g : s.Good) (h : SeenOk s cl mk) {n : Int} (hn : Mem n cl) : (s.low : Int) ≤ n ∧ n < s.all.length := by
  obtain ⟨i, hi, rfl, -⟩ := h.mem n hn
  have := g.keptPn hi
  have : s.kept.length = s.all.length - s.low := by simp [LS.kept]
  omega
theorem SeenOk.sumOk {s : LS} {cl mk : List Sp} (g : s.Good) (h : SeenOk s cl mk) : s.SumOk cl mk := by
  refine ⟨h.gc.good, h.gm.good, fun c hc => ?_, fun x hx hp => ?_⟩
  · obtain ⟨h1, h2⟩ := Mem_lo h.gc hc
    exact ⟨(h.range g h1).1, (h.range g h2).2⟩
  · obtain ⟨i, hi, e, h1⟩ := h.mem _ ((hasP_iff _ _).1 hp)
    obtain ⟨j, hj, rfl⟩ := List.mem_iff_getElem.1 hx
    rw [g.keptPn hj, g.keptPn hi] at e
    obtain rfl : j = i := by omega
    exact h1
theorem SeenOk.may {s : LS} {cl mk : List Sp} (h : SeenOk s cl mk) (hc : 1 ≤ cl.length) : MayP cl mk :=
  ⟨⟨hc, h.lc, h.lm⟩, h.gc.good, h.gm.good, inside_mem h.gm h.gc h.sub⟩
theorem skipP_none {sp : List Sp} {l : List Snt} (h : ∀ x ∈ l, ¬ (x.state = 4 ∧ hasP sp x.pn = true)) : skipP sp l = none := by
  induction l with
  | nil => rfl
  | cons x r ih => unfold skipP; rw [if_neg (h x (by simp)), ih (fun c hc => h c (List.mem_cons_of_mem _ hc))]
/-- Nothing but the sums can be wrong. -/
theorem SeenOk.check {s : LS} {a : Ak} (g : s.Good) (h : SeenOk s a.sp a.mm) (hc : 1 ≤ a.sp.length) : a.check s = sumsP a s := by
  have so := h.sumOk g
  have hlo : ¬ a.lo < s.low := by
    have := (so.2.2.1 a.sp[0] (List.getElem_mem (by omega))).1
    have e : a.lo = a.sp[0].1 := headD_get _
    omega
  rw [Ak.check_go (decide_eq_true (h.may hc)) hlo, aheadP_none (fun c hc => by have := (so.2.2.1 c hc).2; omega)]
  show skipsP a s (skipP a.sp s.kept) = _
  rw [skipP_none (fun x hx e => so.2.2.2 x hx e.2 e.1)]
  rfl
theorem SeenOk.sum {s : LS} {cl mk : List Sp} (g : s.Good) (h : SeenOk s cl mk) : s.sum cl mk = (LS.sumX cl s.kept, LS.sumO cl mk s.kept, true) := LS.sum_yes (h.sumOk g)
theorem sumsP_at {s : LS} {a : Ak} {X : Int} {O v : Bool} (h : s.sum a.sp a.mm = (X, O, v)) : sumsP a s = if X ≠ a.xo then (6, 0) else if O ≠ a.od then (7, 0) else (0, 0) := by
  unfold sumsP
  rw [h]

/-- Behind k of what is kept. -/
structure SeenTo (s : LS) (k : Nat) (cl mk : List Sp) : Prop where
  gc : Gd cl
  gm : Gd mk
  lc : cl.length ≤ 32
  lm : mk.length ≤ (s.low + k + 2) / 3 - (s.low + 2) / 3
  mem : ∀ n, Mem n cl → ∃ i, ∃ h : i < s.kept.length, i < k ∧ n = s.kept[i].pn ∧ s.kept[i].state ≠ 4
  sub : ∀ n, Mem n mk → Mem n cl
theorem SeenTo.zero (s : LS) : SeenTo s 0 [] [] := ⟨Gd.nil, Gd.nil, by simp, by simp, fun n h => absurd h (Mem_nil n), fun n h => h⟩
theorem SeenTo.pass {s : LS} {k : Nat} {cl mk : List Sp} (h : SeenTo s k cl mk) : SeenTo s (k + 1) cl mk :=
  ⟨h.gc, h.gm, h.lc, by have := h.lm; omega, fun n hn => by obtain ⟨i, hi, h1, h2⟩ := h.mem n hn; exact ⟨i, hi, by omega, h2⟩, h.sub⟩
theorem SeenTo.isSpan {s : LS} (g : s.Good) {k : Nat} (hk : k < s.kept.length) : IsSpan (s.kept[k].pn, s.kept[k].pn) ∧ isU64 s.kept[k].pn := by
  have e := g.keptPn hk
  have : s.kept.length = s.all.length - s.low := by simp [LS.kept]
  have := g.len
  have := g.lim1
  exact ⟨⟨Int.le_refl _, by show s.kept[k].pn ≤ maxPn; unfold maxPn; omega⟩, ⟨by omega, by omega⟩⟩
theorem SeenTo.add {s : LS} (g : s.Good) {k : Nat} {cl mk : List Sp} (h : SeenTo s k cl mk) (hk : k < s.kept.length) (hs : s.kept[k].state ≠ 4) (hl : (addP cl (s.kept[k].pn, s.kept[k].pn)).length ≤ 32) :
    SeenTo s (k + 1) (addP cl (s.kept[k].pn, s.kept[k].pn)) mk := by
  obtain ⟨a1, a2⟩ := add_parts cl _ h.gc (SeenTo.isSpan g hk).1
  have p := h.pass
  refine ⟨a1, h.gm, hl, p.lm, fun n hn => ?_, fun n hn => (a2 n).2 (.inl (h.sub n hn))⟩
  rcases (a2 n).1 hn with h1 | ⟨h1, h2⟩
  · exact p.mem n h1
  · exact ⟨k, hk, by omega, by simp only at h1 h2; omega, hs⟩
theorem SeenTo.mark {s : LS} (g : s.Good) {k : Nat} {cl mk : List Sp} (h : SeenTo s k cl mk) (hk : k < s.kept.length) (hs : s.kept[k].state ≠ 4) (hl : (addP cl (s.kept[k].pn, s.kept[k].pn)).length ≤ 32) (h3 : s.kept[k].pn % 3 = 0) :
    SeenTo s (k + 1) (addP cl (s.kept[k].pn, s.kept[k].pn)) (addP mk (s.kept[k].pn, s.kept[k].pn)) := by
  obtain ⟨a1, a2⟩ := add_parts cl _ h.gc (SeenTo.isSpan g hk).1
  obtain ⟨b1, b2⟩ := add_parts mk _ h.gm (SeenTo.isSpan g hk).1
  have p := h.add g hk hs hl
  refine ⟨a1, b1, hl, ?_, p.mem, fun n hn => ?_⟩
  · have := addP_le mk (s.kept[k].pn, s.kept[k].pn)
    have := h.lm
    have e := g.keptPn hk
    omega
  · rcases (b2 n).1 hn with h1 | h1
    · exact (a2 n).2 (.inl (h.sub n h1))
    · exact (a2 n).2 (.inr h1)
theorem SeenTo.ok {s : LS} (hr : s.ring ≤ 90) {k : Nat} (hk : k ≤ s.kept.length) {cl mk : List Sp} (h : SeenTo s k cl mk) : SeenOk s cl mk :=
  ⟨h.gc, h.gm, h.lc, by have := h.lm; have := s.kept_le; omega, fun n hn => by obtain ⟨i, hi, -, h2⟩ := h.mem n hn; exact ⟨i, hi, h2⟩, h.sub⟩
/-- Numbers of a ledger fit. -/
theorem SeenTo.u2 {s : LS} (g : s.Good) {k : Nat} {cl mk : List Sp} (h : SeenTo s k cl mk) : U2s cl ∧ U2s mk := by
  have key : ∀ n, Mem n cl → isU64 n := fun n hn => by
    obtain ⟨i, hi, -, rfl, -⟩ := h.mem n hn
    exact (SeenTo.isSpan g hi).2
  exact ⟨fun c hc => ⟨key _ (Mem_lo h.gc hc).1, key _ (Mem_lo h.gc hc).2⟩, fun c hc => ⟨key _ (h.sub _ (Mem_lo h.gm hc).1), key _ (h.sub _ (Mem_lo h.gm hc).2)⟩⟩

theorem good_mono' {cl : List Sp} (h : Gd cl) {i : Nat} (hi : i < cl.length) : (cl[0]'(by omega)).1 ≤ cl[i].1 := by
  rcases Nat.eq_zero_or_pos i with rfl | h0
  · exact Int.le_refl _
  · have := List.pairwise_iff_getElem.1 h.2 0 i (by omega) hi h0
    have := (h.1 _ (List.getElem_mem (show 0 < cl.length by omega))).1
    omega
/-- Claims cut in two. -/
structure Halves (cl lo hi : List Sp) : Prop where
  gl : Gd lo
  gh : Gd hi
  un : ∀ n, Mem n cl ↔ Mem n lo ∨ Mem n hi
  dj : ∀ n, ¬ (Mem n lo ∧ Mem n hi)
theorem halves_nil {cl : List Sp} (h : Gd cl) : Halves cl cl [] := ⟨h, Gd.nil, fun n => ⟨.inl, fun e => e.resolve_right (Mem_nil n)⟩, fun n e => Mem_nil n e.2⟩
theorem halves_cut {cl : List Sp} {q : Int} (h : Gd cl) (hh : 0 < (fromP cl q).length) : Halves cl (cutP cl ((fromP cl q)[0].1, maxPn)) (fromP cl q) ∧ (fromP cl q)[0].1 ≤ maxPn := by
  obtain ⟨⟨f1, -⟩, f3⟩ := from_parts cl q h
  have hsp := f1.1 _ (List.getElem_mem hh)
  have hle : (fromP cl q)[0].1 ≤ maxPn := Int.le_trans hsp.1 hsp.2
  obtain ⟨c1, c2⟩ := cut_parts cl ((fromP cl q)[0].1, maxPn) h hle
  have hmin : ∀ n, Mem n (fromP cl q) → (fromP cl q)[0].1 ≤ n := fun n ⟨t, ht, t1, t2⟩ => by
    obtain ⟨i, hi, rfl⟩ := List.mem_iff_getElem.1 ht
    have := (good_mono' f1 hi)
    omega
  have h0 := (f3 _).1 (Mem_lo f1 (List.getElem_mem hh)).1
  have hmx : ∀ n, Mem n cl → n ≤ maxPn := fun n ⟨t, ht, t1, t2⟩ => by have := (h.1 t ht).2; omega
  refine ⟨⟨c1, f1, fun n => ?_, fun n ⟨e1, e2⟩ => ((c2 n).1 e1).2 ⟨hmin n e2, hmx n ((f3 n).1 e2).1⟩⟩, hle⟩
  constructor
  · intro hn
    by_cases hq : (fromP cl q)[0].1 ≤ n
    · exact .inr ((f3 n).2 ⟨hn, by omega⟩)
    · exact .inl ((c2 n).2 ⟨hn, fun e => hq e.1⟩)
  · rintro (hn | hn)
    · exact ((c2 n).1 hn).1
    · exact ((f3 n).1 hn).1
theorem Halves.sums {s : LS} (g : s.Good) {cl lo hi mk : List Sp} (H : Halves cl lo hi) (h : SeenOk s cl mk) :
    s.SumOk lo mk ∧ s.SumOk hi mk ∧ LS.sumX cl s.kept = xor64 (LS.sumX lo s.kept) (LS.sumX hi s.kept) ∧ LS.sumO cl mk s.kept = (LS.sumO lo mk s.kept != LS.sumO hi mk s.kept) := by
  have so := h.sumOk g
  have part : ∀ l : List Sp, Gd l → (∀ n, Mem n l → Mem n cl) → s.SumOk l mk := fun l gl hm => by
    refine ⟨gl.good, h.gm.good, fun c hc => ?_, fun x hx hp => so.2.2.2 x hx ((hasP_iff _ _).2 (hm _ ((hasP_iff _ _).1 hp)))⟩
    obtain ⟨h1, h2⟩ := Mem_lo gl hc
    exact ⟨(h.range g (hm _ h1)).1, (h.range g (hm _ h2)).2⟩
  have hun : ∀ x ∈ s.kept, hasP cl x.pn = (hasP lo x.pn || hasP hi x.pn) := fun x _ => by
    rw [Bool.eq_iff_iff, Bool.or_eq_true, hasP_iff, hasP_iff, hasP_iff]
    exact H.un x.pn
  have hdj : ∀ x ∈ s.kept, ¬ (hasP lo x.pn = true ∧ hasP hi x.pn = true) := fun x _ e => H.dj x.pn ⟨(hasP_iff _ _).1 e.1, (hasP_iff _ _).1 e.2⟩
  refine ⟨part lo H.gl (fun n hn => (H.un n).2 (.inl hn)), part hi H.gh (fun n hn => (H.un n).2 (.inr hn)), ?_, ?_⟩
  · have := foldIf_union (op := fun a b : Nat => a ^^^ b) (z := 0) LS.non xorNat (fun x => hasP lo x.pn) (fun x => hasP hi x.pn) (fun x => hasP cl x.pn) s.kept hun hdj
    unfold LS.sumX
    rw [LS.xor64_of (LS.sumN_lt _ _ g.keptOk) (LS.sumN_lt _ _ g.keptOk)]
    unfold LS.sumN
    rw [this]
  · exact foldIf_union (op := fun a b : Bool => a != b) (z := false) (LS.odd mk) xorBool (fun x => hasP lo x.pn) (fun x => hasP hi x.pn) (fun x => hasP cl x.pn) s.kept hun hdj

end Go.Proofs.Yteigflkpopcjkaa

namespace Go.Proofs.Yteigflkpopcjkaa
set_option linter.unusedSimpArgs false
set_option linter.unusedVariables false
set_option linter.unnecessarySimpa false
open Go.RowKit
attribute [local go_sem ↓] run_min_int run_max_int

set_option maxHeartbeats 3200000 in
set_option maxRecDepth 100000 in
theorem addSpan_any (A : Option Addr) (n c : Nat) (l : List Sp) (lo hi : Int) (w : World) (h : Rd w 2 A n c (Ss l)) (hg : Good l) (hs : IsSpan (lo, hi)) (h0 : 0 ≤ lo) (hu : U2s l) (hn : n ≤ 8796093021952) :
    Calls Try.prog 88 #[.slice A n c, .agg #[.int .u64 lo, .int .u64 hi]] w fun e w' => ∃ A' c', e = .returned (.slice A' (addP l (lo, hi)).length c') ∧ Rd w' 2 A' (addP l (lo, hi)).length c' (Ss (addP l (lo, hi))) ∧ Below w.heap.size w w' := by
  obtain ⟨i0, hi0, hz0, hz1, hz2⟩ := info_parts infoSpan
  have hl := h.len
  rw [Ss_length] at hl
  obtain rfl : l.length = n := by omega
  clear hl
  have hmax := h.cap
  have hmax' := h.max
  unfold maxLen at hmax'
  obtain ⟨s1, s2⟩ := hs
  simp only [maxPn_eq] at s1 s2
  have Hg := Lib.hid hg
  clear hg
  go_enter Try.func88, Try.ntmps88
  go_wp2
  go_loopw [5, 6] (fun out i wr => ∃ k : Nat, k ≤ skipN (lo, hi) l ∧ i = .int .i64 k ∧ wr.ownsRow (w.heap.size + 1) 96 2 out k (Ss (l.take k)) ∧
      Hid (wr.heap[w.heap.size]? = some (.cells #[.int .u64 lo, .int .u64 hi] 96 (0, 0))) ∧ Below w.heap.size w wr) (fun _ i _ => l.length - (intOf i).toNat)
  case atStart => exact ⟨0, Nat.zero_le _, rfl, World.ownsRow_nil _ _ _ _, heap_alloc_new w _, (Below.refl _ _).alloc (Nat.le_refl _) _⟩
  case round =>
    obtain ⟨k, hk, rfl, hown, HB, hb⟩ := hrel
    have hkl : k ≤ l.length := Nat.le_trans hk (skipN_le _ _)
    have b1 := cell_of_row wr w.heap.size 0 _ _ _ HB.out
    have b2 := cell_of_row wr w.heap.size 1 _ _ _ HB.out
    have hgs := lt_of_block HB.out
    by_cases hsk : k < skipN (lo, hi) l
    · have hlt : k < l.length := Nat.lt_of_lt_of_le hsk (skipN_le _ _)
      obtain ⟨b, off, x, y, rfl, He, hc1, hc2, u1, u2, u3, u4⟩ := (h.below hb).sp hu hlt
      have hym : y ≤ 4611686018427387903 := by have := (Hg.out k hlt).1.2; rw [He.out] at this; exact this
      have ht : decide (y + 1 < lo) = true := by
        have := skipN_lt (lo, hi) l k hsk hlt
        rw [He.out] at this
        simpa using this
      have Hts := Lib.hid (take_snoc l k hlt)
      go_wp2
      refine wp_region_qt (by kernel_rfl) (by kernel_rfl) ?_
      repeat (go_big_quiet_step (fail))
      refine wpQuiet_nil ?_
      intro wd qd
      have hownd := qd.own hown
      have hc5 := qd.cell hc1
      have hc6 := qd.cell hc2
      go_wp2_with (at_builtin; refine wpList_append_own _ rfl _ _ 69 rfl (w.heap.size + 1) 96 i0 (.agg #[.int .u64 0, .int .u64 0]) 2 16 Try.underlying69 hi0 hz0 hz1 hz2 rfl (by decide) _ _ _ rfl (hownd.alloc _) ⟨wd.heap.size, 0, none⟩ 1 1 [.int .u64 x, .int .u64 y] rfl rfl ?c1 ?c2 ?c3 ?c4 ?c5 ?_)
      case c1 => exact World.news_of_block (cs := #[.int .u64 x, .int .u64 y]) (t := 96) (fr := (0, 0)) (heap_alloc_new wd _)
      case c2 => simp [Value.oneCell']
      case c3 => unfold maxLen; omega
      case c4 => omega
      case c5 => have := lt_of_block (qd.blk HB.out); simp; omega
      intro v' w1 hown' hgrow _
      have hbd := hb.trans qd.below
      have hb1 : Below w.heap.size w w1 := (hbd.alloc hbd.size _).grown hgrow (by have := hbd.size; simp; omega) (fun g hg => by have := (hown.lt g hg).1; omega)
      have HB1 : Hid (w1.heap[w.heap.size]? = some (.cells #[.int .u64 lo, .int .u64 hi] 96 (0, 0))) := by
        refine (hgrow.block _ (by have := lt_of_block (qd.blk HB.out); simp; omega) (fun e => ?_)).trans ((Below.heap_alloc _ _ _ (lt_of_block (qd.blk HB.out))).trans (qd.blk HB.out))
        have := (hown.lt _ e.symm).1
        omega
      have Hn : Hid (Ss (l.take (k + 1)) = Ss (l.take k) ++ [.int .u64 x, .int .u64 y]) := by
        show _ = _
        rw [Hts.out, Ss_append, He.out]
        rfl
      clear hown b1 b2 hgrow
      go_wp2
      go_roundw
      case rel => exact ⟨k + 1, by omega, by go_num, by rw [Hn.out]; exact hown', HB1, hb1⟩
      case measure => simp [intOf]; omega
    · obtain rfl : k = skipN (lo, hi) l := by omega
      clear hsk hk
      generalize hK : skipN (lo, hi) l = K at *
      have HK := Lib.hid hK
      clear hK
      have hlen0 : K ≤ l.length := hkl
      have hstep : (K < l.length ∧ ∃ b off x y, A = some ⟨b, off, none⟩ ∧ wr.cell? ⟨b, off + K * 2 + 1, none⟩ = some (.int .u64 y) ∧ 0 ≤ y ∧ y ≤ 4611686018427387903 ∧ Hid (l[K]? = some (x, y)) ∧ decide (y + 1 < lo) = false) ∨ ¬ K < l.length := by
        by_cases hlt : K < l.length
        · refine .inl ⟨hlt, ?_⟩
          obtain ⟨b, off, x, y, e, He, hc1, hc2, u1, u2, u3, u4⟩ := (h.below hb).sp hu hlt
          have hym : y ≤ 4611686018427387903 := by have := (Hg.out K hlt).1.2; rw [He.out] at this; exact this
          have ht : decide (y + 1 < lo) = false := by
            have := skipN_end (lo, hi) l (by rw [HK.out]; exact hlt)
            simp only [HK.out] at this
            rw [He.out] at this
            simpa using this
          exact ⟨b, off, x, y, e, hc2, u3, hym, Lib.hid (by rw [List.getElem?_eq_getElem hlt, He.out]), ht⟩
        · exact .inr hlt
      rcases hstep with ⟨hlt, b, off, x, y, rfl, hc2, u3, u4, He, ht⟩ | hlt
      all_goals
        go_wp2
        refine wp_region_qt (by kernel_rfl) (by kernel_rfl) ?_
        repeat (go_big_quiet_step (fail))
        refine wpQuiet_nil ?_
        intro wd qd
        go_wp2
        have hown1 := qd.own hown
        have hbq := hb.trans qd.below
        have HBq := Lib.hid (qd.blk HB.out)
        have hro : ∀ z ∈ l.drop K, 0 ≤ z.1 ∧ 0 ≤ z.2 ∧ z.2 ≤ maxPn := fun z hz => ⟨(hu z (List.mem_of_mem_drop hz)).1.1, (hu z (List.mem_of_mem_drop hz)).2.1, (Hg.out.span z (List.mem_of_mem_drop hz)).2⟩
        have Hro := Lib.hid hro
        clear hro HB hown hb b1 b2
        go_loopw [6] (fun i wq => ∃ (j m : Nat) (x y : Int), m ≤ eatN (lo, hi) (l.drop K) ∧ i = .int .i64 j ∧ Hid (j = K + m) ∧ Hid (eaten (lo, hi) (l.drop K) m = (x, y)) ∧
          wq.ownsRow (w.heap.size + 1) 96 2 u5 K (Ss (l.take K)) ∧ Hid (wq.heap[w.heap.size]? = some (.cells #[.int .u64 x, .int .u64 y] 96 (0, 0))) ∧ Below w.heap.size w wq) (fun i _ => l.length - (intOf i).toNat)
        case atStart => exact ⟨K, 0, lo, hi, Nat.zero_le _, rfl, Lib.hid rfl, eaten_zero _ _, hown1, HBq, hbq⟩
        case round =>
          obtain ⟨j, m, x2, y2, hm, rfl, Hj, He2, hown2, HB2, hb2⟩ := hrel
          have hmr : m ≤ (l.drop K).length := Nat.le_trans hm (eatN_le _ _)
          have hml : j ≤ l.length := by have := Hj.out; simp only [List.length_drop] at hmr; omega
          obtain ⟨v1, v2, v3, v4⟩ : 0 ≤ x2 ∧ x2 ≤ 4611686018427387903 ∧ 0 ≤ y2 ∧ y2 ≤ 4611686018427387903 := by
            have := eaten_bounds (lo, hi) (l.drop K) m (by simp only [maxPn_eq]; omega) Hro.out
            rw [He2.out] at this
            exact this
          have b1 := cell_of_row wr w.heap.size 0 _ _ _ HB2.out
          have b2 := cell_of_row wr w.heap.size 1 _ _ _ HB2.out
          have f1 := frozen_of_row wr w.heap.size 0 _ _ HB2.out
          have f2 := frozen_of_row wr w.heap.size 1 _ _ HB2.out
          by_cases hme : m < eatN (lo, hi) (l.drop K)
          · have hmd : m < (l.drop K).length := Nat.lt_of_lt_of_le hme (eatN_le _ _)
            have hlt2 : j < l.length := by have := Hj.out; simp only [List.length_drop] at hmd; omega
            obtain ⟨b3, o3, x3, y3, e3, He3, hc3, hc4, w1, w2, w3, w4⟩ := (h.below hb2).sp hu hlt2
            have ht2 : decide (x3 ≤ y2 + 1) = true := by
              have := eatN_lt (lo, hi) (l.drop K) m hme hmd
              have e := Hj.out
              subst e
              rw [He2.out, List.getElem_drop, He3.out] at this
              simpa using this
            have hnext : Hid (eaten (lo, hi) (l.drop K) (m + 1) = (min x2 x3, max y2 y3)) := by
              show _ = _
              have e := Hj.out
              subst e
              rw [eaten_succ _ _ _ hmd, He2.out, List.getElem_drop, He3.out]
              rfl
            first
              | (exfalso
                 have := Hj.out
                 simp only [List.length_drop] at hmd
                 omega)
              | (injection e3 with e3
                 injection e3 with e3 e4
                 subst e3
                 subst e4
                 go_wp2
                 refine wp_region_qt (by kernel_rfl) (by kernel_rfl) ?_
                 repeat (go_big_quiet_step (fail))
                 refine wpQuiet_nil ?_
                 intro wd qd
                 go_wp2
                 refine wp_region_st 9 (by kernel_rfl) (by kernel_rfl) ?_
                 intro we qe
                 simp only [List.take_succ_cons, List.take_zero, List.drop_succ_cons, List.drop_zero]
                 have g1 := qe.blk (qd.blk HB2.out)
                 have d1 := cell_of_row we w.heap.size 0 _ _ _ g1
                 have d3 := qe.cell (qd.cell hc3)
                 repeat still_step
                 try refine wpStill_nil ?_
                 have d2 := cell_of_row we w.heap.size 1 _ _ _ g1
                 have d4 := qe.cell (qd.cell hc4)
                 have d5 := frozen_of_row we w.heap.size 0 _ _ g1
                 have G1 := Lib.hid g1
                 clear g1
                 go_wp2
                 have g2 := heap_setCell_same we w.heap.size 0 _ _ (.int .u64 (min x2 x3)) G1.out
                 have ho2 := ownsRow_setCell_below (qe.own (qd.own hown2)) (a := ⟨w.heap.size, 0, none⟩) (by simp) (.int .u64 (min x2 x3))
                 have hb3 := ((hb2.trans qd.below).trans qe.below).setCell (p := ⟨w.heap.size, 0, none⟩) (Nat.le_refl _) (.int .u64 (min x2 x3))
                 have g3 : (we.setCell ⟨w.heap.size, 0, none⟩ (.int .u64 (min x2 x3))).cell? ⟨b, off + j * 2 + 1, none⟩ = some (.int .u64 y3) :=
                   (World.cell?_setCell_other _ _ _ _ (fun e => by injection e with e; omega)).trans d4
                 clear d1 d2 d3 d4 d5 G1
                 generalize we.setCell ⟨w.heap.size, 0, none⟩ (.int .u64 (min x2 x3)) = wf at *
                 refine wp_region_st 9 (by kernel_rfl) (by kernel_rfl) ?_
                 intro wg qg
                 simp only [List.take_succ_cons, List.take_zero, List.drop_succ_cons, List.drop_zero]
                 have d1 := cell_of_row wg w.heap.size 1 _ _ _ (qg.blk g2)
                 have d2 := qg.cell g3
                 simp at d1
                 repeat still_step
                 try refine wpStill_nil ?_
                 have d5 := frozen_of_row wg w.heap.size 1 _ _ (qg.blk g2)
                 have G2 := Lib.hid (qg.blk g2)
                 clear g2
                 go_wp2
                 go_roundw
                 case rel =>
                   have e1 := heap_setCell_same wg w.heap.size 1 _ _ (.int .u64 (max y2 y3)) G2.out
                   simp at e1
                   exact ⟨j + 1, m + 1, min x2 x3, max y2 y3, hme, by go_num, Lib.hid (by have := Hj.out; omega), hnext, ownsRow_setCell_below (qg.own ho2) (by simp) _, Lib.hid e1, (hb3.trans qg.below).setCell (Nat.le_refl _) _⟩
                 case measure => simp [intOf]; omega
                 )
          · have hme' : m = eatN (lo, hi) (l.drop K) := by omega
            have Hme := Lib.hid hme'
            clear hme hm hmr hme'
            have hadd : Hid (addP l (lo, hi) = l.take K ++ [(x2, y2)] ++ l.drop j) := by
              show _ = _
              unfold addP
              rw [HK.out, ← Hme.out, He2.out, Hj.out]
            by_cases hlt2 : j < l.length
            · obtain ⟨b3, o3, x3, y3, e3, He3, hc3, hc4, w1, w2, w3, w4⟩ := (h.below hb2).sp hu hlt2
              have ht2 : decide (x3 ≤ y2 + 1) = false := by
                have e := Hj.out
                have e2 := Hme.out
                have := eatN_end (lo, hi) (l.drop K) (by simp only [List.length_drop]; omega)
                rw [List.getElem_drop] at this
                simp only [← e2, ← e] at this
                rw [He2.out, He3.out] at this
                simpa using this
              first
                | (exfalso
                   have := Hj.out
                   omega)
                | (injection e3 with e3
                   injection e3 with e3 e4
                   subst e3
                   subst e4
                   go_wp2
                   refine wp_region_qt (by kernel_rfl) (by kernel_rfl) ?_
                   repeat (go_big_quiet_step (fail))
                   refine wpQuiet_nil ?_
                   intro wd qd
                   have g1 := qd.blk HB2.out
                   have d1 := cell_of_row wd w.heap.size 0 _ _ _ g1
                   have d2 := cell_of_row wd w.heap.size 1 _ _ _ g1
                   have hgd := lt_of_block g1
                   clear g1
                   have hown3 := qd.own hown2
                   have hb3 := hb2.trans qd.below
                   have hKl : (l.take K).length = K := by simp; omega
                   have Hlen : Hid ((addP l (lo, hi)).length = K + 1 + (l.length - j)) := by
                     show _ = _
                     rw [hadd.out]; simp; omega
                   have HKl := Lib.hid hKl
                   have hjK : K ≤ j := by have := Hj.out; omega
                   obtain ⟨A9, hrun9, hcut9⟩ := h.cut_run (P := Try.prog) (t := 69) Try.underlying69 hi0 hz1 hml
                   clear hKl
                   go_wp2_with (first
                     | (at_builtin
                        refine wpList_append_own _ rfl (.tmp 66) (.tmp 68) 69 rfl (w.heap.size + 1) 96 i0 (.agg #[.int .u64 0, .int .u64 0]) 2 16 Try.underlying69 hi0 hz0 hz1 hz2 rfl (by decide) u5 K (Ss (l.take K)) rfl (hown3.alloc _) ⟨wd.heap.size, 0, none⟩ 1 1 [.int .u64 x2, .int .u64 y2] rfl rfl (World.news_of_block (cs := #[.int .u64 x2, .int .u64 y2]) (t := 96) (fr := (0, 0)) (heap_alloc_new wd _)) (by simp [Value.oneCell']) (by unfold maxLen; omega) (by omega) (by simp; omega) ?_
                        intro v1 w1 hown4 hg4 _
                        have hb4 : Below w.heap.size w w1 := (hb3.alloc hb3.size _).grown hg4 (by have := hb3.size; simp; omega) (fun g hg => by have := (hown3.lt g hg).1; omega)
                        have R4 := hcut9 _ _ (h.below hb4)
                        rw [Ss_drop] at R4)
                     | (at_builtin
                        refine wpList_append_rd _ rfl (.tmp 70) (.tmp 73) 69 rfl (w.heap.size + 1) 96 i0 (.agg #[.int .u64 0, .int .u64 0]) 2 16 Try.underlying69 hi0 hz0 hz1 hz2 rfl (by decide) v1 (K + 1) (Ss (l.take K) ++ [.int .u64 x2, .int .u64 y2]) rfl hown4 A9 (l.length - j) (c - j) (Ss (l.drop j)) rfl R4 (Ss_one _) (by unfold maxLen; omega) (by omega) (by have := hb4.size; have := hg4.size; simp at this; omega) ?_
                        intro v2 w2 hown5 hg5 _))
                   go_ret
                   obtain ⟨A5, c5, rfl, _⟩ := own_slice hown5
                   have R5 := Rd.of_own hown5
                   refine ⟨A5, c5, by rw [Hlen.out]; rfl, ?_, hb4.grown hg5 hb4.size (fun g hg => by have := (hown4.lt g hg).1; omega)⟩
                   rw [Hlen.out, hadd.out, Ss_append, Ss_append]
                   exact R5
                   )
            · have hltf : decide (j < l.length) = false := by simpa using hlt2
              go_wp2
              refine wp_region_qt (by kernel_rfl) (by kernel_rfl) ?_
              repeat (go_big_quiet_step (fail))
              refine wpQuiet_nil ?_
              intro wd qd
              have g1 := qd.blk HB2.out
              have d1 := cell_of_row wd w.heap.size 0 _ _ _ g1
              have d2 := cell_of_row wd w.heap.size 1 _ _ _ g1
              have hgd := lt_of_block g1
              clear g1
              have hown3 := qd.own hown2
              have hb3 := hb2.trans qd.below
              have hKl : (l.take K).length = K := by simp; omega
              have Hlen : Hid ((addP l (lo, hi)).length = K + 1 + (l.length - j)) := by
                show _ = _
                rw [hadd.out]; simp; omega
              have HKl := Lib.hid hKl
              have hjK : K ≤ j := by have := Hj.out; omega
              obtain ⟨A9, hrun9, hcut9⟩ := h.cut_run (P := Try.prog) (t := 69) Try.underlying69 hi0 hz1 hml
              clear hKl
              go_wp2_with (first
                | (at_builtin
                   refine wpList_append_own _ rfl (.tmp 66) (.tmp 68) 69 rfl (w.heap.size + 1) 96 i0 (.agg #[.int .u64 0, .int .u64 0]) 2 16 Try.underlying69 hi0 hz0 hz1 hz2 rfl (by decide) u5 K (Ss (l.take K)) rfl (hown3.alloc _) ⟨wd.heap.size, 0, none⟩ 1 1 [.int .u64 x2, .int .u64 y2] rfl rfl (World.news_of_block (cs := #[.int .u64 x2, .int .u64 y2]) (t := 96) (fr := (0, 0)) (heap_alloc_new wd _)) (by simp [Value.oneCell']) (by unfold maxLen; omega) (by omega) (by simp; omega) ?_
                   intro v1 w1 hown4 hg4 _
                   have hb4 : Below w.heap.size w w1 := (hb3.alloc hb3.size _).grown hg4 (by have := hb3.size; simp; omega) (fun g hg => by have := (hown3.lt g hg).1; omega)
                   have R4 := hcut9 _ _ (h.below hb4)
                   rw [Ss_drop] at R4)
                | (at_builtin
                   refine wpList_append_rd _ rfl (.tmp 70) (.tmp 73) 69 rfl (w.heap.size + 1) 96 i0 (.agg #[.int .u64 0, .int .u64 0]) 2 16 Try.underlying69 hi0 hz0 hz1 hz2 rfl (by decide) v1 (K + 1) (Ss (l.take K) ++ [.int .u64 x2, .int .u64 y2]) rfl hown4 A9 (l.length - j) (c - j) (Ss (l.drop j)) rfl R4 (Ss_one _) (by unfold maxLen; omega) (by omega) (by have := hb4.size; have := hg4.size; simp at this; omega) ?_
                   intro v2 w2 hown5 hg5 _))
              go_ret
              obtain ⟨A5, c5, rfl, _⟩ := own_slice hown5
              have R5 := Rd.of_own hown5
              refine ⟨A5, c5, by rw [Hlen.out]; rfl, ?_, hb4.grown hg5 hb4.size (fun g hg => by have := (hown4.lt g hg).1; omega)⟩
              rw [Hlen.out, hadd.out, Ss_append, Ss_append]
              exact R5
set_option maxHeartbeats 3200000 in
set_option maxRecDepth 100000 in
theorem cutSpan_any (A : Option Addr) (n c : Nat) (l : List Sp) (lo hi : Int) (w : World) (h : Rd w 2 A n c (Ss l)) (hg : Good l) (hs : IsSpan (lo, hi)) (h0 : 0 ≤ lo) (hu : U2s l) (hn : n ≤ 8796093021952) :
    Calls Try.prog 60 #[.slice A n c, .agg #[.int .u64 lo, .int .u64 hi]] w fun e w' => ∃ A' c', e = .returned (.slice A' (cutP l (lo, hi)).length c') ∧ Rd w' 2 A' (cutP l (lo, hi)).length c' (Ss (cutP l (lo, hi))) ∧ Below w.heap.size w w' := by
  obtain ⟨i0, hi0, hz0, hz1, hz2⟩ := info_parts infoSpan
  have hl := h.len
  rw [Ss_length] at hl
  obtain rfl : l.length = n := by omega
  clear hl
  have hmax := h.cap
  have hmax' := h.max
  unfold maxLen at hmax'
  obtain ⟨s1, s2⟩ := hs
  simp only [maxPn_eq] at s1 s2
  have Hg := Lib.hid hg
  have Hpw := Lib.hid hg.gd.2
  clear hg
  go_enter Try.func60, Try.ntmps60
  go_wp2
  go_loopw [5, 6] (fun out i wr => ∃ k : Nat, k ≤ l.length ∧ i = .int .i64 k ∧ ∃ m : Nat, wr.ownsRow (w.heap.size + 1) 96 2 out m (Ss ((l.take k).flatMap (cut1 (lo, hi)))) ∧
      Hid (wr.heap[w.heap.size]? = some (.cells #[.int .u64 lo, .int .u64 hi] 96 (0, 0))) ∧ Below w.heap.size w wr) (fun _ i _ => l.length - (intOf i).toNat)
  case atStart => exact ⟨0, Nat.zero_le _, rfl, 0, World.ownsRow_nil _ _ _ _, heap_alloc_new w _, (Below.refl _ _).alloc (Nat.le_refl _) _⟩
  case round =>
    obtain ⟨k, hk, rfl, m, hown, HB, hb⟩ := hrel
    by_cases hlt : k < l.length
    · obtain ⟨b, off, x, y, rfl, He, hc1, hc2, u1, u2, u3, u4⟩ := (h.below hb).sp hu hlt
      have hym : y ≤ 4611686018427387903 := by have := (Hg.out k hlt).1.2; rw [He.out] at this; exact this
      have hxy : x ≤ y := by have := (Hg.out k hlt).1.1; rw [He.out] at this; exact this
      have hb0 := hb.alloc hb.size (.cells #[.int .u64 x, .int .u64 y] 96)
      have HS0 := Lib.hid ((Below.heap_alloc wr (.cells #[.int .u64 x, .int .u64 y] 96) _ (lt_of_block HB.out)).trans HB.out)
      have HX0 := Lib.hid (heap_alloc_new wr (.cells #[.int .u64 x, .int .u64 y] 96))
      have hown0 := hown.alloc (.cells #[.int .u64 x, .int .u64 y] 96)
      have hne0 : u5.ownBlock ≠ some wr.heap.size := fun e => by have := (hown.lt _ e).2; omega
      have hgs := lt_of_block HB.out
      have hmk : m ≤ k + 1 := by
        have e1 := hown.1
        rw [Ss_length] at e1
        have e2 := cut_len (l.take k) (lo, hi) s1 (fun z hz => (Hg.out.span z (List.mem_of_mem_take hz)).1) (Hpw.out.sublist (List.take_sublist _ _))
        simp only [cutP, List.length_take] at e2
        omega
      have xs0 := cell_of_row wr w.heap.size 0 _ _ _ HB.out
      have ys0 := cell_of_row wr w.heap.size 1 _ _ _ HB.out
      have Hsp : Hid ((l.take (k + 1)).flatMap (cut1 (lo, hi)) = ((l.take k).flatMap (cut1 (lo, hi))) ++ cut1 (lo, hi) (x, y)) := by show _ = _; rw [flatMap_take_succ _ _ _ hlt, He.out]
      by_cases k1 : y < lo
      · have t1 : decide (y < lo) = true := by simpa using k1
        have Hn : Hid (Ss ((l.take (k + 1)).flatMap (cut1 (lo, hi))) = Ss ((l.take k).flatMap (cut1 (lo, hi))) ++ [.int .u64 x, .int .u64 y]) := by
          show _ = _
          rw [Hsp.out, Ss_append, show cut1 (lo, hi) (x, y) = [(x, y)] from by unfold cut1; rw [if_pos (by simp only; omega)]]
          rfl
        clear Hsp
        go_wp2_with (
          at_builtin
          refine wpList_app1 _ rfl (.tmp 30) (.tmp 32) 69 rfl (w.heap.size + 1) 96 i0 (.agg #[.int .u64 0, .int .u64 0]) 2 16 Try.underlying69 hi0 hz0 hz1 hz2 rfl (by decide) u5 (m) (Ss ((l.take k).flatMap (cut1 (lo, hi)))) rfl hown0 #[.int .u64 x, .int .u64 y] _ rfl (by simp) rfl (by simp [Value.oneCell']) (by unfold maxLen; omega) (by omega) (by have := hgs; simp; omega) ?_
          intro v1 w1 ho1 hg1 hk1
          have hne := hne0
          have hb1 : Below w.heap.size w w1 := hb0.grown hg1 (by have := hb0.size; simp at this ⊢; omega) (fun g hg => by have := (hown0.lt g hg).1; omega)
          have HS1 := Lib.hid ((hg1.block w.heap.size (lt_of_block HS0.out) (fun e => by have := (hown0.lt _ e.symm).1; omega)).trans HS0.out)
          have HX1 := Lib.hid ((hg1.block wr.heap.size (lt_of_block HX0.out) (fun e => hne e.symm)).trans HX0.out)
          have xs1 := cell_of_row w1 w.heap.size 0 _ _ _ HS1.out
          have ys1 := cell_of_row w1 w.heap.size 1 _ _ _ HS1.out
          have xx1 := cell_of_row w1 wr.heap.size 0 _ _ _ HX1.out
          have yx1 := cell_of_row w1 wr.heap.size 1 _ _ _ HX1.out
          have hgs := lt_of_block HS1.out
          )
        go_roundw
        case rel => exact ⟨k + 1, by omega, by go_num, m + 1, by rw [Hn.out]; exact ho1, HS1, hb1⟩
        case measure => simp [intOf]; omega
      · by_cases k2 : hi < x
        · have t1 : decide (y < lo) = false := by simpa using k1
          have t2 : decide (hi < x) = true := by simpa using k2
          have Hn : Hid (Ss ((l.take (k + 1)).flatMap (cut1 (lo, hi))) = Ss ((l.take k).flatMap (cut1 (lo, hi))) ++ [.int .u64 x, .int .u64 y]) := by
            show _ = _
            rw [Hsp.out, Ss_append, show cut1 (lo, hi) (x, y) = [(x, y)] from by unfold cut1; rw [if_pos (by simp only; omega)]]
            rfl
          clear Hsp
          go_wp2_with (
            at_builtin
            refine wpList_app1 _ rfl (.tmp 30) (.tmp 32) 69 rfl (w.heap.size + 1) 96 i0 (.agg #[.int .u64 0, .int .u64 0]) 2 16 Try.underlying69 hi0 hz0 hz1 hz2 rfl (by decide) u5 (m) (Ss ((l.take k).flatMap (cut1 (lo, hi)))) rfl hown0 #[.int .u64 x, .int .u64 y] _ rfl (by simp) rfl (by simp [Value.oneCell']) (by unfold maxLen; omega) (by omega) (by have := hgs; simp; omega) ?_
            intro v1 w1 ho1 hg1 hk1
            have hne := hne0
            have hb1 : Below w.heap.size w w1 := hb0.grown hg1 (by have := hb0.size; simp at this ⊢; omega) (fun g hg => by have := (hown0.lt g hg).1; omega)
            have HS1 := Lib.hid ((hg1.block w.heap.size (lt_of_block HS0.out) (fun e => by have := (hown0.lt _ e.symm).1; omega)).trans HS0.out)
            have HX1 := Lib.hid ((hg1.block wr.heap.size (lt_of_block HX0.out) (fun e => hne e.symm)).trans HX0.out)
            have xs1 := cell_of_row w1 w.heap.size 0 _ _ _ HS1.out
            have ys1 := cell_of_row w1 w.heap.size 1 _ _ _ HS1.out
            have xx1 := cell_of_row w1 wr.heap.size 0 _ _ _ HX1.out
            have yx1 := cell_of_row w1 wr.heap.size 1 _ _ _ HX1.out
            have hgs := lt_of_block HS1.out
            )
          go_roundw
          case rel => exact ⟨k + 1, by omega, by go_num, m + 1, by rw [Hn.out]; exact ho1, HS1, hb1⟩
          case measure => simp [intOf]; omega
        · by_cases k3 : x < lo
          · by_cases k4 : hi < y
            · have Hn : Hid (Ss ((l.take (k + 1)).flatMap (cut1 (lo, hi))) = Ss ((l.take k).flatMap (cut1 (lo, hi))) ++ [.int .u64 x, .int .u64 (lo - 1)] ++ [.int .u64 (hi + 1), .int .u64 y]) := by
                show _ = _
                rw [Hsp.out, Ss_append, show cut1 (lo, hi) (x, y) = [(x, lo - 1), (hi + 1, y)] from by unfold cut1; rw [if_neg (by simp only; omega), if_pos (by simp only; omega), if_pos (by simp only; omega)]; rfl]
                simp [Ss]
              clear Hsp
              go_wp2_with (first
                | (at_builtin
                   refine wpList_app1 _ rfl (.tmp 39) (.tmp 46) 69 rfl (w.heap.size + 1) 96 i0 (.agg #[.int .u64 0, .int .u64 0]) 2 16 Try.underlying69 hi0 hz0 hz1 hz2 rfl (by decide) u5 (m) (Ss ((l.take k).flatMap (cut1 (lo, hi)))) rfl hown0 #[.int .u64 x, .int .u64 (lo - 1)] _ rfl (by simp) rfl (by simp [Value.oneCell']) (by unfold maxLen; omega) (by omega) (by have := hgs; simp; omega) ?_
                   intro v1 w1 ho1 hg1 hk1
                   have hne := hne0
                   have hb1 : Below w.heap.size w w1 := hb0.grown hg1 (by have := hb0.size; simp at this ⊢; omega) (fun g hg => by have := (hown0.lt g hg).1; omega)
                   have HS1 := Lib.hid ((hg1.block w.heap.size (lt_of_block HS0.out) (fun e => by have := (hown0.lt _ e.symm).1; omega)).trans HS0.out)
                   have HX1 := Lib.hid ((hg1.block wr.heap.size (lt_of_block HX0.out) (fun e => hne e.symm)).trans HX0.out)
                   have xs1 := cell_of_row w1 w.heap.size 0 _ _ _ HS1.out
                   have ys1 := cell_of_row w1 w.heap.size 1 _ _ _ HS1.out
                   have xx1 := cell_of_row w1 wr.heap.size 0 _ _ _ HX1.out
                   have yx1 := cell_of_row w1 wr.heap.size 1 _ _ _ HX1.out
                   have hgs := lt_of_block HS1.out
                   have hne1 := hk1 wr.heap.size (lt_of_block HX0.out) hne0)
                | (at_builtin
                   refine wpList_app1 _ rfl (.tmp 53) (.tmp 60) 69 rfl (w.heap.size + 1) 96 i0 (.agg #[.int .u64 0, .int .u64 0]) 2 16 Try.underlying69 hi0 hz0 hz1 hz2 rfl (by decide) v1 (m + 1) (Ss ((l.take k).flatMap (cut1 (lo, hi))) ++ [.int .u64 x, .int .u64 (lo - 1)]) rfl ho1 #[.int .u64 (hi + 1), .int .u64 y] _ rfl (by simp) rfl (by simp [Value.oneCell']) (by unfold maxLen; omega) (by omega) (by have := hgs; simp; omega) ?_
                   intro v2 w2 ho2 hg2 hk2
                   have hne := hne1
                   have hb2 : Below w.heap.size w w2 := hb1.grown hg2 (by have := hb1.size; simp at this ⊢; omega) (fun g hg => by have := (ho1.lt g hg).1; omega)
                   have HS2 := Lib.hid ((hg2.block w.heap.size (lt_of_block HS1.out) (fun e => by have := (ho1.lt _ e.symm).1; omega)).trans HS1.out)
                   have HX2 := Lib.hid ((hg2.block wr.heap.size (lt_of_block HX1.out) (fun e => hne e.symm)).trans HX1.out)
                   have xs2 := cell_of_row w2 w.heap.size 0 _ _ _ HS2.out
                   have ys2 := cell_of_row w2 w.heap.size 1 _ _ _ HS2.out
                   have xx2 := cell_of_row w2 wr.heap.size 0 _ _ _ HX2.out
                   have yx2 := cell_of_row w2 wr.heap.size 1 _ _ _ HX2.out
                   have hgs := lt_of_block HS2.out
                   ))
              go_roundw
              case rel => exact ⟨k + 1, by omega, by go_num, m + 1 + 1, by rw [Hn.out]; exact ho2, HS2, hb2⟩
              case measure => simp [intOf]; omega
            · have t4 : decide (hi < y) = false := by simpa using k4
              have Hn : Hid (Ss ((l.take (k + 1)).flatMap (cut1 (lo, hi))) = Ss ((l.take k).flatMap (cut1 (lo, hi))) ++ [.int .u64 x, .int .u64 (lo - 1)]) := by
                show _ = _
                rw [Hsp.out, Ss_append, show cut1 (lo, hi) (x, y) = [(x, lo - 1)] from by unfold cut1; rw [if_neg (by simp only; omega), if_pos (by simp only; omega), if_neg (by simp only; omega)]; rfl]
                rfl
              clear Hsp
              go_wp2_with (
                at_builtin
                refine wpList_app1 _ rfl (.tmp 39) (.tmp 46) 69 rfl (w.heap.size + 1) 96 i0 (.agg #[.int .u64 0, .int .u64 0]) 2 16 Try.underlying69 hi0 hz0 hz1 hz2 rfl (by decide) u5 (m) (Ss ((l.take k).flatMap (cut1 (lo, hi)))) rfl hown0 #[.int .u64 x, .int .u64 (lo - 1)] _ rfl (by simp) rfl (by simp [Value.oneCell']) (by unfold maxLen; omega) (by omega) (by have := hgs; simp; omega) ?_
                intro v1 w1 ho1 hg1 hk1
                have hne := hne0
                have hb1 : Below w.heap.size w w1 := hb0.grown hg1 (by have := hb0.size; simp at this ⊢; omega) (fun g hg => by have := (hown0.lt g hg).1; omega)
                have HS1 := Lib.hid ((hg1.block w.heap.size (lt_of_block HS0.out) (fun e => by have := (hown0.lt _ e.symm).1; omega)).trans HS0.out)
                have HX1 := Lib.hid ((hg1.block wr.heap.size (lt_of_block HX0.out) (fun e => hne e.symm)).trans HX0.out)
                have xs1 := cell_of_row w1 w.heap.size 0 _ _ _ HS1.out
                have ys1 := cell_of_row w1 w.heap.size 1 _ _ _ HS1.out
                have xx1 := cell_of_row w1 wr.heap.size 0 _ _ _ HX1.out
                have yx1 := cell_of_row w1 wr.heap.size 1 _ _ _ HX1.out
                have hgs := lt_of_block HS1.out
                )
              go_roundw
              case rel => exact ⟨k + 1, by omega, by go_num, m + 1, by rw [Hn.out]; exact ho1, HS1, hb1⟩
              case measure => simp [intOf]; omega
          · by_cases k4 : hi < y
            · have t4 : decide (hi < y) = true := by simpa using k4
              have Hn : Hid (Ss ((l.take (k + 1)).flatMap (cut1 (lo, hi))) = Ss ((l.take k).flatMap (cut1 (lo, hi))) ++ [.int .u64 (hi + 1), .int .u64 y]) := by
                show _ = _
                rw [Hsp.out, Ss_append, show cut1 (lo, hi) (x, y) = [(hi + 1, y)] from by unfold cut1; rw [if_neg (by simp only; omega), if_neg (by simp only; omega), if_pos (by simp only; omega)]; rfl]
                rfl
              clear Hsp
              go_wp2_with (
                at_builtin
                refine wpList_app1 _ rfl (.tmp 53) (.tmp 60) 69 rfl (w.heap.size + 1) 96 i0 (.agg #[.int .u64 0, .int .u64 0]) 2 16 Try.underlying69 hi0 hz0 hz1 hz2 rfl (by decide) u5 (m) (Ss ((l.take k).flatMap (cut1 (lo, hi)))) rfl hown0 #[.int .u64 (hi + 1), .int .u64 y] _ rfl (by simp) rfl (by simp [Value.oneCell']) (by unfold maxLen; omega) (by omega) (by have := hgs; simp; omega) ?_
                intro v1 w1 ho1 hg1 hk1
                have hne := hne0
                have hb1 : Below w.heap.size w w1 := hb0.grown hg1 (by have := hb0.size; simp at this ⊢; omega) (fun g hg => by have := (hown0.lt g hg).1; omega)
                have HS1 := Lib.hid ((hg1.block w.heap.size (lt_of_block HS0.out) (fun e => by have := (hown0.lt _ e.symm).1; omega)).trans HS0.out)
                have HX1 := Lib.hid ((hg1.block wr.heap.size (lt_of_block HX0.out) (fun e => hne e.symm)).trans HX0.out)
                have xs1 := cell_of_row w1 w.heap.size 0 _ _ _ HS1.out
                have ys1 := cell_of_row w1 w.heap.size 1 _ _ _ HS1.out
                have xx1 := cell_of_row w1 wr.heap.size 0 _ _ _ HX1.out
                have yx1 := cell_of_row w1 wr.heap.size 1 _ _ _ HX1.out
                have hgs := lt_of_block HS1.out
                )
              go_roundw
              case rel => exact ⟨k + 1, by omega, by go_num, m + 1, by rw [Hn.out]; exact ho1, HS1, hb1⟩
              case measure => simp [intOf]; omega
            · have Hn : Hid (Ss ((l.take (k + 1)).flatMap (cut1 (lo, hi))) = Ss ((l.take k).flatMap (cut1 (lo, hi)))) := by
                show _ = _
                rw [Hsp.out, Ss_append, show cut1 (lo, hi) (x, y) = [] from by unfold cut1; rw [if_neg (by simp only; omega), if_neg (by simp only; omega), if_neg (by simp only; omega)]; rfl]
                simp [Ss]
              clear Hsp
              go_wp2
              go_roundw
              case rel => exact ⟨k + 1, by omega, by go_num, m, by rw [Hn.out]; exact hown0, HS0, hb0⟩
              case measure => simp [intOf]; omega
    · obtain rfl : k = l.length := by omega
      rw [List.take_length] at hown
      go_wp2
      go_ret
      have hm : m = (cutP l (lo, hi)).length := by have e1 := hown.1; rw [Ss_length] at e1; unfold cutP; omega
      subst hm
      obtain ⟨A5, c5, e5, _⟩ := own_slice hown
      subst e5
      exact ⟨A5, c5, rfl, Rd.of_own hown, hb⟩
set_option maxHeartbeats 1600000 in
set_option maxRecDepth 100000 in
theorem fromNum_any (A : Option Addr) (n c : Nat) (l : List Sp) (q : Int) (w : World) (h : Rd w 2 A n c (Ss l)) (hu : U2s l) (hq0 : 0 ≤ q) (hq1 : q < 18446744073709551616) (hn : n ≤ 8796093021952) :
    Calls Try.prog 59 #[.slice A n c, .int .u64 q] w fun e w' => ∃ A' c', e = .returned (.slice A' (fromP l q).length c') ∧ Rd w' 2 A' (fromP l q).length c' (Ss (fromP l q)) ∧ Below w.heap.size w w' := by
  obtain ⟨i0, hi0, hz0, hz1, hz2⟩ := info_parts infoSpan
  have hl := h.len
  rw [Ss_length] at hl
  obtain rfl : l.length = n := by omega
  clear hl
  have hmax := h.cap
  have hmax' := h.max
  unfold maxLen at hmax'
  go_enter Try.func59, Try.ntmps59
  go_wp2
  go_loopw [5, 6] (fun out i wr => ∃ k m : Nat, k ≤ l.length ∧ i = .int .i64 k ∧ wr.ownsRow w.heap.size 96 2 out m (Ss (fromP (l.take k) q)) ∧ Below w.heap.size w wr) (fun _ i _ => l.length - (intOf i).toNat)
  case atStart => exact ⟨0, 0, Nat.zero_le _, rfl, World.ownsRow_nil _ _ _ _, Below.refl _ _⟩
  case round =>
    obtain ⟨k, m, hk, rfl, hown, hb⟩ := hrel
    have hmk : m ≤ k := by
      have e1 := hown.1
      rw [Ss_length] at e1
      have e2 := fromP_len (l.take k) q
      simp only [List.length_take] at e2
      omega
    by_cases hlt : k < l.length
    · obtain ⟨b, off, x, y, rfl, He, hc1, hc2, u1, u2, u3, u4⟩ := (h.below hb).sp hu hlt
      have Hsp : Hid (fromP (l.take (k + 1)) q = fromP (l.take k) q ++ from1 q (x, y)) := by show _ = _; unfold fromP; rw [flatMap_take_succ _ _ _ hlt, He.out]
      by_cases k1 : q ≤ y
      · have Hn : Hid (Ss (fromP (l.take (k + 1)) q) = Ss (fromP (l.take k) q) ++ [.int .u64 (max x q), .int .u64 y]) := by
          show _ = _
          rw [Hsp.out, Ss_append, from1_yes k1]
          rfl
        clear Hsp
        have t1 : decide (q ≤ y) = true := by simpa using k1
        go_wp2
        have i5 : (0 : Int) ≤ (k : Int) := by omega
        have i6 : (k : Int) < (l.length : Int) := by omega
        have hbs := hb.size
        have hblt : b < w.heap.size := h.lt (by omega) (by omega) b off rfl
        go_region_held3 (fun W => W.cell? ⟨b, off + k * 2, none⟩ = some (.int .u64 x) ∧ W.cell? ⟨b, off + k * 2 + 1, none⟩ = some (.int .u64 y))
          (first
            | go_keep
            | (go_split_ands
               refine ⟨?_, ?_⟩ <;> (refine (hg1.cell (by assumption) ?_) <;> (intro e; have := (hown.lt _ e.symm).1; exact absurd this (by simp; omega)))))
          ((refine step_append_rd _ (by rfl) (.tmp 20) (.tmp 34) 69 (by rfl) w.heap.size 96 i0 _ 2 16 Try.underlying69 hi0 hz0 hz1 hz2 rfl (by omega) u5 m (Ss (fromP (l.take k) q)) (by rfl) ((hown.alloc _).drew)
              _ 1 1 [.int .u64 (max x q), .int .u64 y] (by rfl) ((Rd.lit wr 2 #[.int .u64 (max x q), .int .u64 y] 96 1 _ rfl (by simp) (by unfold maxLen; omega)).drew) (by simp [Value.oneCell'])
              (by unfold maxLen; omega) (by omega) (by simp; omega) ?_; intro v1 w1 ho1 hg1 _))
        have hb1 : Below w.heap.size w w1 := ((hb.alloc hb.size _).drew).grown hg1 (by simp; omega) (fun g hg => (hown.lt g hg).1)
        clear i5 i6
        go_wp2
        go_roundw
        case rel => exact ⟨k + 1, m + 1, by omega, by go_num, by rw [Hn.out]; exact ho1, hb1⟩
        case measure => simp [intOf]; omega
      · have Hn : Hid (fromP (l.take (k + 1)) q = fromP (l.take k) q) := by
          show _ = _
          rw [Hsp.out, from1_no k1, List.append_nil]
        clear Hsp
        have t1 : decide (q ≤ y) = false := by simpa using k1
        go_wp2
        go_roundw
        case rel => exact ⟨k + 1, m, by omega, by go_num, by rw [Hn.out]; exact hown, hb⟩
        case measure => simp [intOf]; omega
    · obtain rfl : k = l.length := by omega
      rw [List.take_length] at hown
      go_wp2
      go_ret
      have hm : m = (fromP l q).length := by have e1 := hown.1; rw [Ss_length] at e1; omega
      subst hm
      obtain ⟨A5, c5, e5, _⟩ := own_slice hown
      subst e5
      exact ⟨A5, c5, rfl, Rd.of_own hown, hb⟩
end Go.Proofs.Yteigflkpopcjkaa

namespace Go.Proofs.Yteigflkpopcjkaa
set_option linter.unusedSimpArgs false
set_option linter.unusedVariables false
set_option linter.unnecessarySimpa false
open Go.RowKit

structure SeenSt (w : World) (s : LS) (A3 : Option Addr) (c3 k : Nat) (lo : Int) (v1 v2 : Value) (W : World) : Prop where
  all : Rd W 8 A3 s.kept.length c3 (Sns s.kept)
  bel : Below w.heap.size w W
  ex : ∃ (cl mk : List Sp) (A1 A2 : Option Addr) (c1 c2 : Nat), v1 = .slice A1 cl.length c1 ∧ v2 = .slice A2 mk.length c2 ∧ Rd W 2 A1 cl.length c1 (Ss cl) ∧ Rd W 2 A2 mk.length c2 (Ss mk) ∧ SeenTo s k cl mk

set_option maxHeartbeats 8000000 in
set_option maxRecDepth 100000 in
theorem seen_any (w : World) (F : Nat → Prop) (p r : Nat) (s : LS) (lo : Int) (n : Int) (h : LedR w F r s) (hlo : isU64 lo) (hn : 0 ≤ n ∧ n ≤ 1000) (hring : s.ring ≤ 90) :
    Calls Try.prog 57 #[.agg #[.pointer (some ⟨p, 0, none⟩), .pointer (some ⟨r, 0, none⟩)], .int .u64 lo, .int .i64 n] w fun e w' => ∃ (cl mk : List Sp) (A1 A2 : Option Addr) (c1 c2 : Nat),
      e = .returned (.tuple #[.slice A1 cl.length c1, .slice A2 mk.length c2]) ∧ Rd w' 2 A1 cl.length c1 (Ss cl) ∧ Rd w' 2 A2 mk.length c2 (Ss mk) ∧ U2s cl ∧ U2s mk ∧ SeenOk s cl mk ∧ Below w.heap.size w w' := by
  have EB := box_below w (.cells #[.pointer (some ⟨p, 0, none⟩), .pointer (some ⟨r, 0, none⟩)] 41)
  have H1 := Lib.hid (h.below EB)
  have B1 := Lib.hid EB
  have G := Lib.hid h.good
  obtain ⟨l0, l1⟩ := hlo
  obtain ⟨n0, n1⟩ := hn
  have k1 := s.kept_le
  clear h EB
  go_enter Try.func57, Try.ntmps57
  go_wp2_with fail
  generalize hW : (w.alloc (.cells #[.pointer (some ⟨p, 0, none⟩), .pointer (some ⟨r, 0, none⟩)] 41)) = w1 at *
  clear hW
  refine (ledR_all w1 F r s H1.out).mono ?_
  rintro e w2 ⟨A3, c3, rfl, ho, b⟩
  have S2 : Hid (SeenSt w s A3 c3 0 lo (.slice none 0 0) (.slice none 0 0) w2) := ⟨Rd.of_own ho, B1.out.trans (b.mono B1.out.size), [], [], none, none, 0, 0, rfl, rfl, Rd.nil_ _ _, Rd.nil_ _ _, SeenTo.zero s⟩
  clear ho b H1 B1
  go_wp2_with fail
  go_loopw [2, 8, 9, 17] (fun m v1 v2 i wr => ∃ (k : Nat) (n : Int), k ≤ s.kept.length ∧ i = .int .i64 k ∧ m = .int .i64 n ∧ 0 ≤ n ∧ n ≤ 1000 ∧ Hid (SeenSt w s A3 c3 k lo v1 v2 wr)) (fun _ _ _ i _ => s.kept.length - (intOf i).toNat)
  case atStart => exact ⟨0, n, Nat.zero_le _, rfl, rfl, n0, n1, S2⟩
  case round =>
    clear n0 n1 S2
    obtain ⟨k, n, hk, rfl, rfl, n0, n1, SR⟩ := hrel
    obtain ⟨cl, mk, A1, A2, c1, c2, rfl, rfl, hr1, hr2, hto⟩ := SR.out.ex
    have R1 := Lib.hid hr1
    have R2 := Lib.hid hr2
    have TO := Lib.hid hto
    have q1 := hr1.cap
    have q2 := hr2.cap
    have q3 := hto.lc
    have q4 := (hto.ok hring hk).lm
    clear hr1 hr2 hto
    by_cases hlt : k < s.kept.length
    · obtain ⟨bb, off, rfl, d0, d1, d2, d3, d4, d5, d6, d7⟩ := SR.out.all.snt hlt
      obtain ⟨hsp, hu0, hu1⟩ := SeenTo.isSpan G.out hlt
      have HS := Lib.hid hsp
      have PASS := Lib.hid TO.out.pass
      have ADD := Lib.hid (fun h1 h2 => TO.out.add G.out hlt h1 h2)
      have MARK := Lib.hid (fun h1 h2 h3 => TO.out.mark G.out hlt h1 h2 h3)
      have EB := box_below wr (.cells #[.int .u64 s.kept[k].pn, .int .u64 s.kept[k].off, .int .u64 s.kept[k].len, .int .u64 s.kept[k].nonce, .int .u64 s.kept[k].at_, .bool s.kept[k].coin, .bool s.kept[k].used, .int .i64 s.kept[k].state] 32)
      have BX := Lib.hid (heap_alloc_new wr (.cells #[.int .u64 s.kept[k].pn, .int .u64 s.kept[k].off, .int .u64 s.kept[k].len, .int .u64 s.kept[k].nonce, .int .u64 s.kept[k].at_, .bool s.kept[k].coin, .bool s.kept[k].used, .int .i64 s.kept[k].state] 32))
      have GO : Hid (∀ (W : World) (cl' mk' : List Sp) (A1' A2' : Option Addr) (c1' c2' : Nat), Below wr.heap.size wr W → Rd W 2 A1' cl'.length c1' (Ss cl') → Rd W 2 A2' mk'.length c2' (Ss mk') → SeenTo s (k + 1) cl' mk' → SeenSt w s (some ⟨bb, off, none⟩) c3 (k + 1) lo (.slice A1' cl'.length c1') (.slice A2' mk'.length c2') W) :=
        fun W cl' mk' A1' A2' c1' c2' b h1 h2 h3 => ⟨SR.out.all.below b, SR.out.bel.trans (b.mono SR.out.bel.size), cl', mk', A1', A2', c1', c2', rfl, rfl, h1, h2, h3⟩
      have U1 := Lib.hid (TO.out.u2 G.out).1
      have U2 := Lib.hid (TO.out.u2 G.out).2
      have B6 := Lib.hid EB
      have KEEP : Hid (∀ W, Below wr.heap.size wr W → SeenSt w s (some ⟨bb, off, none⟩) c3 (k + 1) lo (.slice A1 cl.length c1) (.slice A2 mk.length c2) W) := fun W b => GO.out W cl mk A1 A2 c1 c2 b (R1.out.below b) (R2.out.below b) PASS.out
      clear EB hsp
      generalize s.kept[k] = y at *
      obtain ⟨pn, of, len, nonce, at_, coin, used, state⟩ := y
      simp only at d0 d1 d2 d3 d4 d5 d6 d7 hu0 hu1 HS ADD MARK BX B6
      by_cases e4 : state = 4
      · subst e4
        go_wp2
        go_roundw
        case rel => exact ⟨k + 1, n, by omega, by go_num, rfl, n0, n1, KEEP.out _ B6.out⟩
        case measure => simp [intOf]; omega
      · by_cases e5 : pn < lo
        · go_wp2
          go_roundw
          case rel => exact ⟨k + 1, n, by omega, by go_num, rfl, n0, n1, KEEP.out _ B6.out⟩
          case measure => simp [intOf]; omega
        · by_cases e6 : n < 1
          · go_wp2
            go_roundw
            case rel => exact ⟨k + 1, n, by omega, by go_num, rfl, n0, n1, KEEP.out _ B6.out⟩
            case measure => simp [intOf]; omega
          · go_wp2_with fail
            refine (addSpan_any A1 _ c1 cl pn pn _ (R1.out.below B6.out) TO.out.gc.good HS.out hu0 U1.out (by omega)).mono ?_
            generalize hW : (wr.alloc (.cells #[.int .u64 pn, .int .u64 of, .int .u64 len, .int .u64 nonce, .int .u64 at_, .bool coin, .bool used, .int .i64 state] 32)) = wb at *
            rintro e w7 ⟨A1', c1', rfl, hr, b⟩
            have R7 := Lib.hid hr
            have B7 : Hid (Below wr.heap.size wr w7) := B6.out.trans (b.mono B6.out.size)
            have BX7 := Lib.hid ((b.block _ (lt_of_block BX.out)).trans BX.out)
            clear hW hr b B6 BX d0 d1 d2 d3 d4 d5 d6 d7
            have y0 := cell_of_row w7 wr.heap.size 0 _ _ _ BX7.out
            have y1 := cell_of_row w7 wr.heap.size 1 _ _ _ BX7.out
            have y2 := cell_of_row w7 wr.heap.size 2 _ _ _ BX7.out
            have y3 := cell_of_row w7 wr.heap.size 3 _ _ _ BX7.out
            have y4 := cell_of_row w7 wr.heap.size 4 _ _ _ BX7.out
            have y5 := cell_of_row w7 wr.heap.size 5 _ _ _ BX7.out
            have y6 := cell_of_row w7 wr.heap.size 6 _ _ _ BX7.out
            have y7 := cell_of_row w7 wr.heap.size 7 _ _ _ BX7.out
            by_cases e7 : (addP cl (pn, pn)).length ≤ 32
            · have e7' : ((addP cl (pn, pn)).length : Int) ≤ 32 := by omega
              by_cases e8 : pn % 3 = 0
              · go_wp2_with fail
                refine (addSpan_any A2 _ c2 mk pn pn _ (R2.out.below B7.out) TO.out.gm.good HS.out hu0 U2.out (by omega)).mono ?_
                rintro e w8 ⟨A2', c2', rfl, hr, b⟩
                have B8 : Hid (Below wr.heap.size wr w8) := B7.out.trans (b.mono B7.out.size)
                have F8 := Lib.hid (GO.out w8 _ _ A1' A2' c1' c2' B8.out (R7.out.below b) hr (MARK.out e4 e7 e8))
                clear hr b
                go_wp2
                go_roundw
                case rel => exact ⟨k + 1, n - 1, by omega, by go_num, rfl, by omega, by omega, F8⟩
                case measure => simp [intOf]; omega
              · have F7 := Lib.hid (GO.out w7 _ _ A1' A2 c1' c2 B7.out R7.out (R2.out.below B7.out) (ADD.out e4 e7))
                go_wp2
                go_roundw
                case rel => exact ⟨k + 1, n - 1, by omega, by go_num, rfl, by omega, by omega, F7⟩
                case measure => simp [intOf]; omega
            · have e7' : ¬ ((addP cl (pn, pn)).length : Int) ≤ 32 := by omega
              go_wp2
              go_roundw
              case rel => exact ⟨k + 1, n, by omega, by go_num, rfl, n0, n1, KEEP.out _ B7.out⟩
              case measure => simp [intOf]; omega
    · obtain rfl : k = s.kept.length := by omega
      obtain ⟨u1, u2⟩ := TO.out.u2 G.out
      have U1 := Lib.hid u1
      have U2 := Lib.hid u2
      clear u1 u2
      go_wp2
      go_ret2
      exact ⟨cl, mk, A1, A2, c1, c2, rfl, R1.out, R2.out, U1.out, U2.out, TO.out.ok hring (Nat.le_refl _), SR.out.bel⟩

end Go.Proofs.Yteigflkpopcjkaa
