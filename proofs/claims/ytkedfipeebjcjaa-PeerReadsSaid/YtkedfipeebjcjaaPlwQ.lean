/-
  The law of reading, plainly: what is read is a beginning of the text, and grows; all pieces give the whole text.
-/
import Derived.Test.YtkedfipeebjcjaaPlwP
namespace Go.Proofs.Ytkedfipeebjcjaa
set_option linter.unusedSimpArgs false
set_option linter.unusedVariables false
set_option linter.unnecessarySimpa false
open Go.RowKit
namespace PS

/-- A piece of a text. -/
structure PieceOf (t : List Int) (x : Int × List Int) : Prop where
  lo : 0 ≤ x.1
  hi : x.1 + x.2.length ≤ t.length
  eq : x.2 = (t.drop x.1.toNat).take x.2.length
theorem PieceOf.cov {t : List Int} {x : Int × List Int} (h : PieceOf t x) {k v : Int} (hc : cov x k = some v) : ∃ h0 : k.toNat < t.length, 0 ≤ k ∧ t[k.toNat] = v := by
  have h1 := h.lo
  have h2 := h.hi
  have hs : (PS.cov x k).isSome = true := by rw [hc]; rfl
  have h3 := cov_some.1 hs
  unfold PS.cov at hc
  rw [if_pos ⟨h3.1, by omega⟩] at hc
  have hc := Option.some.inj hc
  have h4 : (k - x.1).toNat < x.2.length := by omega
  refine ⟨by omega, by omega, ?_⟩
  rw [List.getD_eq_getElem?_getD, List.getElem?_eq_getElem h4] at hc
  simp only [Option.getD_some] at hc
  rw [← hc]
  have e : x.2[(k - x.1).toNat] = ((t.drop x.1.toNat).take x.2.length)[(k - x.1).toNat]'(by rw [← h.eq]; exact h4) := by congr 1; exact h.eq
  rw [e, List.getElem_take, List.getElem_drop]
  congr 1
  omega
theorem at_text {t : List Int} : ∀ {s : List (Int × List Int)}, (∀ x ∈ s, PieceOf t x) → ∀ {k v : Int}, at_ s k = some v → ∃ h0 : k.toNat < t.length, 0 ≤ k ∧ t[k.toNat] = v := by
  intro s hs k v h
  obtain ⟨x, hx, hc⟩ := List.exists_of_findSome?_eq_some h
  exact (hs x hx).cov hc
theorem IsStream.pre {t : List Int} {s : List (Int × List Int)} {out : List Int} (hs : ∀ x ∈ s, PieceOf t x) (h : IsStream s out) : out.length ≤ t.length ∧ out = t.take out.length := by
  have hl : out.length ≤ t.length := by
    rcases Nat.lt_or_ge t.length out.length with h1 | h1
    · obtain ⟨h2, _⟩ := at_text hs (h.at_ t.length h1)
      omega
    · exact h1
  refine ⟨hl, List.ext_getElem (by rw [List.length_take]; omega) fun i h1 h2 => ?_⟩
  obtain ⟨h3, _, h4⟩ := at_text hs (h.at_ i h1)
  rw [List.getElem_take, ← h4]
  rfl
theorem IsStream.grows {s : List (Int × List Int)} {x : Int × List Int} {a b : List Int} (ha : IsStream s a) (hb : IsStream (s ++ [x]) b) : a.length ≤ b.length := by
  rcases Nat.lt_or_ge b.length a.length with h | h
  · have h1 := ha.at_ _ h
    have h2 := hb.stop
    rw [at_snoc, h1] at h2
    cases h2
  · exact h
theorem nst (q : PS) (d : DatD) : (q.newest' d).still.s = q.s ∧ (q.newest' d).still.bytes = q.bytes := ⟨rfl, rfl⟩
theorem sil (q : PS) (d : DatD) (now : Int) : (q.silent d now).s = q.s ∧ (q.silent d now).bytes = q.bytes := ⟨rfl, rfl⟩
theorem take_s (p : PS) (d : DatD) (now : Int) : ((p.take d now).1.s = p.s ∨ (p.take d now).1.s = p.s ++ [(d.off, d.body)]) ∧ (p.Fresh d → (p.take d now).1.s = p.s ++ [(d.off, d.body)] ∧ (p.take d now).1.bytes = p.bytes + d.body.length) := by
  have U := kept_up p d
  have e1 : (p.kept d).s = p.s ++ [(d.off, d.body)] := U.s
  have e2 : (p.kept d).bytes = p.bytes + d.body.length := U.b
  rcases take_ways p d now with ⟨h1, h2⟩ | ⟨h1, h2, h3⟩ | ⟨h1, h2, h3⟩ | ⟨h1, h2, h4, h3⟩
  · exact ⟨.inl (by rw [h2]), fun h => absurd h h1⟩
  · rw [h3]
    exact ⟨.inr e1, fun _ => ⟨e1, e2⟩⟩
  · obtain ⟨f1, f2⟩ := nst (p.kept d) d
    rw [h3]
    dsimp only
    rw [f1, f2]
    exact ⟨.inr e1, fun _ => ⟨e1, e2⟩⟩
  · obtain ⟨f1, f2⟩ := sil (p.kept d) d now
    rw [h3]
    dsimp only
    rw [f1, f2]
    exact ⟨.inr e1, fun _ => ⟨e1, e2⟩⟩

/-- The pieces in their order. -/
structure InOrder (t : List Int) (q : List (Int × List Int)) (e : Int) : Prop where
  ok : ∀ x ∈ q, PieceOf t x
  end_ : 0 ≤ e ∧ e ≤ t.length
  all : ∀ k : Int, 0 ≤ k → k < e → (at_ q k).isSome = true
  no : ∀ k : Int, e ≤ k → at_ q k = none
  sum : ((q.map fun x => x.2.length).sum : Int) = e
theorem InOrder.nil (t : List Int) : InOrder t [] 0 := ⟨(fun x hx => by cases hx), by omega, fun k h0 h1 => by omega, fun k h => at_nil k, rfl⟩
theorem InOrder.snoc {t : List Int} {q : List (Int × List Int)} {e : Int} (h : InOrder t q e) {x : Int × List Int} (hx : x.1 = e) (hp : PieceOf t x) : InOrder t (q ++ [x]) (e + x.2.length) := by
  have h1 := hp.hi
  have h2 := h.end_
  refine ⟨fun y hy => ?_, by omega, fun k k0 k1 => ?_, fun k k0 => ?_, ?_⟩
  · rcases List.mem_append.1 hy with hy | hy
    · exact h.ok y hy
    · rw [List.mem_singleton] at hy; subst hy; exact hp
  · rw [at_snoc]
    by_cases hk : k < e
    · have := h.all k k0 hk
      obtain ⟨v, hv⟩ := Option.isSome_iff_exists.1 this
      rw [hv]; rfl
    · rw [h.no k (by omega)]
      show (PS.cov x k).isSome = true
      exact cov_some.2 (by omega)
  · rw [at_snoc, h.no k (by omega)]
    show PS.cov x k = none
    have : ¬ (PS.cov x k).isSome = true := fun hh => by have := cov_some.1 hh; omega
    simpa using this
  · have := h.sum
    rw [List.map_append, List.sum_append]
    simp only [List.map_cons, List.map_nil, List.sum_cons, List.sum_nil]
    omega
theorem InOrder.whole {t : List Int} {q : List (Int × List Int)} (h : InOrder t q t.length) : IsStream q t := by
  refine ⟨fun i hi => ?_, h.no _ (Int.le_refl _)⟩
  have := h.all i (by omega) (by omega)
  obtain ⟨v, hv⟩ := Option.isSome_iff_exists.1 this
  obtain ⟨h1, h2, h3⟩ := at_text h.ok hv
  rw [hv, ← h3]
  rfl

/-- A receiver that gets the packets 0, 1, .. , all unmarked. -/
structure Lined (p : PS) (k : Nat) : Prop where
  f : p.floor = 0
  m : ∀ h ∈ p.l, h.marked = false
  pn : ∀ n : Int, (∃ h ∈ p.l, h.pn = n) ↔ 0 ≤ n ∧ n < k
theorem Lined.new (delay : Int) : (PS.new delay).Lined 0 := ⟨rfl, (fun h hh => by cases hh), fun n => ⟨(fun ⟨h, hh, _⟩ => by cases hh), (fun hn => by omega)⟩⟩
theorem Lined.fresh {p : PS} {k : Nat} (h : p.Lined k) {a b : Nat} (hm : p.Mid a b) {d : DatD} (hd : d.pn = k) : p.Fresh d := fun hh => by
  rcases hh with hh | hh
  · rw [h.f] at hh; omega
  · obtain ⟨x, hx, e⟩ := ((gotL_spec p.l hm.le).2 d.pn).1 ((hasP_iff _ _).1 hh)
    have := (h.pn d.pn).1 ⟨x, hx, e⟩
    omega
theorem Lined.take {p : PS} {k : Nat} (h : p.Lined k) (hg : p.Good) {d : DatD} (hd : d.Ok) (hk : d.pn = k) (hl : d.least = 0) (he : d.ecn ≠ 3) (now : Int) : (p.take d now).1.Lined (k + 1) := by
  have hm := hg.mid
  have hf := h.fresh hm hk
  have LM : (p.laid d).Mid 33 33 := hm.laid hd (by omega) (fun e => hf (.inl e)) (fun e => hf (.inr e))
  have hpn := hd.pn
  have L1 : (p.laid d).l = p.l ++ [hpOf d] := rfl
  have R1 : ((p.laid d).raise d.least) = p.laid d := by
    have hfl : max (p.laid d).floor d.least = (p.laid d).floor := by
      show max p.floor d.least = p.floor
      rw [h.f, hl]; rfl
    have : (p.laid d).raise d.least = { p.laid d with floor := max (p.laid d).floor d.least, l := (p.laid d).l.filter fun h => decide (max (p.laid d).floor d.least ≤ h.pn) } := rfl
    rw [this, hfl, List.filter_eq_self.2 (fun x hx => decide_eq_true (LM.pn x hx).1)]
  have G1 : (p.laid d).got = [(0, (k : Int))] := by
    refine Gd.ext LM.gd ⟨fun x hx => ?_, List.pairwise_singleton _ _⟩ fun n => ?_
    · rw [List.mem_singleton] at hx; subst hx
      exact ⟨by show (0 : Int) ≤ k; omega, by rw [maxPn_eq]; show (k : Int) ≤ _; omega⟩
    · rw [show (p.laid d).got = gotL (p.laid d).l from rfl, (gotL_spec _ LM.le).2, L1]
      constructor
      · rintro ⟨x, hx, e⟩
        refine ⟨_, List.mem_singleton.2 rfl, ?_⟩
        show 0 ≤ n ∧ n ≤ k
        rcases List.mem_append.1 hx with hx | hx
        · have := (h.pn n).1 ⟨x, hx, e⟩; omega
        · rw [List.mem_singleton] at hx; subst hx
          have e2 : (hpOf d).pn = d.pn := rfl
          omega
      · rintro ⟨x, hx, e⟩
        rw [List.mem_singleton] at hx; subst hx
        have e : 0 ≤ n ∧ n ≤ k := e
        by_cases hn : n < k
        · obtain ⟨y, hy, e2⟩ := (h.pn n).2 ⟨e.1, hn⟩
          exact ⟨y, List.mem_append_left _ hy, e2⟩
        · exact ⟨hpOf d, by simp, by show d.pn = n; omega⟩
  have M1 : ∀ x ∈ (p.laid d).l, x.marked = false := fun x hx => by
    rw [L1] at hx
    rcases List.mem_append.1 hx with hx | hx
    · exact h.m x hx
    · rw [List.mem_singleton] at hx; subst hx
      exact decide_eq_false he
  have M2 : (p.laid d).marked = [] := by
    show gotL ((p.laid d).l.filter (·.marked)) = []
    rw [List.filter_eq_nil_iff.2 (fun x hx => by rw [M1 x hx]; decide)]
    rfl
  have K1 : p.kept d = p.laid d := by
    show ((((p.laid d).raise d.least).capG).capM) = p.laid d
    rw [R1]
    have c1 : (p.laid d).capG = p.laid d := by
      unfold capG
      rw [if_neg]
      rw [G1]
      show ¬ 32 < 1
      decide
    rw [c1]
    unfold capM
    rw [if_neg]
    rw [M2]; decide
  have F1 : (p.laid d).floor = 0 := h.f
  have core : ∀ q : PS, q.floor = (p.laid d).floor → q.l = (p.laid d).l → q.Lined (k + 1) := fun q e1 e2 => by
    refine ⟨e1.trans F1, fun x hx => M1 x (e2 ▸ hx), fun n => ?_⟩
    rw [e2, ← (gotL_spec _ LM.le).2, show gotL (p.laid d).l = (p.laid d).got from rfl, G1]
    constructor
    · rintro ⟨x, hx, e⟩
      rw [List.mem_singleton] at hx; subst hx
      have e : 0 ≤ n ∧ n ≤ k := e
      omega
    · intro e
      exact ⟨_, List.mem_singleton.2 rfl, by show 0 ≤ n ∧ n ≤ k; omega⟩
  rcases take_ways p d now with ⟨h1, h2⟩ | ⟨h1, h2, h3⟩ | ⟨h1, h2, h3⟩ | ⟨h1, h2, h4, h3⟩
  · exact absurd hf h1
  · rw [K1, F1] at h2; omega
  · rw [h3, K1]; exact core _ rfl rfl
  · rw [h3, K1]; exact core _ rfl rfl
end PS
end Go.Proofs.Ytkedfipeebjcjaa
