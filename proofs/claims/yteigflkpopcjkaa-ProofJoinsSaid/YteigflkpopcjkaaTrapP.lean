/-
  Plain law of the traps: what is told of a claim of a number that is skipped or not given yet.
-/
import Derived.Test.YteigflkpopcjkaaPrfP
import Derived.Test.YteigflkpopcjkaaTriS
namespace Go.Proofs.Yteigflkpopcjkaa
set_option linter.unusedSimpArgs false
set_option linter.unusedVariables false
set_option linter.unnecessarySimpa false
open Go.RowKit

theorem aheadP_some {n : Int} {cl : List Sp} (h : ∃ c ∈ cl, n ≤ c.2) (hs : ∀ c ∈ cl, c.1 ≤ c.2) : ∃ p, aheadP n cl = some p ∧ n ≤ p ∧ hasP cl p = true := by
  induction cl with
  | nil => obtain ⟨c, hc, _⟩ := h; cases hc
  | cons x r ih =>
    unfold aheadP
    by_cases hx : n ≤ x.2
    · rw [if_pos hx]
      have := hs x (by simp)
      refine ⟨_, rfl, by omega, ?_⟩
      rw [hasP_iff]
      exact ⟨x, by simp, by omega, by omega⟩
    · rw [if_neg hx]
      obtain ⟨p, h1, h2, h3⟩ := ih (by
        obtain ⟨c, hc, h1⟩ := h
        rcases List.mem_cons.1 hc with rfl | hc
        · exact absurd h1 hx
        · exact ⟨c, hc, h1⟩) (fun c hc => hs c (List.mem_cons_of_mem _ hc))
      refine ⟨p, h1, h2, ?_⟩
      obtain ⟨c, hc, h4⟩ := (hasP_iff _ _).1 h3
      exact (hasP_iff _ _).2 ⟨c, List.mem_cons_of_mem _ hc, h4⟩
theorem aheadP_none {n : Int} {cl : List Sp} (h : ∀ c ∈ cl, ¬ n ≤ c.2) : aheadP n cl = none := by
  induction cl with
  | nil => rfl
  | cons x r ih => unfold aheadP; rw [if_neg (h x (by simp)), ih (fun c hc => h c (List.mem_cons_of_mem _ hc))]
theorem good_last {cl : List Sp} (hg : Good cl) {m : Nat} (hm : m + 1 = cl.length) : ∀ i, (h : i < cl.length) → cl[i].2 ≤ (cl[m]'(by omega)).2 := by
  have key : ∀ d i, (h : i + d < cl.length) → (cl[i]'(by omega)).2 ≤ cl[i + d].2 := by
    intro d
    induction d with
    | zero => intro i h; exact Int.le_refl _
    | succ d ih =>
      intro i h
      have h1 := ih i (by omega)
      obtain ⟨h3, h4⟩ := hg (i + d + 1) (by omega)
      have h4 := h4 (by omega)
      have h3 := h3.1
      simp only [Nat.add_sub_cancel] at h4
      have e : i + (d + 1) = i + d + 1 := by omega
      simp only [e]
      omega
  intro i h
  have := key (m - i) i (by omega)
  simpa [show i + (m - i) = m by omega] using this

theorem trap_ahead {a : Ak} {s : LS} (ha : Asked a) (hlo : ¬ a.lo < s.low) {m : Nat} (hm : m + 1 = a.sp.length) (h : (s.all.length : Int) ≤ (a.sp[m]'(by omega)).2) :
    ∃ p, a.check s = (4, p) ∧ (s.all.length : Int) ≤ p ∧ hasP a.sp p = true := by
  obtain ⟨p, h1, h2, h3⟩ := aheadP_some (n := s.all.length) (cl := a.sp) ⟨_, List.getElem_mem (by omega), h⟩ (fun c hc => (ha.good.span c hc).1)
  exact ⟨p, by rw [Ak.check_go (decide_eq_true ha.may) hlo, h1]; rfl, h2, h3⟩
theorem trap_rest {a : Ak} {s : LS} (ha : Asked a) (hlo : ¬ a.lo < s.low) {m : Nat} (hm : m + 1 = a.sp.length) (h : ¬ (s.all.length : Int) ≤ (a.sp[m]'(by omega)).2) :
    a.check s = skipsP a s (skipP a.sp s.kept) := by
  rw [Ak.check_go (decide_eq_true ha.may) hlo, aheadP_none]
  · rfl
  · intro c hc
    obtain ⟨i, hi, rfl⟩ := List.mem_iff_getElem.1 hc
    have := good_last ha.good hm i hi
    omega
theorem sumsP_cases (a : Ak) (s : LS) : sumsP a s = (6, 0) ∨ sumsP a s = (7, 0) ∨ sumsP a s = (0, 0) := by
  unfold sumsP
  split
  · exact .inl rfl
  · split
    · exact .inr (.inl rfl)
    · exact .inr (.inr rfl)

/-- The exclusive or and the parity are laid anew. -/
theorem TS.setX {w W : World} {k : W4} {p r g h : Nat} {s : LS} {a : Ak} (H : TS w k p r g h s a W) (v : Int) (o : Bool) (hv : isU64 v) :
    TS w k p r g h s { a with xo := v, od := o } ((W.setCell ⟨h, 3, none⟩ (.int .u64 v)).setCell ⟨h, 4, none⟩ (.bool o)) := by
  have hC : Chg (fun j => j = h) W ((W.setCell ⟨h, 3, none⟩ (.int .u64 v)).setCell ⟨h, 4, none⟩ (.bool o)) := ((Chg.refl (fun j => j = h) W).setCell (p := ⟨h, 3, none⟩) (.inl rfl) _).setCell (p := ⟨h, 4, none⟩) (.inl rfl) _
  have hgh := H.gh
  have hlg := H.z.lg
  refine ⟨⟨H.z.two.chg hC (fun j _ hj e => by omega), hC.blk H.z.kb (by omega), hC.blk H.z.t (by omega), H.z.bel.trans (hC.below H.z.bel.size (fun j hj e => by omega)), H.z.len, H.z.ring, H.z.lg⟩, ⟨?_, ?_, H.r.us, H.r.um, H.r.ut, hv⟩, ?_, H.gh, ⟨H.m.good, H.m.one, H.m.two, H.m.mm⟩, H.la, H.ga⟩
  · exact H.r.rs.chg hC (fun b off e hn e' => by have := H.la b off e hn; omega)
  · exact H.r.rm.chg hC (fun b off e hn e' => by rw [H.m.mm] at hn; simp at hn)
  · simpa [Ak.cells] using heap_setCell_same _ h 4 _ _ (.bool o) (heap_setCell_same W h 3 _ _ (.int .u64 v) H.x)

end Go.Proofs.Yteigflkpopcjkaa
