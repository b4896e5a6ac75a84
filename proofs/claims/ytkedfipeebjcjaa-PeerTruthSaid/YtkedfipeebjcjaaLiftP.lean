/-
  Arguments that are lists of Packs, opened to cells.
-/
import Derived.Test.YtkedfipeebjcjaaLift
import Derived.Test.YtkedfipeebjcjaaPlw3
import Derived.Laws.IdiomArrays
namespace Go.Proofs.Ytkedfipeebjcjaa
set_option linter.unusedSimpArgs false
set_option linter.unusedVariables false
set_option linter.unnecessarySimpa false
open Go.RowKit
open Go.ChangeShapes Go.WideShapes Go.ChangeAt Go.Deep Go.Joins

theorem cellsPack : Try.prog.cellsOf 41 = 10 := by kernel_rfl
theorem cellsP1 : Try.prog.cellsOf 5 = 1 ∧ Try.prog.cellsOf 34 = 1 ∧ Try.prog.cellsOf 39 = 1 ∧ Try.prog.cellsOf 26 = 1 ∧ Try.prog.cellsOf 4 = 1 ∧ Try.prog.cellsOf 22 = 1 := by
  refine ⟨?_, ?_, ?_, ?_, ?_, ?_⟩ <;> kernel_rfl

section
variable {H : Type} {enc : TypeId × Value → H} {W : World} {b0 : Nat} {v : Value} {d : DataW H} {p : List MemPlace}

theorem trod_intP {k : IntKind} {t : TypeId} (ht : Try.prog.underlying t = some (.int k)) {spare : Nat → Bool} {n : Nat} {u : Value} {y : DataW H × List MemPlace} (h : DataW.trod enc Try.prog W 0 spare true n t [u] = some y) : ∃ x : Int, u = .int k x ∧ (Lit.int k x).wf = true := by
  obtain ⟨x, h1, h2, h3⟩ := DataW.trod_int (k := k) ht h
  simp at h1
  exact ⟨x, h1, h3⟩
theorem trod_bytesP {fuel : Nat} {u : Value} {y : DataW H × List MemPlace} (hf : DataW.trod enc Try.prog W 0 (fun _ => true) true fuel 22 [u] = some y) :
    ∃ (A : Option Addr) (c : Nat) (l : List Int), u = .slice A l.length c ∧ Rd W 1 A l.length c (U8 l) ∧ ∀ x ∈ l, 0 ≤ x ∧ x ≤ 255 := by
  rcases open_ints (k := .u8) Try.underlying22 Try.underlying5 cellsP1.1 hf with ⟨hcs, hx⟩ | ⟨a, len, cap, zs, hcs, _, hl, hm, hz, hx, hcell, hwz⟩
  · simp at hcs
    exact ⟨none, 0, [], hcs, Rd.nil_ _ _, (fun s hs => by cases hs)⟩
  · simp at hcs
    simp only [if_true] at hz
    have hlen : (zs.take len).length = len := by simp; omega
    refine ⟨some a, cap, zs.take len, by rw [hlen]; exact hcs, ?_, fun x hx => wf_u8 (hwz x (List.mem_of_mem_take hx))⟩
    rw [hlen]
    refine rd_of_cells hl hm _ 1 (by omega) (by simp [U8]; omega) ?_
    intro j u hu
    have hj : j < len := by have := (List.getElem?_eq_some_iff.1 hu).1; simp [U8] at this; omega
    rw [hcell j (by omega), ← hu]
    have hj' : j < zs.length := by omega
    simp [U8, hj, hj']

set_option maxRecDepth 100000 in
theorem open_packs (hval : Value.okWide Try.prog W .any b0 38 v) (h : DataW.Trod enc Try.prog W 0 (fun _ => true) true 38 v d p) :
    ∃ (A : Option Addr) (n c : Nat) (l : List Pk), v = .slice A n c ∧ Packs W A n c l := by
  obtain ⟨a0, len, cap, rfl⟩ := okWide_slice Try.underlying38 hval
  obtain ⟨fuel, hf⟩ := h
  rcases open_slice Try.underlying38 hf with ⟨hcs, _⟩ | ⟨a, len', cap', m, n, D, Pl, hcs, _, hl, hm, hmm, _, hi⟩
  · simp [Value.cells] at hcs
    obtain ⟨rfl, rfl, rfl⟩ := hcs
    exact ⟨none, 0, 0, [], rfl, Rd.nil_ _ _, (fun s hs => by cases hs)⟩
  · simp [Value.cells] at hcs
    obtain ⟨rfl, rfl, rfl⟩ := hcs
    simp only [if_true] at hmm
    subst hmm
    rw [cellsPack] at hi
    have each : ∀ i, i < m → ∃ e : Pk, (∀ j u, e.cells[j]? = some u → W.cell? (a.add (i * 10 + j)) = some u) ∧ (e.Ok ∧ Rd W 1 e.A e.b.length e.c (U8 e.b)) := fun i him => by
      obtain ⟨cs, h1, h2⟩ := hi i him
      obtain ⟨_, hlen, hcell⟩ := World.cells?_some h1
      obtain ⟨xs, k, _, _, _, hxl, hg⟩ := DataW.trod_struct Try.underlying41 h2
      match cs, hlen, xs, hxl with
      | [v0, v1, v2, v3, v4, v5, v6, v7, v8, v9], _, [y0, y1, y2, y3, y4, y5, y6, y7, y8, y9], _ =>
        have g0 := hg 0 _ rfl
        have g1 := hg 1 _ rfl
        have g2 := hg 2 _ rfl
        have g3 := hg 3 _ rfl
        have g4 := hg 4 _ rfl
        have g5 := hg 5 _ rfl
        have g6 := hg 6 _ rfl
        have g7 := hg 7 _ rfl
        have g8 := hg 8 _ rfl
        have g9 := hg 9 _ rfl
        simp [cellsP1.1, cellsP1.2.1, cellsP1.2.2.1, cellsP1.2.2.2.1, cellsP1.2.2.2.2.1, cellsP1.2.2.2.2.2] at g0 g1 g2 g3 g4 g5 g6 g7 g8 g9
        obtain ⟨x0, rfl, w0⟩ := trod_intP Try.underlying5 g0
        obtain ⟨x1, rfl, w1⟩ := trod_intP Try.underlying5 g1
        obtain ⟨x2, rfl, w2⟩ := trod_intP Try.underlying5 g2
        obtain ⟨x3, rfl, w3⟩ := trod_intP Try.underlying34 g3
        obtain ⟨x4, rfl, w4⟩ := trod_intP Try.underlying34 g4
        obtain ⟨x5, rfl, w5⟩ := trod_intP Try.underlying34 g5
        obtain ⟨x6, rfl, w6⟩ := trod_intP Try.underlying26 g6
        obtain ⟨x7, rfl, w7⟩ := trod_intP Try.underlying39 g7
        obtain ⟨o, h7, _⟩ := DataW.trod_bool Try.underlying4 g8
        simp at h7
        subst h7
        obtain ⟨A1, c1, l1, rfl, r1, u1⟩ := trod_bytesP g9
        refine ⟨⟨x0, x1, x2, x3, x4, x5, x6, x7, o, A1, c1, l1⟩, fun j u hj => ?_, ⟨wf_u8 w0, wf_u8 w1, wf_u8 w2, wf_u16 w3, wf_u16 w4, wf_u16 w5, wf_u64 w6, wf_u32 w7, u1⟩, r1⟩
        have hj9 : j < 10 := by have := (List.getElem?_eq_some_iff.1 hj).1; simpa [Pk.cells] using this
        have c := hcell j (by simpa using hj9)
        rw [Go.Deep.add_add] at c
        rw [c, ← hj]
        rfl
    have pick : ∃ f : Nat → Pk, ∀ i, i < m → (∀ j u, (f i).cells[j]? = some u → W.cell? (a.add (i * 10 + j)) = some u) ∧ ((f i).Ok ∧ Rd W 1 (f i).A (f i).b.length (f i).c (U8 (f i).b)) :=
      ⟨fun i => if h : i < m then Classical.choose (each i h) else ⟨0, 0, 0, 0, 0, 0, 0, 0, false, none, 0, []⟩, fun i him => by simp only [him, dif_pos]; exact Classical.choose_spec (each i him)⟩
    obtain ⟨f, hf'⟩ := pick
    have hle : len ≤ m := hl
    have hfl : ∀ l : List Pk, (l.flatMap Pk.cells).length = l.length * 10 := fun l => flat_len Pk.cells 10 (fun _ => rfl) l
    refine ⟨some a, len, m, (List.range len).map f, rfl, rd_of_cells hl hm _ 10 (by omega) ?_ ?_, ?_⟩
    · rw [hfl]
      simp
    · intro j u hu
      have hj : j < len * 10 := by
        have := (List.getElem?_eq_some_iff.1 hu).1
        rw [hfl] at this
        simpa using this
      have hq : j / 10 < ((List.range len).map f).length := by simp; omega
      have g := flat_get Pk.cells 10 (fun _ => rfl) ((List.range len).map f) (j / 10) (j % 10) hq (by omega)
      have ej : j / 10 * 10 + j % 10 = j := by omega
      rw [ej] at g
      rw [g] at hu
      have c := (hf' (j / 10) (by omega)).1 (j % 10) u (by simpa using hu)
      rw [ej] at c
      exact c
    · intro e he
      obtain ⟨i, hi', rfl⟩ := List.mem_map.1 he
      exact (hf' i (by have := List.mem_range.1 hi'; omega)).2
end
end Go.Proofs.Ytkedfipeebjcjaa
