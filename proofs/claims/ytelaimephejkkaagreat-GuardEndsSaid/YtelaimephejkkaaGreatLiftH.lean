/-
  Arguments that are lists of shots, opened to cells.
-/
import Derived.Test.YtelaimephejkkaaGreatLiftW
import Derived.Test.YtelaimephejkkaaGreatGuL
import Derived.Laws.IdiomArrays
namespace Go.Proofs.YtelaimephejkkaaGreat
set_option linter.unusedSimpArgs false
set_option linter.unusedVariables false
set_option linter.unnecessarySimpa false
open Go.RowKit
open Go.ChangeShapes Go.WideShapes Go.ChangeAt Go.Deep Go.Joins

theorem cellsShot : Tryz.prog.cellsOf 42 = 9 := by kernel_rfl
theorem cellsBytes : Tryz.prog.cellsOf 38 = 1 := by kernel_rfl
theorem cellsU8' : Tryz.prog.cellsOf 5 = 1 := by kernel_rfl
theorem cellsBoolH : Tryz.prog.cellsOf 4 = 1 := by kernel_rfl

section
variable {H : Type} {enc : TypeId × Value → H} {W : World} {b0 : Nat} {v : Value} {d : DataW H} {p : List MemPlace}

theorem trod_bytes {fuel : Nat} {u : Value} {y : DataW H × List MemPlace} (hf : DataW.trod enc Tryz.prog W 0 (fun _ => true) true fuel 38 [u] = some y) :
    ∃ (A : Option Addr) (c : Nat) (l : List Int), u = .slice A l.length c ∧ Rd W 1 A l.length c (U8 l) ∧ ∀ x ∈ l, 0 ≤ x ∧ x ≤ 255 := by
  rcases open_ints (k := .u8) Tryz.underlying38 Tryz.underlying5 cellsU8' hf with ⟨hcs, hx⟩ | ⟨a, len, cap, zs, hcs, _, hl, hm, hz, hx, hcell, hwz⟩
  · simp at hcs
    exact ⟨none, 0, [], hcs, Rd.nil_ _ _, (fun s hs => by cases hs)⟩
  · simp at hcs
    simp only [if_true] at hz
    have hlen : (zs.take len).length = len := by simp; omega
    refine ⟨some a, cap, zs.take len, by rw [hlen]; exact hcs, ?_, fun x hx => wf_u8 (hwz x (List.mem_of_mem_take hx))⟩
    rw [hlen]
    refine rd_of_cells hl hm _ 1 (by omega) (by simp [U8]; omega) ?_
    intro j u hu
    have hj : j < len := by have := (List.getElem?_eq_some_iff.1 hu).1; simp [U8] at this; omega
    rw [hcell j (by omega), ← hu]
    have hj' : j < zs.length := by omega
    simp [U8, hj, hj']

set_option maxRecDepth 100000 in
theorem open_shots (hval : Value.okWide Tryz.prog W .any b0 24 v) (h : DataW.Trod enc Tryz.prog W 0 (fun _ => true) true 24 v d p) :
    ∃ (A : Option Addr) (n c : Nat) (l : List Sh), v = .slice A n c ∧ Shots W A n c l := by
  obtain ⟨a0, len, cap, rfl⟩ := okWide_slice Tryz.underlying24 hval
  obtain ⟨fuel, hf⟩ := h
  rcases open_slice Tryz.underlying24 hf with ⟨hcs, _⟩ | ⟨a, len', cap', m, n, D, Pl, hcs, _, hl, hm, hmm, _, hi⟩
  · simp [Value.cells] at hcs
    obtain ⟨rfl, rfl, rfl⟩ := hcs
    exact ⟨none, 0, 0, [], rfl, Rd.nil_ _ _, (fun s hs => by cases hs)⟩
  · simp [Value.cells] at hcs
    obtain ⟨rfl, rfl, rfl⟩ := hcs
    simp only [if_true] at hmm
    subst hmm
    rw [cellsShot] at hi
    have each : ∀ i, i < m → ∃ e : Sh, (∀ j u, e.vals[j]? = some u → W.cell? (a.add (i * 9 + j)) = some u) ∧ e.ok W := fun i him => by
      obtain ⟨cs, h1, h2⟩ := hi i him
      obtain ⟨_, hlen, hcell⟩ := World.cells?_some h1
      obtain ⟨xs, k, _, _, _, hxl, hg⟩ := DataW.trod_struct Tryz.underlying42 h2
      match cs, hlen, xs, hxl with
      | [v0, v1, v2, v3, v4, v5, v6, v7, v8], _, [y0, y1, y2, y3, y4, y5], _ =>
        have g0 := hg 0 _ rfl
        have g1 := hg 1 _ rfl
        have g2 := hg 2 _ rfl
        have g3 := hg 3 _ rfl
        have g4 := hg 4 _ rfl
        have g5 := hg 5 _ rfl
        simp [cellsInt, cellsU64', cellsBytes, cellsW4, cellsW16, cellsBoolH] at g0 g1 g2 g3 g4 g5
        obtain ⟨x0, rfl⟩ := trod_i64' g0
        obtain ⟨A1, c1, l1, rfl, r1, u1⟩ := trod_bytes g1
        obtain ⟨z0, z1, z2, z3, nn, _, k0, k1, k2, k3⟩ := trod_array4 Tryz.underlying40 cellsW16 g2
        obtain ⟨x2, rfl, u2⟩ := trod_u16' k0
        obtain ⟨x3, rfl, u3⟩ := trod_u16' k1
        obtain ⟨x4, rfl, u4⟩ := trod_u16' k2
        obtain ⟨x5, rfl, u5⟩ := trod_u16' k3
        obtain ⟨x6, rfl, u6⟩ := trod_u64' g3
        obtain ⟨o, h7, _⟩ := DataW.trod_bool Tryz.underlying4 g4
        simp at h7
        subst h7
        obtain ⟨x8, rfl, u8⟩ := trod_u16' g5
        refine ⟨⟨x0, A1, c1, l1, ⟨x2, x3, x4, x5⟩, x6, o, x8⟩, fun j u hj => ?_, r1, u1, ⟨u2, u3, u4, u5⟩, u6, u8⟩
        have hj9 : j < 9 := by have := (List.getElem?_eq_some_iff.1 hj).1; simpa [Sh.vals] using this
        have c := hcell j (by simpa using hj9)
        rw [Go.Deep.add_add] at c
        rw [c, ← hj]
        rfl
    have pick : ∃ f : Nat → Sh, ∀ i, i < m → (∀ j u, (f i).vals[j]? = some u → W.cell? (a.add (i * 9 + j)) = some u) ∧ (f i).ok W :=
      ⟨fun i => if h : i < m then Classical.choose (each i h) else ⟨0, none, 0, [], ⟨0, 0, 0, 0⟩, 0, false, 0⟩, fun i him => by simp only [him, dif_pos]; exact Classical.choose_spec (each i him)⟩
    obtain ⟨f, hf'⟩ := pick
    have hle : len ≤ m := hl
    have hfl : ∀ l : List Sh, (Shs l).length = l.length * 9 := fun l => flat_len Sh.vals 9 (fun _ => rfl) l
    refine ⟨some a, len, m, (List.range len).map f, rfl, rd_of_cells hl hm _ 9 (by omega) ?_ ?_, ?_⟩
    · rw [hfl]
      simp
    · intro j u hu
      have hj : j < len * 9 := by
        have := (List.getElem?_eq_some_iff.1 hu).1
        rw [hfl] at this
        simpa using this
      have hq : j / 9 < ((List.range len).map f).length := by simp; omega
      have g := flat_get Sh.vals 9 (fun _ => rfl) ((List.range len).map f) (j / 9) (j % 9) hq (by omega)
      have ej : j / 9 * 9 + j % 9 = j := by omega
      rw [ej] at g
      rw [show Shs ((List.range len).map f) = ((List.range len).map f).flatMap Sh.vals from rfl, g] at hu
      have c := (hf' (j / 9) (by omega)).1 (j % 9) u (by simpa using hu)
      rw [ej] at c
      exact c
    · intro e he
      obtain ⟨i, hi', rfl⟩ := List.mem_map.1 he
      exact (hf' i (by have := List.mem_range.1 hi'; omega)).2
end
end Go.Proofs.YtelaimephejkkaaGreat
