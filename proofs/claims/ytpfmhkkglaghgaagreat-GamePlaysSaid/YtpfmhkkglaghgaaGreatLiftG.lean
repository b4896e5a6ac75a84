/-
  Arguments that are sketches of games, or games, opened to cells.
-/
import Derived.Test.YtpfmhkkglaghgaaGreatLift
import Derived.Test.YtpfmhkkglaghgaaGreatGamK
import Derived.Laws.IdiomArrays
namespace Go.Proofs.YtpfmhkkglaghgaaGreat
set_option linter.unusedSimpArgs false
set_option linter.unusedVariables false
set_option linter.unnecessarySimpa false
open Go.RowKit
open Go.ChangeShapes Go.WideShapes Go.ChangeAt Go.Deep Go.Joins

theorem cellsGMv : Tryz.prog.cellsOf 41 = 6 := by kernel_rfl
theorem cellsGMvs : Tryz.prog.cellsOf 22 = 1 := by kernel_rfl
theorem cellsGSk : Tryz.prog.cellsOf 26 = 5 := by kernel_rfl
theorem cellsGGm : Tryz.prog.cellsOf 24 = 5 := by kernel_rfl
theorem cellsGI : Tryz.prog.cellsOf 3 = 1 := by kernel_rfl
theorem cellsGU : Tryz.prog.cellsOf 27 = 1 := by kernel_rfl
theorem cellsGB : Tryz.prog.cellsOf 4 = 1 := by kernel_rfl
theorem cellsG8 : Tryz.prog.cellsOf 5 = 1 := by kernel_rfl

section
variable {H : Type} {enc : TypeId × Value → H} {W : World} {b0 : Nat} {v : Value} {d : DataW H} {p : List MemPlace}
theorem trodG_u64 {spare : Nat → Bool} {n : Nat} {u : Value} {y : DataW H × List MemPlace} (h : DataW.trod enc Tryz.prog W 0 spare true n 27 [u] = some y) : ∃ x : Int, u = .int .u64 x ∧ isU64 x := by
  obtain ⟨x, h1, h2, h3⟩ := DataW.trod_int (k := .u64) Tryz.underlying27 h
  simp at h1
  exact ⟨x, h1, wf_u64 h3⟩
theorem trodG_i64 {spare : Nat → Bool} {n : Nat} {u : Value} {y : DataW H × List MemPlace} (h : DataW.trod enc Tryz.prog W 0 spare true n 3 [u] = some y) : ∃ x : Int, u = .int .i64 x ∧ isI64 x := by
  obtain ⟨x, h1, h2, h3⟩ := DataW.trod_int (k := .i64) Tryz.underlying3 h
  simp at h1
  exact ⟨x, h1, (wf_i64 h3).1, by have := (wf_i64 h3).2; omega⟩
theorem trodG_u8 {spare : Nat → Bool} {n : Nat} {u : Value} {y : DataW H × List MemPlace} (h : DataW.trod enc Tryz.prog W 0 spare true n 5 [u] = some y) : ∃ x : Nat, u = .int .u8 x ∧ x < 256 := by
  obtain ⟨x, h1, h2, h3⟩ := DataW.trod_int (k := .u8) Tryz.underlying5 h
  simp at h1
  have w := wf_u8 h3
  exact ⟨x.toNat, by rw [h1]; congr 1; omega, by omega⟩

set_option maxRecDepth 100000 in
theorem trod_moves {fuel : Nat} {u : Value} {y : DataW H × List MemPlace} (hf : DataW.trod enc Tryz.prog W 0 (fun _ => true) true fuel 22 [u] = some y) :
    ∃ (A : Option Addr) (c : Nat) (l : List MvR), u = .slice A l.length c ∧ Rd W 6 A l.length c (MvsR l) ∧ ∀ m ∈ l, m.fit := by
  rcases open_slice Tryz.underlying22 hf with ⟨hcs, _⟩ | ⟨a, len, cap, m, n, D, Pl, hcs, _, hl, hm, hmm, _, hi⟩
  · simp at hcs
    exact ⟨none, 0, [], hcs, Rd.nil_ _ _, (fun s hs => by cases hs)⟩
  · simp at hcs
    simp only [if_true] at hmm
    subst hmm
    rw [cellsGMv] at hi
    have each : ∀ i, i < m → ∃ e : MvR, (∀ j u, e.vals[j]? = some u → W.cell? (a.add (i * 6 + j)) = some u) ∧ e.fit := fun i him => by
      obtain ⟨cs, h1, h2⟩ := hi i him
      obtain ⟨_, hlen, hcell⟩ := World.cells?_some h1
      obtain ⟨xs, k, _, _, _, hxl, hg⟩ := DataW.trod_struct Tryz.underlying41 h2
      match cs, hlen, xs, hxl with
      | [v0, v1, v2, v3, v4, v5], _, [y0, y1, y2, y3, y4, y5], _ =>
        have g0 := hg 0 _ rfl
        have g1 := hg 1 _ rfl
        have g2 := hg 2 _ rfl
        have g3 := hg 3 _ rfl
        have g4 := hg 4 _ rfl
        have g5 := hg 5 _ rfl
        simp [cellsGI, cellsGU, cellsGB] at g0 g1 g2 g3 g4 g5
        obtain ⟨x0, rfl, u0⟩ := trodG_i64 g0
        obtain ⟨x1, rfl, u1⟩ := trodG_i64 g1
        obtain ⟨x2, rfl, u2⟩ := trodG_i64 g2
        obtain ⟨o3, h3, _⟩ := DataW.trod_bool Tryz.underlying4 g3
        simp at h3
        subst h3
        obtain ⟨o4, h4, _⟩ := DataW.trod_bool Tryz.underlying4 g4
        simp at h4
        subst h4
        obtain ⟨x5, rfl, u5⟩ := trodG_u64 g5
        refine ⟨⟨x0, x1, x2, o3, o4, x5⟩, fun j u hj => ?_, u0, u1, u2, u5⟩
        have hj6 : j < 6 := by have := (List.getElem?_eq_some_iff.1 hj).1; simpa [MvR.vals] using this
        have c := hcell j (by simpa using hj6)
        rw [Go.Deep.add_add] at c
        rw [c, ← hj]
        rfl
    have pick : ∃ f : Nat → MvR, ∀ i, i < m → (∀ j u, (f i).vals[j]? = some u → W.cell? (a.add (i * 6 + j)) = some u) ∧ (f i).fit :=
      ⟨fun i => if h : i < m then Classical.choose (each i h) else ⟨0, 0, 0, false, false, 0⟩, fun i him => by simp only [him, dif_pos]; exact Classical.choose_spec (each i him)⟩
    obtain ⟨f, hf'⟩ := pick
    have hle : len ≤ m := hl
    have hfl : ∀ l : List MvR, (MvsR l).length = l.length * 6 := fun l => flat_len MvR.vals 6 (fun _ => rfl) l
    have hlen : ((List.range len).map f).length = len := by simp
    refine ⟨some a, m, (List.range len).map f, by rw [hlen]; exact hcs, ?_, ?_⟩
    · rw [hlen]
      refine rd_of_cells hl hm _ 6 (by omega) ?_ ?_
      · rw [hfl]
        simp
      · intro j u hu
        have hj : j < len * 6 := by
          have := (List.getElem?_eq_some_iff.1 hu).1
          rw [hfl] at this
          simpa using this
        have hq : j / 6 < ((List.range len).map f).length := by simp; omega
        have g := flat_get MvR.vals 6 (fun _ => rfl) ((List.range len).map f) (j / 6) (j % 6) hq (by omega)
        have ej : j / 6 * 6 + j % 6 = j := by omega
        rw [ej] at g
        rw [show MvsR ((List.range len).map f) = ((List.range len).map f).flatMap MvR.vals from rfl, g] at hu
        have c := (hf' (j / 6) (by omega)).1 (j % 6) u (by simpa using hu)
        rw [ej] at c
        exact c
    · intro e he
      obtain ⟨i, hi', rfl⟩ := List.mem_map.1 he
      exact (hf' i (by have := List.mem_range.1 hi'; omega)).2

set_option maxRecDepth 100000 in
theorem open_sketch (hval : Value.okWide Tryz.prog W .any b0 26 v) (h : DataW.Trod enc Tryz.prog W 0 (fun _ => true) true 26 v d p) :
    ∃ (s : Sk) (A : Option Addr) (c : Nat), v = skVal s A c ∧ s.fit ∧ Rd W 6 A s.moves.length c (MvsR s.moves) := by
  obtain ⟨⟨cs⟩, rfl, hsz⟩ := okWide_struct Tryz.underlying26 hval
  have hc : cs.length = 5 := hsz.trans cellsGSk
  obtain ⟨fuel, hf⟩ := h
  obtain ⟨xs, k, _, _, _, hxl, hg⟩ := DataW.trod_struct Tryz.underlying26 hf
  match cs, hc, xs, hxl with
  | [v0, v1, v2, v3, v4], _, [y0, y1, y2, y3, y4], _ =>
    have g0 := hg 0 _ rfl
    have g1 := hg 1 _ rfl
    have g2 := hg 2 _ rfl
    have g3 := hg 3 _ rfl
    have g4 := hg 4 _ rfl
    simp [Value.cells, cellsG8, cellsGMvs] at g0 g1 g2 g3 g4
    obtain ⟨x0, rfl, u0⟩ := trodG_u8 g0
    obtain ⟨x1, rfl, u1⟩ := trodG_u8 g1
    obtain ⟨x2, rfl, u2⟩ := trodG_u8 g2
    obtain ⟨x3, rfl, u3⟩ := trodG_u8 g3
    obtain ⟨A, c, l, rfl, R, F⟩ := trod_moves g4
    exact ⟨⟨x0, x1, x2, x3, l⟩, A, c, rfl, ⟨u0, u1, u2, u3, F⟩, R⟩

set_option maxRecDepth 100000 in
theorem open_game (hval : Value.okWide Tryz.prog W .any b0 24 v) (h : DataW.Trod enc Tryz.prog W 0 (fun _ => true) true 24 v d p) :
    ∃ (b n came marked : Int) (l : List MvR) (A : Option Addr) (c : Nat), v = rawVal b n came marked A l.length c ∧ isI64 b ∧ isI64 n ∧ isI64 came ∧ isI64 marked ∧ (∀ m ∈ l, m.fit) ∧ Rd W 6 A l.length c (MvsR l) := by
  obtain ⟨⟨cs⟩, rfl, hsz⟩ := okWide_struct Tryz.underlying24 hval
  have hc : cs.length = 5 := hsz.trans cellsGGm
  obtain ⟨fuel, hf⟩ := h
  obtain ⟨xs, k, _, _, _, hxl, hg⟩ := DataW.trod_struct Tryz.underlying24 hf
  match cs, hc, xs, hxl with
  | [v0, v1, v2, v3, v4], _, [y0, y1, y2, y3, y4], _ =>
    have g0 := hg 0 _ rfl
    have g1 := hg 1 _ rfl
    have g2 := hg 2 _ rfl
    have g3 := hg 3 _ rfl
    have g4 := hg 4 _ rfl
    simp [Value.cells, cellsGI, cellsGMvs] at g0 g1 g2 g3 g4
    obtain ⟨x0, rfl, u0⟩ := trodG_i64 g0
    obtain ⟨x1, rfl, u1⟩ := trodG_i64 g1
    obtain ⟨x2, rfl, u2⟩ := trodG_i64 g2
    obtain ⟨x3, rfl, u3⟩ := trodG_i64 g3
    obtain ⟨A, c, l, rfl, R, F⟩ := trod_moves g4
    exact ⟨x0, x1, x2, x3, l, A, c, rfl, u0, u1, u2, u3, F, R⟩
end
end Go.Proofs.YtpfmhkkglaghgaaGreat
