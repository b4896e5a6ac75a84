/-
  Walks of package ledger: find, Get, Use, Settle.
-/
import Derived.Test.YteigflkpopcjkaaLed1
namespace Go.Proofs.Yteigflkpopcjkaa
set_option linter.unusedSimpArgs false
set_option linter.unusedVariables false
set_option linter.unnecessarySimpa false
open Go.RowKit

/-- A ledger whose row of kept numbers lies in block g. -/
structure LedAt (w : World) (F : Nat → Prop) (b g c : Nat) (s : LS) : Prop where
  blk : w.heap[b]? = some (.cells #[.int .i64 s.ring, .int .u64 s.limit, .int .u64 s.all.length, .slice (some ⟨g, 0, none⟩) s.kept.length c] 100 (0, 0))
  own : w.ownsRow 0 32 8 (.slice (some ⟨g, 0, none⟩) s.kept.length c) s.kept.length (Sns s.kept)
  fb : F b
  fg : F g
  ne : g ≠ b
theorem LedP.open_ {w : World} {F : Nat → Prop} {b : Nat} {s : LS} (h : LedP w F b s) (hn : 0 < s.kept.length) : ∃ g c, LedAt w F b g c s := by
  obtain ⟨gd, A, c, h1, h2, h3, h4⟩ := h
  obtain ⟨A', c', e, hA⟩ := own_slice h2
  injection e with e1 _ e3
  subst e1
  subst e3
  obtain ⟨g, rfl, _⟩ := hA hn
  exact ⟨g, c, h1, h2, h3, (h4 g rfl).1, (h4 g rfl).2⟩
theorem LedAt.shut {w : World} {F : Nat → Prop} {b g c : Nat} {s : LS} (h : LedAt w F b g c s) (gd : s.Good) : LedP w F b s :=
  ⟨gd, _, c, h.blk, h.own, h.fb, fun k hk => by simp only [Value.ownBlock, Option.some.injEq] at hk; subst hk; exact ⟨h.fg, h.ne⟩⟩
theorem LedAt.qt {w w' : World} {F : Nat → Prop} {b g c : Nat} {s : LS} (h : LedAt w F b g c s) (q : Qt w w') : LedAt w' F b g c s :=
  ⟨q.blk h.blk, q.own h.own, h.fb, h.fg, h.ne⟩
/-- A cell of an element is written. -/
theorem LedAt.put {w : World} {F : Nat → Prop} {b g c : Nat} {s : LS} (h : LedAt w F b g c s) {pn : Int} (hp : s.has pn) {j : Nat} (hj : j < 8) {u : Value} {y : Snt} (hy : y.vals = (s.at' pn).vals.set j u) :
    LedAt (w.setCell ⟨g, (pn.toNat - s.low) * 8 + j, none⟩ u) F b g c (s.put pn y) := by
  obtain ⟨hk, e⟩ := s.kept_at hp
  have hl : (s.put pn y).kept.length = s.kept.length := by rw [s.put_kept hp]; simp
  have ha : (s.put pn y).all.length = s.all.length := by simp [LS.put]
  refine ⟨?_, ?_, h.fb, h.fg, h.ne⟩
  · rw [hl, ha, heap_setCell_other _ _ _ _ (Ne.symm h.ne)]
    exact h.blk
  · rw [hl, s.put_kept hp]
    have := (h.own.stored ((pn.toNat - s.low) * 8 + j) u).1
    rwa [show (Sns s.kept).set ((pn.toNat - s.low) * 8 + j) u = Sns (s.kept.set (pn.toNat - s.low) y) from flat_set _ 8 vals_len _ _ _ _ _ hk hj (by rw [e]; exact hy)] at this

theorem led_find_no (w : World) (F : Nat → Prop) (b : Nat) (s : LS) (pn : Int) (h : LedP w F b s) (hu : isU64 pn) (hp : ¬ s.has pn) :
    Calls Try.prog 62 #[.pointer (some ⟨b, 0, none⟩), .int .u64 pn] w fun e w' => e = .returned (.pointer none) ∧ Qt w w' := by
  obtain ⟨A, c, Hb, c0, c1, c2, c3, -⟩ := h.cells
  obtain ⟨u0, u1⟩ := hu
  have g := h.good
  have g3 := g.len
  have g4 := g.lim1
  have k1 := s.low_le
  have Hl := Lib.hid g
  by_cases hlo : pn < s.low
  · go_enter Try.func62, Try.ntmps62
    go_wp2_with fail
    refine (led_low _ F b s h).mono ?_
    rintro e w1 ⟨rfl, q1⟩
    go_wp2
    go_ret
    exact ⟨rfl, q1⟩
  · have hhi : (s.all.length : Int) ≤ pn := by unfold LS.has at hp; omega
    go_enter Try.func62, Try.ntmps62
    go_wp2_with fail
    refine (led_low _ F b s h).mono ?_
    rintro e w1 ⟨rfl, q1⟩
    have d2 := q1.cell c2
    go_wp2
    go_ret
    exact ⟨rfl, q1⟩

theorem led_find_yes (w : World) (F : Nat → Prop) (b g c : Nat) (s : LS) (pn : Int) (h : LedAt w F b g c s) (gd : s.Good) (hu : isU64 pn) (hp : s.has pn) :
    Calls Try.prog 62 #[.pointer (some ⟨b, 0, none⟩), .int .u64 pn] w fun e w' => e = .returned (.pointer (some ⟨g, (pn.toNat - s.low) * 8, none⟩)) ∧ Qt w w' := by
  have c2 := cell_of_row w b 2 _ _ _ h.blk
  have c3 := cell_of_row w b 3 _ _ _ h.blk
  simp at c2 c3
  obtain ⟨u0, u1⟩ := hu
  have g3 := gd.len
  have g4 := gd.lim1
  have hp' := hp
  obtain ⟨hp1, hp2⟩ := hp
  obtain ⟨hk, -⟩ := s.kept_at hp'
  have j1 : pn - s.low = ((pn.toNat - s.low : Nat) : Int) := by omega
  have HL := Lib.hid (h.shut gd)
  generalize pn.toNat - s.low = i at *
  clear hp'
  go_enter Try.func62, Try.ntmps62
  go_wp2_with fail
  refine (led_low _ F b s HL.out).mono ?_
  rintro e w1 ⟨rfl, q1⟩
  have d2 := q1.cell c2
  have d3 := q1.cell c3
  have HL1 := Lib.hid (HL.out.qt q1)
  have i5 : (0 : Int) ≤ (i : Int) := by omega
  have i6 : (i : Int) < (s.kept.length : Int) := by omega
  go_wp2
  refine wp_region_qt (by kernel_rfl) (by kernel_rfl) ?_
  repeat (first | go_big_quiet_step ((go_at_call 28; exact Qt.callN (led_low _ F b s HL1.out.dn))) | quiet_step ((go_at_call 28; exact Qt.callN (led_low _ F b s HL1.out.dn))))
  refine wpQuiet_nil ?_
  intro w2 q2
  go_wp2
  go_ret
  exact ⟨rfl, q1.trans q2⟩

end Go.Proofs.Yteigflkpopcjkaa
