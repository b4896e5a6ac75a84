/-
  Walks of package ledger: what only reads.
-/
import Derived.Test.YteigflkpopcjkaaLedP
import Derived.Deep.RegionHeld3
import Derived.Deep.RegionWith
namespace Go.Proofs.Yteigflkpopcjkaa
set_option linter.unusedSimpArgs false
set_option linter.unusedVariables false
set_option linter.unnecessarySimpa false
open Go.RowKit

structure LedP (w : World) (F : Nat → Prop) (b : Nat) (s : LS) : Prop where
  good : s.Good
  ex : ∃ A c, w.heap[b]? = some (.cells #[.int .i64 s.ring, .int .u64 s.limit, .int .u64 s.all.length, .slice A s.kept.length c] 100 (0, 0)) ∧
    w.ownsRow 0 32 8 (.slice A s.kept.length c) s.kept.length (Sns s.kept) ∧ F b ∧ ∀ g, (Value.slice A s.kept.length c).ownBlock = some g → F g ∧ g ≠ b

theorem infoSent : (Try.prog.info? 32).map (fun i => (i.zero, i.size, i.bytes)) = some (some (.agg #[.int .u64 0, .int .u64 0, .int .u64 0, .int .u64 0, .int .u64 0, .bool false, .bool false, .int .i64 0]), 8, 56) := by kernel_rfl

theorem LedP.qt {w w' : World} {F : Nat → Prop} {b : Nat} {s : LS} (h : LedP w F b s) (q : Qt w w') : LedP w' F b s := by
  obtain ⟨g, A, c, h1, h2, h3⟩ := h
  exact ⟨g, A, c, q.blk h1, q.own h2, h3⟩
theorem LedP.chg {w w' : World} {F G H : Nat → Prop} {b : Nat} {s : LS} (h : LedP w F b s) (q : Chg G w w') (hd : ∀ k, k < w.heap.size → F k → ¬ G k) (hs : ∀ k, k < w.heap.size → F k → H k) : LedP w' H b s := by
  obtain ⟨g, A, c, h1, h2, h3, h4⟩ := h
  have hb := (Array.getElem?_eq_some_iff.1 h1).1
  exact ⟨g, A, c, q.blk h1 (hd _ hb h3), own_chg h2 q (fun k hk => hd k (h2.lt k hk).2 (h4 k hk).1), hs b hb h3, fun k hk => ⟨hs k (h2.lt k hk).2 (h4 k hk).1, (h4 k hk).2⟩⟩

theorem satSub_any (a b d : Int) (w : World) (ha : isU64 a) (hb : isU64 b) (hd : d = if a < b then 0 else a - b) :
    Calls Try.prog 63 #[.int .u64 a, .int .u64 b] w fun e w' => e = .returned (.int .u64 d) ∧ Qt w w' := by
  subst hd
  obtain ⟨a0, a1⟩ := ha
  obtain ⟨b0, b1⟩ := hb
  by_cases h : a < b
  · rw [if_pos h]
    go_enter Try.func63, Try.ntmps63
    go_wp2
    go_ret
    exact ⟨rfl, Qt.refl _⟩
  · rw [if_neg h]
    go_enter Try.func63, Try.ntmps63
    go_wp2
    go_ret
    exact ⟨ret_int (by first | rfl | (simp; omega)), Qt.refl _⟩

theorem LedP.cells {w : World} {F : Nat → Prop} {b : Nat} {s : LS} (h : LedP w F b s) : ∃ A c,
    Hid (w.heap[b]? = some (.cells #[.int .i64 s.ring, .int .u64 s.limit, .int .u64 s.all.length, .slice A s.kept.length c] 100 (0, 0))) ∧
    w.cell? ⟨b, 0, none⟩ = some (.int .i64 s.ring) ∧ w.cell? ⟨b, 1, none⟩ = some (.int .u64 s.limit) ∧ w.cell? ⟨b, 2, none⟩ = some (.int .u64 s.all.length) ∧ w.cell? ⟨b, 3, none⟩ = some (.slice A s.kept.length c) ∧
    w.ownsRow 0 32 8 (.slice A s.kept.length c) s.kept.length (Sns s.kept) ∧ F b ∧ ∀ g, (Value.slice A s.kept.length c).ownBlock = some g → F g ∧ g ≠ b := by
  obtain ⟨g, A, c, h1, h2, h3⟩ := h
  exact ⟨A, c, h1, cell_of_row w b 0 _ _ _ h1, cell_of_row w b 1 _ _ _ h1, cell_of_row w b 2 _ _ _ h1, cell_of_row w b 3 _ _ _ h1, h2, h3⟩

theorem led_next (w : World) (F : Nat → Prop) (b : Nat) (s : LS) (h : LedP w F b s) :
    Calls Try.prog 26 #[.pointer (some ⟨b, 0, none⟩)] w fun e w' => e = .returned (.int .u64 s.all.length) ∧ Qt w w' := by
  obtain ⟨A, c, Hb, c0, c1, c2, c3, -⟩ := h.cells
  go_enter Try.func26, Try.ntmps26
  go_wp2
  go_ret
  exact ⟨rfl, Qt.refl _⟩

theorem led_low (w : World) (F : Nat → Prop) (b : Nat) (s : LS) (h : LedP w F b s) :
    Calls Try.prog 28 #[.pointer (some ⟨b, 0, none⟩)] w fun e w' => e = .returned (.int .u64 s.low) ∧ Qt w w' := by
  obtain ⟨A, c, Hb, c0, c1, c2, c3, -⟩ := h.cells
  have g := h.good
  have g1 := g.ring4
  have g2 := g.ring256
  have g3 := g.len
  have g4 := g.lim1
  have Hd := Lib.hid (show (s.low : Int) = if (s.all.length : Int) < (s.ring : Int) then 0 else (s.all.length : Int) - s.ring by unfold LS.low; split <;> omega)
  generalize (s.low : Int) = d at *
  generalize s.ring = r at *
  generalize s.all.length = n at *
  go_enter Try.func28, Try.ntmps28
  go_wp2
  refine wp_region_qt (by kernel_rfl) (by kernel_rfl) ?_
  repeat (first | go_big_quiet_step ((go_at_call 63; exact Qt.callN (satSub_any _ _ d _ ⟨by omega, by omega⟩ ⟨by omega, by omega⟩ Hd.out))) | quiet_step ((go_at_call 63; exact Qt.callN (satSub_any _ _ d _ ⟨by omega, by omega⟩ ⟨by omega, by omega⟩ Hd.out))))
  refine wpQuiet_nil ?_
  intro w1 q1
  go_wp2
  go_ret
  exact ⟨rfl, q1⟩

theorem led_least (w : World) (F : Nat → Prop) (b : Nat) (s : LS) (h : LedP w F b s) :
    Calls Try.prog 36 #[.pointer (some ⟨b, 0, none⟩)] w fun e w' => e = .returned (.int .u64 s.least) ∧ Below w.heap.size w w' := by
  obtain ⟨A, c, Hb, c0, c1, c2, c3, ho, -⟩ := h.cells
  have g := h.good
  have g3 := g.len
  have g4 := g.lim1
  have g5 := s.kept_le
  have g2 := g.ring256
  have R := Rd.of_own ho
  clear ho
  have Hk := Lib.hid g
  clear g
  have hbs := Hb.out
  go_enter Try.func36, Try.ntmps36
  go_wp2
  go_loopw [12] (fun i wr => ∃ k : Nat, k ≤ LS.ahead s.kept ∧ i = .int .i64 k ∧ Below w.heap.size w wr) (fun i _ => s.kept.length - (intOf i).toNat)
  case atStart => exact ⟨0, Nat.zero_le _, rfl, Below.refl _ _⟩
  case round =>
    obtain ⟨k, hk, rfl, hb⟩ := hrel
    have hle := Nat.le_trans hk (LS.ahead_le _)
    by_cases hlt : k < s.kept.length
    · obtain ⟨bb, off, rfl, d0, d1, d2, d3, d4, d5, d6, d7⟩ := (R.below hb).snt hlt
      have Hpn := Lib.hid (Hk.out.keptPn hlt)
      by_cases hf : k < LS.ahead s.kept
      · have hs := LS.ahead_lt hf hlt
        go_wp2
        go_roundw
        case rel => exact ⟨k + 1, by omega, by go_num, hb.alloc hb.size _⟩
        case measure => simp [intOf]; omega
      · obtain rfl : k = LS.ahead s.kept := by omega
        have hs := LS.ahead_at hlt
        go_wp2
        go_ret
        exact ⟨ret_int (by rw [Hpn.out]; simp [LS.least]), hb.alloc hb.size _⟩
    · have c2' := (hb.cell (block_lt_of_cell c2)).trans c2
      have Hn := Lib.hid (show s.least = s.all.length by
        have := s.kept_len
        have := LS.ahead_le s.kept
        simp only [LS.least, LS.low] at *
        omega)
      go_wp2
      go_ret
      exact ⟨ret_int (by rw [Hn.out]), hb⟩

theorem LedP.below {w w' : World} {F : Nat → Prop} {b : Nat} {s : LS} (h : LedP w F b s) (q : Below w.heap.size w w') : LedP w' F b s :=
  h.chg (chg_below q (F := fun _ => False)) (fun _ _ _ h => h) (fun _ _ h => h)
theorem LedP.mix {w : World} {F : Nat → Prop} {b : Nat} {s : LS} (h : LedP w F b s) (u : World) : LedP (mix w u) F b s := h.below (mix_below w u)
theorem LedP.dn {w : World} {F : Nat → Prop} {b : Nat} {s : LS} (h : LedP w F b s) {k : Nat} : LedP (w.drewN k) F b s := h.qt ⟨k, rfl⟩

theorem led_room (w : World) (F : Nat → Prop) (b : Nat) (s : LS) (h : LedP w F b s) :
    Calls Try.prog 34 #[.pointer (some ⟨b, 0, none⟩)] w fun e w' => e = .returned (.int .i64 s.room) ∧ Below w.heap.size w w' := by
  obtain ⟨A, c, Hb, c0, c1, c2, c3, -⟩ := h.cells
  have g := h.good
  have g1 := g.ring4
  have g2 := g.ring256
  have g3 := g.len
  have g4 := g.lim1
  have k1 := s.least_le
  have k2 := s.room_ge
  have k3 := s.room_le
  have Hr : Hid (s.room = s.ring - ((s.all.length : Int) - s.least)) := rfl
  have e := led_least
  have m0 := mixc c0
  have m2 := mixc c2
  have HM : Hid (∀ u, LedP (Go.Proofs.Yteigflkpopcjkaa.mix w u) F b s) := fun u => h.mix u
  clear g h e
  generalize s.room = rm at *
  go_enter Try.func34, Try.ntmps34
  go_wp2
  refine wp_region_below (by kernel_rfl) (by kernel_rfl) ?_
  repeat (first | go_big_quiet_step ((go_at_call 36; exact Calls.mix_of (led_least _ F b s (HM.out _)))) | quiet_step ((go_at_call 36; exact Calls.mix_of (led_least _ F b s (HM.out _)))))
  refine wpQuiet_nil ?_
  intro w1 b1
  go_wp2
  go_ret
  exact ⟨ret_int (by rw [Hr.out]), b1⟩

theorem led_all (w : World) (F : Nat → Prop) (b : Nat) (s : LS) (h : LedP w F b s) :
    Calls Try.prog 33 #[.pointer (some ⟨b, 0, none⟩)] w fun e w' => ∃ A c, e = .returned (.slice A s.kept.length c) ∧
      w'.ownsRow w.heap.size 32 8 (.slice A s.kept.length c) s.kept.length (Sns s.kept) ∧ Below w.heap.size w w' := by
  obtain ⟨i0, hi0, hz0, hz1, hz2⟩ := info_parts infoSent
  obtain ⟨A, c, Hb, c0, c1, c2, c3, ho, -⟩ := h.cells
  have g := h.good
  have g5 := s.kept_le
  have g2 := g.ring256
  have R := Rd.of_own ho
  go_enter Try.func33, Try.ntmps33
  go_wp2_with (
    at_builtin
    refine wpList_append_rd _ rfl (.const (.slice none 0 0)) (.tmp 8) 48 rfl w.heap.size 32 i0 _ 8 56 Try.underlying48 hi0 hz0 hz1 hz2 rfl (by decide) (.slice none 0 0) 0 [] rfl (World.ownsRow_nil _ _ _ _) A s.kept.length c (Sns s.kept) rfl R (Sns_one _) (by unfold maxLen; omega) (by omega) (Nat.le_refl _) ?_
    intro v2 w2 hown2 hg2 _
    have hb2 : Below w.heap.size w w2 := (Below.refl _ _).grown hg2 (Nat.le_refl _) (fun g hg => by simp [Value.ownBlock] at hg)
    rw [Nat.zero_add, List.nil_append] at hown2
    obtain ⟨A2, cc, hv, hA2⟩ := own_slice hown2
    subst hv)
  go_ret
  exact ⟨A2, cc, rfl, hown2, hb2⟩

end Go.Proofs.Yteigflkpopcjkaa
