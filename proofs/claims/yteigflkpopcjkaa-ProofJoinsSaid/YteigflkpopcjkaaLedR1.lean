/-
  Walks of the reference's ledger: what only reads.
-/
import Derived.Test.YteigflkpopcjkaaLed5
namespace Go.Proofs.Yteigflkpopcjkaa
set_option linter.unusedSimpArgs false
set_option linter.unusedVariables false
set_option linter.unnecessarySimpa false
open Go.RowKit
attribute [local go_sem ↓] run_min_int run_max_int

structure LedR (w : World) (F : Nat → Prop) (b : Nat) (s : LS) : Prop where
  good : s.Good
  ex : ∃ A c, w.heap[b]? = some (.cells #[.int .i64 s.ring, .int .u64 s.limit, .slice A s.all.length c] 104 (0, 0)) ∧
    w.ownsRow 0 32 8 (.slice A s.all.length c) s.all.length (Sns s.all) ∧ F b ∧ ∀ g, (Value.slice A s.all.length c).ownBlock = some g → F g ∧ g ≠ b

theorem LedR.qt {w w' : World} {F : Nat → Prop} {b : Nat} {s : LS} (h : LedR w F b s) (q : Qt w w') : LedR w' F b s := by
  obtain ⟨g, A, c, h1, h2, h3⟩ := h
  exact ⟨g, A, c, q.blk h1, q.own h2, h3⟩
theorem LedR.chg {w w' : World} {F G H : Nat → Prop} {b : Nat} {s : LS} (h : LedR w F b s) (q : Chg G w w') (hd : ∀ k, k < w.heap.size → F k → ¬ G k) (hs : ∀ k, k < w.heap.size → F k → H k) : LedR w' H b s := by
  obtain ⟨g, A, c, h1, h2, h3, h4⟩ := h
  have hb := (Array.getElem?_eq_some_iff.1 h1).1
  exact ⟨g, A, c, q.blk h1 (hd _ hb h3), own_chg h2 q (fun k hk => hd k (h2.lt k hk).2 (h4 k hk).1), hs b hb h3, fun k hk => ⟨hs k (h2.lt k hk).2 (h4 k hk).1, (h4 k hk).2⟩⟩
theorem LedR.below {w w' : World} {F : Nat → Prop} {b : Nat} {s : LS} (h : LedR w F b s) (q : Below w.heap.size w w') : LedR w' F b s :=
  h.chg (chg_below q (F := fun _ => False)) (fun _ _ _ h => h) (fun _ _ h => h)
theorem LedR.dn {w : World} {F : Nat → Prop} {b : Nat} {s : LS} (h : LedR w F b s) {k : Nat} : LedR (w.drewN k) F b s := h.qt ⟨k, rfl⟩
theorem LedR.cells {w : World} {F : Nat → Prop} {b : Nat} {s : LS} (h : LedR w F b s) : ∃ A c,
    Hid (w.heap[b]? = some (.cells #[.int .i64 s.ring, .int .u64 s.limit, .slice A s.all.length c] 104 (0, 0))) ∧
    w.cell? ⟨b, 0, none⟩ = some (.int .i64 s.ring) ∧ w.cell? ⟨b, 1, none⟩ = some (.int .u64 s.limit) ∧ w.cell? ⟨b, 2, none⟩ = some (.slice A s.all.length c) ∧
    w.ownsRow 0 32 8 (.slice A s.all.length c) s.all.length (Sns s.all) ∧ F b ∧ ∀ g, (Value.slice A s.all.length c).ownBlock = some g → F g ∧ g ≠ b := by
  obtain ⟨g, A, c, h1, h2, h3⟩ := h
  exact ⟨A, c, h1, cell_of_row w b 0 _ _ _ h1, cell_of_row w b 1 _ _ _ h1, cell_of_row w b 2 _ _ _ h1, h2, h3⟩

theorem ledR_next (w : World) (F : Nat → Prop) (b : Nat) (s : LS) (h : LedR w F b s) :
    Calls Try.prog 42 #[.pointer (some ⟨b, 0, none⟩)] w fun e w' => e = .returned (.int .u64 s.all.length) ∧ Qt w w' := by
  obtain ⟨A, c, Hb, c0, c1, c2, -⟩ := h.cells
  have g3 := h.good.len
  have g4 := h.good.lim1
  clear h
  go_enter Try.func42, Try.ntmps42
  go_wp2
  go_ret
  exact ⟨rfl, Qt.refl _⟩

theorem ledR_low (w : World) (F : Nat → Prop) (b : Nat) (s : LS) (h : LedR w F b s) :
    Calls Try.prog 58 #[.pointer (some ⟨b, 0, none⟩)] w fun e w' => e = .returned (.int .u64 s.low) ∧ Qt w w' := by
  obtain ⟨A, c, Hb, c0, c1, c2, -⟩ := h.cells
  have g := h.good
  have g1 := g.ring4
  have g2 := g.ring256
  have g3 := g.len
  have g4 := g.lim1
  have Hd := Lib.hid (show (s.low : Int) = max 0 ((s.all.length : Int) - s.ring) by unfold LS.low; omega)
  clear g h
  generalize s.low = d at *
  generalize s.ring = r at *
  generalize s.all.length = n at *
  go_enter Try.func58, Try.ntmps58
  go_wp2
  refine wp_region_qt (by kernel_rfl) (by kernel_rfl) ?_
  repeat (go_big_quiet_step (fail))
  refine wpQuiet_nil ?_
  intro w1 q1
  go_wp2
  go_ret
  exact ⟨ret_int (by rw [Hd.out]), q1⟩

theorem ledR_least (w : World) (F : Nat → Prop) (b : Nat) (s : LS) (h : LedR w F b s) :
    Calls Try.prog 69 #[.pointer (some ⟨b, 0, none⟩)] w fun e w' => e = .returned (.int .u64 s.least) ∧ Qt w w' := by
  have H := Lib.hid h
  have g3 := h.good.len
  have g4 := h.good.lim1
  have k1 := s.low_le
  have k2 := s.low_least
  have k3 := s.least_le
  have HL : Hid (s.least = s.low + LS.ahead s.kept) := rfl
  have HK := Lib.hid s.kept_len
  have HK2 : Hid (s.low = s.all.length - s.ring) := rfl
  clear h
  go_enter Try.func69, Try.ntmps69
  go_wp2_with fail
  refine (ledR_low _ F b s H.out).mono ?_
  rintro e w1 ⟨rfl, q1⟩
  obtain ⟨A, c, Hb, c0, c1, c2, ho, -⟩ := (H.out.qt q1).cells
  have R := Rd.of_own ho
  clear ho
  go_wp2
  go_loop [3] (fun i => ∃ j : Nat, s.low ≤ j ∧ j ≤ s.least ∧ i = .int .i64 j) (fun i => s.all.length - (intOf i).toNat)
  case atStart => exact ⟨s.low, Nat.le_refl _, k2, rfl⟩
  case round =>
    obtain ⟨j, hj1, hj2, rfl⟩ := hrel
    by_cases hlt : j < s.all.length
    · obtain ⟨bb, off, rfl, d0, d1, d2, d3, d4, d5, d6, d7⟩ := R.snt hlt
      by_cases hf : j < s.least
      · have hs : s.all[j].state ≠ 1 := by
          have h1 : j - s.low < LS.ahead s.kept := by have := HL.out; omega
          have h2 : j - s.low < s.kept.length := by have := HK.out; have := HK2.out; omega
          have h3 := LS.ahead_lt h1 h2
          rw [s.kept_get h2] at h3
          have e : s.low + (j - s.low) = j := by omega
          simpa [e] using h3
        go_wp2
        go_round
        case rel => exact ⟨j + 1, by omega, by omega, by go_num⟩
        case measure => simp [intOf]; omega
      · have hs : s.all[j].state = 1 := by
          have h2 : LS.ahead s.kept < s.kept.length := by have := HK.out; have := HK2.out; have := HL.out; omega
          have h3 := LS.ahead_at h2
          rw [s.kept_get h2] at h3
          have e : s.low + LS.ahead s.kept = j := by have := HL.out; omega
          simpa [e] using h3
        obtain rfl : j = s.least := by omega
        go_wp2
        go_ret
        exact ⟨rfl, q1⟩
    · obtain rfl : j = s.least := by omega
      have Hn := Lib.hid (show s.all.length = s.least by omega)
      go_wp2
      go_ret
      exact ⟨ret_int (by rw [Hn.out]), q1⟩

theorem ledR_room (w : World) (F : Nat → Prop) (b : Nat) (s : LS) (h : LedR w F b s) :
    Calls Try.prog 70 #[.pointer (some ⟨b, 0, none⟩)] w fun e w' => e = .returned (.int .i64 s.room) ∧ Qt w w' := by
  obtain ⟨A, c, Hb, c0, c1, c2, -⟩ := h.cells
  have g := h.good
  have g1 := g.ring4
  have g2 := g.ring256
  have g3 := g.len
  have g4 := g.lim1
  have k1 := s.least_le
  have k2 := s.room_ge
  have k3 := s.room_le
  have Hr : Hid (s.room = s.ring - ((s.all.length : Int) - s.least)) := rfl
  have H := Lib.hid h
  clear g h
  generalize s.room = rm at *
  go_enter Try.func70, Try.ntmps70
  go_wp2
  refine wp_region_qt (by kernel_rfl) (by kernel_rfl) ?_
  repeat (first | go_big_quiet_step ((first | (go_at_call 69; exact Qt.callN (ledR_least _ F b s H.out.dn)) | (go_at_call 42; exact Qt.callN (ledR_next _ F b s H.out.dn)))) | quiet_step ((first | (go_at_call 69; exact Qt.callN (ledR_least _ F b s H.out.dn)) | (go_at_call 42; exact Qt.callN (ledR_next _ F b s H.out.dn)))))
  refine wpQuiet_nil ?_
  intro w1 q1
  go_wp2
  go_ret
  exact ⟨ret_int (by rw [Hr.out]), q1⟩

set_option maxHeartbeats 800000 in
theorem ledR_flight (w : World) (F : Nat → Prop) (b : Nat) (s : LS) (h : LedR w F b s) :
    Calls Try.prog 71 #[.pointer (some ⟨b, 0, none⟩)] w fun e w' => e = .returned (.int .u64 s.flight) ∧ Qt w w' := by
  have H := Lib.hid h
  have G := Lib.hid h.good
  have g3 := h.good.len
  have g4 := h.good.lim1
  have k1 := s.low_le
  have g5 := s.kept_le
  have g2 := h.good.ring256
  have HK := Lib.hid s.kept_len
  have HK2 : Hid (s.low = s.all.length - s.ring) := rfl
  clear h
  go_enter Try.func71, Try.ntmps71
  go_wp2_with fail
  refine (ledR_low _ F b s H.out).mono ?_
  rintro e w1 ⟨rfl, q1⟩
  obtain ⟨A, c, Hb, c0, c1, c2, ho, -⟩ := (H.out.qt q1).cells
  have R := Rd.of_own ho
  clear ho
  go_wp2
  go_loop [3, 4] (fun a i => ∃ (j : Nat) (q : Int), s.low ≤ j ∧ j ≤ s.all.length ∧ i = .int .i64 j ∧ a = .int .u64 q ∧ Hid (q = LS.fly (s.kept.take (j - s.low)))) (fun _ i => s.all.length - (intOf i).toNat)
  case atStart => exact ⟨s.low, 0, Nat.le_refl _, k1, rfl, rfl, by show _ = _; simp [LS.fly]⟩
  case round =>
    obtain ⟨j, q, hj1, hj2, rfl, rfl, Hq⟩ := hrel
    have hq := LS.fly_nonneg (l := s.kept.take (j - s.low)) (fun x hx => G.out.keptFly x (List.mem_of_mem_take hx))
    rw [← Hq.out] at hq
    obtain ⟨q0, q2⟩ := hq
    simp only [List.length_take] at q2
    by_cases hlt : j < s.all.length
    · obtain ⟨bb, off, rfl, d0, d1, d2, d3, d4, d5, d6, d7⟩ := R.snt hlt
      have hk2 : j - s.low < s.kept.length := by have := HK.out; have := HK2.out; omega
      have Ht := Lib.hid (fly_take s.kept (j - s.low) hk2)
      have ek : s.kept[j - s.low] = s.all[j] := by
        rw [s.kept_get hk2]
        congr 1
        omega
      have Hn : Hid (LS.fly (s.kept.take (j + 1 - s.low)) = LS.fly (s.kept.take (j - s.low)) + (if s.all[j].state = 1 then s.all[j].len else 0)) := by
        show _ = _
        rw [show j + 1 - s.low = j - s.low + 1 by omega, Ht.out, ek]
      have hx := G.out.fly s.all[j] (List.getElem_mem _)
      clear Ht ek
      generalize s.all[j] = x at *
      by_cases hf : x.state = 1
      · obtain ⟨x0, x1⟩ := hx hf
        have Hf := Lib.hid hf
        clear hx
        go_wp2
        go_round
        case rel => exact ⟨j + 1, _, by omega, by omega, by go_num, rfl, (by rw [Hn.out, if_pos Hf.out, Hq.out] : _ = _)⟩
        case measure => simp [intOf]; omega
      · have Hf := Lib.hid hf
        clear hx
        go_wp2
        go_round
        case rel => exact ⟨j + 1, _, by omega, by omega, by go_num, rfl, (by rw [Hn.out, if_neg Hf.out, Hq.out]; omega : _ = _)⟩
        case measure => simp [intOf]; omega
    · go_wp2
      go_ret
      exact ⟨ret_int (by rw [Hq.out, List.take_of_length_le (by have := HK.out; have := HK2.out; omega)]; rfl), q1⟩

theorem ledR_new (ring limit : Int) (w : World) (hl : isU64 limit) :
    Calls Try.prog 29 #[.int .i64 ring, .int .u64 limit] w fun e w' => e = .returned (.pointer (some ⟨w.heap.size, 0, none⟩)) ∧
      LedR w' (fun k => k = w.heap.size) w.heap.size (LS.new ring limit) ∧ Below w.heap.size w w' := by
  have gd := Lib.hid (LS.Good.new ring limit hl.1)
  have He := Lib.hid (show (((LS.new ring limit).ring : Nat) : Int) = max 4 (min ring 256) by simp only [LS.new]; omega)
  have Hl := Lib.hid (show (LS.new ring limit).limit = min limit 4611686018427387903 from rfl)
  go_enter Try.func29, Try.ntmps29
  go_wp2
  go_ret
  refine ⟨rfl, ⟨gd.out, none, 0, ?_⟩, (Below.refl _ _).alloc (Nat.le_refl _) _⟩
  refine ⟨?_, World.ownsRow_nil _ _ _ _, rfl, fun k hk => by cases hk⟩
  rw [He.out, Hl.out]
  exact heap_alloc_new w _

end Go.Proofs.Yteigflkpopcjkaa
