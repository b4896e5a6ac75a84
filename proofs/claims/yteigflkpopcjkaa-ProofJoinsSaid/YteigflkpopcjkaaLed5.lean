/-
  Walks of package ledger: Flight, New, Fork.
-/
import Derived.Test.YteigflkpopcjkaaLed4
import Derived.Test.YteigflkpopcjkaaSat
namespace Go.Proofs.Yteigflkpopcjkaa
set_option linter.unusedSimpArgs false
set_option linter.unusedVariables false
set_option linter.unnecessarySimpa false
open Go.RowKit
attribute [local go_sem ↓] run_min_int run_max_int

theorem fly_take (l : List Snt) (k : Nat) (h : k < l.length) : LS.fly (l.take (k + 1)) = LS.fly (l.take k) + (if l[k].state = 1 then l[k].len else 0) := by
  rw [List.take_succ_eq_append_getElem h, LS.fly_snoc]

set_option maxHeartbeats 1600000 in
theorem led_flight (w : World) (F : Nat → Prop) (b : Nat) (s : LS) (h : LedP w F b s) :
    Calls Try.prog 35 #[.pointer (some ⟨b, 0, none⟩)] w fun e w' => e = .returned (.int .u64 s.flight) ∧ Below w.heap.size w w' := by
  obtain ⟨A, c, Hb, c0, c1, c2, c3, ho, -⟩ := h.cells
  have g := h.good
  have g5 := s.kept_le
  have g2 := g.ring256
  have R := Rd.of_own ho
  clear ho
  have Hk := Lib.hid g
  clear g
  go_enter Try.func35, Try.ntmps35
  go_wp2
  go_loopw [3, 13] (fun a i wr => ∃ (k : Nat) (q : Int), k ≤ s.kept.length ∧ i = .int .i64 k ∧ a = .int .u64 q ∧ Hid (q = LS.fly (s.kept.take k)) ∧ Below w.heap.size w wr) (fun _ i _ => s.kept.length - (intOf i).toNat)
  case atStart => exact ⟨0, 0, Nat.zero_le _, rfl, rfl, rfl, Below.refl _ _⟩
  case round =>
    obtain ⟨k, q, hk, rfl, rfl, Hq, hb⟩ := hrel
    by_cases hlt : k < s.kept.length
    · obtain ⟨bb, off, rfl, d0, d1, d2, d3, d4, d5, d6, d7⟩ := (R.below hb).snt hlt
      have Ht := Lib.hid (fly_take s.kept k hlt)
      have hq := LS.fly_nonneg (l := s.kept.take k) (fun x hx => Hk.out.keptFly x (List.mem_of_mem_take hx))
      rw [← Hq.out] at hq
      obtain ⟨q0, q1⟩ := hq
      simp only [List.length_take] at q1
      have hx := Hk.out.keptFly s.kept[k] (List.getElem_mem _)
      by_cases hf : s.kept[k].state = 1
      · obtain ⟨x0, x1⟩ := hx hf
        generalize hx2 : s.kept[k] = x at *
        have Hx2 := Lib.hid hx2
        have Hf := Lib.hid hf
        clear hx hx2
        have HM := Lib.hid (show min (q + x.len) 18446744073709551615 = q + x.len by omega)
        go_wp2_with fail
        refine (sat_add q x.len _ ⟨by omega, by omega⟩ ⟨by omega, by omega⟩).mono ?_
        rw [HM.out]
        rintro e w1 ⟨rfl, q1⟩
        go_wp2
        go_roundw
        case rel => exact ⟨k + 1, _, by omega, by go_num, rfl, (by rw [Hq.out, Ht.out, if_pos Hf.out] : _ = _), (hb.alloc hb.size _).trans q1.below⟩
        case measure => simp [intOf]; omega
      · have Hf := Lib.hid hf
        clear hx
        go_wp2
        go_roundw
        case rel => exact ⟨k + 1, _, by omega, by go_num, rfl, (by rw [Hq.out, Ht.out, if_neg Hf.out]; omega : _ = _), hb.alloc hb.size _⟩
        case measure => simp [intOf]; omega
    · obtain rfl : k = s.kept.length := by omega
      go_wp2
      go_ret
      exact ⟨ret_int (by rw [Hq.out, List.take_length]; rfl), hb⟩

theorem led_new (ring limit : Int) (w : World) (hl : isU64 limit) :
    Calls Try.prog 21 #[.int .i64 ring, .int .u64 limit] w fun e w' => e = .returned (.pointer (some ⟨w.heap.size, 0, none⟩)) ∧
      LedP w' (fun k => k = w.heap.size) w.heap.size (LS.new ring limit) ∧ Below w.heap.size w w' := by
  have gd := Lib.hid (LS.Good.new ring limit hl.1)
  have He := Lib.hid (show (((LS.new ring limit).ring : Nat) : Int) = max 4 (min ring 256) by simp only [LS.new]; omega)
  have Hl := Lib.hid (show (LS.new ring limit).limit = min limit 4611686018427387903 from rfl)
  go_enter Try.func21, Try.ntmps21
  go_wp2
  go_ret
  refine ⟨rfl, ⟨gd.out, none, 0, ?_⟩, (Below.refl _ _).alloc (Nat.le_refl _) _⟩
  have hk : (LS.new ring limit).kept = [] := by simp [LS.kept, LS.new]
  rw [hk]
  refine ⟨?_, World.ownsRow_nil _ _ _ _, rfl, fun k hk => by cases hk⟩
  rw [He.out, Hl.out]
  exact heap_alloc_new w _

end Go.Proofs.Yteigflkpopcjkaa
