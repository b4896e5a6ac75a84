/-
  The walk of LedgerTells.
-/
import Derived.Test.YteigflkpopcjkaaLedA
namespace Go.Proofs.Yteigflkpopcjkaa
set_option linter.unusedSimpArgs false
set_option linter.unusedVariables false
set_option linter.unnecessarySimpa false
open Go.RowKit

/-- The blocks behind w's, but one. -/
def But (w : World) (g : Nat) : Nat → Prop := fun j => w.heap.size ≤ j ∧ j ≠ g

structure TellRel (w : World) (p r g k : Nat) (s : LS) (wr : World) : Prop where
  two : Two wr (But w g) p r s
  t : wr.heap[g]? = some (.cells #[.pointer (some ⟨p, 0, none⟩), .pointer (some ⟨r, 0, none⟩)] 41 (0, 0))
  bel : Below w.heap.size w wr
  len : s.all.length ≤ k
theorem TellRel.below {w wr wr' : World} {p r g k : Nat} {s : LS} (h : TellRel w p r g k s wr) (b : Below wr.heap.size wr wr') : TellRel w p r g k s wr' :=
  ⟨h.two.below b, (b.block _ (lt_of_block h.t)).trans h.t, h.bel.trans (b.mono h.bel.size), h.len⟩
theorem TellRel.did {w wr wr' : World} {p r g k : Nat} {s s' : LS} (h : TellRel w p r g k s wr) (hT : Two wr' (Grow (But w g) wr) p r s') (hC : Chg (But w g) wr wr') {raw : Bool} (hn : LS.Next raw s s') : TellRel w p r g (k + 1) s' wr' := by
  have hg := lt_of_block h.t
  refine ⟨hT.sub (fun j _ hj => ?_), hC.blk h.t (fun e => e.2 rfl), h.bel.trans (hC.below h.bel.size (fun j hj e => by have := e.1; omega)), by have := hn.2.2.2.1; have := h.len; omega⟩
  rcases hj with hj | hj
  · exact hj
  · have := h.bel.size
    exact ⟨by omega, by omega⟩

set_option maxHeartbeats 4000000 in
set_option maxRecDepth 100000 in
theorem ledgerTells_any (ring limit : Int) (A : Option Addr) (n c : Nat) (l : List Dd) (raw : Bool) (w : World) (hr : Rd w 3 A n c (Ds l)) (hok : ∀ d ∈ l, d.ok) (hlim : isU64 limit) :
    Calls Try.prog 4 #[.int .i64 ring, .int .u64 limit, .slice A n c, .bool raw] w fun e w' => e = .returned (.bool true) ∧ Below w.heap.size w w' := by
  have hcap := hr.cap
  have hmax := hr.max
  unfold maxLen at hmax
  have hln := hr.deeds
  subst hln
  have HR := Lib.hid hr
  have OK := Lib.hid hok
  have HL := Lib.hid hlim
  clear hr hok hlim
  go_enter Try.func4, Try.ntmps4
  go_wp2_with fail
  refine (led_new ring limit _ HL.out).mono ?_
  rintro e w1 ⟨rfl, hL, b1⟩
  have s1 := hL.lt
  have L1 := Lib.hid hL
  have E1 := Lib.hid b1
  clear hL b1
  go_wp2_with fail
  refine (ledR_new ring limit _ HL.out).mono ?_
  rintro e w2 ⟨rfl, hL, b2⟩
  have s2 := hL.lt
  have PR := Lib.hid (Pair.mk (L1.out.below b2) hL (fun k h1 h2 => by omega) : Pair w2 _ _ _ _ _ _)
  have E2 := Lib.hid (E1.out.trans (b2.mono E1.out.size))
  clear hL b2 L1 E1
  generalize w1.heap.size = r at *
  have BX := Lib.hid (heap_alloc_new w2 (.cells #[.pointer (some ⟨w.heap.size, 0, none⟩), .pointer (some ⟨r, 0, none⟩)] 41))
  have hb3 := box_below w2 (.cells #[.pointer (some ⟨w.heap.size, 0, none⟩), .pointer (some ⟨r, 0, none⟩)] 41)
  have st : Hid (TellRel w w.heap.size r w2.heap.size 0 (LS.new ring limit) (w2.alloc (.cells #[.pointer (some ⟨w.heap.size, 0, none⟩), .pointer (some ⟨r, 0, none⟩)] 41))) := by
    refine ⟨((PR.out.below hb3).shut fun k _ hk => ?_), BX.out, E2.out.trans (hb3.mono E2.out.size), by simp [LS.new]⟩
    unfold But
    rcases hk with hk | hk <;> omega
  clear E2 PR hb3 s1 s2
  have hg3 := lt_of_block BX.out
  go_wp2_with fail
  generalize hW3 : w2.alloc (.cells #[.pointer (some ⟨w.heap.size, 0, none⟩), .pointer (some ⟨r, 0, none⟩)] 41) = w3 at *
  clear hW3
  generalize w2.heap.size = g at *
  generalize w.heap.size = p at *
  refine (ledAlive w3).mono ?_
  rintro e w4 ⟨rfl, b4⟩
  have ST := Lib.hid (st.out.below b4)
  have hg4 := lt_of_block ST.out.t
  have t0 := cell_of_row w4 g 0 _ _ _ ST.out.t
  have t1 := cell_of_row w4 g 1 _ _ _ ST.out.t
  clear b4 BX st
  by_cases h60 : 60 < l.length
  · go_wp2_with fail
    refine (ledAlive w4).mono ?_
    rintro e w5 ⟨rfl, b5⟩
    have S5 := Lib.hid (ST.out.below b5)
    have u0 := cell_of_row w5 g 0 _ _ _ S5.out.t
    have u1 := cell_of_row w5 g 1 _ _ _ S5.out.t
    go_wp2
    go_ret
    exact ⟨rfl, S5.out.bel⟩
  · have d60 : decide ((60 : Int) < (l.length : Int)) = false := by simp; omega
    go_wp2
    clear t0 t1
    go_loopw [10] (fun i wr => ∃ (k : Nat) (s : LS), k ≤ l.length ∧ i = .int .i64 k ∧ Hid (TellRel w p r g k s wr)) (fun i _ => l.length - (intOf i).toNat)
    case atStart => exact ⟨0, _, Nat.zero_le _, rfl, ST⟩
    case round =>
      obtain ⟨k, s, hk, rfl, HM⟩ := hrel
      have hsk := HM.out.len
      have hgs := lt_of_block HM.out.t
      have t0 := cell_of_row wr g 0 _ _ _ HM.out.t
      have t1 := cell_of_row wr g 1 _ _ _ HM.out.t
      by_cases hlt : k < l.length
      · obtain ⟨bb, off, rfl, d0, d1, d2⟩ := (HR.out.below (HM.out.bel)).deed hlt
        have od := OK.out l[k] (List.getElem_mem _)
        have i1 : (0 : Int) ≤ k := by omega
        have i2 : (k : Int) < l.length := by omega
        generalize l[k] = d at *
        have M0 := mixF_cell (F := But w g) t0 (fun h => h.2 rfl)
        have M1 := mixF_cell (F := But w g) t1 (fun h => h.2 rfl)
        have hbb : bb < w.heap.size := HR.out.lt (by omega) (by omega) bb off rfl
        have nb : ¬ But w g bb := fun h => by have := h.1; omega
        have D0 := mixF_cell (F := But w g) d0 nb
        have D1 := mixF_cell (F := But w g) d1 nb
        have D2 := mixF_cell (F := But w g) d2 nb
        have HM0 : Hid (TellRel w p r g k s wr.drew) := HM.out.below (Below.refl _ _).drew
        have UA := Lib.hid od.1
        have UB := Lib.hid od.2
        clear od t0 t1 d0 d1 d2
        go_wp2
        refine wp_region_chg (But w g) (by kernel_rfl) (by kernel_rfl) ?_
        repeat (refine wpMix_seg 1 _ _ rfl ?_; simp only [List.take_succ_cons, List.take_zero, List.drop_succ_cons, List.drop_zero]; go_big_quiet_step (fail); refine wpQuiet_nil ?_)
        refine wpMix_bar rfl (by rfl) ?_
        go_wp2_with fail
        refine (two_do _ (But w g) p r s d.kind d.a d.b raw HM0.out.two UA.out UB.out (by omega)).mono ?_
        rintro e w5 ⟨rfl, s', hT, hC, hn⟩
        have S5 := Lib.hid (HM0.out.did hT hC hn)
        have C5 : Hid (Chg (But w g) wr w5) := (Chg.refl _ wr).drew.step hC (fun _ _ h => h)
        clear hT hC hn HM0
        go_wp2
        refine ⟨chg_mixF C5.out, ?_⟩
        repeat (refine wpMix_seg 1 _ _ rfl ?_; simp only [List.take_succ_cons, List.take_zero, List.drop_succ_cons, List.drop_zero]; go_big_quiet_step (fail); refine wpQuiet_nil ?_)
        refine wpMix_bar rfl (by rfl) ?_
        go_wp2_with fail
        refine (two_same _ _ p r s' S5.out.two).mono ?_
        rintro e w6 ⟨rfl, b6⟩
        have S6 := Lib.hid (S5.out.below b6)
        have C6 := Lib.hid (C5.out.thenBelow b6 C5.out.size)
        clear b6 S5 C5
        go_wp2
        refine ⟨chg_mixF C6.out, ?_⟩
        repeat (refine wpMix_seg 1 _ _ rfl ?_; simp only [List.take_succ_cons, List.take_zero, List.drop_succ_cons, List.drop_zero]; go_big_quiet_step (fail); refine wpQuiet_nil ?_)
        refine wpMix_nil ?_
        go_wp2
        go_roundw
        case rel => exact ⟨k + 1, s', by omega, by go_num, S6⟩
        case measure => simp [intOf]; omega
      · go_wp2_with fail
        refine (two_same _ _ p r s HM.out.two).mono ?_
        rintro e w5 ⟨rfl, b5⟩
        have S5 := Lib.hid (HM.out.below b5)
        clear b5
        go_wp2
        go_ret
        exact ⟨rfl, S5.out.bel⟩

end Go.Proofs.Yteigflkpopcjkaa
