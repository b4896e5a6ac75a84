/-
  The walk of QueueForks.
-/
import Derived.Test.YtilgekmpkoohaaaQueA
import Derived.Test.YtilgekmpkoohaaaFork
import Derived.Deep.RegionHeld3
import Derived.Deep.DeepCutAuto
namespace Go.Proofs.Ytilgekmpkoohaaa
set_option linter.unusedSimpArgs false
set_option linter.unusedVariables false
set_option linter.unnecessarySimpa false
open Go.RowKit

theorem que_fork2 (w : World) (F : Nat → Prop) (q : Nat) (s : QS) (h : QueP w F q s) :
    Calls Try.prog 21 #[.pointer (some ⟨q, 0, none⟩)] w fun e w' => ∃ q', e = .returned (.pointer (some ⟨q', 0, none⟩)) ∧ QueP w' (fun k => w.heap.size ≤ k) q' s ∧ Below w.heap.size w w' :=
  (que_fork w F q s h).mono fun e w' ⟨h1, h2, h3⟩ => ⟨_, h1, h2, h3⟩

set_option maxHeartbeats 8000000 in
set_option maxRecDepth 100000 in
theorem queueForks_any (room : Int) (A B : Option Addr) (n m c d : Nat) (l more : List Dd) (w : World) (hr : Rd w 3 A n c (Ds l)) (hr2 : Rd w 3 B m d (Ds more)) (hok : ∀ d ∈ l, d.ok) (hok2 : ∀ d ∈ more, d.ok) (hroom : 0 ≤ room ∧ room ≤ 255) :
    Calls Try.prog 7 #[.int .u8 room, .slice A n c, .slice B m d] w fun e w' => e = .returned (.bool true) ∧ Below w.heap.size w w' := by
  obtain ⟨r0, r1⟩ := hroom
  have hcap := hr2.cap
  have hmax := hr2.max
  unfold maxLen at hmax
  have hln := hr2.deeds
  subst hln
  have M := Lib.hid (makeQ room A n c l w hr hok)
  have HR2 := Lib.hid hr2
  have OK2 := Lib.hid hok2
  clear hr hok hr2 hok2
  go_enter Try.func7, Try.ntmps7
  go_wp2_with fail
  refine M.out.mono ?_
  rintro e w1 ⟨p, r, s, rfl, hT, hb1, -, hlen⟩
  have eb := box_below w1 (.cells #[.pointer (some ⟨p, 0, none⟩), .pointer (some ⟨r, 0, none⟩)] 26)
  have T1 : Hid (TwoQ (w1.alloc (.cells #[.pointer (some ⟨p, 0, none⟩), .pointer (some ⟨r, 0, none⟩)] 26)) (fun j => w.heap.size ≤ j ∧ j < w1.heap.size) p r s) := (hT.sub (fun j hj h => ⟨h, hj⟩)).below QP.stays QR.stays eb
  have X1 := Lib.hid (heap_alloc_new w1 (.cells #[.pointer (some ⟨p, 0, none⟩), .pointer (some ⟨r, 0, none⟩)] 26))
  have B1 := Lib.hid (hb1.trans (eb.mono hb1.size))
  have O1 := Lib.hid hb1.size
  clear hT eb hb1 M
  go_wp2_with fail
  generalize hW : (w1.alloc (.cells #[.pointer (some ⟨p, 0, none⟩), .pointer (some ⟨r, 0, none⟩)] 26)) = w2 at *
  clear hW
  generalize w1.heap.size = g at *
  refine (queAlive w2).mono ?_
  rintro e w3 ⟨rfl, b⟩
  have T3 := Lib.hid (T1.out.below QP.stays QR.stays b)
  have X3 := Lib.hid ((b.block _ (lt_of_block X1.out)).trans X1.out)
  have B3 := Lib.hid (B1.out.trans (b.mono B1.out.size))
  clear b T1 X1 B1
  by_cases h40 : 40 < more.length
  · go_wp2_with fail
    refine (queAlive w3).mono ?_
    rintro e w4 ⟨rfl, b⟩
    go_wp2
    go_ret
    exact ⟨rfl, B3.out.trans (b.mono B3.out.size)⟩
  · have d40 : decide ((40 : Int) < (more.length : Int)) = false := by simp; omega
    have t0 : w3.cell? ⟨g, 0, none⟩ = some (.pointer (some ⟨p, 0, none⟩)) := cell_of_row w3 g 0 _ _ _ X3.out
    have t1 : w3.cell? ⟨g, 1, none⟩ = some (.pointer (some ⟨r, 0, none⟩)) := cell_of_row w3 g 1 _ _ _ X3.out
    have gl : g < w3.heap.size := lt_of_block X3.out
    have ng3 : w3.heap.size ≠ g := by omega
    have ng3' : g ≠ w3.heap.size := by omega
    obtain ⟨G, H, hP, hF⟩ := T3.out
    have HP := Lib.hid hP
    clear hP hF
    have KP := Lib.hid (fun (W : World) (b : Below w3.heap.size w3 W) => que_fork2 W G p s (QueP.below HP.out.p b))
    have KR := Lib.hid (fun (W : World) (b : Below w3.heap.size w3 W) => quR_fork W H r s (QuRP.below HP.out.r b))
    go_upto_region 4 with fail
    go_cut [9] (fun s9 wx => ∃ q t h : Nat, s9 = .pointer (some ⟨h, 0, none⟩) ∧ ForkMid2 (QP q s) (QR t s) 26 w3 q t h wx)
    case first =>
      go_region_held3 (fun W => W.cell? ⟨g, 0, none⟩ = some (.pointer (some ⟨p, 0, none⟩)) ∧ W.cell? ⟨g, 1, none⟩ = some (.pointer (some ⟨r, 0, none⟩)))
        (all_goals (first | (go_keep; done) | (simp [*, World.cell?_alloc_lt]; done) | (simp [*, World.cell?_alloc_lt, World.cell?_setCell_other]; done)))
        (first
          | ((go_at_call 21; refine Calls.mono (KP.out _ ?_) ?_; (focus (repeat (first | exact Below.refl _ _ | exact bA1 | (refine Below.alloc ?_ (by first | exact Nat.le_refl _ | omega | (simp; omega)) _) | (refine Below.drew ?_)))); rintro e vA ⟨q, rfl, hL1, bA⟩; have bA1 : Below w3.heap.size w3 vA := Below.trans (by repeat (first | exact Below.refl _ _ | exact bA1 | (refine Below.alloc ?_ (by first | exact Nat.le_refl _ | omega | (simp; omega)) _) | (refine Below.drew ?_))) (bA.mono (by first | exact Nat.le_refl _ | (simp; done) | (simp; omega))); have zA := bA.size; (try simp at zA); (try have lA : w3.heap.size < vA.heap.size := (by omega)); have sA : w3.heap.size ≤ vA.heap.size := bA1.size; have gA : g < vA.heap.size := Nat.lt_of_lt_of_le gl sA; obtain ⟨hcA, hfA⟩ := bcell2 bA; have cA : ∀ o, vA.cell? ⟨g, o, none⟩ = w3.cell? ⟨g, o, none⟩ := (fun o => bA1.cell (by exact gl)); have ngA : g ≠ vA.heap.size := Nat.ne_of_lt gA; have ngA' : vA.heap.size ≠ g := Nat.ne_of_gt gA))
          | (go_at_call 22; refine Calls.mono (KR.out _ ?_) ?_; (focus (repeat (first | exact Below.refl _ _ | exact bA1 | (refine Below.alloc ?_ (by first | exact Nat.le_refl _ | omega | (simp; omega)) _) | (refine Below.drew ?_)))); rintro e vB ⟨t, rfl, hL2, bB⟩; have bB1 : Below w3.heap.size w3 vB := Below.trans (by repeat (first | exact Below.refl _ _ | exact bA1 | (refine Below.alloc ?_ (by first | exact Nat.le_refl _ | omega | (simp; omega)) _) | (refine Below.drew ?_))) (bB.mono (by first | exact sA | (simp; omega))); have zB := bB.size; (try simp at zB); (try have lB : w3.heap.size < vB.heap.size := (by omega)); (try have lB' : vA.heap.size < vB.heap.size := (by omega)); have sB : w3.heap.size ≤ vB.heap.size := bB1.size; have gB : g < vB.heap.size := Nat.lt_of_lt_of_le gl sB; obtain ⟨hcB, hfB⟩ := bcell2 bB; have cB : ∀ o, vB.cell? ⟨g, o, none⟩ = w3.cell? ⟨g, o, none⟩ := (fun o => bB1.cell (by exact gl)); have ngB : g ≠ vB.heap.size := Nat.ne_of_lt gB; have ngB' : vB.heap.size ≠ g := Nat.ne_of_gt gB))
      · go_wp2_with fail
        go_meet
        exact ⟨q, t, _, rfl, ForkMid2.last (P := QP q s) (R := QR t s) QP.stays QR.stays (QP.stays.below (P := QP q s) (QP.stays.sub (P := QP q s) (G := fun k => w3.heap.size ≤ k ∧ k < vA.heap.size) hL1 (fun k hk h => ⟨h, hk⟩)) bB) hL2 (fun k _ h1 h2 => by omega) (fun k _ h => h.1) (fun k _ h => by omega) bB1⟩
      · go_wp2_with fail
        go_meet
        have hx := (bB.block _ (by simp)).trans (heap_alloc_new vA (.cells #[.pointer none, .pointer none] 26))
        refine ⟨q, t, _, rfl, ForkMid2.mk_ (P := QP q s) (R := QR t s) QP.stays QR.stays (QP.stays.below (P := QP q s) (QP.stays.below (P := QP q s) (QP.stays.sub (P := QP q s) (G := fun k => w3.heap.size ≤ k ∧ k < vA.heap.size) hL1 (fun k hk h => ⟨h, hk⟩)) (box_below _ _)) bB) hL2 ?_ ?_ ?_ hx bB1 sA⟩
        · intro k _ h1 h2; simp at h2; omega
        · intro k _ h; omega
        · intro k _ h; simp at h; omega
      · go_wp2_with fail
        go_meet
        have hx0 := (bA.block _ (by simp)).trans (heap_alloc_new w3.drew (.cells #[.pointer none, .pointer none] 26))
        have hx := (bB.block _ (lt_of_block hx0)).trans hx0
        refine ⟨q, t, _, rfl, ForkMid2.mk_ (P := QP q s) (R := QR t s) QP.stays QR.stays (QP.stays.below (P := QP q s) (QP.stays.sub (P := QP q s) (G := fun k => w3.heap.size + 1 ≤ k ∧ k < vA.heap.size) hL1 (fun k hk h => ⟨by simpa using h, hk⟩)) bB) hL2 ?_ ?_ ?_ hx bB1 (Nat.le_refl _)⟩
        · intro k _ h1 h2; omega
        · intro k _ h; omega
        · intro k _ h; omega
    case rest =>
      obtain ⟨q, t, h, rfl, FM⟩ := hcut
      have F0 : Hid (ForkRel2 (QP p s) (QR r s) (QP q s) (QR t s) 26 w w3 p r g q t h wc) :=
        ⟨T3.out.below QP.stays QR.stays FM.bel, FM.two, (FM.bel.block _ gl).trans X3.out, FM.b2, B3.out.trans (FM.bel.mono B3.out.size), O1.out, gl, FM.ge⟩
      clear FM t0 t1 HP T3 X3 B3 ng3 ng3' gl KP KR
      have t0 := cell_of_row wc h 0 _ _ _ F0.out.b2
      have t1 := cell_of_row wc h 1 _ _ _ F0.out.b2
      go_wp2_with fail
      refine (two_sameQ _ _ q t s 5 F0.out.two (by omega)).mono ?_
      rintro e w5 ⟨rfl, b⟩
      have F5 := Lib.hid (F0.out.below QP.stays QR.stays QP.stays QR.stays b)
      clear b F0 t0 t1
      go_wp2_with fail
      go_loopw [51] (fun i wr => ∃ (k : Nat) (u : QS), k ≤ more.length ∧ i = .int .i64 k ∧ u.b.length ≤ 1200 + 20 * k ∧ Hid (ForkRel2 (QP p s) (QR r s) (QP q u) (QR t u) 26 w w3 p r g q t h wr)) (fun i _ => more.length - (intOf i).toNat)
      case atStart => exact ⟨0, s, Nat.zero_le _, rfl, by omega, F5⟩
      case round =>
        obtain ⟨k, u, hk, rfl, hul, HM⟩ := hrel
        have hgs := lt_of_block HM.out.b2
        have t0 := cell_of_row wr h 0 _ _ _ HM.out.b2
        have t1 := cell_of_row wr h 1 _ _ _ HM.out.b2
        by_cases hlt : k < more.length
        · obtain ⟨bb, off, rfl, d0, d1, d2⟩ := (HR2.out.below (HM.out.bel)).deed hlt
          have od := OK2.out more[k] (List.getElem_mem _)
          have i1 : (0 : Int) ≤ k := by omega
          have i2 : (k : Int) < more.length := by omega
          generalize more[k] = d at *
          go_wp2_with fail
          refine (two_doQ _ _ q t u _ d.a d.b (HM.out.two.below QP.stays QR.stays (box_below wr _)) od.1 od.2 (by omega)).mono ?_
          rintro e w6 ⟨rfl, u', hT, hC, hn⟩
          have S6 := Lib.hid ((HM.out.below QP.stays QR.stays QP.stays QR.stays (box_below wr _)).did (P2 := QP q u') (R2 := QR t u') QP.stays QR.stays hT hC)
          have HN := hn.2
          clear hT hC hn t0 t1 d0 d1 d2
          go_wp2
          go_roundw
          case rel => exact ⟨k + 1, u', by omega, by go_num, by omega, S6⟩
          case measure => simp [intOf]; omega
        · go_wp2_with fail
          refine (two_sameQ _ _ q t u 5 HM.out.two (by omega)).mono ?_
          rintro e w6 ⟨rfl, b⟩
          have S6 := Lib.hid (HM.out.below QP.stays QR.stays QP.stays QR.stays b)
          clear b t0 t1
          have t0 := cell_of_row w6 g 0 _ _ _ S6.out.b1
          have t1 := cell_of_row w6 g 1 _ _ _ S6.out.b1
          go_wp2_with fail
          refine (two_sameQ _ _ p r s 5 S6.out.one (by omega)).mono ?_
          rintro e w7 ⟨rfl, b⟩
          have hb := S6.out.bel.trans (b.mono S6.out.bel.size)
          clear b
          go_wp2
          go_ret
          exact ⟨rfl, hb⟩

end Go.Proofs.Ytilgekmpkoohaaa
