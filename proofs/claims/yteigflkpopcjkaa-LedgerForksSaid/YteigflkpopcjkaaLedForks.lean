/-
  The walk of LedgerForks.
-/
import Derived.Test.YteigflkpopcjkaaLedTells
import Derived.Deep.RegionHeld3
import Derived.Deep.DeepCutAuto
namespace Go.Proofs.Yteigflkpopcjkaa
set_option linter.unusedSimpArgs false
set_option linter.unusedVariables false
set_option linter.unnecessarySimpa false
open Go.RowKit

/-- Two pairs, each in blocks of its own, each in a box. -/
structure ForkRel (w : World) (F E : Nat → Prop) (p r g q t h : Nat) (k : Nat) (s u : LS) (v : World) : Prop where
  one : Two v F p r s
  two : Two v E q t u
  dj : ∀ j, E j → ¬ F j
  ng : ∀ j, F j → j ≠ g ∧ j ≠ h ∧ w.heap.size ≤ j ∧ j < g
  nh : ∀ j, E j → j ≠ g ∧ j ≠ h ∧ w.heap.size ≤ j
  b1 : v.heap[g]? = some (.cells #[.pointer (some ⟨p, 0, none⟩), .pointer (some ⟨r, 0, none⟩)] 41 (0, 0))
  b2 : v.heap[h]? = some (.cells #[.pointer (some ⟨q, 0, none⟩), .pointer (some ⟨t, 0, none⟩)] 41 (0, 0))
  bel : Below w.heap.size w v
  len : u.all.length ≤ k
theorem ForkRel.below {w v v' : World} {F E : Nat → Prop} {p r g q t h k : Nat} {s u : LS} (R : ForkRel w F E p r g q t h k s u v) (b : Below v.heap.size v v') : ForkRel w F E p r g q t h k s u v' :=
  ⟨R.one.below b, R.two.below b, R.dj, R.ng, R.nh, (b.block _ (lt_of_block R.b1)).trans R.b1, (b.block _ (lt_of_block R.b2)).trans R.b2, R.bel.trans (b.mono R.bel.size), R.len⟩
theorem ForkRel.did {raw : Bool} {w v v' : World} {F E : Nat → Prop} {p r g q t h k : Nat} {s u u' : LS} (R : ForkRel w F E p r g q t h k s u v) (hT : Two v' (Grow E v) q t u') (hC : Chg E v v') (hn : LS.Next raw u u') :
    ForkRel w F (fun j => Grow E v j) p r g q t h (k + 1) s u' v' := by
  have hg := lt_of_block R.b1
  have hh := lt_of_block R.b2
  refine ⟨R.one.chg hC (fun j _ hf he => R.dj j he hf), hT, fun j hj hf => ?_, R.ng, fun j hj => ?_, hC.blk R.b1 (fun e => (R.nh _ e).1 rfl), hC.blk R.b2 (fun e => (R.nh _ e).2.1 rfl), R.bel.trans (hC.below R.bel.size (fun j hj e => by have := (R.nh j e).2.2; omega)), by have := hn.2.2.2.1; have := R.len; omega⟩
  · rcases hj with hj | hj
    · exact R.dj j hj hf
    · have := (R.ng j hf).2.2.2; omega
  · rcases hj with hj | hj
    · exact R.nh j hj
    · have := R.bel.size
      exact ⟨by omega, by omega, by omega⟩

/-- Behind the two forks. -/
structure ForkMid (w3 : World) (q t h : Nat) (s : LS) (v : World) : Prop where
  two : Two v (fun j => w3.heap.size ≤ j ∧ j ≠ h) q t s
  b2 : v.heap[h]? = some (.cells #[.pointer (some ⟨q, 0, none⟩), .pointer (some ⟨t, 0, none⟩)] 41 (0, 0))
  bel : Below w3.heap.size w3 v
  ge : w3.heap.size ≤ h

theorem ForkMid.mk_ {w3 vB : World} {G H : Nat → Prop} {q t h : Nat} {s : LS} (hp : LedP vB G q s) (hr : LedR vB H t s) (dj : ∀ k, k < vB.heap.size → G k → ¬ H k)
    (hG : ∀ k, k < vB.heap.size → G k → w3.heap.size ≤ k ∧ k ≠ h) (hH : ∀ k, k < vB.heap.size → H k → w3.heap.size ≤ k ∧ k ≠ h) (hx : vB.heap[h]? = some (.cells #[.pointer none, .pointer none] 41 (0, 0))) (bel : Below w3.heap.size w3 vB) (ge : w3.heap.size ≤ h) :
    ForkMid w3 q t h s ((vB.setCell ⟨h, 0, none⟩ (.pointer (some ⟨q, 0, none⟩))).setCell ⟨h, 1, none⟩ (.pointer (some ⟨t, 0, none⟩))) := by
  have hC : Chg (fun j => j = h) vB ((vB.setCell ⟨h, 0, none⟩ (.pointer (some ⟨q, 0, none⟩))).setCell ⟨h, 1, none⟩ (.pointer (some ⟨t, 0, none⟩))) :=
    ((Chg.refl (fun j => j = h) vB).setCell (p := ⟨h, 0, none⟩) (.inl rfl) _).setCell (p := ⟨h, 1, none⟩) (.inl rfl) _
  have P : Pair vB (fun k => G k ∧ k < vB.heap.size) (fun k => H k ∧ k < vB.heap.size) q t s s :=
    ⟨hp.sub fun k hk hg => ⟨hg, hk⟩, hr.sub fun k hk hg => ⟨hg, hk⟩, fun k hk hh => dj k hk.2 hk.1 hh.1⟩
  refine ⟨⟨_, _, P.chg hC (fun k hk e => (hG k hk.2 hk.1).2 e) (fun k hk e => (hH k hk.2 hk.1).2 e), fun k hk => ?_⟩, ?_, bel.trans (hC.below bel.size (fun j hj e => by omega)), ge⟩
  · have hs := hC.size
    rcases hk with hk | hk
    · exact ⟨hG k hk.2 hk.1, Nat.lt_of_lt_of_le hk.2 hs⟩
    · exact ⟨hH k hk.2 hk.1, Nat.lt_of_lt_of_le hk.2 hs⟩
  · simpa using heap_setCell_same _ h 1 _ _ (.pointer (some ⟨t, 0, none⟩)) (heap_setCell_same vB h 0 _ _ (.pointer (some ⟨q, 0, none⟩)) hx)
theorem ForkMid.last {w3 vB : World} {G H : Nat → Prop} {q t : Nat} {s : LS} (hp : LedP vB G q s) (hr : LedR vB H t s) (dj : ∀ k, k < vB.heap.size → G k → ¬ H k)
    (hG : ∀ k, k < vB.heap.size → G k → w3.heap.size ≤ k) (hH : ∀ k, k < vB.heap.size → H k → w3.heap.size ≤ k) (bel : Below w3.heap.size w3 vB) :
    ForkMid w3 q t vB.heap.size s (vB.alloc (.cells #[.pointer (some ⟨q, 0, none⟩), .pointer (some ⟨t, 0, none⟩)] 41)) := by
  have eb := box_below vB (.cells #[.pointer (some ⟨q, 0, none⟩), .pointer (some ⟨t, 0, none⟩)] 41)
  have P : Pair vB (fun k => G k ∧ k < vB.heap.size) (fun k => H k ∧ k < vB.heap.size) q t s s :=
    ⟨hp.sub fun k hk hg => ⟨hg, hk⟩, hr.sub fun k hk hg => ⟨hg, hk⟩, fun k hk hh => dj k hk.2 hk.1 hh.1⟩
  refine ⟨⟨_, _, P.below eb, fun k hk => ?_⟩, heap_alloc_new vB _, bel.trans (eb.mono bel.size), bel.size⟩
  have hs := eb.size
  rcases hk with hk | hk
  · exact ⟨⟨hG k hk.2 hk.1, by omega⟩, Nat.lt_of_lt_of_le hk.2 hs⟩
  · exact ⟨⟨hH k hk.2 hk.1, by omega⟩, Nat.lt_of_lt_of_le hk.2 hs⟩

set_option maxHeartbeats 8000000 in
set_option maxRecDepth 100000 in
theorem ledgerForks_any (ring : Int) (A B : Option Addr) (n m c d : Nat) (l more : List Dd) (w : World) (hr : Rd w 3 A n c (Ds l)) (hok : ∀ d ∈ l, d.ok) (hr2 : Rd w 3 B m d (Ds more)) (hok2 : ∀ d ∈ more, d.ok) (hring : 0 ≤ ring ∧ ring ≤ 255) :
    Calls Try.prog 7 #[.int .u8 ring, .slice A n c, .slice B m d] w fun e w' => e = .returned (.bool true) ∧ Below w.heap.size w w' := by
  obtain ⟨r0, r1⟩ := hring
  have hcap := hr2.cap
  have hmax := hr2.max
  unfold maxLen at hmax
  have hln := hr2.deeds
  subst hln
  have HR := Lib.hid hr
  have OK := Lib.hid hok
  have HR2 := Lib.hid hr2
  have OK2 := Lib.hid hok2
  clear hr hok hr2 hok2
  go_enter Try.func7, Try.ntmps7
  go_wp2_with fail
  refine (make_any (ring % 40) 4611686018427387903 A n c l w HR.out OK.out ⟨by omega, by omega⟩).mono ?_
  rintro e w1 ⟨p, r, s, rfl, hT, hb1, hg1, hg2, hg3, hg4, -⟩
  have eb := box_below w1 (.cells #[.pointer (some ⟨p, 0, none⟩), .pointer (some ⟨r, 0, none⟩)] 41)
  have T1 : Hid (Two (w1.alloc (.cells #[.pointer (some ⟨p, 0, none⟩), .pointer (some ⟨r, 0, none⟩)] 41)) (fun j => w.heap.size ≤ j ∧ j < w1.heap.size) p r s) := (hT.sub (fun j hj h => ⟨h, hj⟩)).below eb
  have X1 := Lib.hid (heap_alloc_new w1 (.cells #[.pointer (some ⟨p, 0, none⟩), .pointer (some ⟨r, 0, none⟩)] 41))
  have B1 := Lib.hid (hb1.trans (eb.mono hb1.size))
  clear hT eb hb1 hg1 hg2 hg4
  go_wp2_with fail
  generalize hW : (w1.alloc (.cells #[.pointer (some ⟨p, 0, none⟩), .pointer (some ⟨r, 0, none⟩)] 41)) = w2 at *
  clear hW
  generalize w1.heap.size = g at *
  refine (ledAlive w2).mono ?_
  rintro e w3 ⟨rfl, b⟩
  have T3 := Lib.hid (T1.out.below b)
  have X3 := Lib.hid ((b.block _ (lt_of_block X1.out)).trans X1.out)
  have B3 := Lib.hid (B1.out.trans (b.mono B1.out.size))
  clear b T1 X1 B1
  by_cases h40 : 40 < more.length
  · go_wp2_with fail
    refine (ledAlive w3).mono ?_
    rintro e w4 ⟨rfl, b⟩
    go_wp2
    go_ret
    exact ⟨rfl, B3.out.trans (b.mono B3.out.size)⟩
  · have d40 : decide ((40 : Int) < (more.length : Int)) = false := by simp; omega
    have t0 : w3.cell? ⟨g, 0, none⟩ = some (.pointer (some ⟨p, 0, none⟩)) := cell_of_row w3 g 0 _ _ _ X3.out
    have t1 : w3.cell? ⟨g, 1, none⟩ = some (.pointer (some ⟨r, 0, none⟩)) := cell_of_row w3 g 1 _ _ _ X3.out
    have gl : g < w3.heap.size := lt_of_block X3.out
    have ng3 : w3.heap.size ≠ g := by omega
    have ng3' : g ≠ w3.heap.size := by omega
    obtain ⟨G, H, hP, hF⟩ := T3.out
    have HP := Lib.hid hP
    clear hP hF
    go_upto_region 4 with fail
    go_cut [9] (fun s9 wx => ∃ q t h : Nat, s9 = .pointer (some ⟨h, 0, none⟩) ∧ ForkMid w3 q t h s wx)
    case first =>
      go_region_held3 (fun W => W.cell? ⟨g, 0, none⟩ = some (.pointer (some ⟨p, 0, none⟩)) ∧ W.cell? ⟨g, 1, none⟩ = some (.pointer (some ⟨r, 0, none⟩)))
        (all_goals (first | (go_keep; done) | (simp [*, World.cell?_alloc_lt]; done) | (simp [*, World.cell?_alloc_lt, World.cell?_setCell_other]; done)))
        (first
          | (go_at_call 39; refine (led_fork _ G p s (LedP.below HP.out.p (by repeat (first | exact Below.refl _ _ | exact bA1 | (refine Below.alloc ?_ (by first | exact Nat.le_refl _ | omega | (simp; omega)) _) | (refine Below.drew ?_))))).mono ?_; rintro e vA ⟨q, rfl, hL1, bA⟩; have bA1 : Below w3.heap.size w3 vA := Below.trans (by repeat (first | exact Below.refl _ _ | exact bA1 | (refine Below.alloc ?_ (by first | exact Nat.le_refl _ | omega | (simp; omega)) _) | (refine Below.drew ?_))) (bA.mono (by first | exact Nat.le_refl _ | (simp; done) | (simp; omega))); have zA := bA.size; (try simp at zA); (try have lA : w3.heap.size < vA.heap.size := (by omega)); have sA : w3.heap.size ≤ vA.heap.size := bA1.size; have gA : g < vA.heap.size := Nat.lt_of_lt_of_le gl sA; obtain ⟨hcA, hfA⟩ := bcell bA; have cA : ∀ o, vA.cell? ⟨g, o, none⟩ = w3.cell? ⟨g, o, none⟩ := (fun o => bA1.cell (by exact gl)); have ngA : g ≠ vA.heap.size := Nat.ne_of_lt gA; have ngA' : vA.heap.size ≠ g := Nat.ne_of_gt gA)
          | (go_at_call 40; refine (ledR_fork _ H r s (LedR.below HP.out.r (by repeat (first | exact Below.refl _ _ | exact bA1 | (refine Below.alloc ?_ (by first | exact Nat.le_refl _ | omega | (simp; omega)) _) | (refine Below.drew ?_)))) (by omega)).mono ?_; rintro e vB ⟨t, rfl, hL2, bB⟩; have bB1 : Below w3.heap.size w3 vB := Below.trans (by repeat (first | exact Below.refl _ _ | exact bA1 | (refine Below.alloc ?_ (by first | exact Nat.le_refl _ | omega | (simp; omega)) _) | (refine Below.drew ?_))) (bB.mono (by first | exact sA | (simp; omega))); have zB := bB.size; (try simp at zB); (try have lB : w3.heap.size < vB.heap.size := (by omega)); (try have lB' : vA.heap.size < vB.heap.size := (by omega)); have sB : w3.heap.size ≤ vB.heap.size := bB1.size; have gB : g < vB.heap.size := Nat.lt_of_lt_of_le gl sB; obtain ⟨hcB, hfB⟩ := bcell bB; have cB : ∀ o, vB.cell? ⟨g, o, none⟩ = w3.cell? ⟨g, o, none⟩ := (fun o => bB1.cell (by exact gl)); have ngB : g ≠ vB.heap.size := Nat.ne_of_lt gB; have ngB' : vB.heap.size ≠ g := Nat.ne_of_gt gB))
      · go_wp2_with fail
        go_meet
        exact ⟨q, t, _, rfl, ForkMid.last ((hL1.sub (G := fun k => w3.heap.size ≤ k ∧ k < vA.heap.size) (fun k hk h => ⟨h, hk⟩)).below bB) hL2 (fun k _ h1 h2 => by omega) (fun k _ h => h.1) (fun k _ h => by omega) bB1⟩
      · go_wp2_with fail
        go_meet
        have hx := (bB.block _ (by simp)).trans (heap_alloc_new vA (.cells #[.pointer none, .pointer none] 41))
        refine ⟨q, t, _, rfl, ForkMid.mk_ (((hL1.sub (G := fun k => w3.heap.size ≤ k ∧ k < vA.heap.size) (fun k hk h => ⟨h, hk⟩)).below (box_below _ _)).below bB) hL2 ?_ ?_ ?_ hx bB1 sA⟩
        · intro k _ h1 h2; simp at h2; omega
        · intro k _ h; omega
        · intro k _ h; simp at h; omega
      · go_wp2_with fail
        go_meet
        have hx0 := (bA.block _ (by simp)).trans (heap_alloc_new w3.drew (.cells #[.pointer none, .pointer none] 41))
        have hx := (bB.block _ (lt_of_block hx0)).trans hx0
        refine ⟨q, t, _, rfl, ForkMid.mk_ ((hL1.sub (G := fun k => w3.heap.size + 1 ≤ k ∧ k < vA.heap.size) (fun k hk h => ⟨by simpa using h, hk⟩)).below bB) hL2 ?_ ?_ ?_ hx bB1 (Nat.le_refl _)⟩
        · intro k _ h1 h2; omega
        · intro k _ h; omega
        · intro k _ h; omega
    case rest =>
      obtain ⟨q, t, h, rfl, FM⟩ := hcut
      have F0 : Hid (ForkRel w (fun j => w.heap.size ≤ j ∧ j < g) (fun j => w3.heap.size ≤ j ∧ j ≠ h) p r g q t h s.all.length s s wc) := by
        have hge := FM.ge
        have hbs := B3.out.size
        exact ⟨T3.out.below FM.bel, FM.two, fun j h1 h2 => by omega, fun j hj => by omega, fun j hj => by omega, (FM.bel.block _ gl).trans X3.out, FM.b2, B3.out.trans (FM.bel.mono hbs), Nat.le_refl _⟩
      clear FM t0 t1 HP T3 X3 B3 ng3 ng3' gl
      have t0 := cell_of_row wc h 0 _ _ _ F0.out.b2
      have t1 := cell_of_row wc h 1 _ _ _ F0.out.b2
      go_wp2_with fail
      refine (two_same _ _ q t s F0.out.two).mono ?_
      rintro e w5 ⟨rfl, b⟩
      have F5 := Lib.hid (F0.out.below b)
      clear b F0 t0 t1
      go_wp2_with fail
      have hkk : s.all.length ≤ 80 := hg3
      generalize hk0 : s.all.length = k0 at *
      clear hk0
      go_loopw [10] (fun i wr => ∃ (k : Nat) (E : Nat → Prop) (u : LS), k ≤ more.length ∧ i = .int .i64 k ∧ Hid (ForkRel w (fun j => w.heap.size ≤ j ∧ j < g) E p r g q t h (k0 + k) s u wr)) (fun i _ => more.length - (intOf i).toNat)
      case atStart => exact ⟨0, _, s, Nat.zero_le _, rfl, F5⟩
      case round =>
        obtain ⟨k, E, u, hk, rfl, HM⟩ := hrel
        have hsk := HM.out.len
        have hgs := lt_of_block HM.out.b2
        have t0 := cell_of_row wr h 0 _ _ _ HM.out.b2
        have t1 := cell_of_row wr h 1 _ _ _ HM.out.b2
        by_cases hlt : k < more.length
        · obtain ⟨bb, off, rfl, d0, d1, d2⟩ := (HR2.out.below (HM.out.bel)).deed hlt
          have od := OK2.out more[k] (List.getElem_mem _)
          have i1 : (0 : Int) ≤ k := by omega
          have i2 : (k : Int) < more.length := by omega
          generalize more[k] = d at *
          have M0 := mixF_cell (F := E) t0 (fun e => (HM.out.nh _ e).2.1 rfl)
          have M1 := mixF_cell (F := E) t1 (fun e => (HM.out.nh _ e).2.1 rfl)
          have hbb : bb < w.heap.size := HR2.out.lt (by omega) (by omega) bb off rfl
          have nb : ¬ E bb := fun e => by have := (HM.out.nh _ e).2.2; omega
          have D0 := mixF_cell (F := E) d0 nb
          have D1 := mixF_cell (F := E) d1 nb
          have D2 := mixF_cell (F := E) d2 nb
          have HM0 : Hid (ForkRel w (fun j => w.heap.size ≤ j ∧ j < g) E p r g q t h (k0 + k) s u wr.drew) := HM.out.below (Below.refl _ _).drew
          have UA := Lib.hid od.1
          have UB := Lib.hid od.2
          clear od t0 t1 d0 d1 d2
          go_wp2
          refine wp_region_chg (E) (by kernel_rfl) (by kernel_rfl) ?_
          repeat (refine wpMix_seg 1 _ _ rfl ?_; simp only [List.take_succ_cons, List.take_zero, List.drop_succ_cons, List.drop_zero]; go_big_quiet_step (fail); refine wpQuiet_nil ?_)
          refine wpMix_bar rfl (by rfl) ?_
          go_wp2_with fail
          refine (two_do _ E q t u d.kind d.a d.b false HM0.out.two UA.out UB.out (by omega)).mono ?_
          rintro e w5 ⟨rfl, u', hT, hC, hn⟩
          have S5 := Lib.hid (HM0.out.did hT hC hn)
          have C5 : Hid (Chg E wr w5) := (Chg.refl _ wr).drew.step hC (fun _ _ h => h)
          clear hT hC hn HM0
          go_wp2
          refine ⟨chg_mixF C5.out, ?_⟩
          repeat (refine wpMix_seg 1 _ _ rfl ?_; simp only [List.take_succ_cons, List.take_zero, List.drop_succ_cons, List.drop_zero]; go_big_quiet_step (fail); refine wpQuiet_nil ?_)
          refine wpMix_nil ?_
          go_wp2
          go_roundw
          case rel => exact ⟨k + 1, _, u', by omega, by go_num, S5⟩
          case measure => simp [intOf]; omega
        · go_wp2_with fail
          refine (two_same _ _ q t u HM.out.two).mono ?_
          rintro e w6 ⟨rfl, b⟩
          have S6 := Lib.hid (HM.out.below b)
          clear b t0 t1
          have t0 := cell_of_row w6 g 0 _ _ _ S6.out.b1
          have t1 := cell_of_row w6 g 1 _ _ _ S6.out.b1
          go_wp2_with fail
          refine (two_same _ _ p r s S6.out.one).mono ?_
          rintro e w7 ⟨rfl, b⟩
          have hb := S6.out.bel.trans (b.mono S6.out.bel.size)
          clear b
          go_wp2
          go_ret
          exact ⟨rfl, hb⟩

end Go.Proofs.Yteigflkpopcjkaa
