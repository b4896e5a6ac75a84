/-
  Walks of the reference's ledger: what only reads. · Walks of the reference's ledger: All, Get, Use, Settle. · Walks of the reference's ledger: give, Send, Skip, Fork; SameSent. · Walks of the reference's ledger: Use, Settle. · Walks of the reference's ledger: Send, Skip, Fork; SameSent.
-/
import Derived.Test.YtpfmhkkglaghgaaGreatLedP
import Derived.Laws.ResultCell
import Derived.Deep.RegionLaw
import Derived.OneCell
namespace Go.Proofs.YtpfmhkkglaghgaaGreat
set_option linter.unusedSimpArgs false
set_option linter.unusedVariables false
set_option linter.unnecessarySimpa false
open Go.RowKit
attribute [local go_sem ↓] run_min_int run_max_int

structure LedR (w : World) (F : Nat → Prop) (b : Nat) (s : LS) : Prop where
  good : s.Good
  ex : ∃ A c, w.heap[b]? = some (.cells #[.int .i64 s.ring, .int .u64 s.limit, .slice A s.all.length c] 132 (0, 0)) ∧
    w.ownsRow 0 66 8 (.slice A s.all.length c) s.all.length (Sns s.all) ∧ F b ∧ ∀ g, (Value.slice A s.all.length c).ownBlock = some g → F g ∧ g ≠ b

theorem LedR.qt {w w' : World} {F : Nat → Prop} {b : Nat} {s : LS} (h : LedR w F b s) (q : Qt w w') : LedR w' F b s := by
  obtain ⟨g, A, c, h1, h2, h3⟩ := h
  exact ⟨g, A, c, q.blk h1, q.own h2, h3⟩
theorem LedR.chg {w w' : World} {F G H : Nat → Prop} {b : Nat} {s : LS} (h : LedR w F b s) (q : Chg G w w') (hd : ∀ k, k < w.heap.size → F k → ¬ G k) (hs : ∀ k, k < w.heap.size → F k → H k) : LedR w' H b s := by
  obtain ⟨g, A, c, h1, h2, h3, h4⟩ := h
  have hb := (Array.getElem?_eq_some_iff.1 h1).1
  exact ⟨g, A, c, q.blk h1 (hd _ hb h3), own_chg h2 q (fun k hk => hd k (h2.lt k hk).2 (h4 k hk).1), hs b hb h3, fun k hk => ⟨hs k (h2.lt k hk).2 (h4 k hk).1, (h4 k hk).2⟩⟩
theorem LedR.below {w w' : World} {F : Nat → Prop} {b : Nat} {s : LS} (h : LedR w F b s) (q : Below w.heap.size w w') : LedR w' F b s :=
  h.chg (chg_below q (F := fun _ => False)) (fun _ _ _ h => h) (fun _ _ h => h)
theorem LedR.dn {w : World} {F : Nat → Prop} {b : Nat} {s : LS} (h : LedR w F b s) {k : Nat} : LedR (w.drewN k) F b s := h.qt ⟨k, rfl⟩
theorem LedR.cells {w : World} {F : Nat → Prop} {b : Nat} {s : LS} (h : LedR w F b s) : ∃ A c,
    Hid (w.heap[b]? = some (.cells #[.int .i64 s.ring, .int .u64 s.limit, .slice A s.all.length c] 132 (0, 0))) ∧
    w.cell? ⟨b, 0, none⟩ = some (.int .i64 s.ring) ∧ w.cell? ⟨b, 1, none⟩ = some (.int .u64 s.limit) ∧ w.cell? ⟨b, 2, none⟩ = some (.slice A s.all.length c) ∧
    w.ownsRow 0 66 8 (.slice A s.all.length c) s.all.length (Sns s.all) ∧ F b ∧ ∀ g, (Value.slice A s.all.length c).ownBlock = some g → F g ∧ g ≠ b := by
  obtain ⟨g, A, c, h1, h2, h3⟩ := h
  exact ⟨A, c, h1, cell_of_row w b 0 _ _ _ h1, cell_of_row w b 1 _ _ _ h1, cell_of_row w b 2 _ _ _ h1, h2, h3⟩

theorem ledR_next (w : World) (F : Nat → Prop) (b : Nat) (s : LS) (h : LedR w F b s) :
    Calls Tryz.prog 91 #[.pointer (some ⟨b, 0, none⟩)] w fun e w' => e = .returned (.int .u64 s.all.length) ∧ Qt w w' := by
  obtain ⟨A, c, Hb, c0, c1, c2, -⟩ := h.cells
  have g3 := h.good.len
  have g4 := h.good.lim1
  clear h
  go_enter Tryz.func91, Tryz.ntmps91
  go_wp2
  go_ret
  exact ⟨rfl, Qt.refl _⟩

theorem ledR_low (w : World) (F : Nat → Prop) (b : Nat) (s : LS) (h : LedR w F b s) :
    Calls Tryz.prog 98 #[.pointer (some ⟨b, 0, none⟩)] w fun e w' => e = .returned (.int .u64 s.low) ∧ Qt w w' := by
  obtain ⟨A, c, Hb, c0, c1, c2, -⟩ := h.cells
  have g := h.good
  have g1 := g.ring4
  have g2 := g.ring256
  have g3 := g.len
  have g4 := g.lim1
  have Hd := Lib.hid (show (s.low : Int) = max 0 ((s.all.length : Int) - s.ring) by unfold LS.low; omega)
  clear g h
  generalize s.low = d at *
  generalize s.ring = r at *
  generalize s.all.length = n at *
  go_enter Tryz.func98, Tryz.ntmps98
  go_wp2
  refine wp_region_qt (by kernel_rfl) (by kernel_rfl) ?_
  repeat (go_big_quiet_step (fail))
  refine wpQuiet_nil ?_
  intro w1 q1
  go_wp2
  go_ret
  exact ⟨ret_int (by rw [Hd.out]), q1⟩

theorem ledR_least (w : World) (F : Nat → Prop) (b : Nat) (s : LS) (h : LedR w F b s) :
    Calls Tryz.prog 116 #[.pointer (some ⟨b, 0, none⟩)] w fun e w' => e = .returned (.int .u64 s.least) ∧ Qt w w' := by
  have H := Lib.hid h
  have g3 := h.good.len
  have g4 := h.good.lim1
  have k1 := s.low_le
  have k2 := s.low_least
  have k3 := s.least_le
  have HL : Hid (s.least = s.low + LS.ahead s.kept) := rfl
  have HK := Lib.hid s.kept_len
  have HK2 : Hid (s.low = s.all.length - s.ring) := rfl
  clear h
  go_enter Tryz.func116, Tryz.ntmps116
  go_wp2_with fail
  refine (ledR_low _ F b s H.out).mono ?_
  rintro e w1 ⟨rfl, q1⟩
  obtain ⟨A, c, Hb, c0, c1, c2, ho, -⟩ := (H.out.qt q1).cells
  have R := Rd.of_own ho
  clear ho
  go_wp2
  go_loop [3] (fun i => ∃ j : Nat, s.low ≤ j ∧ j ≤ s.least ∧ i = .int .i64 j) (fun i => s.all.length - (intOf i).toNat)
  case atStart => exact ⟨s.low, Nat.le_refl _, k2, rfl⟩
  case round =>
    obtain ⟨j, hj1, hj2, rfl⟩ := hrel
    by_cases hlt : j < s.all.length
    · obtain ⟨bb, off, rfl, d0, d1, d2, d3, d4, d5, d6, d7⟩ := R.snt hlt
      by_cases hf : j < s.least
      · have hs : s.all[j].state ≠ 1 := by
          have h1 : j - s.low < LS.ahead s.kept := by have := HL.out; omega
          have h2 : j - s.low < s.kept.length := by have := HK.out; have := HK2.out; omega
          have h3 := LS.ahead_lt h1 h2
          rw [s.kept_get h2] at h3
          have e : s.low + (j - s.low) = j := by omega
          simpa [e] using h3
        go_wp2
        go_round
        case rel => exact ⟨j + 1, by omega, by omega, by go_num⟩
        case measure => simp [intOf]; omega
      · have hs : s.all[j].state = 1 := by
          have h2 : LS.ahead s.kept < s.kept.length := by have := HK.out; have := HK2.out; have := HL.out; omega
          have h3 := LS.ahead_at h2
          rw [s.kept_get h2] at h3
          have e : s.low + LS.ahead s.kept = j := by have := HL.out; omega
          simpa [e] using h3
        obtain rfl : j = s.least := by omega
        go_wp2
        go_ret
        exact ⟨rfl, q1⟩
    · obtain rfl : j = s.least := by omega
      have Hn := Lib.hid (show s.all.length = s.least by omega)
      go_wp2
      go_ret
      exact ⟨ret_int (by rw [Hn.out]), q1⟩

theorem ledR_room (w : World) (F : Nat → Prop) (b : Nat) (s : LS) (h : LedR w F b s) :
    Calls Tryz.prog 92 #[.pointer (some ⟨b, 0, none⟩)] w fun e w' => e = .returned (.int .i64 s.room) ∧ Qt w w' := by
  obtain ⟨A, c, Hb, c0, c1, c2, -⟩ := h.cells
  have g := h.good
  have g1 := g.ring4
  have g2 := g.ring256
  have g3 := g.len
  have g4 := g.lim1
  have k1 := s.least_le
  have k2 := s.room_ge
  have k3 := s.room_le
  have Hr : Hid (s.room = s.ring - ((s.all.length : Int) - s.least)) := rfl
  have H := Lib.hid h
  clear g h
  generalize s.room = rm at *
  go_enter Tryz.func92, Tryz.ntmps92
  go_wp2
  refine wp_region_qt (by kernel_rfl) (by kernel_rfl) ?_
  repeat (first | go_big_quiet_step ((first | (go_at_call 116; exact Qt.callN (ledR_least _ F b s H.out.dn)) | (go_at_call 91; exact Qt.callN (ledR_next _ F b s H.out.dn)))) | quiet_step ((first | (go_at_call 116; exact Qt.callN (ledR_least _ F b s H.out.dn)) | (go_at_call 91; exact Qt.callN (ledR_next _ F b s H.out.dn)))))
  refine wpQuiet_nil ?_
  intro w1 q1
  go_wp2
  go_ret
  exact ⟨ret_int (by rw [Hr.out]), q1⟩

theorem ledR_new (ring limit : Int) (w : World) (hl : isU64 limit) :
    Calls Tryz.prog 30 #[.int .i64 ring, .int .u64 limit] w fun e w' => e = .returned (.pointer (some ⟨w.heap.size, 0, none⟩)) ∧
      LedR w' (fun k => k = w.heap.size) w.heap.size (LS.new ring limit) ∧ Below w.heap.size w w' := by
  have gd := Lib.hid (LS.Good.new ring limit hl.1)
  have He := Lib.hid (show (((LS.new ring limit).ring : Nat) : Int) = max 4 (min ring 256) by simp only [LS.new]; omega)
  have Hl := Lib.hid (show (LS.new ring limit).limit = min limit 4611686018427387903 from rfl)
  go_enter Tryz.func30, Tryz.ntmps30
  go_wp2
  go_ret
  refine ⟨rfl, ⟨gd.out, none, 0, ?_⟩, (Below.refl _ _).alloc (Nat.le_refl _) _⟩
  refine ⟨?_, World.ownsRow_nil _ _ _ _, rfl, fun k hk => by cases hk⟩
  rw [He.out, Hl.out]
  exact heap_alloc_new w _

end Go.Proofs.YtpfmhkkglaghgaaGreat

namespace Go.Proofs.YtpfmhkkglaghgaaGreat
set_option linter.unusedSimpArgs false
set_option linter.unusedVariables false
set_option linter.unnecessarySimpa false
open Go.RowKit

/-- A reference's ledger whose row lies in block g. -/
structure LedRAt (w : World) (F : Nat → Prop) (b g c : Nat) (s : LS) : Prop where
  blk : w.heap[b]? = some (.cells #[.int .i64 s.ring, .int .u64 s.limit, .slice (some ⟨g, 0, none⟩) s.all.length c] 132 (0, 0))
  own : w.ownsRow 0 66 8 (.slice (some ⟨g, 0, none⟩) s.all.length c) s.all.length (Sns s.all)
  fb : F b
  fg : F g
  ne : g ≠ b
theorem LedR.open_ {w : World} {F : Nat → Prop} {b : Nat} {s : LS} (h : LedR w F b s) (hn : 0 < s.all.length) : ∃ g c, LedRAt w F b g c s := by
  obtain ⟨gd, A, c, h1, h2, h3, h4⟩ := h
  obtain ⟨A', c', e, hA⟩ := own_slice h2
  injection e with e1 _ e3
  subst e1
  subst e3
  obtain ⟨g, rfl, _⟩ := hA hn
  exact ⟨g, c, h1, h2, h3, (h4 g rfl).1, (h4 g rfl).2⟩
theorem LedRAt.shut {w : World} {F : Nat → Prop} {b g c : Nat} {s : LS} (h : LedRAt w F b g c s) (gd : s.Good) : LedR w F b s :=
  ⟨gd, _, c, h.blk, h.own, h.fb, fun k hk => by simp only [Value.ownBlock, Option.some.injEq] at hk; subst hk; exact ⟨h.fg, h.ne⟩⟩
theorem LedRAt.below {w w' : World} {F : Nat → Prop} {b g c : Nat} {s : LS} (h : LedRAt w F b g c s) (q : Below w.heap.size w w') : LedRAt w' F b g c s :=
  ⟨(q.block b (lt_of_block h.blk)).trans h.blk, own_chg h.own (chg_below q (F := fun _ => False)) (fun _ _ h => h), h.fb, h.fg, h.ne⟩
theorem LedRAt.put {w : World} {F : Nat → Prop} {b g c : Nat} {s : LS} (h : LedRAt w F b g c s) {pn : Int} (hp : s.has pn) {j : Nat} (hj : j < 8) {u : Value} {y : Snt} (hy : y.vals = (s.at' pn).vals.set j u) :
    LedRAt (w.setCell ⟨g, pn.toNat * 8 + j, none⟩ u) F b g c (s.put pn y) := by
  have hk := (LS.has_lt hp).1
  have e := LS.at'_eq hp
  have ha : (s.put pn y).all.length = s.all.length := by simp [LS.put]
  refine ⟨?_, ?_, h.fb, h.fg, h.ne⟩
  · rw [ha, heap_setCell_other _ _ _ _ (Ne.symm h.ne)]
    exact h.blk
  · rw [ha]
    have := (h.own.stored (pn.toNat * 8 + j) u).1
    rwa [show (Sns s.all).set (pn.toNat * 8 + j) u = Sns (s.all.set pn.toNat y) from flat_set _ 8 vals_len _ _ _ _ _ hk hj (by rw [← e]; exact hy)] at this
theorem LedRAt.cells {w : World} {F : Nat → Prop} {b g c : Nat} {s : LS} (h : LedRAt w F b g c s) {pn : Int} (hp : s.has pn) :
    w.cell? ⟨g, pn.toNat * 8, none⟩ = some (.int .u64 (s.at' pn).pn) ∧ w.cell? ⟨g, pn.toNat * 8 + 1, none⟩ = some (.int .u64 (s.at' pn).off) ∧
      w.cell? ⟨g, pn.toNat * 8 + 2, none⟩ = some (.int .u64 (s.at' pn).len) ∧ w.cell? ⟨g, pn.toNat * 8 + 3, none⟩ = some (.int .u64 (s.at' pn).nonce) ∧
      w.cell? ⟨g, pn.toNat * 8 + 4, none⟩ = some (.int .u64 (s.at' pn).at_) ∧ w.cell? ⟨g, pn.toNat * 8 + 5, none⟩ = some (.bool (s.at' pn).coin) ∧
      w.cell? ⟨g, pn.toNat * 8 + 6, none⟩ = some (.bool (s.at' pn).used) ∧ w.cell? ⟨g, pn.toNat * 8 + 7, none⟩ = some (.int .i64 (s.at' pn).state) := by
  have hk := (LS.has_lt hp).1
  have e := LS.at'_eq hp
  obtain ⟨bb, off, ea, d⟩ := (Rd.of_own h.own).snt hk
  injection ea with ea
  injection ea with e1 e2 _
  subst e1
  subst e2
  rw [e]
  simpa using d

set_option maxHeartbeats 1600000 in
theorem ledR_get_yes (w : World) (F : Nat → Prop) (b : Nat) (s : LS) (pn : Int) (h : LedR w F b s) (hp : s.has pn) :
    Calls Tryz.prog 101 #[.pointer (some ⟨b, 0, none⟩), .int .u64 pn] w fun e w' => e = .returned (.tuple #[(s.at' pn).val, .bool true]) ∧ Below w.heap.size w w' := by
  obtain ⟨g, c, ha⟩ := h.open_ (by have := (LS.has_lt hp).1; omega)
  obtain ⟨d0, d1, d2, d3, d4, d5, d6, d7⟩ := ha.cells hp
  have eb := box_below w (.cells #[.int .u64 0, .int .u64 0, .int .u64 0, .int .u64 0, .int .u64 0, .bool false, .bool false, .int .i64 0] 66)
  have HP := Lib.hid (h.below eb)
  have gg3 := h.good.len
  have gg4 := h.good.lim1
  obtain ⟨p1, p2⟩ := hp
  have hlt : g < w.heap.size := block_lt_of_cell d0
  have hbl : b < w.heap.size := lt_of_block ha.blk
  have c2 : w.cell? ⟨b, 2, none⟩ = some (.slice (some ⟨g, 0, none⟩) s.all.length c) := cell_of_row w b 2 _ _ _ ha.blk
  generalize s.at' pn = x at *
  obtain ⟨n, rfl⟩ := Int.eq_ofNat_of_zero_le (show 0 ≤ pn by omega)
  rw [Int.toNat_natCast] at *
  clear h ha eb
  go_enter Tryz.func101, Tryz.ntmps101
  go_wp2_with fail
  refine (ledR_low _ F b s HP.out).mono ?_
  rintro e w1 ⟨rfl, n1, rfl⟩
  go_wp2_with fail
  refine (ledR_next _ F b s HP.out.dn).mono ?_
  rintro e w1 ⟨rfl, n2, rfl⟩
  go_wp2
  (try simp only [Exit.inBlock, Exit.then])
  refine bodyPost_ret (v := .tuple #[x.val, .bool true]) ?_ rfl ⟨rfl, ?_⟩
  · rw [results_cell_tmp rfl]
    unfold Snt.val
    go_simp
  · iterate 8 (refine Below.setCell ?_ (by exact Nat.le_refl _) _)
    exact below_drewN (box_below _ _) _

set_option maxHeartbeats 1600000 in
theorem ledR_get_no (w : World) (F : Nat → Prop) (b : Nat) (s : LS) (pn : Int) (h : LedR w F b s) (hu : isU64 pn) (hp : ¬ s.has pn) :
    Calls Tryz.prog 101 #[.pointer (some ⟨b, 0, none⟩), .int .u64 pn] w fun e w' => e = .returned (.tuple #[LS.zero.val, .bool false]) ∧ Below w.heap.size w w' := by
  have eb := box_below w (.cells #[.int .u64 0, .int .u64 0, .int .u64 0, .int .u64 0, .int .u64 0, .bool false, .bool false, .int .i64 0] 66)
  have HP := Lib.hid (h.below eb)
  have hb2 : ∀ n1, Below w.heap.size w ((w.alloc (.cells #[.int .u64 0, .int .u64 0, .int .u64 0, .int .u64 0, .int .u64 0, .bool false, .bool false, .int .i64 0] 66)).drewN n1) := fun n1 => below_drewN eb _
  have Hb2 := Lib.hid hb2
  obtain ⟨hu1, hu2⟩ := hu
  have gg3 := h.good.len
  have gg4 := h.good.lim1
  clear h eb hb2
  by_cases hlo : pn < s.low
  · go_enter Tryz.func101, Tryz.ntmps101
    go_wp2_with fail
    refine (ledR_low _ F b s HP.out).mono ?_
    rintro e w1 ⟨rfl, n1, rfl⟩
    go_wp2
    (try simp only [Exit.inBlock, Exit.then])
    refine bodyPost_ret (v := .tuple #[LS.zero.val, .bool false]) ?_ rfl ⟨rfl, ?_⟩
    · rw [results_cell_tmp rfl]
      unfold Snt.val LS.zero
      go_simp
    · iterate 8 (refine Below.setCell ?_ (by exact Nat.le_refl _) _)
      exact Hb2.out _
  · have hhi : (s.all.length : Int) ≤ pn := by unfold LS.has at hp; omega
    clear hp
    go_enter Tryz.func101, Tryz.ntmps101
    go_wp2_with fail
    refine (ledR_low _ F b s HP.out).mono ?_
    rintro e w1 ⟨rfl, n1, rfl⟩
    go_wp2_with fail
    refine (ledR_next _ F b s HP.out.dn).mono ?_
    rintro e w1 ⟨rfl, n2, rfl⟩
    go_wp2
    (try simp only [Exit.inBlock, Exit.then])
    refine bodyPost_ret (v := .tuple #[LS.zero.val, .bool false]) ?_ rfl ⟨rfl, ?_⟩
    · rw [results_cell_tmp rfl]
      unfold Snt.val LS.zero
      go_simp
    · iterate 8 (refine Below.setCell ?_ (by exact Nat.le_refl _) _)
      exact Hb2.out _

/-- What a contract that makes memory keeps, as rules for the walk. -/
theorem bcell {W w1 : World} (hb : Below W.heap.size W w1) : (∀ b o, b < W.heap.size → w1.cell? ⟨b, o, none⟩ = W.cell? ⟨b, o, none⟩) ∧ (∀ b o, b < W.heap.size → w1.frozen? ⟨b, o, none⟩ = W.frozen? ⟨b, o, none⟩) :=
  ⟨fun b o h => hb.cell (p := ⟨b, o, none⟩) h, fun b o h => hb.frozen (p := ⟨b, o, none⟩) h⟩

end Go.Proofs.YtpfmhkkglaghgaaGreat

namespace Go.Proofs.YtpfmhkkglaghgaaGreat
set_option linter.unusedSimpArgs false
set_option linter.unusedVariables false
set_option linter.unnecessarySimpa false
open Go.RowKit

set_option maxHeartbeats 3200000 in
set_option maxRecDepth 100000 in
theorem ledR_give (w : World) (F : Nat → Prop) (b : Nat) (s : LS) (x : Snt) (h : LedR w F b s) (hx : x.ok) (hf : x.state = 1 → 1 ≤ x.len ∧ x.len ≤ 1500) (hmax : s.all.length < 1000000000) :
    Calls Tryz.prog 60 #[.pointer (some ⟨b, 0, none⟩), x.val] w fun e w' => e = .returned (.tuple #[.int .u64 (s.give x).2.1, .int .i64 (s.give x).2.2]) ∧
      LedR w' (Grow F w) b (s.give x).1 ∧ Chg F w w' := by
  obtain ⟨i0, hi0, hz0, hz1, hz2⟩ := info_parts infoSent
  obtain ⟨A, c, Hb, c0, c1, c2, ho, hF, hG⟩ := h.cells
  have gd := h.good
  have g1 := gd.ring4
  have g2 := gd.ring256
  have g3 := gd.len
  have g4 := gd.lim1
  have gu := Lib.hid (gd.give hx hf)
  have hbl := block_lt_of_cell c0
  simp only at hbl
  have k2 := s.room_ge
  have k3 := s.room_le
  have HQ : Hid (∀ w', Below w.heap.size w w' → LedR w' (Grow F w) b s ∧ Chg F w w') := fun w' hb => ⟨(h.below hb).chg (Chg.refl (fun _ => False) _) (fun _ _ _ h => h) (fun _ _ h => .inl h), chg_below hb⟩
  have eb := box_below w (.cells #[.int .u64 x.pn, .int .u64 x.off, .int .u64 x.len, .int .u64 x.nonce, .int .u64 x.at_, .bool x.coin, .bool x.used, .int .i64 x.state] 66)
  have H := Lib.hid h
  have HP := Lib.hid (h.below eb)
  have HO := Lib.hid ho
  have HG := Lib.hid hG
  have HB := Lib.hid eb
  clear h ho hG gd eb
  unfold Snt.val
  by_cases h1 : s.limit < s.all.length
  · have Hg : Hid (s.give x = (s, 0, 8)) := if_pos h1
    go_enter Tryz.func60, Tryz.ntmps60
    go_wp2
    have e1 : (w.alloc (.cells #[.int .u64 x.pn, .int .u64 x.off, .int .u64 x.len, .int .u64 x.nonce, .int .u64 x.at_, .bool x.coin, .bool x.used, .int .i64 x.state] 66)).cell? ⟨b, 1, none⟩ = some (.int .u64 s.limit) := by rw [HB.out.cell (by exact hbl)]; exact c1
    generalize hw1 : (w.alloc (.cells #[.int .u64 x.pn, .int .u64 x.off, .int .u64 x.len, .int .u64 x.nonce, .int .u64 x.at_, .bool x.coin, .bool x.used, .int .i64 x.state] 66)) = w1 at *
    clear hw1
    refine wp_region_qt (by kernel_rfl) (by kernel_rfl) ?_
    repeat (first | go_big_quiet_step ((go_at_call 91; exact Qt.callN (ledR_next _ F b s HP.out.dn))) | quiet_step ((go_at_call 91; exact Qt.callN (ledR_next _ F b s HP.out.dn))))
    refine wpQuiet_nil ?_
    intro w2 q2
    go_wp2
    go_ret2
    rw [Hg.out]
    exact ⟨rfl, HQ.out _ (HB.out.trans q2.below)⟩
  · by_cases h2 : s.room < 1
    · have Hg : Hid (s.give x = (s, 0, 7)) := by show _ = _; rw [LS.give, if_neg h1, if_pos h2]
      have h2' : s.room ≤ 0 := by omega
      go_enter Tryz.func60, Tryz.ntmps60
      go_wp2
      have e1 : (w.alloc (.cells #[.int .u64 x.pn, .int .u64 x.off, .int .u64 x.len, .int .u64 x.nonce, .int .u64 x.at_, .bool x.coin, .bool x.used, .int .i64 x.state] 66)).cell? ⟨b, 1, none⟩ = some (.int .u64 s.limit) := by rw [HB.out.cell (by exact hbl)]; exact c1
      generalize hw1 : (w.alloc (.cells #[.int .u64 x.pn, .int .u64 x.off, .int .u64 x.len, .int .u64 x.nonce, .int .u64 x.at_, .bool x.coin, .bool x.used, .int .i64 x.state] 66)) = w1 at *
      clear hw1
      refine wp_region_qt (by kernel_rfl) (by kernel_rfl) ?_
      repeat (first | go_big_quiet_step ((go_at_call 91; exact Qt.callN (ledR_next _ F b s HP.out.dn))) | quiet_step ((go_at_call 91; exact Qt.callN (ledR_next _ F b s HP.out.dn))))
      refine wpQuiet_nil ?_
      intro w2 q2
      have HP2 := Lib.hid (HP.out.qt q2)
      have b2 := HB.out.trans (q2.below (B := w.heap.size))
      clear q2
      go_wp2_with fail
      refine (ledR_room _ F b s HP2.out).mono ?_
      rintro e w3 ⟨rfl, n3, rfl⟩
      go_wp2
      go_ret2
      rw [Hg.out]
      exact ⟨rfl, HQ.out _ (below_drewN b2 _)⟩
    · have Hg : Hid (s.give x = ({ s with all := s.all ++ [{ x with pn := s.all.length }] }, (s.all.length : Int), 0)) := by show _ = _; rw [LS.give, if_neg h1, if_neg h2]
      have h2' : 1 ≤ s.room := by omega
      have HX := Lib.hid (heap_alloc_new w (.cells #[.int .u64 x.pn, .int .u64 x.off, .int .u64 x.len, .int .u64 x.nonce, .int .u64 x.at_, .bool x.coin, .bool x.used, .int .i64 x.state] 66))
      go_enter Tryz.func60, Tryz.ntmps60
      go_wp2
      have e1 : (w.alloc (.cells #[.int .u64 x.pn, .int .u64 x.off, .int .u64 x.len, .int .u64 x.nonce, .int .u64 x.at_, .bool x.coin, .bool x.used, .int .i64 x.state] 66)).cell? ⟨b, 1, none⟩ = some (.int .u64 s.limit) := by rw [HB.out.cell (by exact hbl)]; exact c1
      generalize hw1 : (w.alloc (.cells #[.int .u64 x.pn, .int .u64 x.off, .int .u64 x.len, .int .u64 x.nonce, .int .u64 x.at_, .bool x.coin, .bool x.used, .int .i64 x.state] 66)) = w1 at *
      clear hw1
      refine wp_region_qt (by kernel_rfl) (by kernel_rfl) ?_
      repeat (first | go_big_quiet_step ((go_at_call 91; exact Qt.callN (ledR_next _ F b s HP.out.dn))) | quiet_step ((go_at_call 91; exact Qt.callN (ledR_next _ F b s HP.out.dn))))
      refine wpQuiet_nil ?_
      intro w2 q2
      have HP2 := Lib.hid (HP.out.qt q2)
      have b2 := HB.out.trans (q2.below (B := w.heap.size))
      have HX2 := Lib.hid (q2.blk HX.out)
      clear q2 HX e1
      go_wp2_with fail
      refine (ledR_room _ F b s HP2.out).mono ?_
      rintro e w3 ⟨rfl, n3, rfl⟩
      go_wp2_with fail
      refine (ledR_next _ F b s HP2.out.dn).mono ?_
      rintro e w3 ⟨rfl, n4, rfl⟩
      have hb3 : Below w.heap.size w (w2.drewN (n3 + n4)) := below_drewN b2 _
      simp only [World.drewN_drewN] at *
      have HX3 : Hid ((w2.drewN (n3 + n4)).heap[w.heap.size]? = _) := HX2.out
      generalize (w2.drewN (n3 + n4)) = w3 at *
      have HB3 := Lib.hid ((hb3.block _ hbl).trans Hb.out)
      have HO3 := Lib.hid (own_chg HO.out (chg_below hb3 (F := fun _ => False)) (fun _ _ h => h))
      have fx0 := frozen_of_row w3 w.heap.size 0 _ _ HX3.out
      have x0 := cell_of_row w3 w.heap.size 0 _ _ _ HX3.out
      have hne : w.heap.size ≠ b := by omega
      go_wp2
      have HX4 : Hid ((w3.setCell ⟨w.heap.size, 0, none⟩ (.int .u64 s.all.length)).heap[w.heap.size]? = some (.cells #[.int .u64 s.all.length, .int .u64 x.off, .int .u64 x.len, .int .u64 x.nonce, .int .u64 x.at_, .bool x.coin, .bool x.used, .int .i64 x.state] 66 (0, 0))) :=
        heap_setCell_same w3 w.heap.size 0 _ _ (.int .u64 s.all.length) HX3.out
      have HB4 : Hid ((w3.setCell ⟨w.heap.size, 0, none⟩ (.int .u64 s.all.length)).heap[b]? = some (.cells #[.int .i64 s.ring, .int .u64 s.limit, .slice A s.all.length c] 132 (0, 0))) :=
        (heap_setCell_other w3 ⟨w.heap.size, 0, none⟩ b _ (Ne.symm hne)).trans HB3.out
      have HC4 : Hid (Chg F w (w3.setCell ⟨w.heap.size, 0, none⟩ (.int .u64 s.all.length))) :=
        (chg_below hb3).setCell (p := ⟨w.heap.size, 0, none⟩) (.inr (Nat.le_refl _)) _
      have HO4 : Hid ((w3.setCell ⟨w.heap.size, 0, none⟩ (.int .u64 s.all.length)).ownsRow 0 66 8 (.slice A s.all.length c) s.all.length (Sns s.all)) :=
        own_chg HO3.out ((Chg.refl (fun k => k = w.heap.size) w3).setCell (p := ⟨w.heap.size, 0, none⟩) (.inl rfl) _)
          (fun k hk => fun e => by have := (HO.out.lt k hk).2; omega)
      clear fx0 x0 HX3 HB3 HO3 HP2 HX2 b2
      generalize (w3.setCell ⟨w.heap.size, 0, none⟩ (.int .u64 s.all.length)) = w4 at *
      have HW4 := Lib.hid HC4.out.size
      have hne1 : (Value.slice A s.all.length c).ownBlock ≠ some w.heap.size := fun e => by have := (HO.out.lt _ e).2; omega
      have hne2 : (Value.slice A s.all.length c).ownBlock ≠ some b := fun e => (HG.out _ e).2 rfl
      have x0 := cell_of_row w4 w.heap.size 0 _ _ _ HX4.out
      have x1 := cell_of_row w4 w.heap.size 1 _ _ _ HX4.out
      have x2 := cell_of_row w4 w.heap.size 2 _ _ _ HX4.out
      have x3 := cell_of_row w4 w.heap.size 3 _ _ _ HX4.out
      have x4 := cell_of_row w4 w.heap.size 4 _ _ _ HX4.out
      have x5 := cell_of_row w4 w.heap.size 5 _ _ _ HX4.out
      have x6 := cell_of_row w4 w.heap.size 6 _ _ _ HX4.out
      have x7 := cell_of_row w4 w.heap.size 7 _ _ _ HX4.out
      have y2 := cell_of_row w4 b 2 _ _ _ HB4.out
      have fy2 := frozen_of_row w4 b 2 _ _ HB4.out
      have hxs := lt_of_block HX4.out
      have hbs := lt_of_block HB4.out
      go_region_law
        ((refine step_append_rd _ (by rfl) (.tmp 23) (.tmp 25) 94 (by rfl) 0 66 i0 _ 8 56 Tryz.underlying94 hi0 hz0 hz1 hz2 rfl (by omega) _ s.all.length (Sns s.all) (by rfl) ((HO4.out.alloc _).drew)
              _ 1 1 [.int .u64 s.all.length, .int .u64 x.off, .int .u64 x.len, .int .u64 x.nonce, .int .u64 x.at_, .bool x.coin, .bool x.used, .int .i64 x.state] (by rfl) ((Rd.lit w4 8 #[.int .u64 s.all.length, .int .u64 x.off, .int .u64 x.len, .int .u64 x.nonce, .int .u64 x.at_, .bool x.coin, .bool x.used, .int .i64 x.state] 66 1 _ rfl (by simp) (by unfold maxLen; omega)).drew) (by simp [Value.oneCell'])
              (by unfold maxLen; omega) (by omega) (by simp) ?_; intro v5 w5 ho5 hg5 hv5
          obtain ⟨A5, c5, ev5, hA5⟩ := own_slice ho5
          obtain ⟨g5, eg5, -⟩ := hA5 (by omega)
          subst ev5
          subst eg5
          have HB5 := Lib.hid ((hg5.block b (by simp; omega) (fun e => hne2 e.symm)).trans ((Below.heap_alloc w4 _ b hbs).trans HB4.out))
          have fz5 := frozen_of_row w5 b 2 _ _ HB5.out
          have y5 := cell_of_row w5 b 2 _ _ _ HB5.out))
      all_goals
        have HB6 : Hid ((w5.setCell ⟨b, 2, none⟩ (.slice (some ⟨g5, 0, none⟩) (s.all.length + 1) c5)).heap[b]? = some (.cells #[.int .i64 s.ring, .int .u64 s.limit, (.slice (some ⟨g5, 0, none⟩) (s.all.length + 1) c5)] 132 (0, 0))) :=
          heap_setCell_same w5 b 2 _ _ _ HB5.out
        have HX6 : Hid ((w5.setCell ⟨b, 2, none⟩ (.slice (some ⟨g5, 0, none⟩) (s.all.length + 1) c5)).heap[w.heap.size]? = some (.cells #[.int .u64 s.all.length, .int .u64 x.off, .int .u64 x.len, .int .u64 x.nonce, .int .u64 x.at_, .bool x.coin, .bool x.used, .int .i64 x.state] 66 (0, 0))) :=
          (heap_setCell_other _ ⟨b, 2, none⟩ w.heap.size _ hne).trans ((hg5.block _ (by simp; omega) (fun e => hne1 e.symm)).trans ((Below.heap_alloc w4 _ _ hxs).trans HX4.out))
        have HG5 : Hid (g5 ≠ b ∧ (F g5 ∨ w.heap.size ≤ g5)) := by
          rcases hv5 with e | e
          · have h1 := HG.out g5 e.symm
            exact ⟨h1.2, .inl h1.1⟩
          · have e' : g5 = w4.heap.size + 1 := by simpa [Value.ownBlock] using e
            have := HW4.out
            exact ⟨by omega, .inr (by omega)⟩
        have HO6 : Hid ((w5.setCell ⟨b, 2, none⟩ (.slice (some ⟨g5, 0, none⟩) (s.all.length + 1) c5)).ownsRow 0 66 8 (.slice (some ⟨g5, 0, none⟩) (s.all.length + 1) c5) (s.all.length + 1) (Sns (s.all ++ [{ x with pn := s.all.length }]))) := by
          rw [Sns_append]
          exact ownsRow_setCell_other ho5 (fun e => by simp only [Value.ownBlock, Option.some.injEq] at e; exact HG5.out.1 e) _
        have HC6 : Hid (Chg F w (w5.setCell ⟨b, 2, none⟩ (.slice (some ⟨g5, 0, none⟩) (s.all.length + 1) c5))) :=
          ((HC4.out.alloc _).drew.grown hg5 (fun k hk => .inl (HG.out k hk).1)).setCell (.inl hF) _
        clear hv5 hg5 ho5 HB5 HX4 HB4 HO4 HC4 fz5 y5 x0 x1 x2 x3 x4 x5 x6 x7 y2 fy2
        generalize (w5.setCell ⟨b, 2, none⟩ (.slice (some ⟨g5, 0, none⟩) (s.all.length + 1) c5)) = w6 at *
        have z0 := cell_of_row w6 w.heap.size 0 _ _ _ HX6.out
        go_wp2
        go_ret2
        have gu := gu.out
        rw [Hg.out] at gu ⊢
        refine ⟨rfl, ⟨gu, some ⟨g5, 0, none⟩, c5, ?_⟩, HC6.out⟩
        refine ⟨by simpa using HB6.out, by simpa using HO6.out, .inl hF, ?_⟩
        intro k hk
        simp only [Value.ownBlock, Option.some.injEq] at hk
        subst hk
        exact ⟨HG5.out.2, HG5.out.1⟩

end Go.Proofs.YtpfmhkkglaghgaaGreat

namespace Go.Proofs.YtpfmhkkglaghgaaGreat
set_option linter.unusedSimpArgs false
set_option linter.unusedVariables false
set_option linter.unnecessarySimpa false
open Go.RowKit

set_option maxHeartbeats 1600000 in
theorem ledR_use (w : World) (F : Nat → Prop) (b : Nat) (s : LS) (pn : Int) (h : LedR w F b s) (hu : isU64 pn) :
    Calls Tryz.prog 66 #[.pointer (some ⟨b, 0, none⟩), .int .u64 pn] w fun e w' => e = .returned (.bool (s.use pn).2) ∧ LedR w' F b (s.use pn).1 ∧ Chg F w w' := by
  by_cases hp : s.has pn
  · obtain ⟨g, c, ha⟩ := h.open_ (by have := (LS.has_lt hp).1; omega)
    have gd := h.good
    have gg3 := gd.len
    have gg4 := gd.lim1
    have HA := Lib.hid ha
    have Gd := Lib.hid gd
    have Hp := Lib.hid hp
    have H := Lib.hid h
    have HQ : Hid (∀ w', Below w.heap.size w w' → LedR w' F b s ∧ Chg F w w') := fun w' hb => ⟨h.below hb, chg_below hb⟩
    obtain ⟨p1, p2⟩ := hp
    have hlt : g < w.heap.size := (ha.own.lt g rfl).2
    have hbl : b < w.heap.size := lt_of_block ha.blk
    have c2 : w.cell? ⟨b, 2, none⟩ = some (.slice (some ⟨g, 0, none⟩) s.all.length c) := cell_of_row w b 2 _ _ _ ha.blk
    have fz := ha.own.frozenAt (pn.toNat * 8 + 6)
    obtain ⟨-, -, -, -, -, -, d6, d7⟩ := ha.cells Hp.out
    clear h ha gd
    obtain ⟨n, rfl⟩ := Int.eq_ofNat_of_zero_le (show 0 ≤ pn by omega)
    rw [Int.toNat_natCast] at *
    by_cases h4 : (s.at' n).state = 4
    · have Hr : Hid (s.use n = (s, false)) := if_neg (fun hm => hm.2.1 h4)
      go_enter Tryz.func66, Tryz.ntmps66
      go_wp2_with fail
      refine (ledR_get_yes _ F b s n H.out Hp.out).mono ?_
      unfold Snt.val
      rintro e w1 ⟨rfl, b1⟩
      have hb1s := b1.size
      go_wp2
      go_ret
      rw [Hr.out]
      refine ⟨rfl, HQ.out _ ?_⟩
      repeat (first | exact Below.refl _ _ | exact b1 | (refine Below.setCell ?_ (by first | exact Nat.le_refl _ | omega | (simp; done) | (simp; omega)) _) | (refine Below.alloc ?_ (by first | exact Nat.le_refl _ | omega | (simp; done) | (simp; omega)) _) | (refine Below.drew ?_) | (refine below_drewN ?_ _))
    · cases hus : (s.at' n).used with
      | true =>
        have Hr : Hid (s.use n = (s, false)) := if_neg (fun hm => by have := hm.2.2; rw [hus] at this; cases this)
        go_enter Tryz.func66, Tryz.ntmps66
        go_wp2_with fail
        refine (ledR_get_yes _ F b s n H.out Hp.out).mono ?_
        unfold Snt.val
        rintro e w1 ⟨rfl, b1⟩
        have hb1s := b1.size
        go_wp2
        go_ret
        rw [Hr.out]
        refine ⟨rfl, HQ.out _ ?_⟩
        repeat (first | exact Below.refl _ _ | exact b1 | (refine Below.setCell ?_ (by first | exact Nat.le_refl _ | omega | (simp; done) | (simp; omega)) _) | (refine Below.alloc ?_ (by first | exact Nat.le_refl _ | omega | (simp; done) | (simp; omega)) _) | (refine Below.drew ?_) | (refine below_drewN ?_ _))
      | false =>
        have Hr : Hid (s.use n = (s.put n { s.at' n with used := true }, true)) := if_pos ⟨Hp.out, h4, hus⟩
        have gu := Lib.hid (Gd.out.use n)
        go_enter Tryz.func66, Tryz.ntmps66
        go_wp2_with fail
        refine (ledR_get_yes _ F b s n H.out Hp.out).mono ?_
        unfold Snt.val
        rintro e w1 ⟨rfl, b1⟩
        have hb1s := b1.size
        obtain ⟨hc1, hf1⟩ := bcell b1
        have hg1 : g < w1.heap.size := by omega
        have hbl1 : b < w1.heap.size := by omega
        go_wp2
        go_ret
        have gu := gu.out
        rw [Hr.out] at gu ⊢
        exact ⟨rfl, LedRAt.shut (LedRAt.below (LedRAt.put (HA.out.below b1) Hp.out (j := 6) (u := .bool true) (y := { s.at' n with used := true }) (by omega) rfl) (box_below _ _)) gu, (Chg.setCell (chg_below b1) (.inl HA.out.fg) _).alloc _⟩
  · have Hr : Hid (s.use pn = (s, false)) := if_neg (fun hm => hp hm.1)
    have HQ : Hid (∀ w', Below w.heap.size w w' → LedR w' F b s ∧ Chg F w w') := fun w' hb => ⟨h.below hb, chg_below hb⟩
    go_enter Tryz.func66, Tryz.ntmps66
    go_wp2_with fail
    refine (ledR_get_no _ F b s pn h hu hp).mono ?_
    unfold Snt.val LS.zero
    rintro e w1 ⟨rfl, b1⟩
    have hb1s := b1.size
    go_wp2
    go_ret
    rw [Hr.out]
    refine ⟨rfl, HQ.out _ ?_⟩
    repeat (first | exact Below.refl _ _ | exact b1 | (refine Below.setCell ?_ (by first | exact Nat.le_refl _ | omega | (simp; done) | (simp; omega)) _) | (refine Below.alloc ?_ (by first | exact Nat.le_refl _ | omega | (simp; done) | (simp; omega)) _) | (refine Below.drew ?_) | (refine below_drewN ?_ _))

end Go.Proofs.YtpfmhkkglaghgaaGreat

namespace Go.Proofs.YtpfmhkkglaghgaaGreat
set_option linter.unusedSimpArgs false
set_option linter.unusedVariables false
set_option linter.unnecessarySimpa false
open Go.RowKit

set_option maxHeartbeats 1600000 in
theorem ledR_send (w : World) (F : Nat → Prop) (b : Nat) (s : LS) (x : Snt) (h : LedR w F b s) (hx : x.ok) (hmax : s.all.length < 1000000000) :
    Calls Tryz.prog 32 #[.pointer (some ⟨b, 0, none⟩), x.val] w fun e w' => e = .returned (.tuple #[.int .u64 (s.send x).2.1, .int .i64 (s.send x).2.2]) ∧
      LedR w' (Grow F w) b (s.send x).1 ∧ Chg F w w' := by
  obtain ⟨hl0, hl1⟩ := hx.len
  obtain ⟨ho0, ho1⟩ := hx.off
  by_cases hbad : x.len < 1 ∨ 1500 < x.len ∨ 4611686018427387903 < x.off
  · have Hg : Hid (s.send x = (s, 0, 1)) := if_pos hbad
    have HR : Hid (∀ w', Below w.heap.size w w' → LedR w' (Grow F w) b s ∧ Chg F w w') := fun w' hb =>
      ⟨(h.below hb).chg (Chg.refl (fun _ => False) _) (fun _ _ _ h => h) (fun _ _ h => .inl h), chg_below hb⟩
    clear h hx
    unfold Snt.val
    by_cases h1 : x.len < 1
    · go_enter Tryz.func32, Tryz.ntmps32
      go_wp2
      go_ret2
      rw [Hg.out]
      exact ⟨rfl, HR.out _ (box_below _ _)⟩
    · by_cases h2 : 1500 < x.len
      · go_enter Tryz.func32, Tryz.ntmps32
        go_wp2
        go_ret2
        rw [Hg.out]
        exact ⟨rfl, HR.out _ (box_below _ _)⟩
      · have h3 : 4611686018427387903 < x.off := by omega
        go_enter Tryz.func32, Tryz.ntmps32
        go_wp2
        go_ret2
        rw [Hg.out]
        exact ⟨rfl, HR.out _ (box_below _ _)⟩
  · have Hg : Hid (s.send x = s.give { x with state := 1, used := false }) := if_neg hbad
    have h1 : 1 ≤ x.len := by omega
    have h2 : x.len ≤ 1500 := by omega
    have h3 : x.off ≤ 4611686018427387903 := by omega
    have HX : Hid (({ x with state := 1, used := false } : Snt).ok) := ⟨hx.pn, hx.off, hx.len, hx.nonce, hx.at_, by unfold isI64; simp⟩
    have H := Lib.hid h
    clear h hx hbad
    unfold Snt.val
    go_enter Tryz.func32, Tryz.ntmps32
    go_wp2_with fail
    have hb1 := box_below w (.cells #[.int .u64 x.pn, .int .u64 x.off, .int .u64 x.len, .int .u64 x.nonce, .int .u64 x.at_, .bool x.coin, .bool false, .int .i64 1] 66)
    refine (ledR_give _ F b s { x with state := 1, used := false } (H.out.below hb1) HX.out (fun _ => ⟨h1, h2⟩) hmax).mono ?_
    rintro e w2 ⟨rfl, hL, hC⟩
    have HL := Lib.hid hL
    clear hL
    go_wp2
    go_ret2
    rw [Hg.out]
    refine ⟨rfl, HL.out.chg (Chg.refl (fun _ => False) _) (fun _ _ _ h => h) (fun k _ hk => ?_), (chg_below hb1).step hC (fun _ _ h => h)⟩
    rcases hk with hk | hk
    · exact .inl hk
    · exact .inr (Nat.le_trans hb1.size hk)

theorem Sns_get {l : List Snt} {i : Nat} (h : i < l.length) : l[i].val = Value.agg l[i].vals.toArray := rfl

end Go.Proofs.YtpfmhkkglaghgaaGreat
