/-
  Walks of the reference's ledger: All, Get, Use, Settle.
-/
import Derived.Test.YteigflkpopcjkaaLedR1
import Derived.Test.YteigflkpopcjkaaTail
import Derived.Laws.ResultCell
namespace Go.Proofs.Yteigflkpopcjkaa
set_option linter.unusedSimpArgs false
set_option linter.unusedVariables false
set_option linter.unnecessarySimpa false
open Go.RowKit

set_option maxRecDepth 100000 in
theorem ledR_all (w : World) (F : Nat → Prop) (b : Nat) (s : LS) (h : LedR w F b s) :
    Calls Try.prog 46 #[.pointer (some ⟨b, 0, none⟩)] w fun e w' => ∃ A c, e = .returned (.slice A s.kept.length c) ∧
      w'.ownsRow w.heap.size 32 8 (.slice A s.kept.length c) s.kept.length (Sns s.kept) ∧ Below w.heap.size w w' := by
  obtain ⟨i0, hi0, hz0, hz1, hz2⟩ := info_parts infoSent
  obtain ⟨A, c, Hb, c0, c1, c2, ho, -⟩ := h.cells
  have g5 := s.kept_le
  have g2 := h.good.ring256
  have g3 := h.good.len
  have g4 := h.good.lim1
  have k1 := s.low_le
  have HK : Hid (s.kept.length = s.all.length - s.low) := by show _ = _; simp [LS.kept]
  have H := Lib.hid h
  have R := Rd.of_own ho
  obtain ⟨A9, hrun9, hcut9⟩ := R.cut_run (P := Try.prog) (t := 48) Try.underlying48 hi0 hz1 (k := s.low) (by omega)
  have HC : Hid (∀ w', Qt w w' → Rd w' 8 A9 s.kept.length (c - s.low) (Sns s.kept)) := fun w' q => by
    have := hcut9 w' _ (R.qt q)
    rw [Sns_drop, ← HK.out] at this
    exact this
  rw [← HK.out] at hrun9
  clear hcut9 R ho h
  go_enter Try.func46, Try.ntmps46
  go_wp2
  refine wp_region_qtt 8 (by kernel_rfl) (by kernel_rfl) ?_
  simp only [List.take_succ_cons, List.take_zero, List.drop_succ_cons, List.drop_zero]
  repeat (first | go_big_quiet_step ((go_at_call 58; exact Qt.callN (ledR_low _ F b s H.out.dn))) | quiet_step ((go_at_call 58; exact Qt.callN (ledR_low _ F b s H.out.dn))))
  refine wpQuiet_nil ?_
  intro w1 q1
  have R9 := HC.out w1 q1
  have q1b := q1.below (B := w.heap.size)
  go_wp2_with (
    at_builtin
    refine wpList_append_rd _ rfl (.const (.slice none 0 0)) (.tmp 10) 48 rfl w1.heap.size 32 i0 _ 8 56 Try.underlying48 hi0 hz0 hz1 hz2 rfl (by decide) (.slice none 0 0) 0 [] rfl (World.ownsRow_nil _ _ _ _) A9 s.kept.length (c - s.low) (Sns s.kept) rfl R9 (Sns_one _) (by unfold maxLen; omega) (by omega) (Nat.le_refl _) ?_
    intro v2 w2 hown2 hg2 _
    have hb2 : Below w1.heap.size w1 w2 := (Below.refl _ _).grown hg2 (Nat.le_refl _) (fun g hg => by simp [Value.ownBlock] at hg)
    rw [Nat.zero_add, List.nil_append] at hown2
    obtain ⟨A2, cc, hv, hA2⟩ := own_slice hown2
    subst hv)
  go_ret
  rw [q1.heap] at hown2 hb2
  exact ⟨A2, cc, rfl, hown2, q1b.trans hb2⟩

/-- A reference's ledger whose row lies in block g. -/
structure LedRAt (w : World) (F : Nat → Prop) (b g c : Nat) (s : LS) : Prop where
  blk : w.heap[b]? = some (.cells #[.int .i64 s.ring, .int .u64 s.limit, .slice (some ⟨g, 0, none⟩) s.all.length c] 104 (0, 0))
  own : w.ownsRow 0 32 8 (.slice (some ⟨g, 0, none⟩) s.all.length c) s.all.length (Sns s.all)
  fb : F b
  fg : F g
  ne : g ≠ b
theorem LedR.open_ {w : World} {F : Nat → Prop} {b : Nat} {s : LS} (h : LedR w F b s) (hn : 0 < s.all.length) : ∃ g c, LedRAt w F b g c s := by
  obtain ⟨gd, A, c, h1, h2, h3, h4⟩ := h
  obtain ⟨A', c', e, hA⟩ := own_slice h2
  injection e with e1 _ e3
  subst e1
  subst e3
  obtain ⟨g, rfl, _⟩ := hA hn
  exact ⟨g, c, h1, h2, h3, (h4 g rfl).1, (h4 g rfl).2⟩
theorem LedRAt.shut {w : World} {F : Nat → Prop} {b g c : Nat} {s : LS} (h : LedRAt w F b g c s) (gd : s.Good) : LedR w F b s :=
  ⟨gd, _, c, h.blk, h.own, h.fb, fun k hk => by simp only [Value.ownBlock, Option.some.injEq] at hk; subst hk; exact ⟨h.fg, h.ne⟩⟩
theorem LedRAt.below {w w' : World} {F : Nat → Prop} {b g c : Nat} {s : LS} (h : LedRAt w F b g c s) (q : Below w.heap.size w w') : LedRAt w' F b g c s :=
  ⟨(q.block b (lt_of_block h.blk)).trans h.blk, own_chg h.own (chg_below q (F := fun _ => False)) (fun _ _ h => h), h.fb, h.fg, h.ne⟩
theorem LedRAt.put {w : World} {F : Nat → Prop} {b g c : Nat} {s : LS} (h : LedRAt w F b g c s) {pn : Int} (hp : s.has pn) {j : Nat} (hj : j < 8) {u : Value} {y : Snt} (hy : y.vals = (s.at' pn).vals.set j u) :
    LedRAt (w.setCell ⟨g, pn.toNat * 8 + j, none⟩ u) F b g c (s.put pn y) := by
  have hk := (LS.has_lt hp).1
  have e := LS.at'_eq hp
  have ha : (s.put pn y).all.length = s.all.length := by simp [LS.put]
  refine ⟨?_, ?_, h.fb, h.fg, h.ne⟩
  · rw [ha, heap_setCell_other _ _ _ _ (Ne.symm h.ne)]
    exact h.blk
  · rw [ha]
    have := (h.own.stored (pn.toNat * 8 + j) u).1
    rwa [show (Sns s.all).set (pn.toNat * 8 + j) u = Sns (s.all.set pn.toNat y) from flat_set _ 8 vals_len _ _ _ _ _ hk hj (by rw [← e]; exact hy)] at this
theorem LedRAt.cells {w : World} {F : Nat → Prop} {b g c : Nat} {s : LS} (h : LedRAt w F b g c s) {pn : Int} (hp : s.has pn) :
    w.cell? ⟨g, pn.toNat * 8, none⟩ = some (.int .u64 (s.at' pn).pn) ∧ w.cell? ⟨g, pn.toNat * 8 + 1, none⟩ = some (.int .u64 (s.at' pn).off) ∧
      w.cell? ⟨g, pn.toNat * 8 + 2, none⟩ = some (.int .u64 (s.at' pn).len) ∧ w.cell? ⟨g, pn.toNat * 8 + 3, none⟩ = some (.int .u64 (s.at' pn).nonce) ∧
      w.cell? ⟨g, pn.toNat * 8 + 4, none⟩ = some (.int .u64 (s.at' pn).at_) ∧ w.cell? ⟨g, pn.toNat * 8 + 5, none⟩ = some (.bool (s.at' pn).coin) ∧
      w.cell? ⟨g, pn.toNat * 8 + 6, none⟩ = some (.bool (s.at' pn).used) ∧ w.cell? ⟨g, pn.toNat * 8 + 7, none⟩ = some (.int .i64 (s.at' pn).state) := by
  have hk := (LS.has_lt hp).1
  have e := LS.at'_eq hp
  obtain ⟨bb, off, ea, d⟩ := (Rd.of_own h.own).snt hk
  injection ea with ea
  injection ea with e1 e2 _
  subst e1
  subst e2
  rw [e]
  simpa using d

set_option maxHeartbeats 1600000 in
theorem ledR_get_yes (w : World) (F : Nat → Prop) (b : Nat) (s : LS) (pn : Int) (h : LedR w F b s) (hp : s.has pn) :
    Calls Try.prog 68 #[.pointer (some ⟨b, 0, none⟩), .int .u64 pn] w fun e w' => e = .returned (.tuple #[(s.at' pn).val, .bool true]) ∧ Below w.heap.size w w' := by
  obtain ⟨g, c, ha⟩ := h.open_ (by have := (LS.has_lt hp).1; omega)
  obtain ⟨d0, d1, d2, d3, d4, d5, d6, d7⟩ := ha.cells hp
  have eb := box_below w (.cells #[.int .u64 0, .int .u64 0, .int .u64 0, .int .u64 0, .int .u64 0, .bool false, .bool false, .int .i64 0] 32)
  have HP := Lib.hid (h.below eb)
  have gg3 := h.good.len
  have gg4 := h.good.lim1
  obtain ⟨p1, p2⟩ := hp
  have hlt : g < w.heap.size := block_lt_of_cell d0
  have hbl : b < w.heap.size := lt_of_block ha.blk
  have c2 : w.cell? ⟨b, 2, none⟩ = some (.slice (some ⟨g, 0, none⟩) s.all.length c) := cell_of_row w b 2 _ _ _ ha.blk
  generalize s.at' pn = x at *
  obtain ⟨n, rfl⟩ := Int.eq_ofNat_of_zero_le (show 0 ≤ pn by omega)
  rw [Int.toNat_natCast] at *
  clear h ha eb
  go_enter Try.func68, Try.ntmps68
  go_wp2_with fail
  refine (ledR_low _ F b s HP.out).mono ?_
  rintro e w1 ⟨rfl, n1, rfl⟩
  go_wp2_with fail
  refine (ledR_next _ F b s HP.out.dn).mono ?_
  rintro e w1 ⟨rfl, n2, rfl⟩
  go_wp2
  (try simp only [Exit.inBlock, Exit.then])
  refine bodyPost_ret (v := .tuple #[x.val, .bool true]) ?_ rfl ⟨rfl, ?_⟩
  · rw [results_cell_tmp rfl]
    unfold Snt.val
    go_simp
  · iterate 8 (refine Below.setCell ?_ (by exact Nat.le_refl _) _)
    exact below_drewN (box_below _ _) _

set_option maxHeartbeats 1600000 in
theorem ledR_get_no (w : World) (F : Nat → Prop) (b : Nat) (s : LS) (pn : Int) (h : LedR w F b s) (hu : isU64 pn) (hp : ¬ s.has pn) :
    Calls Try.prog 68 #[.pointer (some ⟨b, 0, none⟩), .int .u64 pn] w fun e w' => e = .returned (.tuple #[LS.zero.val, .bool false]) ∧ Below w.heap.size w w' := by
  have eb := box_below w (.cells #[.int .u64 0, .int .u64 0, .int .u64 0, .int .u64 0, .int .u64 0, .bool false, .bool false, .int .i64 0] 32)
  have HP := Lib.hid (h.below eb)
  have hb2 : ∀ n1, Below w.heap.size w ((w.alloc (.cells #[.int .u64 0, .int .u64 0, .int .u64 0, .int .u64 0, .int .u64 0, .bool false, .bool false, .int .i64 0] 32)).drewN n1) := fun n1 => below_drewN eb _
  have Hb2 := Lib.hid hb2
  obtain ⟨hu1, hu2⟩ := hu
  have gg3 := h.good.len
  have gg4 := h.good.lim1
  clear h eb hb2
  by_cases hlo : pn < s.low
  · go_enter Try.func68, Try.ntmps68
    go_wp2_with fail
    refine (ledR_low _ F b s HP.out).mono ?_
    rintro e w1 ⟨rfl, n1, rfl⟩
    go_wp2
    (try simp only [Exit.inBlock, Exit.then])
    refine bodyPost_ret (v := .tuple #[LS.zero.val, .bool false]) ?_ rfl ⟨rfl, ?_⟩
    · rw [results_cell_tmp rfl]
      unfold Snt.val LS.zero
      go_simp
    · iterate 8 (refine Below.setCell ?_ (by exact Nat.le_refl _) _)
      exact Hb2.out _
  · have hhi : (s.all.length : Int) ≤ pn := by unfold LS.has at hp; omega
    clear hp
    go_enter Try.func68, Try.ntmps68
    go_wp2_with fail
    refine (ledR_low _ F b s HP.out).mono ?_
    rintro e w1 ⟨rfl, n1, rfl⟩
    go_wp2_with fail
    refine (ledR_next _ F b s HP.out.dn).mono ?_
    rintro e w1 ⟨rfl, n2, rfl⟩
    go_wp2
    (try simp only [Exit.inBlock, Exit.then])
    refine bodyPost_ret (v := .tuple #[LS.zero.val, .bool false]) ?_ rfl ⟨rfl, ?_⟩
    · rw [results_cell_tmp rfl]
      unfold Snt.val LS.zero
      go_simp
    · iterate 8 (refine Below.setCell ?_ (by exact Nat.le_refl _) _)
      exact Hb2.out _

/-- What a contract that makes memory keeps, as rules for the walk. -/
theorem bcell {W w1 : World} (hb : Below W.heap.size W w1) : (∀ b o, b < W.heap.size → w1.cell? ⟨b, o, none⟩ = W.cell? ⟨b, o, none⟩) ∧ (∀ b o, b < W.heap.size → w1.frozen? ⟨b, o, none⟩ = W.frozen? ⟨b, o, none⟩) :=
  ⟨fun b o h => hb.cell (p := ⟨b, o, none⟩) h, fun b o h => hb.frozen (p := ⟨b, o, none⟩) h⟩

end Go.Proofs.Yteigflkpopcjkaa
