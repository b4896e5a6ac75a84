/-
  Walks of the reference's ledger: Send, Skip, Fork; SameSent.
-/
import Derived.Test.YteigflkpopcjkaaLedR4
import Derived.Test.YteigflkpopcjkaaLedR3
namespace Go.Proofs.Yteigflkpopcjkaa
set_option linter.unusedSimpArgs false
set_option linter.unusedVariables false
set_option linter.unnecessarySimpa false
open Go.RowKit

set_option maxHeartbeats 1600000 in
theorem ledR_send (w : World) (F : Nat → Prop) (b : Nat) (s : LS) (x : Snt) (h : LedR w F b s) (hx : x.ok) (hmax : s.all.length < 1000000000) :
    Calls Try.prog 64 #[.pointer (some ⟨b, 0, none⟩), x.val] w fun e w' => e = .returned (.tuple #[.int .u64 (s.send x).2.1, .int .i64 (s.send x).2.2]) ∧
      LedR w' (Grow F w) b (s.send x).1 ∧ Chg F w w' := by
  obtain ⟨hl0, hl1⟩ := hx.len
  obtain ⟨ho0, ho1⟩ := hx.off
  by_cases hbad : x.len < 1 ∨ 1500 < x.len ∨ 4611686018427387903 < x.off
  · have Hg : Hid (s.send x = (s, 0, 1)) := if_pos hbad
    have HR : Hid (∀ w', Below w.heap.size w w' → LedR w' (Grow F w) b s ∧ Chg F w w') := fun w' hb =>
      ⟨(h.below hb).chg (Chg.refl (fun _ => False) _) (fun _ _ _ h => h) (fun _ _ h => .inl h), chg_below hb⟩
    clear h hx
    unfold Snt.val
    by_cases h1 : x.len < 1
    · go_enter Try.func64, Try.ntmps64
      go_wp2
      go_ret2
      rw [Hg.out]
      exact ⟨rfl, HR.out _ (box_below _ _)⟩
    · by_cases h2 : 1500 < x.len
      · go_enter Try.func64, Try.ntmps64
        go_wp2
        go_ret2
        rw [Hg.out]
        exact ⟨rfl, HR.out _ (box_below _ _)⟩
      · have h3 : 4611686018427387903 < x.off := by omega
        go_enter Try.func64, Try.ntmps64
        go_wp2
        go_ret2
        rw [Hg.out]
        exact ⟨rfl, HR.out _ (box_below _ _)⟩
  · have Hg : Hid (s.send x = s.give { x with state := 1, used := false }) := if_neg hbad
    have h1 : 1 ≤ x.len := by omega
    have h2 : x.len ≤ 1500 := by omega
    have h3 : x.off ≤ 4611686018427387903 := by omega
    have HX : Hid (({ x with state := 1, used := false } : Snt).ok) := ⟨hx.pn, hx.off, hx.len, hx.nonce, hx.at_, by unfold isI64; simp⟩
    have H := Lib.hid h
    clear h hx hbad
    unfold Snt.val
    go_enter Try.func64, Try.ntmps64
    go_wp2_with fail
    have hb1 := box_below w (.cells #[.int .u64 x.pn, .int .u64 x.off, .int .u64 x.len, .int .u64 x.nonce, .int .u64 x.at_, .bool x.coin, .bool false, .int .i64 1] 32)
    refine (ledR_give _ F b s { x with state := 1, used := false } (H.out.below hb1) HX.out (fun _ => ⟨h1, h2⟩) hmax).mono ?_
    rintro e w2 ⟨rfl, hL, hC⟩
    have HL := Lib.hid hL
    clear hL
    go_wp2
    go_ret2
    rw [Hg.out]
    refine ⟨rfl, HL.out.chg (Chg.refl (fun _ => False) _) (fun _ _ _ h => h) (fun k _ hk => ?_), (chg_below hb1).step hC (fun _ _ h => h)⟩
    rcases hk with hk | hk
    · exact .inl hk
    · exact .inr (Nat.le_trans hb1.size hk)

set_option maxHeartbeats 1600000 in
theorem ledR_skip (w : World) (F : Nat → Prop) (b : Nat) (s : LS) (h : LedR w F b s) (hmax : s.all.length < 1000000000) :
    Calls Try.prog 65 #[.pointer (some ⟨b, 0, none⟩)] w fun e w' => e = .returned (.tuple #[.int .u64 s.skip.2.1, .int .i64 s.skip.2.2]) ∧
      LedR w' (Grow F w) b s.skip.1 ∧ Chg F w w' := by
  have H := Lib.hid h
  clear h
  have Hg : Hid (s.skip = s.give LS.skipped) := rfl
  have HX : Hid LS.skipped.ok := ⟨by unfold isU64 LS.skipped; simp, by unfold isU64 LS.skipped; simp, by unfold isU64 LS.skipped; simp, by unfold isU64 LS.skipped; simp, by unfold isU64 LS.skipped; simp, by unfold isI64 LS.skipped; simp⟩
  go_enter Try.func65, Try.ntmps65
  go_wp2_with fail
  refine (ledR_give _ F b s LS.skipped H.out HX.out (fun e => by simp [LS.skipped] at e) hmax).mono ?_
  rintro e w2 ⟨rfl, hL, hC⟩
  have HL := Lib.hid hL
  clear hL
  go_wp2
  go_ret2
  rw [Hg.out]
  exact ⟨rfl, HL.out, hC⟩

set_option maxHeartbeats 1600000 in
set_option maxRecDepth 100000 in
theorem ledR_fork (w : World) (F : Nat → Prop) (b : Nat) (s : LS) (h : LedR w F b s) (hmax : s.all.length < 1000000000) :
    Calls Try.prog 40 #[.pointer (some ⟨b, 0, none⟩)] w fun e w' => ∃ b', e = .returned (.pointer (some ⟨b', 0, none⟩)) ∧
      LedR w' (fun k => w.heap.size ≤ k) b' s ∧ Below w.heap.size w w' := by
  obtain ⟨i0, hi0, hz0, hz1, hz2⟩ := info_parts infoSent
  obtain ⟨A, c, Hb, c0, c1, c2, ho, -⟩ := h.cells
  have R := Rd.of_own ho
  have H := Lib.hid h
  have hblt := block_lt_of_cell c0
  simp only at hblt
  clear h ho
  go_enter Try.func40, Try.ntmps40
  go_wp2
  have Rd1 := R.drew
  go_region_held3 (fun W => W.cell? ⟨b, 0, none⟩ = some (.int .i64 s.ring) ∧ W.cell? ⟨b, 1, none⟩ = some (.int .u64 s.limit) ∧ W.cell? ⟨b, 2, none⟩ = some (.slice A s.all.length c))
    (first
      | go_keep
      | (go_split_ands
         refine ⟨?_, ?_, ?_⟩ <;> (refine (hb2.cell ?_).trans ?_ <;> first | assumption | (exact block_lt_of_cell (by assumption)))))
    ((refine step_append_rd w.drew (by rfl) (.const (.slice none 0 0)) (.tmp 14) 48 (by rfl) w.heap.size 32 i0 _ 8 56 Try.underlying48 hi0 hz0 hz1 hz2 rfl (by decide) (.slice none 0 0) 0 [] (by rfl) (World.ownsRow_nil _ _ _ _) A s.all.length c (Sns s.all) (by rfl) Rd1 (Sns_one _) (by unfold maxLen; omega) (by omega) (Nat.le_refl _) ?_; intro v2 w2 hown2 hg2 _
      have hb2 : Below w.heap.size w.drew w2 := (Below.refl _ _).grown hg2 (Nat.le_refl _) (fun g hg => by simp [Value.ownBlock] at hg)
      rw [Nat.zero_add, List.nil_append] at hown2
      obtain ⟨A2, cc, hv, hA2⟩ := own_slice hown2
      subst hv))
  go_wp2
  go_ret
  have hs := hb2.size
  refine ⟨w2.heap.size, rfl, ⟨H.out.good, A2, cc, heap_alloc_new w2 _, (own_base hown2 (fun _ _ => Nat.zero_le _)).alloc _, hs, fun k hk => ?_⟩, (((Below.refl w.heap.size w).drew).trans hb2).alloc hs _⟩
  have := hown2.lt k hk
  exact ⟨this.1, by omega⟩

theorem Sns_get {l : List Snt} {i : Nat} (h : i < l.length) : l[i].val = Value.agg l[i].vals.toArray := rfl

set_option maxHeartbeats 1600000 in
theorem sameSent_yes (w : World) (A B : Option Addr) (c d : Nat) (l : List Snt) (ha : Rd w 8 A l.length c (Sns l)) (hb : Rd w 8 B l.length d (Sns l)) :
    Calls Try.prog 72 #[.slice A l.length c, .slice B l.length d] w fun e w' => e = .returned (.bool true) ∧ Qt w w' := by
  have h1 := ha.cap
  have h2 := ha.max
  unfold maxLen at h2
  go_enter Try.func72, Try.ntmps72
  go_wp2
  go_loopw [5] (fun i wr => ∃ k : Nat, k ≤ l.length ∧ i = .int .i64 k ∧ Qt w wr) (fun i _ => l.length - (intOf i).toNat)
  case atStart => exact ⟨0, Nat.zero_le _, rfl, Qt.refl _⟩
  case round =>
    obtain ⟨k, hk, rfl, n, rfl⟩ := hrel
    by_cases hlt : k < l.length
    · obtain ⟨b1, o1, rfl, d0, d1, d2, d3, d4, d5, d6, d7⟩ := ha.snt hlt
      obtain ⟨b2, o2, rfl, e0, e1, e2, e3, e4, e5, e6, e7⟩ := hb.snt hlt
      have i1 : (0 : Int) ≤ k := by omega
      have i2 : (k : Int) < l.length := by omega
      generalize l[k] = x at *
      go_wp2
      refine wp_region_qt (by kernel_rfl) (by kernel_rfl) ?_
      repeat (go_big_quiet_step (fail))
      refine wpQuiet_nil ?_
      intro w2 q2
      go_wp2
      exact ⟨⟨k + 1, by omega, by go_num, (show Qt w (w.drewN n) from ⟨n, rfl⟩).trans q2⟩, by simp [intOf]; omega⟩
    · go_wp2
      go_ret
      exact ⟨rfl, ⟨n, rfl⟩⟩

end Go.Proofs.Yteigflkpopcjkaa
