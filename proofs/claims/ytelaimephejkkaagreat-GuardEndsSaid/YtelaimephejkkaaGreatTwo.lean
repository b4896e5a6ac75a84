/-
  Two ledgers alike: the program's and the reference's.
-/
import Derived.Test.YtelaimephejkkaaGreatLedP
import Derived.Test.YtelaimephejkkaaGreatLedR
import Derived.Test.YtelaimephejkkaaGreatSeq
namespace Go.Proofs.YtelaimephejkkaaGreat
set_option linter.unusedSimpArgs false
set_option linter.unusedVariables false
set_option linter.unnecessarySimpa false
open Go.RowKit

theorem LedP.lt {w : World} {F : Nat → Prop} {b : Nat} {s : LS} (h : LedP w F b s) : b < w.heap.size := by
  obtain ⟨_, A, c, h1, _⟩ := h
  exact lt_of_block h1
theorem LedR.lt {w : World} {F : Nat → Prop} {b : Nat} {s : LS} (h : LedR w F b s) : b < w.heap.size := by
  obtain ⟨_, A, c, h1, _⟩ := h
  exact lt_of_block h1
theorem LedP.sub {w : World} {F G : Nat → Prop} {b : Nat} {s : LS} (h : LedP w F b s) (hs : ∀ k, k < w.heap.size → F k → G k) : LedP w G b s :=
  h.chg (Chg.refl (fun _ => False) w) (fun _ _ _ h => h) hs
theorem LedR.sub {w : World} {F G : Nat → Prop} {b : Nat} {s : LS} (h : LedR w F b s) (hs : ∀ k, k < w.heap.size → F k → G k) : LedR w G b s :=
  h.chg (Chg.refl (fun _ => False) w) (fun _ _ _ h => h) hs

/-- Both, in blocks of their own. -/
structure Pair (w : World) (G H : Nat → Prop) (p r : Nat) (s t : LS) : Prop where
  p : LedP w G p s
  r : LedR w H r t
  dj : ∀ k, G k → ¬ H k
theorem Pair.below {w w' : World} {G H : Nat → Prop} {p r : Nat} {s t : LS} (h : Pair w G H p r s t) (b : Below w.heap.size w w') : Pair w' G H p r s t :=
  ⟨h.p.below b, h.r.below b, h.dj⟩
theorem Pair.qt {w w' : World} {G H : Nat → Prop} {p r : Nat} {s t : LS} (h : Pair w G H p r s t) (b : Qt w w') : Pair w' G H p r s t := h.below b.below
/-- What else turns blocks of a third kind alone. -/
theorem Pair.chg {w w' : World} {F G H : Nat → Prop} {p r : Nat} {s t : LS} (h : Pair w G H p r s t) (b : Chg F w w') (h1 : ∀ k, G k → ¬ F k) (h2 : ∀ k, H k → ¬ F k) : Pair w' G H p r s t :=
  ⟨h.p.chg b (fun k _ => h1 k) (fun _ _ h => h), h.r.chg b (fun k _ => h2 k) (fun _ _ h => h), h.dj⟩
theorem Pair.movP {w w' : World} {G G' H : Nat → Prop} {p r : Nat} {s s' t : LS} (h : Pair w G H p r s t) (hP : LedP w' G' p s') (hG : ∀ k, G' k → Grow G w k) (hC : Chg G w w') :
    Pair w' G' (fun k => H k ∧ k < w.heap.size) p r s' t :=
  ⟨hP, h.r.chg hC (fun k _ hk hg => h.dj k hg hk) (fun k hk hh => ⟨hh, hk⟩), fun k hk hh => (hG k hk).elim (fun hg => h.dj k hg hh.1) (fun hs => by have := hh.2; omega)⟩
theorem Pair.movR {w w' : World} {G H H' : Nat → Prop} {p r : Nat} {s t t' : LS} (h : Pair w G H p r s t) (hR : LedR w' H' r t') (hH : ∀ k, H' k → Grow H w k) (hC : Chg H w w') :
    Pair w' (fun k => G k ∧ k < w.heap.size) H' p r s t' :=
  ⟨h.p.chg hC (fun k _ hk hg => h.dj k hk hg) (fun k hk hh => ⟨hh, hk⟩), hR, fun k hk hh => (hH k hh).elim (fun hg => h.dj k hk.1 hg) (fun hs => by have := hk.2; omega)⟩

def Two (w : World) (F : Nat → Prop) (p r : Nat) (s : LS) : Prop := ∃ G H, Pair w G H p r s s ∧ ∀ k, G k ∨ H k → F k ∧ k < w.heap.size
theorem Pair.shut {w : World} {F G H : Nat → Prop} {p r : Nat} {s : LS} (h : Pair w G H p r s s) (hF : ∀ k, k < w.heap.size → G k ∨ H k → F k) : Two w F p r s :=
  ⟨fun k => G k ∧ k < w.heap.size, fun k => H k ∧ k < w.heap.size, ⟨h.p.sub fun k hk hg => ⟨hg, hk⟩, h.r.sub fun k hk hg => ⟨hg, hk⟩, fun k hk hh => h.dj k hk.1 hh.1⟩,
   fun k hk => hk.elim (fun h => ⟨hF k h.2 (.inl h.1), h.2⟩) (fun h => ⟨hF k h.2 (.inr h.1), h.2⟩)⟩
theorem Two.below {w w' : World} {F : Nat → Prop} {p r : Nat} {s : LS} (h : Two w F p r s) (b : Below w.heap.size w w') : Two w' F p r s := by
  obtain ⟨G, H, hp, hF⟩ := h
  exact ⟨G, H, hp.below b, fun k hk => ⟨(hF k hk).1, Nat.lt_of_lt_of_le (hF k hk).2 b.size⟩⟩
theorem Two.chg {w w' : World} {F F' : Nat → Prop} {p r : Nat} {s : LS} (h : Two w F p r s) (b : Chg F' w w') (hd : ∀ k, k < w.heap.size → F k → ¬ F' k) : Two w' F p r s := by
  obtain ⟨G, H, hp, hF⟩ := h
  exact ⟨G, H, hp.chg b (fun k hk => hd k (hF k (.inl hk)).2 (hF k (.inl hk)).1) (fun k hk => hd k (hF k (.inr hk)).2 (hF k (.inr hk)).1), fun k hk => ⟨(hF k hk).1, Nat.lt_of_lt_of_le (hF k hk).2 b.size⟩⟩
theorem Two.sub {w : World} {F F' : Nat → Prop} {p r : Nat} {s : LS} (h : Two w F p r s) (hs : ∀ k, k < w.heap.size → F k → F' k) : Two w F' p r s := by
  obtain ⟨G, H, hp, hF⟩ := h
  exact ⟨G, H, hp, fun k hk => ⟨hs k (hF k hk).2 (hF k hk).1, (hF k hk).2⟩⟩
theorem Two.good {w : World} {F : Nat → Prop} {p r : Nat} {s : LS} (h : Two w F p r s) : s.Good := by
  obtain ⟨G, H, hp, -⟩ := h
  exact hp.p.good

set_option maxHeartbeats 4000000 in
set_option maxRecDepth 100000 in
theorem two_same (w : World) (F : Nat → Prop) (p r : Nat) (s : LS) (h : Two w F p r s) :
    Calls Tryz.prog 33 #[.agg #[.pointer (some ⟨p, 0, none⟩), .pointer (some ⟨r, 0, none⟩)]] w fun e w' => e = .returned (.bool true) ∧ Below w.heap.size w w' := by
  have eb := box_below w (.cells #[.pointer (some ⟨p, 0, none⟩), .pointer (some ⟨r, 0, none⟩)] 28)
  have hx := heap_alloc_new w (.cells #[.pointer (some ⟨p, 0, none⟩), .pointer (some ⟨r, 0, none⟩)] 28)
  obtain ⟨G, H, hp, -⟩ := h
  have HP := Lib.hid (hp.below eb)
  have EB := Lib.hid eb
  have HX := Lib.hid hx
  have HK := Lib.hid s.kept_le
  have HG := Lib.hid hp.p.good.ring256
  clear hp eb hx
  go_enter Tryz.func33, Tryz.ntmps33
  go_wp2
  generalize hw1 : w.alloc (.cells #[.pointer (some ⟨p, 0, none⟩), .pointer (some ⟨r, 0, none⟩)] 28) = w1 at *
  clear hw1
  have m0 := mixF_cell (F := fun _ => False) (cell_of_row w1 w.heap.size 0 _ _ _ HX.out) id
  have m1 := mixF_cell (F := fun _ => False) (cell_of_row w1 w.heap.size 1 _ _ _ HX.out) id
  simp only [List.getElem_toArray, List.getElem_cons_zero, List.getElem_cons_succ] at m0 m1
  refine wp_region_chg (fun _ => False) (by kernel_rfl) (by kernel_rfl) ?_
  repeat (refine wpMix_seg 1 _ _ rfl ?_; simp only [List.take_succ_cons, List.take_zero, List.drop_succ_cons, List.drop_zero]; go_big_quiet_step (fail); refine wpQuiet_nil ?_)
  have hb0 : Below w1.heap.size w1 w1.drew := (Below.refl _ _).drew
  have HP0 := Lib.hid (HP.out.below hb0)
  clear HP
  refine wpMix_bar rfl (by rfl) ?_
  go_wp2_with fail
  refine (led_low _ G p s HP0.out.p).mono ?_
  rintro e v1 ⟨rfl, q⟩
  have hb1 := hb0.trans q.below
  have HP1 := Lib.hid (HP0.out.below q.below)
  clear HP0 hb0 q
  go_wp2
  refine ⟨chg_mixF (chg_below hb1), ?_⟩
  repeat (refine wpMix_seg 1 _ _ rfl ?_; simp only [List.take_succ_cons, List.take_zero, List.drop_succ_cons, List.drop_zero]; go_big_quiet_step (fail); refine wpQuiet_nil ?_)
  refine wpMix_bar rfl (by rfl) ?_
  go_wp2_with fail
  refine (ledR_low _ H r s HP1.out.r).mono ?_
  rintro e v2 ⟨rfl, q⟩
  have hb2 := hb1.trans q.below
  have HP2 := Lib.hid (HP1.out.below q.below)
  clear HP1 hb1 q
  go_wp2
  refine ⟨chg_mixF (chg_below hb2), ?_⟩
  repeat (refine wpMix_seg 1 _ _ rfl ?_; simp only [List.take_succ_cons, List.take_zero, List.drop_succ_cons, List.drop_zero]; go_big_quiet_step (fail); refine wpQuiet_nil ?_)
  refine wpMix_bar rfl (by rfl) ?_
  go_wp2_with fail
  refine (led_next _ G p s HP2.out.p).mono ?_
  rintro e v3 ⟨rfl, q⟩
  have hb3 := hb2.trans q.below
  have HP3 := Lib.hid (HP2.out.below q.below)
  clear HP2 hb2 q
  go_wp2
  refine ⟨chg_mixF (chg_below hb3), ?_⟩
  repeat (refine wpMix_seg 1 _ _ rfl ?_; simp only [List.take_succ_cons, List.take_zero, List.drop_succ_cons, List.drop_zero]; go_big_quiet_step (fail); refine wpQuiet_nil ?_)
  refine wpMix_bar rfl (by rfl) ?_
  go_wp2_with fail
  refine (ledR_next _ H r s HP3.out.r).mono ?_
  rintro e v4 ⟨rfl, q⟩
  have hb4 := hb3.trans q.below
  have HP4 := Lib.hid (HP3.out.below q.below)
  clear HP3 hb3 q
  go_wp2
  refine ⟨chg_mixF (chg_below hb4), ?_⟩
  repeat (refine wpMix_seg 1 _ _ rfl ?_; simp only [List.take_succ_cons, List.take_zero, List.drop_succ_cons, List.drop_zero]; go_big_quiet_step (fail); refine wpQuiet_nil ?_)
  refine wpMix_bar rfl (by rfl) ?_
  go_wp2_with fail
  refine (led_least _ G p s HP4.out.p).mono ?_
  rintro e v5 ⟨rfl, b⟩
  have hb5 := hb4.trans (b.mono hb4.size)
  have HP5 := Lib.hid (HP4.out.below b)
  clear HP4 hb4 b
  go_wp2
  refine ⟨chg_mixF (chg_below hb5), ?_⟩
  repeat (refine wpMix_seg 1 _ _ rfl ?_; simp only [List.take_succ_cons, List.take_zero, List.drop_succ_cons, List.drop_zero]; go_big_quiet_step (fail); refine wpQuiet_nil ?_)
  refine wpMix_bar rfl (by rfl) ?_
  go_wp2_with fail
  refine (ledR_least _ H r s HP5.out.r).mono ?_
  rintro e v6 ⟨rfl, q⟩
  have hb6 := hb5.trans q.below
  have HP6 := Lib.hid (HP5.out.below q.below)
  clear HP5 hb5 q
  go_wp2
  refine ⟨chg_mixF (chg_below hb6), ?_⟩
  repeat (refine wpMix_seg 1 _ _ rfl ?_; simp only [List.take_succ_cons, List.take_zero, List.drop_succ_cons, List.drop_zero]; go_big_quiet_step (fail); refine wpQuiet_nil ?_)
  refine wpMix_bar rfl (by rfl) ?_
  go_wp2_with fail
  refine (led_room _ G p s HP6.out.p).mono ?_
  rintro e v7 ⟨rfl, b⟩
  have hb7 := hb6.trans (b.mono hb6.size)
  have HP7 := Lib.hid (HP6.out.below b)
  clear HP6 hb6 b
  go_wp2
  refine ⟨chg_mixF (chg_below hb7), ?_⟩
  repeat (refine wpMix_seg 1 _ _ rfl ?_; simp only [List.take_succ_cons, List.take_zero, List.drop_succ_cons, List.drop_zero]; go_big_quiet_step (fail); refine wpQuiet_nil ?_)
  refine wpMix_bar rfl (by rfl) ?_
  go_wp2_with fail
  refine (ledR_room _ H r s HP7.out.r).mono ?_
  rintro e v8 ⟨rfl, q⟩
  have hb8 := hb7.trans q.below
  have HP8 := Lib.hid (HP7.out.below q.below)
  clear HP7 hb7 q
  go_wp2
  refine ⟨chg_mixF (chg_below hb8), ?_⟩
  repeat (refine wpMix_seg 1 _ _ rfl ?_; simp only [List.take_succ_cons, List.take_zero, List.drop_succ_cons, List.drop_zero]; go_big_quiet_step (fail); refine wpQuiet_nil ?_)
  refine wpMix_bar rfl (by rfl) ?_
  go_wp2_with fail
  refine (led_flight _ G p s HP8.out.p).mono ?_
  rintro e v9 ⟨rfl, b⟩
  have hb9 := hb8.trans (b.mono hb8.size)
  have HP9 := Lib.hid (HP8.out.below b)
  clear HP8 hb8 b
  go_wp2
  refine ⟨chg_mixF (chg_below hb9), ?_⟩
  repeat (refine wpMix_seg 1 _ _ rfl ?_; simp only [List.take_succ_cons, List.take_zero, List.drop_succ_cons, List.drop_zero]; go_big_quiet_step (fail); refine wpQuiet_nil ?_)
  refine wpMix_bar rfl (by rfl) ?_
  go_wp2_with fail
  refine (ledR_flight _ H r s HP9.out.r).mono ?_
  rintro e v10 ⟨rfl, q⟩
  have hb10 := hb9.trans q.below
  have HP10 := Lib.hid (HP9.out.below q.below)
  clear HP9 hb9 q
  go_wp2
  refine ⟨chg_mixF (chg_below hb10), ?_⟩
  repeat (refine wpMix_seg 1 _ _ rfl ?_; simp only [List.take_succ_cons, List.take_zero, List.drop_succ_cons, List.drop_zero]; go_big_quiet_step (fail); refine wpQuiet_nil ?_)
  refine wpMix_bar rfl (by rfl) ?_
  go_wp2_with fail
  refine (led_all _ G p s HP10.out.p).mono ?_
  rintro e v11 ⟨A11, c11, rfl, o11, b⟩
  have hb11 := hb10.trans (b.mono hb10.size)
  have HP11 := Lib.hid (HP10.out.below b)
  have R11 := Lib.hid (Rd.of_own o11)
  clear HP10 hb10 b o11
  go_wp2
  refine ⟨chg_mixF (chg_below hb11), ?_⟩
  repeat (refine wpMix_seg 1 _ _ rfl ?_; simp only [List.take_succ_cons, List.take_zero, List.drop_succ_cons, List.drop_zero]; go_big_quiet_step (fail); refine wpQuiet_nil ?_)
  refine wpMix_bar rfl (by rfl) ?_
  go_wp2_with fail
  refine (ledR_all _ H r s HP11.out.r).mono ?_
  rintro e v12 ⟨A12, c12, rfl, o12, b⟩
  have hb12 := hb11.trans (b.mono hb11.size)
  have R11' := Lib.hid (R11.out.below b)
  have R12 := Lib.hid (Rd.of_own o12)
  clear HP11 hb11 b o12 R11
  go_wp2
  refine ⟨chg_mixF (chg_below hb12), ?_⟩
  repeat (refine wpMix_seg 1 _ _ rfl ?_; simp only [List.take_succ_cons, List.take_zero, List.drop_succ_cons, List.drop_zero]; go_big_quiet_step (fail); refine wpQuiet_nil ?_)
  refine wpMix_bar rfl (by rfl) ?_
  go_wp2_with fail
  refine (sameSent_yes _ A11 A12 c11 c12 s.kept R11'.out R12.out).mono ?_
  rintro e v13 ⟨rfl, q⟩
  have hb13 := hb12.trans q.below
  go_wp2
  refine ⟨chg_mixF (chg_below hb13), ?_⟩
  repeat (refine wpMix_seg 1 _ _ rfl ?_; simp only [List.take_succ_cons, List.take_zero, List.drop_succ_cons, List.drop_zero]; go_big_quiet_step (fail); refine wpQuiet_nil ?_)
  refine wpMix_nil ?_
  go_wp2
  go_ret
  exact ⟨rfl, EB.out.trans (hb13.mono EB.out.size)⟩

end Go.Proofs.YtelaimephejkkaaGreat
