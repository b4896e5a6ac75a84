/-
  The reference's receiver: Take. · The reference's receiver: Stream.
-/
import Derived.Test.YtkedfipeebjcjaaRpe3
import Derived.Test.YtkedfipeebjcjaaPee8
namespace Go.Proofs.Ytkedfipeebjcjaa
set_option linter.unusedSimpArgs false
set_option linter.unusedVariables false
set_option linter.unnecessarySimpa false
open Go.RowKit
attribute [local go_sem ↓] run_min_int run_max_int

/-- The blocks that Take may turn: all but the box of the packet. -/
def TaF (w : World) (F : Nat → Prop) (g : Nat) : Nat → Prop := fun k => (F k ∧ k < w.heap.size) ∨ (w.heap.size ≤ k ∧ k ≠ g)
structure TaS (w : World) (F M : Nat → Prop) (p g : Nat) (d : DatD) (A : Option Addr) (c : Nat) (s : PS) (m : RM) (W : World) : Prop where
  b : W.heap[g]? = some (.cells #[.int .u64 d.pn, .int .u64 d.least, .int .u64 d.off, .int .u64 d.nonce, .int .i64 d.ecn, .slice A d.body.length c] 30 (0, 0))
  r : RfR W (TaF w F g) M p s m
  ch : Chg F w W
  le : w.heap.size ≤ g
  lp : p < w.heap.size
theorem TaS.ne {w W : World} {F M : Nat → Prop} {p g : Nat} {d : DatD} {A : Option Addr} {c : Nat} {s : PS} {m : RM} (h : TaS w F M p g d A c s m W) : p ≠ g ∧ (m.v1 s).ownBlock ≠ some g ∧ (m.v2 s).ownBlock ≠ some g := by
  have h1 := h.le
  have h2 := h.lp
  refine ⟨by omega, fun e => ?_, fun e => ?_⟩
  · rcases (h.r.f1 g e).1 with h3 | h3
    · omega
    · exact h3.2 rfl
  · rcases (h.r.f2 g e).1 with h3 | h3
    · omega
    · exact h3.2 rfl
theorem TaS.new {w W : World} {F M : Nat → Prop} {p g : Nat} {d : DatD} {A : Option Addr} {c : Nat} {s : PS} {m : RM} (h : TaS w F M p g d A c s m W) : ∀ k, W.heap.size ≤ k → TaF w F g k := fun k hk => by
  have h1 := h.ch.size
  have h2 := lt_of_block h.b
  exact .inr ⟨by omega, by omega⟩
theorem TaS.step {w W W' : World} {F M : Nat → Prop} {p g : Nat} {d : DatD} {A : Option Addr} {c : Nat} {s s' : PS} {m m' : RM} (h : TaS w F M p g d A c s m W) (hC : Chg (TaF w F g) W W') (hr : RfR W' (TaF w F g) M p s' m') : TaS w F M p g d A c s' m' W' :=
  ⟨hC.blk h.b (fun e => by
    have h1 := h.le
    rcases e with e | e
    · omega
    · exact e.2 rfl), hr, h.ch.step hC (fun k hk e => by
    rcases e with e | e
    · exact e.1
    · omega), h.le, h.lp⟩
theorem TaS.below {w W W' : World} {F M : Nat → Prop} {p g : Nat} {d : DatD} {A : Option Addr} {c : Nat} {s : PS} {m : RM} (h : TaS w F M p g d A c s m W) (b : Below W.heap.size W W') : TaS w F M p g d A c s m W' := h.step (chg_below b) (h.r.below b)
theorem TaS.put {w W : World} {F M : Nat → Prop} {p g i : Nat} {d : DatD} {A : Option Addr} {c : Nat} {s s' : PS} {m : RM} (h : TaS w F M p g d A c s m W) (v : Value) (hl : s'.l = s.l) (hs : s'.s = s.s)
    (hc : #[.int .u64 s'.delay, .int .u64 s'.floor, .int .u64 s'.next, .slice m.A1 s'.l.length m.c1, .int .u64 s'.bytes, .slice m.A2 s'.s.length m.c2, .int .i64 s'.waits, .int .u64 s'.trigger, .int .u64 s'.due] = (#[.int .u64 s.delay, .int .u64 s.floor, .int .u64 s.next, .slice m.A1 s.l.length m.c1, .int .u64 s.bytes, .slice m.A2 s.s.length m.c2, .int .i64 s.waits, .int .u64 s.trigger, .int .u64 s.due] : Array Value).setIfInBounds i v) :
    TaS w F M p g d A c s' m (W.setCell ⟨p, i, none⟩ v) := h.step ((Chg.refl _ W).setCell (p := ⟨p, i, none⟩) (.inl h.r.fp) _) (h.r.put v hl hs hc)
theorem TaS.fin {w W : World} {F M : Nat → Prop} {p g : Nat} {d : DatD} {A : Option Addr} {c : Nat} {s : PS} {m : RM} (h : TaS w F M p g d A c s m W) : RfR W (Grow F w) M p s m :=
  h.r.sub (fun k _ e => by
    rcases e with e | e
    · exact .inl e.1
    · exact .inr e.1) (fun k _ e => .inr e)

theorem capG_sh {s t : PS} {b : Nat} (e : t = s.capG) (h : s.Mid 33 b) : ¬ 32 < t.got.length := by subst e; exact capG_short h
theorem capM_sh {s t : PS} {a : Nat} (e : t = s.capM) (h : s.Mid a 33) : ¬ 32 < t.marked.length := by subst e; exact capM_short h
theorem capG_few (s : PS) : s.capG.l.length ≤ s.l.length := by
  unfold PS.capG
  split
  · exact List.length_filter_le _ _
  · exact Nat.le_refl _
theorem capM_few (s : PS) : s.capM.l.length ≤ s.l.length := by
  unfold PS.capM
  split
  · exact List.length_filter_le _ _
  · exact Nat.le_refl _
theorem kept_few (s : PS) (d : DatD) : (s.kept d).l.length ≤ s.l.length + 1 := by
  have h1 : ((s.laid d).raise d.least).capG.capM.l.length ≤ ((s.laid d).raise d.least).capG.l.length := capM_few _
  have h2 : ((s.laid d).raise d.least).capG.l.length ≤ ((s.laid d).raise d.least).l.length := capG_few _
  have h3 : ((s.laid d).raise d.least).l.length ≤ (s.laid d).l.length := List.length_filter_le _ _
  have h4 : (s.laid d).l.length = s.l.length + 1 := by show (s.l ++ [_]).length = _; simp
  show ((s.laid d).raise d.least).capG.capM.l.length ≤ _
  omega
theorem take_a {s t : PS} {l : List Int} {d : DatD} {now : Int} (h0 : s.takeB l now = s.take d now) (hn : ¬ (d.pn < s.floor ∨ hasP s.got d.pn = true)) (hk : t = s.kept d) (h : d.pn < t.floor) : t = (s.take d now).1 ∧ s.takeB l now = (t, none) := by
  subst hk
  have : s.take d now = (s.kept d, none) := by unfold PS.take; rw [if_neg hn, if_pos h]
  rw [h0, this]
  exact ⟨rfl, rfl⟩
/-- The state behind a packet that is not old. -/
def PS.newest (t : PS) (d : DatD) : PS := { t with next := max t.next (d.pn + 1), waits := t.waits + 1, trigger := d.nonce }
theorem newest_eq (s : PS) (d : DatD) : (s.kept d).newest d = { s.kept d with next := max s.next (d.pn + 1), waits := s.waits + 1, trigger := d.nonce } := by
  have k := kept_same s d
  unfold PS.newest
  rw [k.2.1, k.2.2.1]
theorem take_b {s t : PS} {l : List Int} {d : DatD} {now : Int} (h0 : s.takeB l now = s.take d now) (hn : ¬ (d.pn < s.floor ∨ hasP s.got d.pn = true)) (hk : t = s.kept d) (h : ¬ d.pn < t.floor) (h2 : 2 ≤ t.waits + 1 ∨ d.ecn = 3 ∨ d.pn ≠ t.next) : (t.newest d).still = (s.take d now).1 ∧ s.takeB l now = ((t.newest d).still, some (t.newest d).told) := by
  subst hk
  have k := kept_same s d
  rw [k.2.1, k.2.2.1] at h2
  have : s.take d now = (((s.kept d).newest d).still, some ((s.kept d).newest d).told) := by
    unfold PS.take
    rw [if_neg hn, if_neg h, if_pos h2]
    simp only [newest_eq]
  rw [h0, this]
  exact ⟨rfl, rfl⟩
theorem take_c {s t : PS} {l : List Int} {d : DatD} {now : Int} (h0 : s.takeB l now = s.take d now) (hn : ¬ (d.pn < s.floor ∨ hasP s.got d.pn = true)) (hk : t = s.kept d) (h : ¬ d.pn < t.floor) (h2 : ¬ (2 ≤ t.waits + 1 ∨ d.ecn = 3 ∨ d.pn ≠ t.next)) : ({ t.newest d with due := min (now + t.delay) 18446744073709551615 } : PS) = (s.take d now).1 ∧ s.takeB l now = ({ t.newest d with due := min (now + t.delay) 18446744073709551615 }, none) := by
  subst hk
  have k := kept_same s d
  rw [k.2.1, k.2.2.1] at h2
  have : s.take d now = ({ (s.kept d).newest d with due := min (now + (s.kept d).delay) 18446744073709551615 }, none) := by
    unfold PS.take
    rw [if_neg hn, if_neg h, if_neg h2, k.1]
    simp only [newest_eq]
  rw [h0, this]
  exact ⟨rfl, rfl⟩
theorem TaS.shut {w W : World} {F M : Nat → Prop} {p g : Nat} {d : DatD} {A : Option Addr} {c : Nat} {s x : PS} {m : RM} (h : TaS w F M p g d A c x m W) (H : PeF w F M p s) (few : s.s.length < 600000) (hd : d.Ok) (gx : x.Good) (hs : x.s = s.s ++ [(d.off, d.body)]) (hb : x.bytes = s.bytes + d.body.length) (hl : x.l.length ≤ s.l.length + 1) : PeF W (Grow F w) M p x := by
  have n1 : x.s.length = s.s.length + 1 := by rw [hs]; simp
  have h1 := H.byt
  have h2 := hd.len
  have h3 := H.kl
  refine ⟨gx, ?_, by omega, by omega, fun y hy => ?_, m, h.fin⟩
  · rw [hb, n1]
    constructor
    · omega
    · push_cast
      omega
  · rw [hs] at hy
    rcases List.mem_append.1 hy with hy | hy
    · exact H.sl y hy
    · rw [List.mem_singleton] at hy
      subst hy
      exact ⟨hd.off.1, hd.off.2, h2.2, hd.u8⟩

def sliceLen (v : Value) : Nat := match v with
  | .slice _ n _ => n
  | _ => 0
set_option maxHeartbeats 8000000 in
set_option maxRecDepth 100000 in
theorem rp_take (w : World) (F M : Nat → Prop) (p : Nat) (s : PS) (A : Option Addr) (c : Nat) (l : List Int) (now : Int) (h : PeF w F M p s) (hr : Rd w 1 A l.length c (U8 l)) (hb : ∀ x ∈ l, 0 ≤ x ∧ x ≤ 255) (hl : l.length ≤ 70368744177664) (hnow : isU64 now) (hfew : s.s.length < 600000) :
    Calls Try.prog 21 #[.pointer (some ⟨p, 0, none⟩), .slice A l.length c, .int .u64 now] w fun e w' => TellVal (s.takeB l now).2 w w' e ∧ PeF w' (Grow F w) M p (s.takeB l now).1 ∧ Chg F w w' := by
  have H := Lib.hid h
  have KD := Lib.hid (ref_getData w A c l hr hb hl)
  have HB := Lib.hid hb
  have hpl := h.lt
  clear h hr hb
  go_enter Try.func21, Try.ntmps21
  go_wp2_with fail
  refine KD.out.mono ?_
  rintro e w1 hv
  unfold DatVal at hv
  clear KD
  cases hp : datP l with
  | error er =>
    rw [hp] at hv
    obtain ⟨rfl, hb1⟩ := hv
    have he := datP_err hp
    have HT : Hid (s.takeB l now = (s, none)) := Lib.hid (by unfold PS.takeB; rw [hp])
    have B2 := Lib.hid (hb1.trans ((box_below w1 (.cells zDat 30)).mono hb1.size))
    clear hb1 hp
    have hz : zDat = #[.int .u64 0, .int .u64 0, .int .u64 0, .int .u64 0, .int .i64 0, .slice none 0 0] := rfl
    rw [hz] at B2 ⊢
    clear hz
    go_upto_region 2 with fail
    generalize (w1.alloc (.cells #[.int .u64 0, .int .u64 0, .int .u64 0, .int .u64 0, .int .i64 0, .slice none 0 0] 30)) = w2 at *
    refine wp_region_chg (fun _ => False) (by kernel_rfl) (by kernel_rfl) ?_
    repeat (refine wpMix_seg 1 _ _ rfl ?_; simp only [List.take_succ_cons, List.take_zero, List.drop_succ_cons, List.drop_zero]; go_big_quiet_step (fail); refine wpQuiet_nil ?_)
    refine wpMix_skip (by rfl) ?_
    simp only [Act.put, List.setIfInBounds_toArray, List.set_cons_zero, List.set_cons_succ]
    repeat (refine wpMix_seg 1 _ _ rfl ?_; simp only [List.take_succ_cons, List.take_zero, List.drop_succ_cons, List.drop_zero]; go_big_quiet_step (fail); refine wpQuiet_nil ?_)
    refine wpMix_skip (by rfl) ?_
    simp only [Act.put, List.setIfInBounds_toArray, List.set_cons_zero, List.set_cons_succ]
    repeat (refine wpMix_seg 1 _ _ rfl ?_; simp only [List.take_succ_cons, List.take_zero, List.drop_succ_cons, List.drop_zero]; go_big_quiet_step (fail); refine wpQuiet_nil ?_)
    refine wpMix_nil ?_
    go_wp2
    go_ret2
    rw [HT.out]
    exact ⟨rfl, (H.out.below B2.out.drew).sub (fun k _ e => .inl e) (fun k _ e => .inr e), chg_below B2.out.drew⟩
  | ok d =>
    rw [hp] at hv
    obtain ⟨A1, c1, rfl, hr1, hb1, hn1⟩ := hv
    have HT0 : Hid (s.takeB l now = s.take d now) := Lib.hid (by unfold PS.takeB; rw [hp])
    have DO := Lib.hid (datP_ok hp HB.out)
    have N1 := Lib.hid hn1
    have EX : d.cells A1 d.body.length c1 = #[.int .u64 d.pn, .int .u64 d.least, .int .u64 d.off, .int .u64 d.nonce, .int .i64 d.ecn, .slice A1 d.body.length c1] := rfl
    rw [EX]
    have ba := box_below w1 (.cells #[.int .u64 d.pn, .int .u64 d.least, .int .u64 d.off, .int .u64 d.nonce, .int .i64 d.ecn, .slice A1 d.body.length c1] 30)
    have B1 := Lib.hid (hb1.trans (ba.mono hb1.size))
    have R1 := Lib.hid (hr1.below ba)
    have LR : Hid (∀ b off, A1 = some ⟨b, off, none⟩ → 0 < d.body.length → b < w1.heap.size) := Lib.hid (fun b off e hn => hr1.lt (by omega) hn b off e)
    have hg0 := hb1.size
    obtain ⟨m, hm⟩ := H.out.ex
    have M0 := Lib.hid hm
    have S0 : Hid (TaS w F M p w1.heap.size d A1 c1 s m (w1.alloc (.cells #[.int .u64 d.pn, .int .u64 d.least, .int .u64 d.off, .int .u64 d.nonce, .int .i64 d.ecn, .slice A1 d.body.length c1] 30))) := Lib.hid ⟨heap_alloc_new w1 _, hm.chg (chg_below B1.out (F := fun _ => False)) (fun _ _ _ h => h) (fun k hk e => .inl ⟨e, hk⟩) (fun _ _ e => .inr e), chg_below B1.out, hg0, hpl⟩
    clear hp hr1 hb1 hn1 ba hm EX
    have hd0 := DO.out.le
    have hd1 := DO.out.pn
    have hd2 := DO.out.len
    go_upto_region 2 with fail
    generalize (w1.alloc (.cells #[.int .u64 d.pn, .int .u64 d.least, .int .u64 d.off, .int .u64 d.nonce, .int .i64 d.ecn, .slice A1 d.body.length c1] 30)) = w2 at *
    generalize w1.heap.size = g at *
    have tt := S0.out.b
    have rr := S0.out.r.t
    have m0 := mixF_cell (F := fun _ => False) (show w2.cell? ⟨g, 0, none⟩ = some (.int .u64 d.pn) from cell_of_row w2 g 0 _ _ _ tt) id
    have m1 := mixF_cell (F := fun _ => False) (show w2.cell? ⟨p, 1, none⟩ = some (.int .u64 s.floor) from cell_of_row w2 p 1 _ _ _ rr) id
    clear tt rr
    by_cases hpf : d.pn < s.floor
    · have d1 : decide (d.pn < s.floor) = true := decide_eq_true hpf
      have HT2 : Hid (s.takeB l now = (s, none)) := Lib.hid (by rw [HT0.out]; exact if_pos (.inl hpf))
      clear hpf
      refine wp_region_chg (fun _ => False) (by kernel_rfl) (by kernel_rfl) ?_
      repeat (refine wpMix_seg 1 _ _ rfl ?_; simp only [List.take_succ_cons, List.take_zero, List.drop_succ_cons, List.drop_zero]; go_big_quiet_step (fail); refine wpQuiet_nil ?_)
      refine wpMix_skip (by rfl) ?_
      simp only [Act.put, List.setIfInBounds_toArray, List.set_cons_zero, List.set_cons_succ]
      repeat (refine wpMix_seg 1 _ _ rfl ?_; simp only [List.take_succ_cons, List.take_zero, List.drop_succ_cons, List.drop_zero]; go_big_quiet_step (fail); refine wpQuiet_nil ?_)
      refine wpMix_skip (by rfl) ?_
      simp only [Act.put, List.setIfInBounds_toArray, List.set_cons_zero, List.set_cons_succ]
      repeat (refine wpMix_seg 1 _ _ rfl ?_; simp only [List.take_succ_cons, List.take_zero, List.drop_succ_cons, List.drop_zero]; go_big_quiet_step (fail); refine wpQuiet_nil ?_)
      refine wpMix_nil ?_
      go_wp2
      go_ret2
      rw [HT2.out]
      exact ⟨rfl, (H.out.below B1.out.drew).sub (fun k _ e => .inl e) (fun k _ e => .inr e), chg_below B1.out.drew⟩
    · have d1 : decide (d.pn < s.floor) = false := decide_eq_false hpf
      have KG := Lib.hid (rp_got w2.drew (TaF w F g) M p s m (S0.out.r.below (Below.refl _ _).drew) H.out.fit)
      refine wp_region_chg (fun _ => False) (by kernel_rfl) (by kernel_rfl) ?_
      repeat (refine wpMix_seg 1 _ _ rfl ?_; simp only [List.take_succ_cons, List.take_zero, List.drop_succ_cons, List.drop_zero]; go_big_quiet_step (fail); refine wpQuiet_nil ?_)
      refine wpMix_bar rfl (by rfl) ?_
      go_wp2_with fail
      refine KG.out.mono ?_
      rintro e w3 ⟨Ag, cg, rfl, hg3, hb3⟩
      have B3 : Hid (Below w2.heap.size w2 w3) := Lib.hid ((Below.refl _ _).drew.trans hb3)
      have S3 := Lib.hid (S0.out.below B3.out)
      have KH := Lib.hid (hasNum_any Ag s.got.length cg s.got d.pn w3 hg3.rd (gd_u2 H.out.good.mid.gd H.out.good.mid.lo.1) (by omega) (by omega))
      clear KG hb3 hg3
      go_wp2
      refine ⟨chg_mixF (chg_below B3.out), ?_⟩
      repeat (refine wpMix_seg 1 _ _ rfl ?_; simp only [List.take_succ_cons, List.take_zero, List.drop_succ_cons, List.drop_zero]; go_big_quiet_step (fail); refine wpQuiet_nil ?_)
      refine wpMix_bar rfl (by rfl) ?_
      go_wp2_with fail
      refine KH.out.mono ?_
      rintro e w4 ⟨rfl, q4⟩
      have S4 := Lib.hid (S3.out.below q4.below)
      have B4 : Hid (Below w2.heap.size w2 w4) := Lib.hid (B3.out.trans (q4.below))
      clear S3 KH q4
      go_wp2
      refine ⟨chg_mixF (chg_below B4.out), ?_⟩
      repeat (refine wpMix_seg 1 _ _ rfl ?_; simp only [List.take_succ_cons, List.take_zero, List.drop_succ_cons, List.drop_zero]; go_big_quiet_step (fail); refine wpQuiet_nil ?_)
      refine wpMix_nil ?_
      clear m0 m1
      by_cases hhs : hasP s.got d.pn = true
      · have HT2 : Hid (s.takeB l now = (s, none)) := Lib.hid (by rw [HT0.out]; exact if_pos (.inr hhs))
        rw [hhs]
        clear hhs hpf
        go_wp2
        go_ret2
        rw [HT2.out]
        have hg := H.out
        exact ⟨rfl, ⟨hg.good, hg.byt, hg.few, hg.kl, hg.sl, m, S4.out.fin⟩, S4.out.ch⟩
      · have hh2 : hasP s.got d.pn = false := by simpa using hhs
        rw [hh2]
        have HNew : Hid (¬ (d.pn < s.floor ∨ hasP s.got d.pn = true)) := Lib.hid (fun e => e.elim (fun e => by omega) hhs)
        clear hhs hpf hh2
        have hby := H.out.byt
        have hfl : s.l.length ≤ 600000 := by have := H.out.kl; omega
        have hn1 : Hid (m.pl.length = s.s.length) := Lib.hid (by rw [← S4.out.r.pe, List.length_map])
        -- region 4
        have tt := S4.out.b
        have rr := S4.out.r.t
        have m4 := mixF_cell (F := fun _ => False) (show w4.cell? ⟨p, 4, none⟩ = some (.int .u64 s.bytes) from cell_of_row w4 p 4 _ _ _ rr) id
        have m5 := mixF_cell (F := fun _ => False) (show w4.cell? ⟨g, 5, none⟩ = some (.slice A1 d.body.length c1) from cell_of_row w4 g 5 _ _ _ tt) id
        clear tt rr
        go_upto_region 4 with fail
        refine wp_region_chgE (fun _ => False) (by kernel_rfl) (by kernel_rfl) ?_
        repeat (refine wpMixE_seg 1 _ _ rfl ?_; simp only [List.take_succ_cons, List.take_zero, List.drop_succ_cons, List.drop_zero]; go_big_quiet_step (fail); refine wpQuiet_nil ?_)
        have R4 := Lib.hid (R1.out.below (B4.out.drew))
        have S5 := Lib.hid (S4.out.below (Below.refl _ _).drew)
        clear S4 B4 m4 m5 S0 R1 B3
        generalize w4.drew = w5 at *
        have y4 := cell_of_row w5 p 4 _ _ _ S5.out.r.t
        have fy4 := frozen_of_row w5 p 4 _ _ S5.out.r.t
        have S6 : Hid (TaS w F M p g d A1 c1 { s with bytes := s.bytes + d.body.length } m (w5.setCell ⟨p, 4, none⟩ (.int .u64 (s.bytes + d.body.length)))) := Lib.hid (S5.out.put _ rfl rfl rfl)
        have R6 : Hid (Rd (w5.setCell ⟨p, 4, none⟩ (.int .u64 (s.bytes + d.body.length))) 1 A1 d.body.length c1 (U8 d.body)) := Lib.hid (R4.out.set_ 4 _ (fun b off e => by
          by_cases hn : 0 < d.body.length
          · have := N1.out b off e hn; omega
          · omega))
        refine wpMixE_bar rfl (by rfl) ?_
        go_wp2
        refine mixGo_fin ?_
        clear y4 fy4 S5 R4
        generalize (w5.setCell ⟨p, 4, none⟩ (.int .u64 (s.bytes + d.body.length))) = w6 at *
        -- region 5
        have tt := S6.out.b
        have rr := S6.out.r.t
        have m5 := mixF_cell (F := fun k => (m.v2 s).ownBlock = some k) (show w6.cell? ⟨p, 5, none⟩ = some (.slice m.A2 s.s.length m.c2) from cell_of_row w6 p 5 _ _ _ rr) (fun e => (S6.out.r.f2 p e).2.1 rfl)
        have m2 := mixF_cell (F := fun k => (m.v2 s).ownBlock = some k) (show w6.cell? ⟨g, 2, none⟩ = some (.int .u64 d.off) from cell_of_row w6 g 2 _ _ _ tt) S6.out.ne.2.2
        have m6 := mixF_cell (F := fun k => (m.v2 s).ownBlock = some k) (show w6.cell? ⟨g, 5, none⟩ = some (.slice A1 d.body.length c1) from cell_of_row w6 g 5 _ _ _ tt) S6.out.ne.2.2
        clear tt rr
        obtain ⟨iP, hiP, pz0, pz1, pz2⟩ := info_parts infoPc
        go_upto_region 5 with fail
        refine wp_region_chgE (fun k => (m.v2 s).ownBlock = some k) (by kernel_rfl) (by kernel_rfl) ?_
        repeat (refine wpMixE_seg 1 _ _ rfl ?_; simp only [List.take_succ_cons, List.take_zero, List.drop_succ_cons, List.drop_zero]; go_big_quiet_step (fail); refine wpQuiet_nil ?_)
        have Q0 : Hid (Chg (fun k => (m.v2 s).ownBlock = some k) w6 w6.drew) := Lib.hid (Chg.refl _ _).drew
        have S7 := Lib.hid (S6.out.below (Below.refl _ _).drew)
        have R7 := Lib.hid (R6.out.drew)
        clear R6
        generalize w6.drew = w7 at *
        refine wpMixE_bar rfl (by rfl) ?_
        go_wp2
        refine mixGo_in (Q0.out.alloc _) ?_
        repeat (refine wpMixE_seg 1 _ _ rfl ?_; simp only [List.take_succ_cons, List.take_zero, List.drop_succ_cons, List.drop_zero]; go_big_quiet_step (fail); refine wpQuiet_nil ?_)
        refine wpMixE_bar rfl (by rfl) ?_
        go_wp2_with (
          at_builtin
          refine wpList_app1 _ rfl (.tmp 52) (.tmp 58) 63 rfl 0 82 iP _ 2 32 Try.underlying63 hiP pz0 pz1 pz2 rfl (by decide) (.slice m.A2 s.s.length m.c2) s.s.length (m.pl.flatMap Pc.cells) rfl S7.out.r.o2 #[.int .u64 d.off, .slice A1 d.body.length c1] _ rfl (by simp) rfl (by simp [Value.oneCell']) (by unfold maxLen; omega) (by omega) (Nat.zero_le _) ?_
          intro v8 w8 o8 g8 k8
          obtain ⟨A8, c8, hv8, -⟩ := own_slice o8
          subst hv8
          have Q8 : Hid (Chg (fun k => (m.v2 s).ownBlock = some k) w6 w8) := Lib.hid (Q0.out.grown g8 (fun k e => .inl e))
          have P8 := Lib.hid (S7.out.r.addS ⟨d.off, A1, c1, d.body⟩ g8 o8 k8 S7.out.new R7.out (fun b off e hn => by
            have h1 := N1.out b off e hn
            have h2 := LR.out b off e hn
            exact ⟨.inl (.inr ⟨h1, by omega⟩), by omega, fun e2 => by have := (M0.out.o1.lt b e2).2; omega, fun e2 => by have := (M0.out.o2.lt b e2).2; omega⟩))
          have T8 := Lib.hid (Q8.out.blk S6.out.r.t (fun e => (S6.out.r.f2 p e).2.1 rfl))
          clear o8 g8 k8)
        refine mixGo_in Q8.out ?_
        repeat (refine wpMixE_seg 1 _ _ rfl ?_; simp only [List.take_succ_cons, List.take_zero, List.drop_succ_cons, List.drop_zero]; go_big_quiet_step (fail); refine wpQuiet_nil ?_)
        have z5 : w8.cell? ⟨p, 5, none⟩ = some (.slice m.A2 s.s.length m.c2) := cell_of_row w8 p 5 _ _ _ T8.out
        have fz5 := frozen_of_row w8 p 5 _ _ T8.out
        refine wpMixE_bar rfl (by rfl) ?_
        go_wp2
        refine mixGo_fin ?_
        have S9 := Lib.hid (S7.out.step P8.out.2 P8.out.1)
        clear z5 fz5 T8 P8 Q8 Q0 S7 R7 S6 m5 m2 m6
        generalize (w8.setCell ⟨p, 5, none⟩ (.slice A8 (s.s.length + 1) c8)) = w9 at *
        -- region 6
        have tt := S9.out.b
        have rr := S9.out.r.t
        have k3 := mixF_cell (F := fun k => (m.v1 s).ownBlock = some k) (show w9.cell? ⟨p, 3, none⟩ = some (.slice m.A1 s.l.length m.c1) from cell_of_row w9 p 3 _ _ _ rr) (fun e => (S9.out.r.f1 p e).2 rfl)
        have k0 := mixF_cell (F := fun k => (m.v1 s).ownBlock = some k) (show w9.cell? ⟨g, 0, none⟩ = some (.int .u64 d.pn) from cell_of_row w9 g 0 _ _ _ tt) S9.out.ne.2.1
        have k3' := mixF_cell (F := fun k => (m.v1 s).ownBlock = some k) (show w9.cell? ⟨g, 3, none⟩ = some (.int .u64 d.nonce) from cell_of_row w9 g 3 _ _ _ tt) S9.out.ne.2.1
        have k4 := mixF_cell (F := fun k => (m.v1 s).ownBlock = some k) (show w9.cell? ⟨g, 4, none⟩ = some (.int .i64 d.ecn) from cell_of_row w9 g 4 _ _ _ tt) S9.out.ne.2.1
        clear tt rr
        obtain ⟨iH, hiH, hz0, hz1, hz2⟩ := info_parts infoHp
        go_upto_region 6 with fail
        refine wp_region_chgE (fun k => (m.v1 s).ownBlock = some k) (by kernel_rfl) (by kernel_rfl) ?_
        repeat (refine wpMixE_seg 1 _ _ rfl ?_; simp only [List.take_succ_cons, List.take_zero, List.drop_succ_cons, List.drop_zero]; go_big_quiet_step (fail); refine wpQuiet_nil ?_)
        have Q0 : Hid (Chg (fun k => (m.v1 s).ownBlock = some k) w9 w9.drew) := Lib.hid (Chg.refl _ _).drew
        have S10 := Lib.hid (S9.out.below (Below.refl _ _).drew)
        generalize w9.drew = w10 at *
        refine wpMixE_bar rfl (by rfl) ?_
        go_wp2
        refine mixGo_in (Q0.out.alloc _) ?_
        repeat (refine wpMixE_seg 1 _ _ rfl ?_; simp only [List.take_succ_cons, List.take_zero, List.drop_succ_cons, List.drop_zero]; go_big_quiet_step (fail); refine wpQuiet_nil ?_)
        refine wpMixE_bar rfl (by rfl) ?_
        go_wp2_with (
          at_builtin
          refine wpList_app1 _ rfl (.tmp 66) (.tmp 78) 97 rfl 0 103 iH _ 4 24 Try.underlying97 hiH hz0 hz1 hz2 rfl (by decide) (.slice m.A1 s.l.length m.c1) s.l.length (s.l.flatMap Hp.cells) rfl S10.out.r.o1 #[.int .u64 d.pn, .int .u64 d.nonce, .bool (decide (d.ecn = 1)), .bool (decide (d.ecn = 3))] _ rfl (by simp) rfl (by simp [Value.oneCell']) (by unfold maxLen; omega) (by omega) (Nat.zero_le _) ?_
          intro v11 w11 o11 g11 k11
          obtain ⟨A11, c11, hv11, -⟩ := own_slice o11
          subst hv11
          have Q11 : Hid (Chg (fun k => (m.v1 s).ownBlock = some k) w9 w11) := Lib.hid (Q0.out.grown g11 (fun k e => .inl e))
          have P11 := Lib.hid (S10.out.r.addL ⟨d.pn, d.nonce, decide (d.ecn = 1), decide (d.ecn = 3)⟩ g11 o11 k11 S10.out.new)
          have T11 := Lib.hid (Q11.out.blk S9.out.r.t (fun e => (S9.out.r.f1 p e).2 rfl))
          clear o11 g11 k11)
        refine mixGo_in Q11.out ?_
        repeat (refine wpMixE_seg 1 _ _ rfl ?_; simp only [List.take_succ_cons, List.take_zero, List.drop_succ_cons, List.drop_zero]; go_big_quiet_step (fail); refine wpQuiet_nil ?_)
        have z3 : w11.cell? ⟨p, 3, none⟩ = some (.slice m.A1 s.l.length m.c1) := cell_of_row w11 p 3 _ _ _ T11.out
        have fz3 := frozen_of_row w11 p 3 _ _ T11.out
        refine wpMixE_bar rfl (by rfl) ?_
        go_wp2
        refine mixGo_fin ?_
        have S12 : Hid (TaS w F M p g d A1 c1 (s.laid d) _ _) := Lib.hid (S10.out.step P11.out.2 P11.out.1)
        clear z3 fz3 T11 P11 Q11 Q0 S10 S9 k3 k0 k3' k4
        generalize (w11.setCell ⟨p, 3, none⟩ (.slice A11 (s.l.length + 1) c11)) = w12 at *
        have MD0 := Lib.hid (H.out.good.mid.laid DO.out (by omega) (fun e => HNew.out (.inl e)) (fun e => HNew.out (.inr e)))
        have MD1 := Lib.hid (MD0.out.raise (t := d.least) (by rw [maxPn_eq]; omega))
        have MD2 := Lib.hid MD1.out.capG
        have MD3 := Lib.hid MD2.out.capM
        have HL0 : Hid ((s.laid d).l.length = s.l.length + 1) := Lib.hid (by show (s.l ++ [_]).length = _; simp)
        have HLnb : Hid (((s.laid d).raise d.least).l.length ≤ 1000000) := Lib.hid (Nat.le_trans (List.length_filter_le _ _) (by rw [HL0.out]; omega))
        have HLmb : Hid (((s.laid d).raise d.least).capG.l.length ≤ 1000000) := Lib.hid (Nat.le_trans (capG_few _) HLnb.out)
        have HLnc := HLmb
        have HLmc : Hid (((s.laid d).raise d.least).capG.capM.l.length ≤ 1000000) := Lib.hid (Nat.le_trans (capM_few _) HLmb.out)
        have KR := Lib.hid (rp_raise w12 (TaF w F g) M p _ _ d.least S12.out.r S12.out.new ⟨fun y hy => ⟨(MD0.out.pn y hy).2.1, (MD0.out.pn y hy).2.2.1⟩, by rw [HL0.out]; omega⟩)
        have y1 : w12.cell? ⟨g, 1, none⟩ = some (.int .u64 d.least) := cell_of_row w12 g 1 _ _ _ S12.out.b
        obtain ⟨t1, et1⟩ : ∃ t, t = (s.laid d).raise d.least := ⟨_, rfl⟩
        obtain ⟨t2, et2⟩ : ∃ t, t = t1.capG := ⟨_, rfl⟩
        obtain ⟨t3, et3⟩ : ∃ t, t = t2.capM := ⟨_, rfl⟩
        have HK : Hid (t3 = s.kept d) := Lib.hid (by rw [et3, et2, et1]; rfl)
        rw [← et1] at MD1 MD2 MD3 KR HLnb HLmb HLnc HLmc
        rw [← et2] at MD2 MD3 HLmb HLnc HLmc
        rw [← et3] at MD3 HLmc
        have ET2 := Lib.hid et2
        have ET3 := Lib.hid et3
        clear et1 et2 et3 MD0 HL0
        go_upto_region 7 with fail
        go_wp2_with fail
        refine KR.out.mono ?_
        rintro e w13 ⟨rfl, ⟨Ar, cr, hr⟩, hc⟩
        have S13 := Lib.hid (S12.out.step hc hr)
        have KG := Lib.hid (rp_got w13 (TaF w F g) M p _ _ hr ⟨fun y hy => ⟨(MD1.out.pn y hy).2.1, (MD1.out.pn y hy).2.2.1⟩, HLnb.out⟩)
        clear hr hc KR S12 y1
        go_wp2_with fail
        refine KG.out.mono ?_
        rintro e w14 ⟨Ag1, cg1, rfl, hg1, hb1⟩
        have Sb := Lib.hid (S13.out.below hb1)
        have RLb := Lib.hid hg1.rd
        clear hg1 hb1 KG S13
        go_wp2_with fail
        go_loopw [10] (fun v wr => ∃ (x : PS) (m' : RM) (A' : Option Addr) (c' : Nat), (x = t1 ∨ x = t2) ∧ v = .slice A' x.got.length c' ∧ Hid (TaS w F M p g d A1 c1 x m' wr) ∧ Hid (Rd wr 2 A' x.got.length c' (Ss x.got))) (fun v _ => sliceLen v)
        case atStart => exact ⟨_, _, _, _, .inl rfl, rfl, Sb, RLb⟩
        case round =>
          obtain ⟨x, mx, A', c', hx, rfl, SX, RL⟩ := hrel
          by_cases hlong : 32 < x.got.length
          · have hx0 : t1 = x := by
              rcases hx with e | e
              · exact e.symm
              · rw [e] at hlong
                exact absurd hlong (capG_sh ET2.out MD1.out)
            subst hx0
            have HC : Hid ((t1).raise ((t1).got.getD 1 (0, 0)).1 = t2) := Lib.hid (by rw [ET2.out]; unfold PS.capG; rw [if_pos hlong])
            have hgt : decide (((t1).got.length : Int) > 32) = true := decide_eq_true (by omega)
            have hlen1 : 1 < (t1).got.length := by omega
            have hcp := RL.out.cap
            obtain ⟨bl, ol, xl, yl, rfl, Hxy, q1, q2, q3, q4, q5, q6⟩ := RL.out.sp (k := 1) (gd_u2 MD1.out.gd MD1.out.lo.1) (by omega)
            have HXL : Hid (((t1).got.getD 1 (0, 0)).1 = xl) := Lib.hid (by
              rw [List.getD_eq_getElem?_getD, List.getElem?_eq_getElem (show 1 < (t1).got.length by omega)]
              exact congrArg Prod.fst Hxy.out)
            rw [HXL.out] at HC
            have KR := Lib.hid (rp_raise wr (TaF w F g) M p (t1) mx xl SX.out.r SX.out.new ⟨fun y hy => ⟨(MD1.out.pn y hy).2.1, (MD1.out.pn y hy).2.2.1⟩, HLnb.out⟩)
            have HLG := Lib.hid hlong
            clear Hxy
            clear hlong q2 q3 q4 q5 q6 RL
            go_wp2_with fail
            refine KR.out.mono ?_
            rintro e v1 ⟨rfl, ⟨Ar, cr, hr⟩, hc⟩
            rw [HC.out] at hr
            have SR := Lib.hid (SX.out.step hc hr)
            have KG := Lib.hid (rp_got v1 (TaF w F g) M p _ _ hr ⟨fun y hy => ⟨(MD2.out.pn y hy).2.1, (MD2.out.pn y hy).2.2.1⟩, HLmb.out⟩)
            clear hr hc KR q1
            go_wp2_with fail
            refine KG.out.mono ?_
            rintro e v2 ⟨Ag2, cg2, rfl, hg2, hb2⟩
            have SG := Lib.hid (SR.out.below hb2)
            have RG := Lib.hid hg2.rd
            clear hg2 hb2 KG
            have hsh : ¬ 32 < (t2).got.length := capG_sh ET2.out MD1.out
            go_wp2_with fail
            go_roundw
            case rel => exact ⟨_, _, _, _, .inr rfl, rfl, SG, RG⟩
            case measure => (have := HLG.out; show (t2).got.length < (t1).got.length; omega)
          · have hx1 : t2 = x := by
              rcases hx with e | e
              · rw [e] at hlong ⊢
                rw [ET2.out]
                unfold PS.capG
                rw [if_neg hlong]
              · exact e.symm
            subst hx1
            have hgt : decide (((t2).got.length : Int) > 32) = false := decide_eq_false (by omega)
            clear hx RL hlong
            go_upto_region 12 with fail
            have KM := Lib.hid (rp_marked wr (TaF w F g) M p _ _ SX.out.r ⟨fun y hy => ⟨(MD2.out.pn y hy).2.1, (MD2.out.pn y hy).2.2.1⟩, HLnc.out⟩)
            go_wp2_with fail
            refine KM.out.mono ?_
            rintro e v3 ⟨Am, cm, rfl, hm3, hb3⟩
            have Sc := Lib.hid (SX.out.below hb3)
            have RLc := Lib.hid hm3.rd
            clear hm3 hb3 KM SX
            go_wp2_with fail
            go_loopw [11] (fun v wr => ∃ (x : PS) (m' : RM) (A' : Option Addr) (c' : Nat), (x = t2 ∨ x = t3) ∧ v = .slice A' x.marked.length c' ∧ Hid (TaS w F M p g d A1 c1 x m' wr) ∧ Hid (Rd wr 2 A' x.marked.length c' (Ss x.marked))) (fun v _ => sliceLen v)
            case atStart => exact ⟨_, _, _, _, .inl rfl, rfl, Sc, RLc⟩
            case round =>
              obtain ⟨x, mx, A', c', hx, rfl, SX, RL⟩ := hrel
              by_cases hlong : 32 < x.marked.length
              · have hx0 : t2 = x := by
                  rcases hx with e | e
                  · exact e.symm
                  · rw [e] at hlong
                    exact absurd hlong (capM_sh ET3.out MD2.out)
                subst hx0
                have HC : Hid ((t2).raise ((t2).marked.getD 1 (0, 0)).1 = t3) := Lib.hid (by rw [ET3.out]; unfold PS.capM; rw [if_pos hlong])
                have hgt : decide (((t2).marked.length : Int) > 32) = true := decide_eq_true (by omega)
                have hlen1 : 1 < (t2).marked.length := by omega
                have hcp := RL.out.cap
                obtain ⟨bl, ol, xl, yl, rfl, Hxy, q1, q2, q3, q4, q5, q6⟩ := RL.out.sp (k := 1) (gd_u2 MD2.out.gm MD2.out.lo.2) (by omega)
                have HXL : Hid (((t2).marked.getD 1 (0, 0)).1 = xl) := Lib.hid (by
                  rw [List.getD_eq_getElem?_getD, List.getElem?_eq_getElem (show 1 < (t2).marked.length by omega)]
                  exact congrArg Prod.fst Hxy.out)
                rw [HXL.out] at HC
                have KR := Lib.hid (rp_raise wr (TaF w F g) M p (t2) mx xl SX.out.r SX.out.new ⟨fun y hy => ⟨(MD2.out.pn y hy).2.1, (MD2.out.pn y hy).2.2.1⟩, HLnc.out⟩)
                have HLG := Lib.hid hlong
                clear Hxy
                clear hlong q2 q3 q4 q5 q6 RL
                go_wp2_with fail
                refine KR.out.mono ?_
                rintro e v1 ⟨rfl, ⟨Ar, cr, hr⟩, hc⟩
                rw [HC.out] at hr
                have SR := Lib.hid (SX.out.step hc hr)
                have KG := Lib.hid (rp_marked v1 (TaF w F g) M p _ _ hr ⟨fun y hy => ⟨(MD3.out.pn y hy).2.1, (MD3.out.pn y hy).2.2.1⟩, HLmc.out⟩)
                clear hr hc KR q1
                go_wp2_with fail
                refine KG.out.mono ?_
                rintro e v2 ⟨Ag2, cg2, rfl, hg2, hb2⟩
                have SG := Lib.hid (SR.out.below hb2)
                have RG := Lib.hid hg2.rd
                clear hg2 hb2 KG
                have hsh : ¬ 32 < (t3).marked.length := capM_sh ET3.out MD2.out
                go_wp2_with fail
                go_roundw
                case rel => exact ⟨_, _, _, _, .inr rfl, rfl, SG, RG⟩
                case measure => (have := HLG.out; show (t3).marked.length < (t2).marked.length; omega)
              · have hx1 : t3 = x := by
                  rcases hx with e | e
                  · rw [e] at hlong ⊢
                    rw [ET3.out]
                    unfold PS.capM
                    rw [if_neg hlong]
                  · exact e.symm
                subst hx1
                have hgt : decide (((t3).marked.length : Int) > 32) = false := decide_eq_false (by omega)
                clear hx RL hlong
                have KS := kept_same s d
                rw [← HK.out] at KS
                have KS1 := Lib.hid KS
                obtain ⟨ks1, ks2, ks3, ks4, ks5, ks6⟩ := KS
                have GT := Lib.hid (H.out.good.take DO.out now hnow.1)
                have HF := Lib.hid (H.out)
                have KL : Hid (t3.l.length ≤ s.l.length + 1) := Lib.hid (by rw [HK.out]; exact kept_few s d)
                have hwt : (s.waits = 0 ∧ s.due = 18446744073709551615) ∨ s.waits = 1 := H.out.good.wt
                have hnx := H.out.good.num.2.2.2.2.2
                rw [maxPn_eq] at hnx
                rw [← ks2] at hnx
                rw [← ks3, ← ks4] at hwt
                have HTA := Lib.hid (fun h => take_a HT0.out HNew.out HK.out h)
                have HTB := Lib.hid (fun h1 h2 => take_b HT0.out HNew.out HK.out h1 h2)
                have HTC := Lib.hid (fun h1 h2 => take_c HT0.out HNew.out HK.out h1 h2)
                clear ks1 ks2 ks3 ks4 ks5 ks6 HT0
                go_upto_region 16 with fail
                have x0 := cell_of_row wr g 0 _ _ _ SX.out.b
                have y1 := cell_of_row wr p 1 _ _ _ SX.out.r.t
                by_cases hf3 : d.pn < t3.floor
                · have d2 : decide (d.pn < t3.floor) = true := decide_eq_true hf3
                  have HT3 := Lib.hid (HTA.out hf3)
                  clear hf3
                  refine wp_region_qt (by kernel_rfl) (by kernel_rfl) ?_
                  repeat (go_big_quiet_step (fail))
                  refine wpQuiet_nil ?_
                  intro wq qq
                  go_wp2
                  go_ret2
                  have SY := SX.out.below qq.below
                  have GX := GT.out
                  rw [← HT3.out.1] at GX
                  rw [HT3.out.2]
                  exact ⟨rfl, SY.shut HF.out hfew DO.out GX KS1.out.2.2.2.2.1 KS1.out.2.2.2.2.2 KL.out, SY.ch⟩
                · have d2 : decide (d.pn < t3.floor) = false := decide_eq_false hf3
                  refine wp_region_qt (by kernel_rfl) (by kernel_rfl) ?_
                  repeat (go_big_quiet_step (fail))
                  refine wpQuiet_nil ?_
                  intro wq qq
                  have SY := Lib.hid (SX.out.below qq.below)
                  clear qq SX x0 y1
                  go_upto_region 18 with fail
                  have x0 := cell_of_row wq g 0 _ _ _ SY.out.b
                  have y2 := cell_of_row wq p 2 _ _ _ SY.out.r.t
                  refine wp_region_qt (by kernel_rfl) (by kernel_rfl) ?_
                  repeat (go_big_quiet_step (fail))
                  refine wpQuiet_nil ?_
                  intro wz qz
                  have SZ := Lib.hid (SY.out.below qz.below)
                  clear qz SY x0 y2
                  have n2 := mixF_cell (F := fun _ => False) (show wz.cell? ⟨p, 2, none⟩ = some (.int .u64 t3.next) from cell_of_row wz p 2 _ _ _ SZ.out.r.t) id
                  have n0 := mixF_cell (F := fun _ => False) (show wz.cell? ⟨g, 0, none⟩ = some (.int .u64 d.pn) from cell_of_row wz g 0 _ _ _ SZ.out.b) id
                  go_upto_region 19 with fail
                  refine wp_region_chgE (fun _ => False) (by kernel_rfl) (by kernel_rfl) ?_
                  repeat (refine wpMixE_seg 1 _ _ rfl ?_; simp only [List.take_succ_cons, List.take_zero, List.drop_succ_cons, List.drop_zero]; go_big_quiet_step (fail); refine wpQuiet_nil ?_)
                  have SZ2 := Lib.hid (SZ.out.below (Below.refl _ _).drew)
                  clear n2 n0 SZ
                  generalize wz.drew = wy at *
                  have y2 := cell_of_row wy p 2 _ _ _ SZ2.out.r.t
                  have fy2 := frozen_of_row wy p 2 _ _ SZ2.out.r.t
                  have S19 : Hid (TaS w F M p g d A1 c1 { t3 with next := max t3.next (d.pn + 1) } mx (wy.setCell ⟨p, 2, none⟩ (.int .u64 (max t3.next (d.pn + 1))))) := Lib.hid (SZ2.out.put _ rfl rfl rfl)
                  refine wpMixE_bar rfl (by rfl) ?_
                  go_wp2
                  refine mixGo_fin ?_
                  clear y2 fy2 SZ2
                  generalize (wy.setCell ⟨p, 2, none⟩ (.int .u64 (max t3.next (d.pn + 1)))) = w19 at *
                  have S20 : Hid (TaS w F M p g d A1 c1 { t3 with next := max t3.next (d.pn + 1), waits := t3.waits + 1 } mx (w19.setCell ⟨p, 6, none⟩ (.int .i64 (t3.waits + 1)))) := Lib.hid (S19.out.put _ rfl rfl rfl)
                  have S21 : Hid (TaS w F M p g d A1 c1 (t3.newest d) mx ((w19.setCell ⟨p, 6, none⟩ (.int .i64 (t3.waits + 1))).setCell ⟨p, 7, none⟩ (.int .u64 d.nonce))) := Lib.hid (S20.out.put _ rfl rfl rfl)
                  have hpg : p ≠ g := by omega
                  have hgp : g ≠ p := by omega
                  have y6 : w19.cell? ⟨p, 6, none⟩ = some (.int .i64 t3.waits) := cell_of_row w19 p 6 _ _ _ S19.out.r.t
                  have fy6 := frozen_of_row w19 p 6 _ _ S19.out.r.t
                  have y7 : w19.cell? ⟨p, 7, none⟩ = some (.int .u64 t3.trigger) := cell_of_row w19 p 7 _ _ _ S19.out.r.t
                  have fy7 := frozen_of_row w19 p 7 _ _ S19.out.r.t
                  have x3 : w19.cell? ⟨g, 3, none⟩ = some (.int .u64 d.nonce) := cell_of_row w19 g 3 _ _ _ S19.out.b
                  go_upto_region 22 with fail
                  clear y6 fy6 y7 fy7 x3 S19 S20
                  generalize ((w19.setCell ⟨p, 6, none⟩ (.int .i64 (t3.waits + 1))).setCell ⟨p, 7, none⟩ (.int .u64 d.nonce)) = w21 at *
                  have y6 : w21.cell? ⟨p, 6, none⟩ = some (.int .i64 (t3.waits + 1)) := cell_of_row w21 p 6 _ _ _ S21.out.r.t
                  have x4 : w21.cell? ⟨g, 4, none⟩ = some (.int .i64 d.ecn) := cell_of_row w21 g 4 _ _ _ S21.out.b
                  by_cases hq : 2 ≤ t3.waits + 1 ∨ d.ecn = 3 ∨ d.pn ≠ t3.next
                  · have KT := Lib.hid (rp_tell w21 (TaF w F g) M p (t3.newest d) mx S21.out.r ⟨MD3.out.pn, MD3.out.own, MD3.out.few, MD3.out.fl⟩ HLmc.out DO.out.nonce)
                    have HT4 := Lib.hid (HTB.out hf3 hq)
                    have hcase : (decide (t3.waits + 1 ≥ 2) = true) ∨ (decide (t3.waits + 1 ≥ 2) = false ∧ (d.ecn == 3) = true) ∨ (decide (t3.waits + 1 ≥ 2) = false ∧ (d.ecn == 3) = false ∧ (d.pn == t3.next) = false) := by
                      by_cases h1 : t3.waits + 1 ≥ 2
                      · exact .inl (decide_eq_true h1)
                      · by_cases h2 : d.ecn = 3
                        · exact .inr (.inl ⟨decide_eq_false h1, by simp [h2]⟩)
                        · refine .inr (.inr ⟨decide_eq_false h1, by simp [h2], ?_⟩)
                          rcases hq with h | h | h
                          · omega
                          · exact absurd h h2
                          · simpa using h
                    clear hq
                    rcases hcase with c1 | ⟨c1, c2⟩ | ⟨c1, c2, c3⟩
                    all_goals
                      go_wp2_with fail
                      refine KT.out.mono ?_
                      rintro e w22 ⟨At, ct, rfl, r1, r2, r3, r4⟩
                      have R := Lib.hid (And.intro r1 (And.intro r2 (And.intro r3 r4)))
                      clear r1 r2 r3 r4
                      go_wp2
                      go_ret2
                      have S22 := S21.out.step (R.out.2.2.2.mono (G := TaF w F g) (fun k _ e => by subst e; exact .inl ⟨(HF.out.ex.elim fun m h => h.fp), hpl⟩)) R.out.2.2.1
                      have GX := GT.out
                      rw [← HT4.out.1] at GX
                      rw [HT4.out.2]
                      refine ⟨⟨At, ct, rfl, R.out.1, fun b off e hn => ?_⟩, S22.shut HF.out hfew DO.out GX KS1.out.2.2.2.2.1 KS1.out.2.2.2.2.2 KL.out, S22.ch⟩
                      have h1 := R.out.2.1 b off e hn
                      have h2 := S21.out.ch.size
                      omega
                  · have z1 : decide (t3.waits + 1 ≥ 2) = false := decide_eq_false (by omega)
                    have z2 : (d.ecn == 3) = false := by
                      have : ¬ d.ecn = 3 := by omega
                      simp [this]
                    have z3 : (d.pn == t3.next) = true := by
                      have : d.pn = t3.next := by omega
                      simp [this]
                    have hw0 : t3.waits = 0 ∧ t3.due = 18446744073709551615 := by omega
                    have HT4 := Lib.hid (HTC.out hf3 hq)
                    have hdl := HF.out.good.num.1
                    have hdl2 : t3.delay = s.delay := KS1.out.1
                    rw [← hdl2] at hdl
                    have HDU := Lib.hid hw0.2
                    clear hq hw0 hdl2
                    have m8 := mixF_cell (F := fun _ => False) (show w21.cell? ⟨p, 8, none⟩ = some (.int .u64 t3.due) from cell_of_row w21 p 8 _ _ _ S21.out.r.t) id
                    have mm0 := mixF_cell (F := fun _ => False) (show w21.cell? ⟨p, 0, none⟩ = some (.int .u64 t3.delay) from cell_of_row w21 p 0 _ _ _ S21.out.r.t) id
                    have HV : Hid (({ t3.newest d with due := min t3.due (sadd now t3.delay) } : PS) = { t3.newest d with due := min (now + t3.delay) 18446744073709551615 }) := Lib.hid (by
                      have e : min t3.due (sadd now t3.delay) = min (now + t3.delay) 18446744073709551615 := by
                        rw [HDU.out]
                        unfold sadd
                        omega
                      rw [e])
                    go_upto_region 24 with fail
                    have KA := Lib.hid (refAdd_any now t3.delay w21.drew hnow hdl)
                    have Q0 : Hid (Chg (fun _ => False) w21 w21.drew) := Lib.hid (Chg.refl _ _).drew
                    refine wp_region_chgE (fun _ => False) (by kernel_rfl) (by kernel_rfl) ?_
                    repeat (refine wpMixE_seg 1 _ _ rfl ?_; simp only [List.take_succ_cons, List.take_zero, List.drop_succ_cons, List.drop_zero]; go_big_quiet_step (fail); refine wpQuiet_nil ?_)
                    generalize w21.drew = w22 at *
                    refine wpMixE_bar rfl (by rfl) ?_
                    go_wp2_with fail
                    refine KA.out.mono ?_
                    rintro e w23 ⟨rfl, qa⟩
                    have Q1 : Hid (Chg (fun _ => False) w21 w23) := Lib.hid (Q0.out.qt qa)
                    clear qa KA Q0
                    go_wp2
                    refine mixGo_in Q1.out ?_
                    repeat (refine wpMixE_seg 1 _ _ rfl ?_; simp only [List.take_succ_cons, List.take_zero, List.drop_succ_cons, List.drop_zero]; go_big_quiet_step (fail); refine wpQuiet_nil ?_)
                    have S23 := Lib.hid (S21.out.below Q1.out.none_)
                    have y8 : w23.cell? ⟨p, 8, none⟩ = some (.int .u64 t3.due) := cell_of_row w23 p 8 _ _ _ S23.out.r.t
                    have fy8 := frozen_of_row w23 p 8 _ _ S23.out.r.t
                    refine wpMixE_bar rfl (by rfl) ?_
                    go_wp2
                    refine mixGo_fin ?_
                    have S24 : Hid (TaS w F M p g d A1 c1 { t3.newest d with due := min t3.due (sadd now t3.delay) } mx (w23.setCell ⟨p, 8, none⟩ (.int .u64 (min t3.due (sadd now t3.delay))))) := Lib.hid (S23.out.put _ rfl rfl rfl)
                    rw [HV.out] at S24
                    go_wp2
                    go_ret2
                    have GX := GT.out
                    rw [← HT4.out.1] at GX
                    rw [HT4.out.2]
                    exact ⟨rfl, S24.out.shut HF.out hfew DO.out GX KS1.out.2.2.2.2.1 KS1.out.2.2.2.2.2 KL.out, S24.out.ch⟩

end Go.Proofs.Ytkedfipeebjcjaa

namespace Go.Proofs.Ytkedfipeebjcjaa
set_option linter.unusedSimpArgs false
set_option linter.unusedVariables false
set_option linter.unnecessarySimpa false
open Go.RowKit

namespace PS
theorem range_iv (a b : Int) (n : Nat) : (((List.range n).filter fun (k : Nat) => decide (a ≤ (k : Int) ∧ (k : Int) < b)).length : Int) ≤ max (min (n : Int) b - a) 0 := by
  induction n with
  | zero => simp; omega
  | succ n ih =>
    rw [List.range_succ, List.filter_append, List.length_append]
    by_cases h : a ≤ (n : Int) ∧ (n : Int) < b
    · rw [List.filter_cons, if_pos (by simpa using h), List.filter_nil]
      simp only [List.length_singleton]
      push_cast
      omega
    · rw [List.filter_cons, if_neg (by simpa using h), List.filter_nil]
      simp only [List.length_nil]
      push_cast
      omega
theorem filter_or (p q : Nat → Bool) (l : List Nat) : (l.filter fun k => p k || q k).length ≤ (l.filter p).length + (l.filter q).length := by
  induction l with
  | nil => simp
  | cons x l ih =>
    rw [List.filter_cons, List.filter_cons, List.filter_cons]
    cases h1 : p x <;> cases h2 : q x <;> simp [h1, h2] <;> omega
theorem at_cons (x : Int × List Int) (s : List (Int × List Int)) (k : Int) : at_ (x :: s) k = (cov x k).or (at_ s k) := by
  unfold at_ cov
  rw [List.findSome?_cons]
  by_cases h : x.1 ≤ k ∧ k - x.1 < (x.2.length : Int)
  · rw [if_pos h]; rfl
  · rw [if_neg h]; rfl
theorem cover_len (s : List (Int × List Int)) (n : Nat) : ((List.range n).filter fun (k : Nat) => (at_ s k).isSome).length ≤ (s.map fun x => x.2.length).sum := by
  induction s with
  | nil => simp [at_nil]
  | cons x s ih =>
    have e : ((List.range n).filter fun (k : Nat) => (at_ (x :: s) k).isSome) = (List.range n).filter fun (k : Nat) => (cov x k).isSome || (at_ s k).isSome := by
      congr 1
      funext k
      rw [at_cons, Option.isSome_or]
    have h1 := filter_or (fun k => (cov x (k : Int)).isSome) (fun k => (at_ s (k : Int)).isSome) (List.range n)
    have h2 := range_iv x.1 (x.1 + x.2.length) n
    have e2 : ((List.range n).filter fun (k : Nat) => (cov x (k : Int)).isSome) = (List.range n).filter fun (k : Nat) => decide (x.1 ≤ (k : Int) ∧ (k : Int) < x.1 + x.2.length) := by
      congr 1
      funext k
      rw [Bool.eq_iff_iff, cov_some, decide_eq_true_eq]
    rw [e, List.map_cons, List.sum_cons]
    rw [e2] at h1
    omega
theorem stream_len {s : List (Int × List Int)} {out : List Int} (h : ∀ i, (hi : i < out.length) → at_ s i = some out[i]) : out.length ≤ (s.map fun x => x.2.length).sum := by
  have h1 := cover_len s out.length
  have e : ((List.range out.length).filter fun (k : Nat) => (at_ s k).isSome) = List.range out.length := by
    rw [List.filter_eq_self]
    intro k hk
    rw [h k (List.mem_range.1 hk)]
    rfl
  rw [e, List.length_range] at h1
  exact h1
theorem sum_le {s : List (Int × List Int)} (h : ∀ x ∈ s, x.2.length ≤ 1500) : (s.map fun x => x.2.length).sum ≤ 1500 * s.length := by
  induction s with
  | nil => simp
  | cons x s ih =>
    have h1 := ih (fun y hy => h y (by simp [hy]))
    have h2 := h x (by simp)
    rw [List.map_cons, List.sum_cons, List.length_cons]
    omega
theorem at_take {s : List (Int × List Int)} {i : Nat} (h : i < s.length) {k : Int} (h0 : at_ (s.take i) k = none) : at_ (s.take (i + 1)) k = cov s[i] k := by
  rw [List.take_succ_eq_append_getElem h, at_snoc, h0]
  rfl
theorem at_pre {s : List (Int × List Int)} {i : Nat} {k v : Int} (h : at_ (s.take i) k = some v) : at_ s k = some v := by
  have e : at_ (s.take i ++ s.drop i) k = some v := by
    unfold at_ at h ⊢
    rw [List.findSome?_append, h]
    rfl
  rwa [List.take_append_drop] at e
end PS
def lenOf (v : Value) : Nat := match v with
  | .slice _ n _ => n
  | _ => 0
def onOf (v : Value) : Nat := match v with
  | .bool true => 1
  | _ => 0

set_option maxHeartbeats 4000000 in
set_option maxRecDepth 100000 in
theorem rp_stream (w : World) (F M : Nat → Prop) (p : Nat) (s : PS) (h : PeF w F M p s) :
    Calls Try.prog 60 #[.pointer (some ⟨p, 0, none⟩)] w fun e w' => ∃ A c out, e = .returned (.slice A out.length c) ∧ PS.IsStream s.s out ∧ Rd w' 1 A out.length c (U8 out) ∧ Below w.heap.size w w' := by
  obtain ⟨iB, hiB, bz0, bz1, bz2⟩ := info_parts infoByte
  obtain ⟨m, hm⟩ := h.ex
  have HM := Lib.hid hm
  have SL := Lib.hid h.sl
  have hfew := h.few
  have BD : Hid (∀ out : List Int, (∀ i, (hi : i < out.length) → PS.at_ s.s i = some out[i]) → out.length ≤ 900000000) := Lib.hid (fun out ho => by
    have h1 := PS.stream_len ho
    have h2 := PS.sum_le (s := s.s) (fun x hx => (h.sl x hx).2.2.1)
    omega)
  have hpe : Hid (m.pl.length = s.s.length) := Lib.hid (by rw [← hm.pe, List.length_map])
  clear h hm
  go_enter Try.func60, Try.ntmps60
  go_wp2_with fail
  go_loopw [3, 4] (fun o b wr => ∃ (out : List Int) (on : Bool), b = .bool on ∧ wr.ownsRow w.heap.size 5 1 o out.length (U8 out) ∧ Hid (∀ i, (hi : i < out.length) → PS.at_ s.s i = some out[i]) ∧ Hid (on = false → PS.at_ s.s (out.length : Nat) = none) ∧ Below w.heap.size w wr) (fun o b _ => 2 * (1000000000 - lenOf o) + onOf b)
  case atStart => exact ⟨[], true, rfl, World.ownsRow_nil _ _ _ _, Lib.hid (fun i hi => by simp at hi), Lib.hid (fun e => by cases e), Below.refl _ _⟩
  case round =>
    obtain ⟨out, on, rfl, ho, hat, hst, hb⟩ := hrel
    have hlen := BD.out out hat.out
    obtain ⟨A4, c4, rfl, hA4⟩ := own_slice ho
    have hcap4 := (Rd.of_own ho).cap
    cases on
    · go_wp2
      go_ret
      exact ⟨A4, c4, out, rfl, ⟨hat.out, hst.out (by simp)⟩, Rd.of_own ho, hb⟩
    · have HO := Lib.hid ho
      have HB := Lib.hid hb
      clear hst ho hb hA4
      go_wp2_with fail
      go_loopw [3, 4, 5] (fun o b i wr => ∃ (k : Nat), k ≤ s.s.length ∧ o = .slice A4 out.length c4 ∧ b = .bool false ∧ i = .int .i64 k ∧ Hid (PS.at_ (s.s.take k) (out.length : Nat) = none) ∧ Hid (wr.ownsRow w.heap.size 5 1 (.slice A4 out.length c4) out.length (U8 out)) ∧ Below w.heap.size w wr) (fun _ _ i _ => s.s.length - (intOf i).toNat)
      case atStart => exact ⟨0, Nat.zero_le _, rfl, rfl, rfl, Lib.hid rfl, HO, HB.out⟩
      case round =>
        clear HO HB
        obtain ⟨k, hk, rfl, rfl, rfl, hno, ho, hb⟩ := hrel
        have H1 := Lib.hid (HM.out.below hb)
        have t5 := cell_of_row wr p 5 _ _ _ H1.out.t
        by_cases hlt : k < s.s.length
        · have hlp : k < m.pl.length := by rw [hpe.out]; exact hlt
          obtain ⟨bk, off, eA, hcell⟩ := (Rd.of_own H1.out.o2).elem (f := Pc.cells) (fun _ => rfl) (by omega) hlp
          have hc0 : wr.cell? ⟨bk, off + k * 2, none⟩ = some (.int .u64 m.pl[k].off) := hcell 0 _ rfl
          have hc1 : wr.cell? ⟨bk, off + k * 2 + 1, none⟩ = some (.slice m.pl[k].A m.pl[k].b.length m.pl[k].c) := hcell 1 _ rfl
          have hcp : s.s.length ≤ m.c2 := (Rd.of_own H1.out.o2).cap
          have bdk := Lib.hid (H1.out.bd _ (List.getElem_mem hlp))
          have ex : Hid (m.pl[k].pure = s.s[k]) := Lib.hid (by
            have e := H1.out.pe
            have h1 : (m.pl.map Pc.pure)[k]? = s.s[k]? := by rw [e]
            rw [List.getElem?_map, List.getElem?_eq_getElem hlp, List.getElem?_eq_getElem hlt] at h1
            simpa using h1)
          have sl := SL.out _ (List.getElem_mem hlt)
          rw [← ex.out] at sl
          have hno2 := PS.at_take hlt hno.out
          rw [← ex.out] at hno2
          have TK := Lib.hid hno2
          clear hno2
          generalize m.pl[k] = x at *
          obtain ⟨sl0, sl1, sl2, sl3⟩ := sl
          have sl0 : 0 ≤ x.off := sl0
          have sl1 : x.off + x.b.length ≤ 4611686018427387903 := sl1
          rw [eA] at t5
          have bx := Lib.hid (box_below wr (.cells #[.int .u64 x.off, .slice x.A x.b.length x.c] 82))
          have own2 := Lib.hid (own_above ho.out bx.out)
          have rdx := Lib.hid (bdk.out.below bx.out)
          have B2 := Lib.hid (hb.trans (bx.out.mono hb.size))
          have wo : IntKind.u64.wrap (out.length : Int) = out.length := IntWalk.u64_in _ (by omega)
          have hgs : w.heap.size ≤ (wr.alloc (.cells #[.int .u64 x.off, .slice x.A x.b.length x.c] 82)).heap.size := Nat.le_trans hb.size bx.out.size
          clear hcell ex bdk sl2 sl3 hb
          by_cases c1 : x.off ≤ out.length
          · by_cases c2 : (out.length : Int) - x.off < x.b.length
            · obtain ⟨j, hj⟩ : ∃ j : Nat, (out.length : Int) - x.off = j := ⟨((out.length : Int) - x.off).toNat, by omega⟩
              have hjl : j < x.b.length := by omega
              obtain ⟨bb, ob, eB, d0⟩ := rdx.out.u8 (k := j) hjl hjl
              have hcb := rdx.out.cap
              clear rdx bx
              rw [eB] at own2 B2 hgs d0 hc1
              have TV : Hid (PS.at_ (s.s.take (k + 1)) (out.length : Nat) = some x.b[j]) := Lib.hid (by
                rw [TK.out]
                unfold PS.cov Pc.pure
                rw [if_pos ⟨c1, c2⟩]
                simp only [hj, Int.toNat_natCast, List.getD_eq_getElem?_getD, List.getElem?_eq_getElem hjl, Option.getD_some])
              have q1 : decide (x.off ≤ (out.length : Int)) = true := decide_eq_true c1
              have q2 : decide ((j : Int) < (x.b.length : Int)) = true := decide_eq_true (by omega)
              have wj : IntKind.u64.wrap ((out.length : Int) - x.off) = j := by rw [hj]; exact IntWalk.u64_in _ (by omega)
              have wj3 : IntKind.u64.wrap (j : Int) = j := IntWalk.u64_in _ (by omega)
              have wj2 : IntKind.i64.wrap (j : Int) = j := IntWalk.i64_in _ (by omega)
              clear c1 c2 hno
              go_wp2_with (
                at_builtin
                refine wpList_app1 _ rfl (.tmp 43) (.tmp 53) 22 rfl w.heap.size 5 iB (.int .u8 0) 1 1 Try.underlying22 hiB bz0 bz1 bz2 rfl (by decide) (.slice A4 out.length c4) out.length (U8 out) rfl own2.out #[.int .u8 x.b[j]] _ rfl (by simp) rfl (by simp [Value.oneCell']) (by unfold maxLen; omega) (by omega) hgs ?_
                intro v8 w8 hown8 hg8 _
                have O8 := Lib.hid hown8
                have B8 : Hid (Below w.heap.size w w8) := Lib.hid (B2.out.grown hg8 B2.out.size (fun g hg => (own2.out.lt g hg).1))
                clear hown8 hg8)
              go_roundw
              case rel => exact ⟨out ++ [x.b[j]], true, rfl, by rw [List.length_append, U8_append]; exact O8.out, Lib.hid (fun i hi => by
                rw [List.length_append, List.length_singleton] at hi
                by_cases h1 : i < out.length
                · rw [List.getElem_append_left h1]
                  exact hat.out i h1
                · obtain rfl : i = out.length := by omega
                  rw [List.getElem_append_right (Nat.le_refl _)]
                  simpa using PS.at_pre TV.out), Lib.hid (fun e => by cases e), B8.out⟩
              case measure => (
                obtain ⟨A9, c9, e9, -⟩ := own_slice O8.out
                rw [e9]
                show 2 * (1000000000 - (out.length + 1)) + 1 < 2 * (1000000000 - out.length) + 1
                omega)
            · have q1 : decide (x.off ≤ (out.length : Int)) = true := decide_eq_true c1
              have wj : IntKind.u64.wrap ((out.length : Int) - x.off) = (out.length : Int) - x.off := IntWalk.u64_in _ (by omega)
              have q2 : decide ((out.length : Int) - x.off < (x.b.length : Int)) = false := decide_eq_false c2
              have TN : Hid (PS.at_ (s.s.take (k + 1)) (out.length : Nat) = none) := Lib.hid (by
                rw [TK.out]
                unfold PS.cov Pc.pure
                exact if_neg (fun e => c2 e.2))
              clear c1 c2 hno
              go_wp2
              go_roundw
              case rel => exact ⟨k + 1, by omega, rfl, rfl, by go_num, TN, own2, B2.out⟩
              case measure => simp [intOf]; omega
          · have q1 : decide (x.off ≤ (out.length : Int)) = false := decide_eq_false c1
            have TN : Hid (PS.at_ (s.s.take (k + 1)) (out.length : Nat) = none) := Lib.hid (by
              rw [TK.out]
              unfold PS.cov Pc.pure
              exact if_neg (fun e => c1 e.1))
            clear c1 hno
            go_wp2
            go_roundw
            case rel => exact ⟨k + 1, by omega, rfl, rfl, by go_num, TN, own2, B2.out⟩
            case measure => simp [intOf]; omega
        · obtain rfl : k = s.s.length := by omega
          rw [List.take_length] at hno
          go_wp2
          go_roundw
          case rel => exact ⟨out, false, rfl, ho.out, hat, Lib.hid (fun _ => hno.out), hb⟩
          case measure => (
            show 2 * (1000000000 - out.length) + 0 < 2 * (1000000000 - out.length) + 1
            omega)

end Go.Proofs.Ytkedfipeebjcjaa
