/-
  Two receivers side by side; do they tell the same? · The examples of the chapter on the receiver. · The laws of chapter 27: two receivers side by side, what each may turn; a list of Packs; what is told, in one form.
-/
import Derived.Test.YtkedfipeebjcjaaPlwP
import Derived.Test.YtkedfipeebjcjaaSeqL
import Derived.Test.YtkedfipeebjcjaaPee10
import Derived.Test.YtkedfipeebjcjaaPee8
import Derived.Test.YtkedfipeebjcjaaRpe7
import Derived.Test.YtkedfipeebjcjaaPlw1
import Derived.Test.YtkedfipeebjcjaaBytes
import Derived.Lib.SlBytesConst
import Derived.Test.YtkedfipeebjcjaaPdt
import Derived.Test.YtkedfipeebjcjaaLookR
namespace Go.Proofs.Ytkedfipeebjcjaa
set_option linter.unusedSimpArgs false
set_option linter.unusedVariables false
set_option linter.unnecessarySimpa false
open Go.RowKit

/-- The program's receiver and the reference's, in blocks of F of their own; M lies ahead and is only read. -/
structure PRel (w : World) (F M : Nat → Prop) (p r : Nat) (s t : PS) : Prop where
  mlt : ∀ k, M k → k < w.heap.size
  ex : ∃ F1 F2 : Nat → Prop, PeP w F1 M p s ∧ PeF w F2 M r t ∧ (∀ k, F1 k → ¬ F2 k) ∧ ∀ k, F1 k ∨ F2 k → F k ∧ ¬ M k ∧ k < w.heap.size
theorem PRel.chg {w w' : World} {F M G : Nat → Prop} {p r : Nat} {s t : PS} (h : PRel w F M p r s t) (c : Chg G w w') (hd : ∀ k, k < w.heap.size → F k ∨ M k → ¬ G k) : PRel w' F M p r s t := by
  obtain ⟨F1, F2, hP, hR, d, g⟩ := h.ex
  have hd1 : ∀ k, k < w.heap.size → F1 k ∨ M k → ¬ G k := fun k hk e => hd k hk (e.imp_left fun e => (g k (.inl e)).1)
  have hd2 : ∀ k, k < w.heap.size → F2 k ∨ M k → ¬ G k := fun k hk e => hd k hk (e.imp_left fun e => (g k (.inr e)).1)
  exact ⟨fun k hk => Nat.lt_of_lt_of_le (h.mlt k hk) c.size, F1, F2, hP.chg c hd1 (fun _ _ h => h) (fun _ _ h => .inr h), hR.chg c hd2 (fun _ _ h => h) (fun _ _ h => .inr h), d, fun k hk => ⟨(g k hk).1, (g k hk).2.1, Nat.lt_of_lt_of_le (g k hk).2.2 c.size⟩⟩
theorem PRel.below {w w' : World} {F M : Nat → Prop} {p r : Nat} {s t : PS} (h : PRel w F M p r s t) (b : Below w.heap.size w w') : PRel w' F M p r s t := h.chg (chg_below b (F := fun _ => False)) (fun _ _ _ h => h)
theorem PRel.sub {w : World} {F M G : Nat → Prop} {p r : Nat} {s t : PS} (h : PRel w F M p r s t) (hF : ∀ k, k < w.heap.size → F k → G k) : PRel w G M p r s t := by
  obtain ⟨F1, F2, hP, hR, d, g⟩ := h.ex
  exact ⟨h.mlt, F1, F2, hP, hR, d, fun k hk => ⟨hF k (g k hk).2.2 (g k hk).1, (g k hk).2⟩⟩
theorem PRel.takeP {w : World} {F M : Nat → Prop} {p r : Nat} {s t : PS} (h : PRel w F M p r s t) (A : Option Addr) (c : Nat) (l : List Int) (now : Int) (hr : Rd w 1 A l.length c (U8 l)) (hb : ∀ x ∈ l, 0 ≤ x ∧ x ≤ 255) (hl : l.length ≤ 70368744177664) (hnow : isU64 now) (hfew : s.s.length < 600000) :
    Calls Try.prog 10 #[.pointer (some ⟨p, 0, none⟩), .slice A l.length c, .int .u64 now] w fun e w' => TellVal (s.takeB l now).2 w w' e ∧ PRel w' (Grow F w) M p r (s.takeB l now).1 t ∧ Chg F w w' := by
  obtain ⟨F1, F2, hP, hR, d, g⟩ := h.ex
  refine (peer_take w F1 M p s A c l now hP hr hb hl hnow hfew).mono ?_
  rintro e w' ⟨h1, h2, h3⟩
  refine ⟨h1, ⟨fun k hk => Nat.lt_of_lt_of_le (h.mlt k hk) h3.size, fun k => Grow F1 w k ∧ k < w'.heap.size, F2, h2.sub (fun k hk e => ⟨e, hk⟩) (fun k _ e => .inr e), hR.chg h3 (fun k hk e e2 => e.elim (d k e2) (fun e => (g k (.inl e2)).2.1 e)) (fun _ _ h => h) (fun _ _ h => .inr h), ?_, ?_⟩, h3.mono fun k _ e => (g k (.inl e)).1⟩
  · rintro k ⟨e | e, -⟩ e2
    · exact d k e e2
    · have := (g k (.inr e2)).2.2; omega
  · rintro k (⟨e | e, e3⟩ | e)
    · exact ⟨.inl (g k (.inl e)).1, (g k (.inl e)).2.1, e3⟩
    · exact ⟨.inr e, fun e2 => by have := h.mlt k e2; omega, e3⟩
    · exact ⟨.inl (g k (.inr e)).1, (g k (.inr e)).2.1, Nat.lt_of_lt_of_le (g k (.inr e)).2.2 h3.size⟩
theorem PRel.takeR {w : World} {F M : Nat → Prop} {p r : Nat} {s t : PS} (h : PRel w F M p r s t) (A : Option Addr) (c : Nat) (l : List Int) (now : Int) (hr : Rd w 1 A l.length c (U8 l)) (hb : ∀ x ∈ l, 0 ≤ x ∧ x ≤ 255) (hl : l.length ≤ 70368744177664) (hnow : isU64 now) (hfew : t.s.length < 600000) :
    Calls Try.prog 21 #[.pointer (some ⟨r, 0, none⟩), .slice A l.length c, .int .u64 now] w fun e w' => TellVal (t.takeB l now).2 w w' e ∧ PRel w' (Grow F w) M p r s (t.takeB l now).1 ∧ Chg F w w' := by
  obtain ⟨F1, F2, hP, hR, d, g⟩ := h.ex
  refine (rp_take w F2 M r t A c l now hR hr hb hl hnow hfew).mono ?_
  rintro e w' ⟨h1, h2, h3⟩
  refine ⟨h1, ⟨fun k hk => Nat.lt_of_lt_of_le (h.mlt k hk) h3.size, F1, fun k => Grow F2 w k ∧ k < w'.heap.size, hP.chg h3 (fun k hk e e2 => e.elim (fun e => d k e e2) (fun e => (g k (.inr e2)).2.1 e)) (fun _ _ h => h) (fun _ _ h => .inr h), h2.sub (fun k hk e => ⟨e, hk⟩) (fun k _ e => .inr e), ?_, ?_⟩, h3.mono fun k _ e => (g k (.inr e)).1⟩
  · rintro k e2 ⟨e | e, -⟩
    · exact d k e2 e
    · have := (g k (.inl e2)).2.2; omega
  · rintro k (e | ⟨e | e, e3⟩)
    · exact ⟨.inl (g k (.inl e)).1, (g k (.inl e)).2.1, Nat.lt_of_lt_of_le (g k (.inl e)).2.2 h3.size⟩
    · exact ⟨.inl (g k (.inr e)).1, (g k (.inr e)).2.1, e3⟩
    · exact ⟨.inr e, fun e2 => by have := h.mlt k e2; omega, e3⟩
theorem PRel.tickP {w : World} {F M : Nat → Prop} {p r : Nat} {s t : PS} (h : PRel w F M p r s t) (now : Int) :
    Calls Try.prog 16 #[.pointer (some ⟨p, 0, none⟩), .int .u64 now] w fun e w' => TellVal (s.tick now).2 w w' e ∧ PRel w' (Grow F w) M p r (s.tick now).1 t ∧ Chg F w w' := by
  obtain ⟨F1, F2, hP, hR, d, g⟩ := h.ex
  refine (peer_tick w F1 M p s now hP).mono ?_
  rintro e w' ⟨h1, h2, h3⟩
  refine ⟨h1, ⟨fun k hk => Nat.lt_of_lt_of_le (h.mlt k hk) h3.size, fun k => Grow F1 w k ∧ k < w'.heap.size, F2, h2.sub (fun k hk e => ⟨e, hk⟩) (fun k _ e => .inr e), hR.chg h3 (fun k hk e e2 => e.elim (d k e2) (fun e => (g k (.inl e2)).2.1 e)) (fun _ _ h => h) (fun _ _ h => .inr h), ?_, ?_⟩, h3.mono fun k _ e => (g k (.inl e)).1⟩
  · rintro k ⟨e | e, -⟩ e2
    · exact d k e e2
    · have := (g k (.inr e2)).2.2; omega
  · rintro k (⟨e | e, e3⟩ | e)
    · exact ⟨.inl (g k (.inl e)).1, (g k (.inl e)).2.1, e3⟩
    · exact ⟨.inr e, fun e2 => by have := h.mlt k e2; omega, e3⟩
    · exact ⟨.inl (g k (.inr e)).1, (g k (.inr e)).2.1, Nat.lt_of_lt_of_le (g k (.inr e)).2.2 h3.size⟩
theorem PRel.tickR {w : World} {F M : Nat → Prop} {p r : Nat} {s t : PS} (h : PRel w F M p r s t) (now : Int) :
    Calls Try.prog 22 #[.pointer (some ⟨r, 0, none⟩), .int .u64 now] w fun e w' => TellVal (t.tick now).2 w w' e ∧ PRel w' (Grow F w) M p r s (t.tick now).1 ∧ Chg F w w' := by
  obtain ⟨F1, F2, hP, hR, d, g⟩ := h.ex
  refine (rp_tick w F2 M r t now hR).mono ?_
  rintro e w' ⟨h1, h2, h3⟩
  refine ⟨h1, ⟨fun k hk => Nat.lt_of_lt_of_le (h.mlt k hk) h3.size, F1, fun k => Grow F2 w k ∧ k < w'.heap.size, hP.chg h3 (fun k hk e e2 => e.elim (fun e => d k e e2) (fun e => (g k (.inr e2)).2.1 e)) (fun _ _ h => h) (fun _ _ h => .inr h), h2.sub (fun k hk e => ⟨e, hk⟩) (fun k _ e => .inr e), ?_, ?_⟩, h3.mono fun k _ e => (g k (.inr e)).1⟩
  · rintro k e2 ⟨e | e, -⟩
    · exact d k e2 e
    · have := (g k (.inl e2)).2.2; omega
  · rintro k (e | ⟨e | e, e3⟩)
    · exact ⟨.inl (g k (.inl e)).1, (g k (.inl e)).2.1, Nat.lt_of_lt_of_le (g k (.inl e)).2.2 h3.size⟩
    · exact ⟨.inl (g k (.inr e)).1, (g k (.inr e)).2.1, e3⟩
    · exact ⟨.inr e, fun e2 => by have := h.mlt k e2; omega, e3⟩

set_option maxHeartbeats 4000000 in
set_option maxRecDepth 100000 in
theorem pr_same (w : World) (F M : Nat → Prop) (p r : Nat) (s : PS) (h : PRel w F M p r s s) :
    Calls Try.prog 23 #[.pointer (some ⟨p, 0, none⟩), .pointer (some ⟨r, 0, none⟩)] w fun e w' => e = .returned (.bool true) ∧ Below w.heap.size w w' := by
  obtain ⟨F1, F2, hP, hR, -, -⟩ := h.ex
  obtain ⟨m, hm⟩ := hR.ex
  have HP := Lib.hid (hP.below (Below.refl w.heap.size w).drew)
  have HR := Lib.hid (hR.below (Below.refl w.heap.size w).drew)
  have m8 := mixF_cell (F := fun _ => False) (show w.cell? ⟨r, 8, none⟩ = some (.int .u64 s.due) from cell_of_row w r 8 _ _ _ hm.t) id
  have m1 := mixF_cell (F := fun _ => False) (show w.cell? ⟨r, 1, none⟩ = some (.int .u64 s.floor) from cell_of_row w r 1 _ _ _ hm.t) id
  have m4 := mixF_cell (F := fun _ => False) (show w.cell? ⟨r, 4, none⟩ = some (.int .u64 s.bytes) from cell_of_row w r 4 _ _ _ hm.t) id
  have bb : Hid (Below w.heap.size w w.drew) := Lib.hid (Below.refl w.heap.size w).drew
  clear h hP hR hm
  go_enter Try.func23, Try.ntmps23
  go_upto_region 1 with fail
  refine wp_region_chgL (fun _ => False) [42, 45] (by kernel_rfl) (by kernel_rfl) ?_
  repeat (first | (refine wpMixL_seg rfl rfl ?_; go_big_quiet_step (fail); refine wpQuiet_nil ?_) | (refine wpMixL_late rfl rfl ?_; go_big_quiet_step (fail); refine wpQuiet_nil ?_))
  generalize w.drew = w0 at *
  refine wpMixL_bar rfl (by rfl) ?_
  go_wp2_with fail
  refine (peer_pdue _ F1 M p s HP.out).mono ?_
  rintro e w1 ⟨rfl, rfl⟩
  go_wp2
  refine ⟨chg_mixF (Chg.refl _ _), ?_⟩
  repeat (first | (refine wpMixL_seg rfl rfl ?_; go_big_quiet_step (fail); refine wpQuiet_nil ?_) | (refine wpMixL_late rfl rfl ?_; go_big_quiet_step (fail); refine wpQuiet_nil ?_))
  refine wpMixL_bar rfl (by rfl) ?_
  go_wp2_with fail
  refine (peer_pfloor _ F1 M p s HP.out).mono ?_
  rintro e w1 ⟨rfl, rfl⟩
  go_wp2
  refine ⟨chg_mixF (Chg.refl _ _), ?_⟩
  repeat (first | (refine wpMixL_seg rfl rfl ?_; go_big_quiet_step (fail); refine wpQuiet_nil ?_) | (refine wpMixL_late rfl rfl ?_; go_big_quiet_step (fail); refine wpQuiet_nil ?_))
  refine wpMixL_bar rfl (by rfl) ?_
  go_wp2_with fail
  refine (peer_pbytes _ F1 M p s HP.out).mono ?_
  rintro e w1 ⟨rfl, rfl⟩
  go_wp2
  refine ⟨chg_mixF (Chg.refl _ _), ?_⟩
  repeat (first | (refine wpMixL_seg rfl rfl ?_; go_big_quiet_step (fail); refine wpQuiet_nil ?_) | (refine wpMixL_late rfl rfl ?_; go_big_quiet_step (fail); refine wpQuiet_nil ?_))
  refine wpMixL_bar rfl (by rfl) ?_
  go_wp2_with fail
  refine (peer_pgot _ F1 M p s HP.out).mono ?_
  rintro e w1 ⟨A1, c1, rfl, R1, b1⟩
  go_wp2
  refine ⟨chg_mixF (chg_below b1), ?_⟩
  have HP1 := Lib.hid (HP.out.below b1)
  have HR1 := Lib.hid (HR.out.below b1)
  have B1 := Lib.hid (bb.out.trans (b1.mono bb.out.size))
  have Q1 := Lib.hid R1.rd
  clear HP HR bb b1 R1
  repeat (first | (refine wpMixL_seg rfl rfl ?_; go_big_quiet_step (fail); refine wpQuiet_nil ?_) | (refine wpMixL_late rfl rfl ?_; go_big_quiet_step (fail); refine wpQuiet_nil ?_))
  refine wpMixL_bar rfl (by rfl) ?_
  go_wp2_with fail
  refine (rp_pgot _ F2 M r s HR1.out).mono ?_
  rintro e w2 ⟨A2, c2, rfl, R2, b2⟩
  go_wp2
  refine ⟨chg_mixF (chg_below b2), ?_⟩
  have HP2 := Lib.hid (HP1.out.below b2)
  have HR2 := Lib.hid (HR1.out.below b2)
  have B2 := Lib.hid (B1.out.trans (b2.mono B1.out.size))
  have Q2 := Lib.hid R2.rd
  have Q1b := Lib.hid (Q1.out.below b2)
  clear HP1 HR1 B1 b2 R2 Q1
  repeat (first | (refine wpMixL_seg rfl rfl ?_; go_big_quiet_step (fail); refine wpQuiet_nil ?_) | (refine wpMixL_late rfl rfl ?_; go_big_quiet_step (fail); refine wpQuiet_nil ?_))
  refine wpMixL_bar rfl (by rfl) ?_
  go_wp2_with fail
  refine (sameSpans_any A1 A2 _ _ c1 c2 s.got s.got _ Q1b.out Q2.out).mono ?_
  rintro e w3 ⟨rfl, q3⟩
  go_wp2
  refine ⟨chg_mixF (chg_below q3.below), ?_⟩
  have HP3 := Lib.hid (HP2.out.below q3.below)
  have HR3 := Lib.hid (HR2.out.below q3.below)
  have B3 := Lib.hid (B2.out.trans q3.below)
  clear HP2 HR2 B2 q3 Q1b Q2
  repeat (first | (refine wpMixL_seg rfl rfl ?_; go_big_quiet_step (fail); refine wpQuiet_nil ?_) | (refine wpMixL_late rfl rfl ?_; go_big_quiet_step (fail); refine wpQuiet_nil ?_))
  refine wpMixL_bar rfl (by rfl) ?_
  go_wp2_with fail
  refine (peer_pmarked _ F1 M p s HP3.out).mono ?_
  rintro e w4 ⟨A4, c4, rfl, R4, b4⟩
  go_wp2
  refine ⟨chg_mixF (chg_below b4), ?_⟩
  have HP4 := Lib.hid (HP3.out.below b4)
  have HR4 := Lib.hid (HR3.out.below b4)
  have B4 := Lib.hid (B3.out.trans (b4.mono B3.out.size))
  have Q4 := Lib.hid R4.rd
  clear HP3 HR3 B3 b4 R4
  repeat (first | (refine wpMixL_seg rfl rfl ?_; go_big_quiet_step (fail); refine wpQuiet_nil ?_) | (refine wpMixL_late rfl rfl ?_; go_big_quiet_step (fail); refine wpQuiet_nil ?_))
  refine wpMixL_bar rfl (by rfl) ?_
  go_wp2_with fail
  refine (rp_pmarked _ F2 M r s HR4.out).mono ?_
  rintro e w5 ⟨A5, c5, rfl, R5, b5⟩
  go_wp2
  refine ⟨chg_mixF (chg_below b5), ?_⟩
  have HP5 := Lib.hid (HP4.out.below b5)
  have HR5 := Lib.hid (HR4.out.below b5)
  have B5 := Lib.hid (B4.out.trans (b5.mono B4.out.size))
  have Q5 := Lib.hid R5.rd
  have Q4b := Lib.hid (Q4.out.below b5)
  clear HP4 HR4 B4 b5 R5 Q4
  repeat (first | (refine wpMixL_seg rfl rfl ?_; go_big_quiet_step (fail); refine wpQuiet_nil ?_) | (refine wpMixL_late rfl rfl ?_; go_big_quiet_step (fail); refine wpQuiet_nil ?_))
  refine wpMixL_bar rfl (by rfl) ?_
  go_wp2_with fail
  refine (sameSpans_any A4 A5 _ _ c4 c5 s.marked s.marked _ Q4b.out Q5.out).mono ?_
  rintro e w6 ⟨rfl, q6⟩
  go_wp2
  refine ⟨chg_mixF (chg_below q6.below), ?_⟩
  have HP6 := Lib.hid (HP5.out.below q6.below)
  have HR6 := Lib.hid (HR5.out.below q6.below)
  have B6 := Lib.hid (B5.out.trans q6.below)
  clear HP5 HR5 B5 q6 Q4b Q5
  repeat (first | (refine wpMixL_seg rfl rfl ?_; go_big_quiet_step (fail); refine wpQuiet_nil ?_) | (refine wpMixL_late rfl rfl ?_; go_big_quiet_step (fail); refine wpQuiet_nil ?_))
  refine wpMixL_bar rfl (by rfl) ?_
  go_wp2_with fail
  refine (peer_stream _ F1 M p s HP6.out).mono ?_
  rintro e w7 ⟨A7, c7, o7, rfl, I7, R7, b7⟩
  go_wp2
  refine ⟨chg_mixF (chg_below b7), ?_⟩
  have HR7 := Lib.hid (HR6.out.below b7)
  have B7 := Lib.hid (B6.out.trans (b7.mono B6.out.size))
  have cv1 := conv_mix (dst := 9) Try.underlying22 Try.underlying5 Try.underlying9 (F := fun _ => False) R7 (fun _ _ _ _ h => h)
  have I7h := Lib.hid I7
  clear HP6 HR6 B6 b7 R7 I7
  repeat (first | (refine wpMixL_seg rfl rfl ?_; go_big_quiet_step (fail); refine wpQuiet_nil ?_) | (refine wpMixL_late rfl rfl ?_; go_big_quiet_step (fail); refine wpQuiet_nil ?_))
  clear cv1
  refine wpMixL_bar rfl (by rfl) ?_
  go_wp2_with fail
  refine (rp_stream _ F2 M r s HR7.out).mono ?_
  rintro e w8 ⟨A8, c8, o8, rfl, I8, R8, b8⟩
  go_wp2
  refine ⟨chg_mixF (chg_below b8), ?_⟩
  obtain rfl := I7h.out.unique I8
  have B8 := Lib.hid (B7.out.trans (b8.mono B7.out.size))
  have cv2 := conv_mix (dst := 9) Try.underlying22 Try.underlying5 Try.underlying9 (F := fun _ => False) R8 (fun _ _ _ _ h => h)
  clear HR7 B7 b8 R8 I8 I7h
  repeat (first | (refine wpMixL_seg rfl rfl ?_; go_big_quiet_step (fail); refine wpQuiet_nil ?_) | (refine wpMixL_late rfl rfl ?_; go_big_quiet_step (fail); refine wpQuiet_nil ?_))
  clear cv2
  refine wpMixL_nil ?_
  go_wp2
  go_ret
  exact ⟨rfl, B8.out⟩

end Go.Proofs.Ytkedfipeebjcjaa

namespace Go.Proofs.Ytkedfipeebjcjaa
set_option linter.unusedSimpArgs false
set_option linter.unusedVariables false
set_option linter.unnecessarySimpa false
open Go.RowKit

def alA : DatD := ⟨0, 0, 0, 6, 1, [97, 98]⟩
def alB : DatD := ⟨1, 0, 2, 5, 3, [99]⟩
def al0 : PS := PS.new 5
def al1 : PS × Option AckD := al0.takeB (putDatP alA) 3
def al2 : PS × Option AckD := al1.1.takeB (putDatP alB) 4
def alAck : Bool := match al2.2 with
  | some a => (match ackP (putAckP a) with
    | .ok d => decide (d.sp = [(0, 1)]) && decide (d.mm = [(1, 1)]) && decide (d.tr = 5) && decide (d.xo = 3) && d.od
    | .error _ => false) && (putAckP a).all (fun x => decide (0 ≤ x ∧ x ≤ 255)) && decide ((putAckP a).length ≤ 1000)
  | none => false
theorem alVals : al1.2.isNone = true ∧ al1.1.due = 8 ∧ alAck = true ∧ al2.1.due = 18446744073709551615 ∧ al2.1.bytes = 3 ∧ al2.1.s = [(0, [97, 98]), (2, [99])] ∧ al1.1.s.length < 600000 := by decide +kernel
theorem alOkA : alA.Ok := ⟨by decide, by decide, by decide, ⟨by decide, by decide⟩, by decide, by decide, by decide⟩
theorem alOkB : alB.Ok := ⟨by decide, by decide, by decide, ⟨by decide, by decide⟩, by decide, by decide, by decide⟩
theorem alStream : PS.IsStream [(0, [97, 98]), (2, [99])] [97, 98, 99] := by
  refine ⟨fun i hi => ?_, by decide⟩
  have : i = 0 ∨ i = 1 ∨ i = 2 := by simp only [List.length_cons, List.length_nil] at hi; omega
  rcases this with rfl | rfl | rfl <;> rfl
theorem alTold : ∃ a d, al2.2 = some a ∧ ackP (putAckP a) = .ok d ∧ d.sp = [(0, 1)] ∧ d.mm = [(1, 1)] ∧ d.tr = 5 ∧ d.xo = 3 ∧ d.od = true ∧ (∀ x ∈ putAckP a, 0 ≤ x ∧ x ≤ 255) ∧ (putAckP a).length ≤ 1000 := by
  have h := alVals.2.2.1
  unfold alAck at h
  cases ha : al2.2 with
  | none => rw [ha] at h; cases h
  | some a =>
    rw [ha] at h
    simp only at h
    cases hd : ackP (putAckP a) with
    | error e => rw [hd] at h; simp at h
    | ok d =>
      rw [hd] at h
      simp only [Bool.and_eq_true, decide_eq_true_eq, List.all_eq_true] at h
      exact ⟨a, d, rfl, hd, h.1.1.1.1.1.1, h.1.1.1.1.1.2, h.1.1.1.1.2, h.1.1.1.2, h.1.1.2, h.1.2, h.2⟩

theorem Rd.litm (w : World) (size : Nat) (cs : Array Value) (t : TypeId) (fr : Nat × Nat) (n : Nat) (xs : List Value) (g : Nat) (hg : g = w.heap.size) (hx : cs.toList = xs) (hs : xs.length = n * size) (hn : n ≤ maxLen) :
    Rd (w.alloc (.cells cs t fr)) size (some ⟨g, 0, none⟩) n n xs := by
  subst hg
  subst hx
  refine ⟨hs, Nat.le_refl _, hn, fun _ => ⟨_, _, rfl, fun j u hu => ?_⟩⟩
  rw [cell_of_row _ w.heap.size (0 + j) cs t fr (heap_alloc_new w _)]
  simpa using hu
set_option maxHeartbeats 4000000 in
set_option maxRecDepth 100000 in
theorem peerAlive (w : World) : Calls Try.prog 9 #[] w fun e w' => e = .returned (.bool true) ∧ Below w.heap.size w w' := by
  obtain ⟨V1, V2, -, V4, V5, V6, V7⟩ := alVals
  obtain ⟨a, d, T1, T2, T3, T4, T5, T6, T7, T8, T9⟩ := alTold
  have W1 : Hid (al1.2 = none) := Lib.hid (by cases h : al1.2 with | none => rfl | some x => rw [h] at V1; cases V1)
  have W2 := Lib.hid V2
  have W4 := Lib.hid V4
  have W5 := Lib.hid V5
  have W6 := Lib.hid V6
  have W7 := Lib.hid V7
  have X1 := Lib.hid T1
  have X2 := Lib.hid T2
  have X3 := Lib.hid (And.intro T3 (And.intro T4 (And.intro T5 (And.intro T6 T7))))
  have X8 := Lib.hid T8
  have X9 := Lib.hid T9
  clear V1 V2 V4 V5 V6 V7 T1 T2 T3 T4 T5 T6 T7 T8 T9
  have kc := fun (w : World) (C : Array Value) (n c : Nat) => Lib.run_convert_bytes_const (P := Try.prog) w 22 5 C n c Try.underlying22 Try.underlying5
  go_enter Try.func9, Try.ntmps9
  go_wp2_with fail
  refine (peer_new 5 w ⟨by omega, by omega⟩).mono ?_
  rintro e w1 ⟨p, rfl, hP, b1⟩
  have P1 := Lib.hid hP
  have B1 := Lib.hid b1
  clear hP b1
  go_wp2_with fail
  refine (peer_pdue w1 _ _ p _ P1.out).mono ?_
  rintro e w1' ⟨rfl, rfl⟩
  have RL := Lib.hid (Rd.litm w1 1 #[.int .u8 97, .int .u8 98] 5 (2, 3) 2 (U8 [97, 98]) w1.heap.size rfl rfl rfl (by unfold maxLen; omega))
  have E2 := Lib.hid (box_below w1 (.cells #[.int .u8 97, .int .u8 98] 5 (2, 3)))
  have KP := Lib.hid (ref_putData (w1.alloc (.cells #[.int .u8 97, .int .u8 98] 5 (2, 3))) alA (some ⟨w1.heap.size, 0, none⟩) 2 alOkA RL.out)
  go_wp2_with fail
  refine KP.out.mono ?_
  clear KP RL
  rintro e w2 ⟨A2, c2, rfl, r2, b2, -⟩
  have P2 := Lib.hid ((P1.out.below E2.out).below b2)
  have B2 := Lib.hid ((B1.out.trans (E2.out.mono B1.out.size)).trans (b2.mono ((B1.out.trans (E2.out.mono B1.out.size)).size)))
  have KT := Lib.hid (peer_take w2 _ _ p al0 A2 c2 (putDatP alA) 3 P2.out r2 (putDat_u8 _ alOkA) (Nat.le_trans (putDat_len _ alOkA) (by decide)) ⟨by omega, by omega⟩ (by decide))
  clear P1 B1 E2 r2 b2
  go_wp2_with fail
  refine KT.out.mono ?_
  clear KT
  rw [show al0.takeB (putDatP alA) 3 = al1 from rfl, W1.out]
  rintro e w3 ⟨rfl, hP, hC⟩
  have P3 := Lib.hid (PeP.sub (G := fun k => w.heap.size ≤ k) (N := fun _ => False) hP (fun k hk e => e.elim id (fun e => Nat.le_trans B2.out.size e)) (fun _ _ e => .inr e))
  have B3 := Lib.hid (B2.out.trans (hC.below B2.out.size (fun k hk e => Nat.lt_irrefl _ (Nat.lt_of_lt_of_le hk e))))
  clear hP hC P2 B2
  go_wp2_with fail
  refine (peer_pdue w3 _ _ p _ P3.out).mono ?_
  rintro e w3' ⟨rfl, rfl⟩
  rw [W2.out]
  have RL := Lib.hid (Rd.litm w3 1 #[.int .u8 99] 5 (1, 2) 1 (U8 [99]) w3.heap.size rfl rfl rfl (by unfold maxLen; omega))
  have E4 := Lib.hid (box_below w3 (.cells #[.int .u8 99] 5 (1, 2)))
  have KP := Lib.hid (ref_putData (w3.alloc (.cells #[.int .u8 99] 5 (1, 2))) alB (some ⟨w3.heap.size, 0, none⟩) 1 alOkB RL.out)
  go_wp2_with fail
  refine KP.out.mono ?_
  clear KP RL
  rintro e w4 ⟨A4, c4, rfl, r4, b4, -⟩
  have P4 := Lib.hid ((P3.out.below E4.out).below b4)
  have B4 := Lib.hid ((B3.out.trans (E4.out.mono B3.out.size)).trans (b4.mono ((B3.out.trans (E4.out.mono B3.out.size)).size)))
  have KT := Lib.hid (peer_take w4 _ _ p al1.1 A4 c4 (putDatP alB) 4 P4.out r4 (putDat_u8 _ alOkB) (Nat.le_trans (putDat_len _ alOkB) (by decide)) ⟨by omega, by omega⟩ W7.out)
  clear P3 B3 E4 r4 b4
  go_wp2_with fail
  refine KT.out.mono ?_
  clear KT
  rw [show al1.1.takeB (putDatP alB) 4 = al2 from rfl, X1.out]
  rintro e w5 ⟨⟨A5, c5, rfl, R5, n5⟩, hP, hC⟩
  have P5 := Lib.hid (PeP.sub (G := fun k => w.heap.size ≤ k) (N := fun _ => False) hP (fun k hk e => e.elim id (fun e => Nat.le_trans B4.out.size e)) (fun _ _ e => .inr e))
  have B5 := Lib.hid (B4.out.trans (hC.below B4.out.size (fun k hk e => Nat.lt_irrefl _ (Nat.lt_of_lt_of_le hk e))))
  have KA := Lib.hid (ack_decode w5 A5 c5 (putAckP a) R5 X8.out (Nat.le_trans X9.out (by decide)))
  clear hP hC P4 B4 R5 n5
  go_wp2_with fail
  refine KA.out.mono ?_
  clear KA
  unfold DecVal
  rw [X2.out]
  obtain ⟨t3, t4, t5, t6, t7⟩ := X3.out
  rintro e w6 ⟨k, rfl, k1, k2, k3, k4, k5, kr, b6, -⟩
  have q1 : k.sp = [(0, 1)] := k1.trans t3
  have q2 : k.mm = [(1, 1)] := k2.trans t4
  have q3 : k.tr = 5 := k3.trans t5
  have q4 : k.xo = 3 := k4.trans t6
  have q5 : k.od = true := k5.trans t7
  have hv : k.val = .agg #[.slice k.A 1 k.c, .slice k.B 1 k.d, .int .u64 5, .int .u64 3, .bool true] := by
    unfold Ak.val Ak.cells
    rw [q1, q2, q3, q4, q5]
    rfl
  have KR := Lib.hid kr
  have S1 := Lib.hid q1
  have S2 := Lib.hid q2
  rw [hv]
  have P6 := Lib.hid (P5.out.below b6)
  have B6 := Lib.hid (B5.out.trans (b6.mono B5.out.size))
  clear k1 k2 k3 k4 k5 kr b6 q1 q2 q3 q4 q5 hv t3 t4 t5 t6 t7 P5 B5 X1 X2 X3
  go_upto_region 9 with fail
  have E7 := Lib.hid (box_below w6 (.cells #[.slice k.A 1 k.c, .slice k.B 1 k.d, .int .u64 5, .int .u64 3, .bool true] 48))
  have H7 := Lib.hid (heap_alloc_new w6 (.cells #[.slice k.A 1 k.c, .slice k.B 1 k.d, .int .u64 5, .int .u64 3, .bool true] 48))
  generalize hW : (w6.alloc (.cells #[.slice k.A 1 k.c, .slice k.B 1 k.d, .int .u64 5, .int .u64 3, .bool true] 48)) = w7 at *
  clear hW
  have P7 := Lib.hid (P6.out.below E7.out)
  have B7 := Lib.hid (B6.out.trans (E7.out.mono B6.out.size))
  have R7 := Lib.hid (KR.out.rs.below E7.out)
  have M7 := Lib.hid (KR.out.rm.below E7.out)
  rw [S1.out] at R7
  rw [S2.out] at M7
  clear E7 P6 B6 KR S1 S2
  generalize w6.heap.size = g at *
  have y0 := cell_of_row w7 g 0 _ _ _ H7.out
  have y1 := cell_of_row w7 g 1 _ _ _ H7.out
  have y2 := cell_of_row w7 g 2 _ _ _ H7.out
  have y3 := cell_of_row w7 g 3 _ _ _ H7.out
  have y4 := cell_of_row w7 g 4 _ _ _ H7.out
  try simp only [List.getElem_toArray, List.getElem_cons_zero, List.getElem_cons_succ] at y0 y1 y2 y3 y4
  have L1 := Lib.hid (Rd.lit_at w7 2 #[.int .u64 0, .int .u64 1] 68 1 (Ss [(0, 1)]) w7.heap.size rfl rfl rfl (by unfold maxLen; omega))
  have E1 := Lib.hid (box_below w7 (.cells #[.int .u64 0, .int .u64 1] 68))
  have K0 := sameSpans_any k.A (some ⟨w7.heap.size, 0, none⟩) 1 1 k.c 1 [(0, 1)] [(0, 1)] _ (R7.out.below E1.out) L1.out
  rw [decide_eq_true (rfl : ([(0, 1)] : List Sp) = [(0, 1)])] at K0
  have K1 := Lib.hid K0
  clear K0
  go_wp2_with fail
  refine K1.out.mono ?_
  clear K1 L1 R7
  rintro e w8 ⟨rfl, q8⟩
  have C8 := Lib.hid (E1.out.trans (q8.below (B := w7.heap.size)))
  have H8 := Lib.hid ((C8.out.block _ (lt_of_block H7.out)).trans H7.out)
  have P8 := Lib.hid (P7.out.below C8.out)
  have B8 := Lib.hid (B7.out.trans (C8.out.mono B7.out.size))
  have M8 := Lib.hid (M7.out.below C8.out)
  clear q8 E1 C8 P7 B7 M7 y0 y1 y2 y3 y4
  have y1 := cell_of_row w8 g 1 _ _ _ H8.out
  try simp only [List.getElem_toArray, List.getElem_cons_zero, List.getElem_cons_succ] at y1
  have L1 := Lib.hid (Rd.lit_at w8 2 #[.int .u64 1, .int .u64 1] 68 1 (Ss [(1, 1)]) w8.heap.size rfl rfl rfl (by unfold maxLen; omega))
  have E1 := Lib.hid (box_below w8 (.cells #[.int .u64 1, .int .u64 1] 68))
  have K0 := sameSpans_any k.B (some ⟨w8.heap.size, 0, none⟩) 1 1 k.d 1 [(1, 1)] [(1, 1)] _ (M8.out.below E1.out) L1.out
  rw [decide_eq_true (rfl : ([(1, 1)] : List Sp) = [(1, 1)])] at K0
  have K1 := Lib.hid K0
  clear K0
  go_wp2_with fail
  refine K1.out.mono ?_
  clear K1 L1 M8
  rintro e w9 ⟨rfl, q9⟩
  have C9 := Lib.hid (E1.out.trans (q9.below (B := w8.heap.size)))
  have P9 := Lib.hid (P8.out.below C9.out)
  have B9 := Lib.hid (B8.out.trans (C9.out.mono B8.out.size))
  clear q9 E1 C9 P8 B8 y1 H7 H8
  go_wp2_with fail
  refine (peer_pdue w9 _ _ p _ P9.out).mono ?_
  rintro e w9' ⟨rfl, rfl⟩
  rw [W4.out]
  go_wp2_with fail
  refine (peer_stream w9 _ _ p _ P9.out).mono ?_
  rw [W6.out]
  rintro e w10 ⟨A10, c10, out, rfl, I10, R10, b10⟩
  obtain rfl := I10.unique alStream
  have P10 := Lib.hid (P9.out.below b10)
  have B10 := Lib.hid (B9.out.trans (b10.mono B9.out.size))
  have hs : strOfNums [97, 98, 99] = { data := #[97, 98, 99] } := by decide
  have cv : (convert 22 9 (.slice A10 3 c10)).run Try.prog w10 = .ok (.string { data := #[97, 98, 99] }) w10 := by
    rw [← hs]
    exact conv_row (dst := 9) Try.underlying22 Try.underlying5 Try.underlying9 R10
  clear P9 B9 b10 R10 I10 hs
  go_wp2_with fail
  refine (peer_pbytes w10 _ _ p _ P10.out).mono ?_
  rintro e w10' ⟨rfl, rfl⟩
  rw [W5.out]
  go_wp2
  go_ret
  exact ⟨rfl, B10.out⟩

end Go.Proofs.Ytkedfipeebjcjaa

namespace Go.Proofs.Ytkedfipeebjcjaa
set_option linter.unusedSimpArgs false
set_option linter.unusedVariables false
set_option linter.unnecessarySimpa false
open Go.RowKit

def tellB (o : Option AckD) : List Int := match o with
  | none => []
  | some a => putAckP a
theorem TellVal.un {o : Option AckD} {w w' : World} {e : Ending} (h : TellVal o w w' e) : ∃ A c, e = .returned (.tuple #[.slice A (tellB o).length c, .bool o.isSome]) ∧ Rd w' 1 A (tellB o).length c (U8 (tellB o)) ∧ ∀ b off, A = some ⟨b, off, none⟩ → 0 < (tellB o).length → w.heap.size ≤ b := by
  cases o with
  | none => exact ⟨none, 0, h, Rd.nil_ _ _, fun b off e => by cases e⟩
  | some a => exact h

/-- A receiver each: F1 and F2 name what each may turn, M what both only read. -/
structure PR2 (w : World) (F1 F2 M : Nat → Prop) (p r : Nat) (s t : PS) : Prop where
  mlt : ∀ k, M k → k < w.heap.size
  P : PeP w F1 M p s
  R : PeF w F2 M r t
  d : ∀ k, F1 k → ¬ F2 k
  g : ∀ k, F1 k ∨ F2 k → ¬ M k ∧ k < w.heap.size
/-- What may be turned later on. -/
def GrowB (F : Nat → Prop) (w w' : World) : Nat → Prop := fun k => (F k ∨ w.heap.size ≤ k) ∧ k < w'.heap.size
theorem PR2.chg {w w' : World} {F1 F2 M G : Nat → Prop} {p r : Nat} {s t : PS} (h : PR2 w F1 F2 M p r s t) (c : Chg G w w') (hd : ∀ k, k < w.heap.size → F1 k ∨ F2 k ∨ M k → ¬ G k) : PR2 w' F1 F2 M p r s t :=
  ⟨fun k hk => Nat.lt_of_lt_of_le (h.mlt k hk) c.size, h.P.chg c (fun k hk e => hd k hk (e.imp_right .inr)) (fun _ _ h => h) (fun _ _ h => .inr h), h.R.chg c (fun k hk e => hd k hk (.inr e)) (fun _ _ h => h) (fun _ _ h => .inr h), h.d, fun k hk => ⟨(h.g k hk).1, Nat.lt_of_lt_of_le (h.g k hk).2 c.size⟩⟩
theorem PR2.below {w w' : World} {F1 F2 M : Nat → Prop} {p r : Nat} {s t : PS} (h : PR2 w F1 F2 M p r s t) (b : Below w.heap.size w w') : PR2 w' F1 F2 M p r s t := h.chg (chg_below b (F := fun _ => False)) (fun _ _ _ h => h)
theorem PR2.rel {w : World} {F1 F2 M : Nat → Prop} {p r : Nat} {s t : PS} (h : PR2 w F1 F2 M p r s t) : PRel w (fun k => F1 k ∨ F2 k) M p r s t := ⟨h.mlt, F1, F2, h.P, h.R, h.d, fun k hk => ⟨hk, h.g k hk⟩⟩
theorem PR2.movP {w w' : World} {F1 F2 M : Nat → Prop} {p r : Nat} {s s' t : PS} (h : PR2 w F1 F2 M p r s t) (h2 : PeP w' (Grow F1 w) M p s') (h3 : Chg F1 w w') : PR2 w' (GrowB F1 w w') F2 M p r s' t := by
  refine ⟨fun k hk => Nat.lt_of_lt_of_le (h.mlt k hk) h3.size, h2.sub (fun k hk e => ⟨e, hk⟩) (fun k _ e => .inr e), h.R.chg h3 (fun k hk e e2 => e.elim (h.d k e2) (fun e => (h.g k (.inl e2)).1 e)) (fun _ _ h => h) (fun _ _ h => .inr h), ?_, ?_⟩
  · rintro k ⟨e | e, -⟩ e2
    · exact h.d k e e2
    · have := (h.g k (.inr e2)).2; omega
  · rintro k (⟨e | e, e3⟩ | e)
    · exact ⟨(h.g k (.inl e)).1, e3⟩
    · exact ⟨fun e2 => by have := h.mlt k e2; omega, e3⟩
    · exact ⟨(h.g k (.inr e)).1, Nat.lt_of_lt_of_le (h.g k (.inr e)).2 h3.size⟩
theorem PR2.movR {w w' : World} {F1 F2 M : Nat → Prop} {p r : Nat} {s t t' : PS} (h : PR2 w F1 F2 M p r s t) (h2 : PeF w' (Grow F2 w) M r t') (h3 : Chg F2 w w') : PR2 w' F1 (GrowB F2 w w') M p r s t' := by
  refine ⟨fun k hk => Nat.lt_of_lt_of_le (h.mlt k hk) h3.size, h.P.chg h3 (fun k hk e e2 => e.elim (fun e => h.d k e e2) (fun e => (h.g k (.inr e2)).1 e)) (fun _ _ h => h) (fun _ _ h => .inr h), h2.sub (fun k hk e => ⟨e, hk⟩) (fun k _ e => .inr e), ?_, ?_⟩
  · rintro k e2 ⟨e | e, -⟩
    · exact h.d k e2 e
    · have := (h.g k (.inl e2)).2; omega
  · rintro k (e | ⟨e | e, e3⟩)
    · exact ⟨(h.g k (.inl e)).1, Nat.lt_of_lt_of_le (h.g k (.inl e)).2 h3.size⟩
    · exact ⟨(h.g k (.inr e)).1, e3⟩
    · exact ⟨fun e2 => by have := h.mlt k e2; omega, e3⟩

theorem PS.takeB_few (s : PS) (l : List Int) (now : Int) : (s.takeB l now).1.s.length ≤ s.s.length + 1 := by
  unfold PS.takeB
  split
  · exact Nat.le_succ _
  · rename_i d _
    have h1 : ∀ q : PS, q.s = s.s ++ [(d.off, d.body)] → q.s.length ≤ s.s.length + 1 := fun q e => by rw [e]; simp
    have U := PS.kept_up s d
    have e1 : (s.kept d).s = s.s ++ [(d.off, d.body)] := U.s
    rcases PS.take_ways s d now with ⟨h1', h2⟩ | ⟨h1', h2, h3⟩ | ⟨h1', h2, h3⟩ | ⟨h1', h2, h4, h3⟩
    · rw [h2]; exact Nat.le_succ _
    · rw [h3]; exact h1 _ e1
    · rw [h3]; exact h1 (((s.kept d).newest' d).still) e1
    · rw [h3]; exact h1 ((s.kept d).silent d now) e1
theorem PS.tick_few (s : PS) (now : Int) : (s.tick now).1.s = s.s := by
  unfold PS.tick
  split <;> rfl

/-- A list of Packs. -/
structure Packs (w : World) (A : Option Addr) (n c : Nat) (l : List Pk) : Prop where
  rd : Rd w 10 A n c (l.flatMap Pk.cells)
  ok : ∀ x ∈ l, x.Ok ∧ Rd w 1 x.A x.b.length x.c (U8 x.b)
theorem Packs.below {w w' : World} {A : Option Addr} {n c : Nat} {l : List Pk} (h : Packs w A n c l) (b : Below w.heap.size w w') : Packs w' A n c l := ⟨h.rd.below b, fun s hs => ⟨(h.ok s hs).1, (h.ok s hs).2.below b⟩⟩
theorem Packs.count {w : World} {A : Option Addr} {n c : Nat} {l : List Pk} (h : Packs w A n c l) : l.length = n := Rd.count (f := Pk.cells) (k := 10) (fun _ => rfl) h.rd (by omega)
/-- The cells of one. -/
structure PkAt (W : World) (bb off : Nat) (x : Pk) : Prop where
  c0 : W.cell? ⟨bb, off, none⟩ = some (.int .u8 x.kind)
  c1 : W.cell? ⟨bb, off + 1, none⟩ = some (.int .u8 x.n)
  c2 : W.cell? ⟨bb, off + 2, none⟩ = some (.int .u8 x.ecn)
  c3 : W.cell? ⟨bb, off + 3, none⟩ = some (.int .u16 x.pn)
  c4 : W.cell? ⟨bb, off + 4, none⟩ = some (.int .u16 x.least)
  c5 : W.cell? ⟨bb, off + 5, none⟩ = some (.int .u16 x.off)
  c6 : W.cell? ⟨bb, off + 6, none⟩ = some (.int .u64 x.nonce)
  c7 : W.cell? ⟨bb, off + 7, none⟩ = some (.int .u32 x.wait)
  c8 : W.cell? ⟨bb, off + 8, none⟩ = some (.bool x.tick)
  c9 : W.cell? ⟨bb, off + 9, none⟩ = some (.slice x.A x.b.length x.c)
theorem Packs.at_ {w : World} {A : Option Addr} {n c : Nat} {l : List Pk} (h : Packs w A n c l) {i : Nat} (hi : i < l.length) : ∃ b off, A = some ⟨b, off, none⟩ ∧ PkAt w b (off + i * 10) l[i] ∧ b < w.heap.size := by
  obtain ⟨b, off, e, hc⟩ := Rd.elem (f := Pk.cells) (k := 10) (fun _ => rfl) h.rd (by omega) hi
  have hn := h.count
  exact ⟨b, off, e, ⟨hc 0 _ rfl, hc 1 _ rfl, hc 2 _ rfl, hc 3 _ rfl, hc 4 _ rfl, hc 5 _ rfl, hc 6 _ rfl, hc 7 _ rfl, hc 8 _ rfl, hc 9 _ rfl⟩, h.rd.lt (by omega) (by omega) b off e⟩
theorem PkAt.chg {W W' : World} {bb off : Nat} {x : Pk} {Z : Nat → Prop} (h : PkAt W bb off x) (hc : Chg Z W W') (hz : ¬ Z bb) : PkAt W' bb off x :=
  ⟨hc.cell h.c0 hz, hc.cell h.c1 hz, hc.cell h.c2 hz, hc.cell h.c3 hz, hc.cell h.c4 hz, hc.cell h.c5 hz, hc.cell h.c6 hz, hc.cell h.c7 hz, hc.cell h.c8 hz, hc.cell h.c9 hz⟩
/-- One Pack, its cells and its bytes, in blocks that lie below B. -/
structure PkIn (W : World) (B bb off : Nat) (x : Pk) : Prop where
  ok : x.Ok
  at_ : PkAt W bb off x
  r : Rd W 1 x.A x.b.length x.c (U8 x.b)
  lb : bb < B
  la : ∀ b off, x.A = some ⟨b, off, none⟩ → 0 < x.b.length → b < B
theorem Packs.one {w : World} {A : Option Addr} {n c : Nat} {l : List Pk} (h : Packs w A n c l) {i : Nat} (hi : i < l.length) : ∃ b off, A = some ⟨b, off, none⟩ ∧ PkIn w w.heap.size b (off + i * 10) l[i] := by
  obtain ⟨b, off, e, h1, h2⟩ := h.at_ hi
  have h3 := h.ok l[i] (List.getElem_mem hi)
  exact ⟨b, off, e, h3.1, h1, h3.2, h2, fun b off e hn => h3.2.lt (by omega) hn b off e⟩
theorem PkIn.chg {W W' : World} {B bb off : Nat} {x : Pk} {Z : Nat → Prop} (h : PkIn W B bb off x) (hc : Chg Z W W') (hz : ∀ k, k < B → ¬ Z k) : PkIn W' B bb off x :=
  ⟨h.ok, h.at_.chg hc (hz bb h.lb), h.r.chg hc (fun b off e hn => hz b (h.la b off e hn)), h.lb, h.la⟩
theorem PkIn.below {W W' : World} {B bb off : Nat} {x : Pk} (h : PkIn W B bb off x) (b : Below B W W') : PkIn W' B bb off x :=
  h.chg (Z := fun k => B ≤ k) ⟨b.os, b.tape, b.output, b.size, fun k _ hn => b.block k (by omega)⟩ (fun k hk e => by omega)
/-- A Pack's bytes, apart from all that may turn. -/
theorem PkIn.bytes {w : World} {B bb off : Nat} {x : Pk} (h : PkIn w B bb off x) (F : Nat → Prop) (hF : ∀ k, F k → B ≤ k ∧ k < w.heap.size) :
    Calls Try.prog 14 #[.agg #[.int .u8 x.kind, .int .u8 x.n, .int .u8 x.ecn, .int .u16 x.pn, .int .u16 x.least, .int .u16 x.off, .int .u64 x.nonce, .int .u32 x.wait, .bool x.tick, .slice x.A x.b.length x.c]] w fun e w' => ∃ A c, e = .returned (.slice A x.bytes.length c) ∧ Rd w' 1 A x.bytes.length c (U8 x.bytes) ∧ Below w.heap.size w w' ∧ ∀ b off, A = some ⟨b, off, none⟩ → 0 < x.bytes.length → ¬ F b := by
  refine (pk_bytes w x h.ok h.r).mono ?_
  rintro e w' ⟨A, c, h1, h2, h3, h4⟩
  refine ⟨A, c, h1, h2, h3, fun b off e hn hf => ?_⟩
  have := hF b hf
  rcases h4 b off e hn with ⟨g1, g2⟩ | g
  · have := h.la b off g2 g1; omega
  · omega

end Go.Proofs.Ytkedfipeebjcjaa
