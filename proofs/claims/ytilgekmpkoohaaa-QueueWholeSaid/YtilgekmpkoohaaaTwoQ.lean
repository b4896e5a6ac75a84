/-
  Two queues alike: the program's and the reference's.
-/
import Derived.Test.YtilgekmpkoohaaaQuR8
import Derived.Test.YtilgekmpkoohaaaPair
import Derived.Laws.BytesArg
namespace Go.Proofs.Ytilgekmpkoohaaa
set_option linter.unusedSimpArgs false
set_option linter.unusedVariables false
set_option linter.unnecessarySimpa false
open Go.RowKit

abbrev QP (p : Nat) (s : QS) : World → (Nat → Prop) → Prop := fun w F => QueP w F p s
abbrev QR (r : Nat) (s : QS) : World → (Nat → Prop) → Prop := fun w F => QuRP w F r s
theorem QP.stays {p : Nat} {s : QS} : Stays (QP p s) := fun _ _ _ _ _ h hc hd hs => QueP.chg h hc hd hs
theorem QR.stays {r : Nat} {s : QS} : Stays (QR r s) := fun _ _ _ _ _ h hc hd hs => QuRP.chg h hc hd hs
abbrev TwoQ (w : World) (F : Nat → Prop) (p r : Nat) (s : QS) : Prop := Tw (QP p s) (QR r s) w F
abbrev PairQ (w : World) (G H : Nat → Prop) (p r : Nat) (s t : QS) : Prop := Prs (QP p s) (QR r t) w G H

namespace QS
def nOff (s : QS) (most : Int) : Nat := match s.next most with | none => 0 | some (a, _) => a
def nBody (s : QS) (most : Int) : List Int := match s.next most with | none => [] | some (a, z) => (s.b.drop a).take (z - a)
def nOk (s : QS) (most : Int) : Bool := (s.next most).isSome
theorem nBody_by {s : QS} (g : s.Good) {most : Int} : ∀ x ∈ s.nBody most, 0 ≤ x ∧ x ≤ 255 := by
  intro x hx
  unfold nBody at hx
  split at hx
  · cases hx
  · exact g.by_ x (List.mem_of_mem_drop (List.mem_of_mem_take hx))
theorem NextVal.open_ {s : QS} {most : Int} {w w' : World} {e : Ending} (h : s.NextVal most w w' e) :
    ∃ A c, e = .returned (.tuple #[.agg #[.int .u64 (s.nOff most), .slice A (s.nBody most).length c], .bool (s.nOk most)]) ∧ Rd w' 1 A (s.nBody most).length c (U8 (s.nBody most)) ∧
      (∀ b off, A = some ⟨b, off, none⟩ → 0 < (s.nBody most).length → w.heap.size ≤ b) := by
  unfold NextVal at h
  unfold nOff nBody nOk
  cases hn : s.next most with
  | none =>
    rw [hn] at h
    simp only at h
    subst h
    exact ⟨none, 0, rfl, Rd.nil_ _ _, fun b off e => by cases e⟩
  | some v =>
    obtain ⟨a, z⟩ := v
    rw [hn] at h
    simp only at h
    obtain ⟨A, c, rfl, hr, hb⟩ := h
    have hl := hr.len
    simp only [U8_length, Nat.mul_one] at hl
    simp only
    rw [hl]
    exact ⟨A, c, rfl, hr, hb⟩
end QS

/-- A string of the bytes of a row. -/
theorem conv_row {P : Program} {src dst e : TypeId} (hs : P.underlying src = some (.slice e)) (he : P.underlying e = some (.int .u8)) (hd : P.underlying dst = some .string) {w : World} {A : Option Addr} {c : Nat} {l : List Int} (h : Rd w 1 A l.length c (U8 l)) :
    (convert src dst (.slice A l.length c)).run P w = .ok (.string (strOfNums l)) w := by
  rcases Nat.eq_zero_or_pos l.length with h0 | h0
  · obtain rfl : l = [] := List.eq_nil_of_length_eq_zero h0
    cases A with
    | none => rw [run_convert_bytes_nil w src e hs he _ _ dst hd]; rfl
    | some a =>
      obtain ⟨b, off, el⟩ := a
      rw [run_convert_bytes_string w src dst e _ _ c hs he hd, run_bytesToString w _ _ c [] (by simpa using run_loadCells_list (P := P) w ⟨b, off, el⟩ [] (fun j v hj => by simp at hj))]
      rfl
  · obtain ⟨b, off, rfl, hk⟩ := h.on_ h0
    exact run_convert_bytes_arg w src e hs he b off _ c l rfl (fun i hi => hk i _ (by simp [U8, hi])) dst hd
theorem conv_mix {P : Program} {src dst e : TypeId} (hs : P.underlying src = some (.slice e)) (he : P.underlying e = some (.int .u8)) (hd : P.underlying dst = some .string) {F : Nat → Prop} {w : World} {A : Option Addr} {c : Nat} {l : List Int} (h : Rd w 1 A l.length c (U8 l)) (hF : ∀ b off, A = some ⟨b, off, none⟩ → 0 < l.length → ¬ F b) :
    ∀ u, (convert src dst (.slice A l.length c)).run P (mixF F w u) = .ok (.string (strOfNums l)) (mixF F w u) :=
  fun u => conv_row hs he hd (h.chg (mixF_chg F w u) hF)

set_option maxHeartbeats 4000000 in
set_option maxRecDepth 100000 in
theorem two_sameQ (w : World) (F : Nat → Prop) (p r : Nat) (s : QS) (most : Int) (h : TwoQ w F p r s) (hm : most < 9223372036854775808) :
    Calls Try.prog 10 #[.agg #[.pointer (some ⟨p, 0, none⟩), .pointer (some ⟨r, 0, none⟩)], .int .i64 most] w fun e w' => e = .returned (.bool true) ∧ Below w.heap.size w w' := by
  have eb := box_below w (.cells #[.pointer (some ⟨p, 0, none⟩), .pointer (some ⟨r, 0, none⟩)] 26)
  have hx := heap_alloc_new w (.cells #[.pointer (some ⟨p, 0, none⟩), .pointer (some ⟨r, 0, none⟩)] 26)
  obtain ⟨G, H, hp, -⟩ := h
  have HP := Lib.hid (hp.below QP.stays QR.stays eb)
  have EB := Lib.hid eb
  have HX := Lib.hid hx
  have few : s.b.length ≤ 1000000 := hp.p.few
  have hfr : s.fresh ≤ s.b.length := hp.p.good.fr
  have hbl := s.base_le hp.p.good
  clear hp eb hx
  go_enter Try.func10, Try.ntmps10
  go_wp2_with fail
  refine (que_next _ G p s most HP.out.p hm).mono ?_
  rintro e w2 ⟨hv, b2⟩
  obtain ⟨A2, c2, rfl, hr2, -⟩ := hv.open_
  have HP2 := Lib.hid (HP.out.below QP.stays QR.stays b2)
  have EB2 := Lib.hid (EB.out.trans (b2.mono EB.out.size))
  have HX2 := Lib.hid ((b2.block _ (lt_of_block HX.out)).trans HX.out)
  have R2 := Lib.hid hr2
  have hs2 := lt_of_block HX2.out
  clear hv b2 hr2 HP EB HX
  have e3 := box_below w2 (.cells #[.int .u64 (s.nOff most), .slice A2 (s.nBody most).length c2] 43)
  have HP3 := Lib.hid (HP2.out.below QP.stays QR.stays e3)
  have EB3 := Lib.hid (EB2.out.trans (e3.mono EB2.out.size))
  have HX3 := Lib.hid ((e3.block _ hs2).trans HX2.out)
  have Y3 := Lib.hid (heap_alloc_new w2 (.cells #[.int .u64 (s.nOff most), .slice A2 (s.nBody most).length c2] 43))
  have R3 := Lib.hid (R2.out.below e3)
  clear e3 HP2 EB2 HX2 R2
  go_upto_region 2 with fail
  generalize hW3 : (w2.alloc (.cells #[.int .u64 (s.nOff most), .slice A2 (s.nBody most).length c2] 43)) = w3 at *
  clear hW3
  have l3 := lt_of_block Y3.out
  have l3' := lt_of_block HX3.out
  have t0 := cell_of_row w3 w.heap.size 0 _ _ _ HX3.out
  have t1 := cell_of_row w3 w.heap.size 1 _ _ _ HX3.out
  go_wp2_with fail
  refine (quR_next _ H r s most HP3.out.r hm).mono ?_
  rintro e w4 ⟨hv, b4⟩
  obtain ⟨A4, c4, rfl, hr4, -⟩ := hv.open_
  have HP4 := Lib.hid (HP3.out.below QP.stays QR.stays b4)
  have EB4 := Lib.hid (EB3.out.trans (b4.mono EB3.out.size))
  have HX4 := Lib.hid ((b4.block _ l3').trans HX3.out)
  have Y4 := Lib.hid ((b4.block _ l3).trans Y3.out)
  have R4 := Lib.hid (R3.out.below b4)
  have Q4 := Lib.hid hr4
  clear hv b4 hr4 HP3 EB3 HX3 Y3 R3 t0 t1
  have l4 := lt_of_block Y4.out
  have l4' := lt_of_block HX4.out
  have e5 := box_below w4 (.cells #[.int .u64 (s.nOff most), .slice A4 (s.nBody most).length c4] 43)
  have HP5 := Lib.hid (HP4.out.below QP.stays QR.stays e5)
  have EB5 := Lib.hid (EB4.out.trans (e5.mono EB4.out.size))
  have HX5 := Lib.hid ((e5.block _ l4').trans HX4.out)
  have Y5 := Lib.hid ((e5.block _ l4).trans Y4.out)
  have Z5 := Lib.hid (heap_alloc_new w4 (.cells #[.int .u64 (s.nOff most), .slice A4 (s.nBody most).length c4] 43))
  have R5 := Lib.hid (R4.out.below e5)
  have Q5 := Lib.hid (Q4.out.below e5)
  clear e5 HP4 EB4 HX4 Y4 R4 Q4
  go_upto_region 3 with fail
  generalize hW5 : (w4.alloc (.cells #[.int .u64 (s.nOff most), .slice A4 (s.nBody most).length c4] 43)) = w5 at *
  clear hW5
  generalize w4.heap.size = g4 at *
  generalize w2.heap.size = g2 at *
  generalize s.nOff most = off at *
  generalize s.nBody most = body at *
  generalize s.nOk most = ok at *
  have m0 := mixF_cell (F := fun _ => False) (cell_of_row w5 w.heap.size 0 _ _ _ HX5.out) id
  have m1 := mixF_cell (F := fun _ => False) (cell_of_row w5 w.heap.size 1 _ _ _ HX5.out) id
  have m2 := mixF_cell (F := fun _ => False) (cell_of_row w5 g2 0 _ _ _ Y5.out) id
  have m3 := mixF_cell (F := fun _ => False) (cell_of_row w5 g2 1 _ _ _ Y5.out) id
  have m4 := mixF_cell (F := fun _ => False) (cell_of_row w5 g4 0 _ _ _ Z5.out) id
  have m5 := mixF_cell (F := fun _ => False) (cell_of_row w5 g4 1 _ _ _ Z5.out) id
  simp only [List.getElem_toArray, List.getElem_cons_zero, List.getElem_cons_succ] at m0 m1 m2 m3 m4 m5
  have cv1 := conv_mix (dst := 9) Try.underlying38 Try.underlying5 Try.underlying9 (F := fun _ => False) R5.out (fun _ _ _ _ h => h)
  have cv2 := conv_mix (dst := 9) Try.underlying38 Try.underlying5 Try.underlying9 (F := fun _ => False) Q5.out (fun _ _ _ _ h => h)
  obtain ⟨RA, Rc, RA1, Rc1, RA2, Rc2, hRC⟩ := HP5.out.r.ex
  have RT := Lib.hid hRC.t
  clear hRC
  have m6 := mixF_cell (F := fun _ => False) (cell_of_row w5 r 1 _ _ _ RT.out) id
  have m7 := mixF_cell (F := fun _ => False) (cell_of_row w5 r 4 _ _ _ RT.out) id
  simp only [List.getElem_toArray, List.getElem_cons_zero, List.getElem_cons_succ] at m6 m7
  have wb : IntKind.u64.wrap (s.base : Int) = (s.base : Int) := IntWalk.u64_in _ (by omega)
  have wl : IntKind.u64.wrap (s.b.length : Int) = (s.b.length : Int) := IntWalk.u64_in _ (by omega)
  have wf : IntKind.u64.wrap (s.fresh : Int) = (s.fresh : Int) := IntWalk.u64_in _ (by omega)
  refine wp_region_chg (fun _ => False) (by kernel_rfl) (by kernel_rfl) ?_
  repeat (refine wpMix_seg 1 _ _ rfl ?_; simp only [List.take_succ_cons, List.take_zero, List.drop_succ_cons, List.drop_zero]; go_big_quiet_step (fail); refine wpQuiet_nil ?_)
  have HP6 := Lib.hid (HP5.out.below QP.stays QR.stays (Below.refl _ _).drew)
  refine wpMix_bar rfl (by rfl) ?_
  go_wp2_with fail
  refine (que_base _ G p s HP6.out.p).mono ?_
  rintro e v1 ⟨rfl, rfl⟩
  go_wp2
  refine ⟨chg_mixF (chg_below (Below.refl _ _).drew), ?_⟩
  repeat (refine wpMix_seg 1 _ _ rfl ?_; simp only [List.take_succ_cons, List.take_zero, List.drop_succ_cons, List.drop_zero]; go_big_quiet_step (fail); refine wpQuiet_nil ?_)
  refine wpMix_bar rfl (by rfl) ?_
  go_wp2_with fail
  refine (quR_base _ H r s HP6.out.r).mono ?_
  rintro e v1 ⟨rfl, rfl⟩
  go_wp2
  refine ⟨chg_mixF (chg_below (Below.refl _ _).drew), ?_⟩
  repeat (refine wpMix_seg 1 _ _ rfl ?_; simp only [List.take_succ_cons, List.take_zero, List.drop_succ_cons, List.drop_zero]; go_big_quiet_step (fail); refine wpQuiet_nil ?_)
  refine wpMix_bar rfl (by rfl) ?_
  go_wp2_with fail
  refine (que_end _ G p s HP6.out.p).mono ?_
  rintro e v1 ⟨rfl, q1⟩
  have HP7 := Lib.hid (HP6.out.below QP.stays QR.stays q1.below)
  have hb7 : Below w5.heap.size w5 v1 := ((Below.refl _ _).drew).trans q1.below
  clear q1 HP6
  go_wp2
  refine ⟨chg_mixF (chg_below hb7), ?_⟩
  repeat (refine wpMix_seg 1 _ _ rfl ?_; simp only [List.take_succ_cons, List.take_zero, List.drop_succ_cons, List.drop_zero]; go_big_quiet_step (fail); refine wpQuiet_nil ?_)
  refine wpMix_bar rfl (by rfl) ?_
  go_wp2_with fail
  refine (que_fresh _ G p s HP7.out.p).mono ?_
  rintro e v2 ⟨rfl, rfl⟩
  go_wp2
  refine ⟨chg_mixF (chg_below hb7), ?_⟩
  repeat (refine wpMix_seg 1 _ _ rfl ?_; simp only [List.take_succ_cons, List.take_zero, List.drop_succ_cons, List.drop_zero]; go_big_quiet_step (fail); refine wpQuiet_nil ?_)
  refine wpMix_bar rfl (by rfl) ?_
  go_wp2_with fail
  refine (que_owed _ G p s HP7.out.p).mono ?_
  rintro e v3 ⟨A6, c6, rfl, hr6, b6⟩
  have HP8 := Lib.hid (HP7.out.below QP.stays QR.stays b6)
  have hb8 := hb7.trans (b6.mono hb7.size)
  have R6 := Lib.hid hr6.rd
  clear hr6 b6 hb7 HP7
  go_wp2
  refine ⟨chg_mixF (chg_below hb8), ?_⟩
  repeat (refine wpMix_seg 1 _ _ rfl ?_; simp only [List.take_succ_cons, List.take_zero, List.drop_succ_cons, List.drop_zero]; go_big_quiet_step (fail); refine wpQuiet_nil ?_)
  refine wpMix_bar rfl (by rfl) ?_
  go_wp2_with fail
  refine (quR_owed _ H r s HP8.out.r).mono ?_
  rintro e v4 ⟨A7, c7, rfl, hr7, b7⟩
  have hb9 := hb8.trans (b7.mono hb8.size)
  have R7 := Lib.hid hr7
  have R6' := Lib.hid (R6.out.below b7)
  clear hr7 b7 hb8 HP8 R6
  go_wp2
  refine ⟨chg_mixF (chg_below hb9), ?_⟩
  repeat (refine wpMix_seg 1 _ _ rfl ?_; simp only [List.take_succ_cons, List.take_zero, List.drop_succ_cons, List.drop_zero]; go_big_quiet_step (fail); refine wpQuiet_nil ?_)
  refine wpMix_bar rfl (by rfl) ?_
  go_wp2_with fail
  refine (sameSpans_any A6 A7 _ _ c6 c7 (rowB s.ow) (rowB s.ow) _ R6'.out R7.out).mono ?_
  rintro e v5 ⟨rfl, q5⟩
  have hb10 := hb9.trans q5.below
  rw [decide_eq_true rfl]
  go_wp2
  refine ⟨chg_mixF (chg_below hb10), ?_⟩
  repeat (refine wpMix_seg 1 _ _ rfl ?_; simp only [List.take_succ_cons, List.take_zero, List.drop_succ_cons, List.drop_zero]; go_big_quiet_step (fail); refine wpQuiet_nil ?_)
  refine wpMix_nil ?_
  go_wp2
  go_ret
  exact ⟨rfl, EB5.out.trans (hb10.mono EB5.out.size)⟩

end Go.Proofs.Ytilgekmpkoohaaa
