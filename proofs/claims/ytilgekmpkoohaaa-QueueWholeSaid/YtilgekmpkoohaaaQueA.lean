/-
  The examples of the queue's chapter.
-/
import Derived.Test.YtilgekmpkoohaaaMakeQ
import Derived.Test.YtilgekmpkoohaaaAv
import Derived.Lib.SlBytesConst
import Derived.Deep.RegionHeld3
namespace Go.Proofs.Ytilgekmpkoohaaa
set_option linter.unusedSimpArgs false
set_option linter.unusedVariables false
set_option linter.unnecessarySimpa false
open Go.RowKit

def aq0 : QS := QS.new 4
def aq1 : QS := (aq0.write [97, 98, 99, 100, 101, 102]).1
def aq2 : QS := (aq1.sent 0 3).1
def aq3 : QS := (aq2.acked 1 1).1
def aq4 : QS := (aq3.lost 0 3).1
theorem aqVals : (aq0.write [97, 98, 99, 100, 101, 102]).2 = 4 ∧ aq1.nOff 3 = 0 ∧ aq1.nBody 3 = [97, 98, 99] ∧ aq1.nOk 3 = true ∧ (aq1.sent 0 3).2 = true ∧ (aq2.acked 1 1).2 = true ∧ (aq3.lost 0 3).2 = true ∧
    aq4.nOff 9 = 0 ∧ aq4.nBody 9 = [97] ∧ aq4.nOk 9 = true ∧ (QS.new 2).nOff 5 = 0 ∧ (QS.new 2).nBody 5 = [] ∧ (QS.new 2).nOk 5 = false ∧ rowB aq4.ow = [(0, 0), (2, 2)] ∧ aq4.base = 0 ∧ aq4.b.length = 4 ∧ aq4.fresh = 3 ∧ ((QS.new 2).write [97, 98, 99]).2 = 2 ∧ aq0.b.length = 0 ∧ (QS.new 2).b.length = 0 := by decide +kernel
theorem aqStr : strOfNums [97, 98, 99] = ⟨#[97, 98, 99]⟩ ∧ strOfNums [97] = ⟨#[97]⟩ := ⟨rfl, rfl⟩

/-- Where the walk stands. -/
structure AQ (w : World) (N : List Nat) (s : QS) (v : World) : Prop where
  av : Av (QP w.heap.size s) w.heap.size N v
  bel : Below w.heap.size w v
theorem AQ.below {w v v' : World} {N : List Nat} {s : QS} (h : AQ w N s v) (b : Below v.heap.size v v') : AQ w N s v' := ⟨h.av.below QP.stays b, h.bel.trans (b.mono h.bel.size)⟩
theorem AQ.box {w v : World} {N : List Nat} {s : QS} (h : AQ w N s v) (o : Obj) : AQ w (v.heap.size :: N) s (v.alloc o) := ⟨h.av.box QP.stays o, h.bel.trans ((box_below v o).mono h.bel.size)⟩
theorem AQ.call {w v : World} {N : List Nat} {s s' : QS} {f : FuncId} {args : Array Value} {val : Value} (h : AQ w N s v)
    (c : ∀ F, QueP v F w.heap.size s → Calls Try.prog f args v fun e w' => e = .returned val ∧ QueP w' (Grow F v) w.heap.size s' ∧ Chg F v w') :
    Calls Try.prog f args v fun e w' => e = .returned val ∧ AQ w N s' w' ∧ ∀ g o, g ∈ N → v.heap[g]? = some o → w'.heap[g]? = some o := by
  obtain ⟨⟨F, hP, hF⟩, h2, h3⟩ := h.av
  exact (c F hP).mono fun e w' ⟨he, hq, hC⟩ => ⟨he, ⟨Av.step (P' := QP w.heap.size s') h2 h3 hF hq hC.size, Av.bel hF h.bel h3 hC⟩, fun g o hg ho => Av.blk hF hC ho hg⟩
theorem AQ.read {w v : World} {N : List Nat} {s : QS} (h : AQ w N s v) : ∃ F, QueP v F w.heap.size s := by
  obtain ⟨⟨F, hP, hF⟩, h2, h3⟩ := h.av
  exact ⟨F, hP⟩

theorem AQ.next {w v : World} {N : List Nat} {s : QS} (h : AQ w N s v) (most : Int) (hm : most < 9223372036854775808) :
    Calls Try.prog 14 #[.pointer (some ⟨w.heap.size, 0, none⟩), .int .i64 most] v fun e w' => ∃ A c, e = .returned (.tuple #[.agg #[.int .u64 (s.nOff most), .slice A (s.nBody most).length c], .bool (s.nOk most)]) ∧ Rd w' 1 A (s.nBody most).length c (U8 (s.nBody most)) ∧ AQ w N s w' ∧ Below v.heap.size v w' := by
  obtain ⟨F, hF⟩ := h.read
  refine (que_next v F _ s most hF hm).mono ?_
  rintro e w' ⟨hv, b⟩
  obtain ⟨A, c, e1, hr, -⟩ := hv.open_
  exact ⟨A, c, e1, hr, h.below b, b⟩
theorem AQ.nextB {w v : World} {N : List Nat} {s : QS} (h : AQ w N s v) (most : Int) (hm : most < 9223372036854775808) (hn : 0 < (s.nBody most).length) :
    Calls Try.prog 14 #[.pointer (some ⟨w.heap.size, 0, none⟩), .int .i64 most] v fun e w' => ∃ bb off c, e = .returned (.tuple #[.agg #[.int .u64 (s.nOff most), .slice (some ⟨bb, off, none⟩) (s.nBody most).length c], .bool (s.nOk most)]) ∧ Rd w' 1 (some ⟨bb, off, none⟩) (s.nBody most).length c (U8 (s.nBody most)) ∧ AQ w (bb :: N) s w' ∧ Below v.heap.size v w' := by
  obtain ⟨F, hF⟩ := h.read
  refine (que_next v F _ s most hF hm).mono ?_
  rintro e w' ⟨hv, b⟩
  obtain ⟨A, c, e1, hr, hb⟩ := hv.open_
  obtain ⟨bb, off, rfl, hk⟩ := hr.on_ hn
  have h1 := hb bb off rfl hn
  have h2 : bb < w'.heap.size := hr.lt (by omega) hn bb off rfl
  exact ⟨bb, off, c, e1, hr, ⟨h.av.more QP.stays b h1 h2, h.bel.trans (b.mono h.bel.size)⟩, b⟩

set_option maxHeartbeats 4000000 in
set_option maxRecDepth 100000 in
theorem queAlive (w : World) : Calls Try.prog 9 #[] w fun e w' => e = .returned (.bool true) ∧ Below w.heap.size w w' := by
  have V := Lib.hid aqVals
  have ST := Lib.hid aqStr
  have kc := fun (w : World) (C : Array Value) (n c : Nat) => Lib.run_convert_bytes_const (P := Try.prog) w 38 5 C n c Try.underlying38 Try.underlying5
  go_enter Try.func9, Try.ntmps9
  go_wp2_with fail
  refine (que_new 4 _).mono ?_
  rintro e w1 ⟨rfl, hL, b1⟩
  have S1 : Hid (AQ w [] aq0 w1) := ⟨⟨⟨_, hL, fun k _ h => ⟨h, by simp⟩⟩, fun k hk => by simp at hk, b1.size⟩, b1⟩
  clear hL b1
  have R1 : Hid (Rd (w1.alloc (.cells #[.int .u8 97, .int .u8 98, .int .u8 99, .int .u8 100, .int .u8 101, .int .u8 102] 5 (6, 7))) 1 (some ⟨w1.heap.size, 0, none⟩) 6 6 (U8 [97, 98, 99, 100, 101, 102])) := Rd.lit_fz w1 1 _ _ _ 6 _ rfl rfl (by unfold maxLen; omega)
  have W2 := Lib.hid (AQ.call (s' := aq1) (args := #[.pointer (some ⟨w.heap.size, 0, none⟩), .slice (some ⟨w1.heap.size, 0, none⟩) 6 6]) (S1.out.below (box_below _ _)) (fun F hF => que_write _ F _ _ [97, 98, 99, 100, 101, 102] _ _ hF R1.out (by decide) (by rw [V.out.2.2.2.2.2.2.2.2.2.2.2.2.2.2.2.2.2.2.1]; decide)))
  rw [V.out.1] at W2
  go_wp2_with fail
  refine W2.out.mono ?_
  rintro e w2 ⟨rfl, hS, -⟩
  have S2 := Lib.hid hS
  clear hS W2 R1 S1
  have N2 := Lib.hid (S2.out.nextB 3 (by omega) (by rw [V.out.2.2.1]; decide))
  rw [V.out.2.1, V.out.2.2.1, V.out.2.2.2.1] at N2
  go_wp2_with fail
  refine N2.out.mono ?_
  rintro e w3 ⟨b3, o3, c3, rfl, hr3, hS, -⟩
  have S3 : Hid (AQ w [w3.heap.size, b3] aq1 (w3.alloc (.cells #[.int .u64 0, .slice (some ⟨b3, o3, none⟩) 3 c3] 43))) := hS.box _
  have X3 : Hid ((w3.alloc (.cells #[.int .u64 0, .slice (some ⟨b3, o3, none⟩) 3 c3] 43)).heap[w3.heap.size]? = some (.cells #[.int .u64 0, .slice (some ⟨b3, o3, none⟩) 3 c3] 43 (0, 0))) := heap_alloc_new w3 _
  have R3 : Hid (Rd (w3.alloc (.cells #[.int .u64 0, .slice (some ⟨b3, o3, none⟩) 3 c3] 43)) 1 (some ⟨b3, o3, none⟩) 3 c3 (U8 [97, 98, 99])) := hr3.below (box_below w3 _)
  clear hS hr3 N2 S2
  go_wp2_with fail
  generalize hW : w3.alloc (.cells #[.int .u64 0, .slice (some ⟨b3, o3, none⟩) 3 c3] 43) = w4 at *
  clear hW
  generalize w3.heap.size = g3 at *
  have C4 := Lib.hid (S3.out.call (s' := aq2) (fun F hF => que_sent w4 F _ aq1 0 3 hF ⟨by omega, by omega⟩ ⟨by omega, by omega⟩))
  rw [V.out.2.2.2.2.1] at C4
  refine C4.out.mono ?_
  rintro e w5 ⟨rfl, hS, hK⟩
  have S5 := Lib.hid hS
  have X5 := Lib.hid (hK _ _ (by simp) X3.out)
  have R5 := Lib.hid (R3.out.same (fun o => hK b3 o (by simp)))
  clear hS hK C4 S3 X3 R3
  go_wp2_with fail
  have C5 := Lib.hid (S5.out.call (s' := aq3) (fun F hF => (que_acked w5 F _ aq2 1 1 hF ⟨by omega, by omega⟩ ⟨by omega, by omega⟩)))
  rw [V.out.2.2.2.2.2.1] at C5
  refine C5.out.mono ?_
  rintro e w6 ⟨rfl, hS, hK⟩
  have S6 := Lib.hid hS
  have X6 := Lib.hid (hK _ _ (by simp) X5.out)
  have R6 := Lib.hid (R5.out.same (fun o => hK b3 o (by simp)))
  clear hS hK C5 S5 X5 R5
  go_wp2_with fail
  have C6 := Lib.hid (S6.out.call (s' := aq4) (fun F hF => (que_lost w6 F _ aq3 0 3 hF ⟨by omega, by omega⟩ ⟨by omega, by omega⟩)))
  rw [V.out.2.2.2.2.2.2.1] at C6
  refine C6.out.mono ?_
  rintro e w7 ⟨rfl, hS, hK⟩
  have S7 := Lib.hid hS
  have X7 := Lib.hid (hK _ _ (by simp) X6.out)
  have R7 := Lib.hid (R6.out.same (fun o => hK b3 o (by simp)))
  clear hS hK C6 S6 X6 R6
  have N7 := Lib.hid (S7.out.nextB 9 (by omega) (by rw [V.out.2.2.2.2.2.2.2.2.1]; decide))
  rw [V.out.2.2.2.2.2.2.2.1, V.out.2.2.2.2.2.2.2.2.1, V.out.2.2.2.2.2.2.2.2.2.1] at N7
  go_wp2_with fail
  refine N7.out.mono ?_
  rintro e w8 ⟨b8, o8, c8, rfl, hr8, hS, hb⟩
  have S8 : Hid (AQ w (w8.heap.size :: b8 :: [g3, b3]) aq4 (w8.alloc (.cells #[.int .u64 0, .slice (some ⟨b8, o8, none⟩) 1 c8] 43))) := hS.box _
  have hb8 := hb.trans ((box_below w8 (.cells #[.int .u64 0, .slice (some ⟨b8, o8, none⟩) 1 c8] 43)).mono hb.size)
  have X8 := Lib.hid ((hb8.block _ (lt_of_block X7.out)).trans X7.out)
  have R8 := Lib.hid (R7.out.below hb8)
  have Y8 : Hid ((w8.alloc (.cells #[.int .u64 0, .slice (some ⟨b8, o8, none⟩) 1 c8] 43)).heap[w8.heap.size]? = some (.cells #[.int .u64 0, .slice (some ⟨b8, o8, none⟩) 1 c8] 43 (0, 0))) := heap_alloc_new w8 _
  have Q8 : Hid (Rd (w8.alloc (.cells #[.int .u64 0, .slice (some ⟨b8, o8, none⟩) 1 c8] 43)) 1 (some ⟨b8, o8, none⟩) 1 c8 (U8 [97])) := hr8.below (box_below w8 _)
  clear hS hr8 hb hb8 N7 S7 X7 R7
  go_wp2_with fail
  generalize hW : w8.alloc (.cells #[.int .u64 0, .slice (some ⟨b8, o8, none⟩) 1 c8] 43) = w9 at *
  clear hW
  generalize w8.heap.size = g8 at *
  refine (que_new 2 w9).mono ?_
  rintro e w10 ⟨rfl, hL, hb⟩
  have S10 := Lib.hid (S8.out.below hb)
  have X10 := Lib.hid ((hb.block _ (lt_of_block X8.out)).trans X8.out)
  have R10 := Lib.hid (R8.out.below hb)
  have Y10 := Lib.hid ((hb.block _ (lt_of_block Y8.out)).trans Y8.out)
  have Q10 := Lib.hid (Q8.out.below hb)
  have L10 := Lib.hid hL
  clear hL hb S8 X8 R8 Y8 Q8
  go_wp2_with fail
  refine (que_next w10 _ _ (QS.new 2) 5 L10.out (by omega)).mono ?_
  rintro e w11 ⟨hv, hb⟩
  obtain ⟨A11, c11, e11, -, -⟩ := hv.open_
  rw [V.out.2.2.2.2.2.2.2.2.2.2.1, V.out.2.2.2.2.2.2.2.2.2.2.2.1, V.out.2.2.2.2.2.2.2.2.2.2.2.2.1] at e11
  subst e11
  have hb8 := hb.trans ((box_below w11 (.cells #[.int .u64 0, .slice A11 0 c11] 43)).mono hb.size)
  have S12 := Lib.hid (S10.out.below hb8)
  have X12 := Lib.hid ((hb8.block _ (lt_of_block X10.out)).trans X10.out)
  have R12 := Lib.hid (R10.out.below hb8)
  have Y12 := Lib.hid ((hb8.block _ (lt_of_block Y10.out)).trans Y10.out)
  have Q12 := Lib.hid (Q10.out.below hb8)
  clear hv hb hb8 S10 X10 R10 Y10 Q10 L10
  go_upto_region 9 with fail
  generalize hW : w11.alloc (.cells #[.int .u64 0, .slice A11 0 c11] 43) = w12 at *
  clear hW
  have x1 := cell_of_row w12 g3 1 _ _ _ X12.out
  have y0 := cell_of_row w12 g8 0 _ _ _ Y12.out
  have y1 := cell_of_row w12 g8 1 _ _ _ Y12.out
  have hl3 := lt_of_block X12.out
  have hl8 := lt_of_block Y12.out
  have cv1 : ∀ k, (convert 38 9 (.slice (some ⟨b3, o3, none⟩) 3 c3)).run Try.prog (w12.drewN k) = .ok (.string ⟨#[97, 98, 99]⟩) (w12.drewN k) := fun k => conv_row (l := [97, 98, 99]) Try.underlying38 Try.underlying5 Try.underlying9 R12.out.dn
  have cv2 : ∀ k, (convert 38 9 (.slice (some ⟨b8, o8, none⟩) 1 c8)).run Try.prog (w12.drewN k) = .ok (.string ⟨#[97]⟩) (w12.drewN k) := fun k => conv_row (l := [97]) Try.underlying38 Try.underlying5 Try.underlying9 Q12.out.dn
  have cz1 : (convert 38 9 (.slice (some ⟨b3, o3, none⟩) 3 c3)).run Try.prog w12 = .ok (.string ⟨#[97, 98, 99]⟩) w12 := conv_row (l := [97, 98, 99]) Try.underlying38 Try.underlying5 Try.underlying9 R12.out
  have cz2 : (convert 38 9 (.slice (some ⟨b8, o8, none⟩) 1 c8)).run Try.prog w12 = .ok (.string ⟨#[97]⟩) w12 := conv_row (l := [97]) Try.underlying38 Try.underlying5 Try.underlying9 Q12.out
  clear cv1 cv2
  obtain ⟨F, hF⟩ := S12.out.read
  have HF := Lib.hid hF
  clear hF
  go_wp2_with fail
  clear cz1 cz2 x1 y0 y1 hl3 hl8
  have OW := Lib.hid (que_owed w12 F _ aq4 HF.out)
  rw [V.out.2.2.2.2.2.2.2.2.2.2.2.2.2.1] at OW
  refine OW.out.mono ?_
  rintro e w13 ⟨A13, c13, rfl, hr, hb⟩
  have hbx := box_below w13 (.cells #[.int .u64 0, .int .u64 0, .int .u64 2, .int .u64 2] 36)
  have R14 := Lib.hid (hr.rd.below hbx)
  have L14 : Hid (Rd (w13.alloc (.cells #[.int .u64 0, .int .u64 0, .int .u64 2, .int .u64 2] 36)) 2 (some ⟨w13.heap.size, 0, none⟩) 2 2 (Ss [(0, 0), (2, 2)])) := Rd.lit w13 2 _ _ 2 _ rfl rfl (by unfold maxLen; omega)
  have F14 := Lib.hid ((HF.out.below hb).below hbx)
  have B14 := Lib.hid (S12.out.bel.trans ((hb.trans (hbx.mono hb.size)).mono S12.out.bel.size))
  clear hr hb hbx OW S12 X12 R12 Y12 Q12 HF
  go_wp2_with fail
  have SS := Lib.hid (sameSpans_any A13 (some ⟨w13.heap.size, 0, none⟩) 2 2 c13 2 [(0, 0), (2, 2)] [(0, 0), (2, 2)] _ R14.out L14.out)
  rw [decide_eq_true (rfl : ([(0, 0), (2, 2)] : List Sp) = [(0, 0), (2, 2)])] at SS
  refine SS.out.mono ?_
  rintro e w15 ⟨rfl, hq⟩
  have F15 := Lib.hid (F14.out.below hq.below)
  have B15 := Lib.hid (B14.out.trans (hq.below (B := w.heap.size)))
  clear hq SS R14 L14 F14 B14
  go_wp2_with fail
  have C1 := Lib.hid (que_base w15 F _ aq4 F15.out)
  rw [V.out.2.2.2.2.2.2.2.2.2.2.2.2.2.2.1] at C1
  refine C1.out.mono ?_
  rintro e w16 ⟨rfl, rfl⟩
  clear C1
  go_wp2_with fail
  have C1 := Lib.hid (que_end w15 F _ aq4 F15.out)
  rw [V.out.2.2.2.2.2.2.2.2.2.2.2.2.2.2.2.1] at C1
  refine C1.out.mono ?_
  rintro e w17 ⟨rfl, hq⟩
  have F17 := Lib.hid (F15.out.below hq.below)
  have B17 := Lib.hid (B15.out.trans (hq.below (B := w.heap.size)))
  clear hq C1 F15 B15
  go_wp2_with fail
  have C1 := Lib.hid (que_fresh w17 F _ aq4 F17.out)
  rw [V.out.2.2.2.2.2.2.2.2.2.2.2.2.2.2.2.2.1] at C1
  refine C1.out.mono ?_
  rintro e w18 ⟨rfl, rfl⟩
  clear C1
  go_wp2_with fail
  refine (que_new 2 w17).mono ?_
  rintro e w19 ⟨rfl, hL, hb⟩
  have S19 := Lib.hid (hL.below (box_below w19 (.cells #[.int .u8 97, .int .u8 98, .int .u8 99] 5 (3, 4))))
  have R19 : Hid (Rd (w19.alloc (.cells #[.int .u8 97, .int .u8 98, .int .u8 99] 5 (3, 4))) 1 (some ⟨w19.heap.size, 0, none⟩) 3 3 (U8 [97, 98, 99])) := Rd.lit_fz w19 1 _ _ _ 3 _ rfl rfl (by unfold maxLen; omega)
  have B19 := Lib.hid (B17.out.trans ((hb.trans ((box_below w19 (.cells #[.int .u8 97, .int .u8 98, .int .u8 99] 5 (3, 4))).mono hb.size)).mono B17.out.size))
  have hz : w.heap.size ≤ w17.heap.size := B17.out.size
  have hz2 : w17.heap.size ≤ (w19.alloc (.cells #[.int .u8 97, .int .u8 98, .int .u8 99] 5 (3, 4))).heap.size := by have := hb.size; simp; omega
  have HZ := Lib.hid (And.intro hz hz2)
  clear hL hb F17 B17 hz hz2
  go_wp2_with fail
  have C1 := Lib.hid (que_write _ _ _ (QS.new 2) [97, 98, 99] (some ⟨w19.heap.size, 0, none⟩) 3 S19.out R19.out (by decide) (by rw [V.out.2.2.2.2.2.2.2.2.2.2.2.2.2.2.2.2.2.2.2]; decide))
  rw [V.out.2.2.2.2.2.2.2.2.2.2.2.2.2.2.2.2.2.1] at C1
  refine C1.out.mono ?_
  rintro e w20 ⟨rfl, -, hC⟩
  have B20 := Lib.hid (B19.out.trans (hC.below (Nat.le_trans HZ.out.1 HZ.out.2) (fun k hk h => by have := HZ.out.1; omega)))
  clear hC C1
  go_wp2
  go_ret
  exact ⟨rfl, B20.out⟩

end Go.Proofs.Ytilgekmpkoohaaa
