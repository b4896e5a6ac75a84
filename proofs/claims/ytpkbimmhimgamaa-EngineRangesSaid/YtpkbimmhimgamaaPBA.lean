/-
  Part of the proof of EngineRanges.
-/
import Derived.Test.YtpkbimmhimgamaaPAW
import Derived.Test.YtpkbimmhimgamaaPAX
import Derived.Test.YtpkbimmhimgamaaPAY
import Derived.Test.YtpkbimmhimgamaaPAZ
import Derived.Test.YtpkbimmhimgamaaPAP
import Derived.Test.YtpkbimmhimgamaaPAO
import Derived.Lib.SlBytesConst
import Derived.Test.YtpkbimmhimgamaaPAL
namespace Go.Proofs.Ytpkbimmhimgamaa
set_option linter.unusedSimpArgs false
set_option linter.unusedVariables false
set_option linter.unnecessarySimpa false
open Go.RowKit
theorem Rd.litm (w : World) (size : Nat) (cs : Array Value) (t : TypeId) (fr : Nat × Nat) (n : Nat) (xs : List Value) (g : Nat) (hg : g = w.heap.size) (hx : cs.toList = xs) (hs : xs.length = n * size) (hn : n ≤ maxLen) :
    Rd (w.alloc (.cells cs t fr)) size (some ⟨g, 0, none⟩) n n xs := by
  subst hg
  subst hx
  refine ⟨hs, Nat.le_refl _, hn, fun _ => ⟨_, _, rfl, fun j u hu => ?_⟩⟩
  rw [cell_of_row _ w.heap.size (0 + j) cs t fr (heap_alloc_new w _)]
  simpa using hu
def eaC : Cfg := cfS [9, 0, 0, 0, 0, 0, 0, 0, 99, 0, 0, 0, 0, 50]
def ea0 : ES := ES.start eaC [1, 7, 0]
def ea1 : ES := (ea0.write [97, 98, 99]).1
def ea2 : ES := (ea1.poll 5).1
def ea3 : ES := (ea2.poll 5).1
theorem eaV1 : (ea0.write [97, 98, 99]).2 = (3, 0) := by kernel_rfl
theorem eaV2 : (ea1.poll 5).2 = (some ⟨0, 0, 0, 7, 2, [97, 98, 99]⟩, 0, 0) := by kernel_rfl
theorem eaV3 : (ea2.poll 5).2 = (none, 10, 0) := by kernel_rfl
theorem eaV4 : ea3.st = 1 ∧ ea3.l.flight = 3 ∧ ea3.l.all.length = 1 ∧ ea3.now = 5 ∧ ((ea3.q.b.length : Int) - (ea3.q.base : Int)) = 3 := ⟨by kernel_rfl, by kernel_rfl, by kernel_rfl, by kernel_rfl, by kernel_rfl⟩
theorem eaV5 : ea1.k = 0 ∧ ea1.told = 0 ∧ ea2.k = 3 ∧ ea2.told = 0 ∧ ea0.q.b.length = 0 := ⟨by kernel_rfl, by kernel_rfl, by kernel_rfl, by kernel_rfl, by kernel_rfl⟩
def zCf : Value := .agg #[.int .i64 0, .int .u64 0, .int .i64 0, .int .u64 0, .int .i64 0, .int .u64 0, .int .u64 0, .int .u64 0, .int .u64 0, .int .i64 0, .int .u64 0, .int .u64 0, .int .u64 0, .int .u64 0, .int .u64 0, .int .i64 0, .int .u64 0]
set_option maxRecDepth 100000 in
theorem conf_check0 (w : World) : Calls Try.prog 33 #[zCf] w fun e w' => e = .returned (.int .i64 1) ∧ Below w.heap.size w w' := by
  unfold zCf
  go_enter Try.func33, Try.ntmps33
  go_wp2
  go_ret
  exact ⟨rfl, box_below w _⟩
set_option maxRecDepth 100000 in
theorem conf_may0 (w : World) : Calls Try.prog 9 #[zCf] w fun e w' => e = .returned (.bool false) ∧ Below w.heap.size w w' := by
  have S := Bx.one w #[.int .i64 0, .int .u64 0, .int .i64 0, .int .u64 0, .int .i64 0, .int .u64 0, .int .u64 0, .int .u64 0, .int .u64 0, .int .i64 0, .int .u64 0, .int .u64 0, .int .u64 0, .int .u64 0, .int .u64 0, .int .i64 0, .int .u64 0] 24
  have K := Lib.hid conf_check0
  unfold zCf at *
  go_enter Try.func9, Try.ntmps9
  go_upto_region 1 with fail
  generalize w.alloc (.cells #[.int .i64 0, .int .u64 0, .int .i64 0, .int .u64 0, .int .i64 0, .int .u64 0, .int .u64 0, .int .u64 0, .int .u64 0, .int .i64 0, .int .u64 0, .int .u64 0, .int .u64 0, .int .u64 0, .int .u64 0, .int .i64 0, .int .u64 0] 24) = w0 at *
  have a := cells_of (S.get 0 rfl)
  go_wp2_with (refine wpList_load_row rfl 24 _ rfl _ rfl _ _ _ _ (S.get 0 rfl) Try.underlying24 rfl infoCfg ?_)
  refine (K.out _).mono ?_
  rintro e w1 ⟨rfl, q⟩
  replace S := S.step q
  clear q a
  have a := cells_of (S.get 0 rfl)
  go_wp2
  go_ret
  exact ⟨rfl, S.bel⟩
set_option maxRecDepth 100000 in
theorem eng_new0 (w : World) : Calls Try.prog 4 #[zCf, .slice none 0 0] w fun e w' => e = .returned (.tuple #[.pointer none, .int .i64 6]) ∧ Below w.heap.size w w' := by
  have S := Bx.one w #[.int .i64 0, .int .u64 0, .int .i64 0, .int .u64 0, .int .i64 0, .int .u64 0, .int .u64 0, .int .u64 0, .int .u64 0, .int .i64 0, .int .u64 0, .int .u64 0, .int .u64 0, .int .u64 0, .int .u64 0, .int .i64 0, .int .u64 0] 24
  have K := Lib.hid conf_may0
  unfold zCf at *
  go_enter Try.func4, Try.ntmps4
  go_upto_region 1 with fail
  generalize w.alloc (.cells #[.int .i64 0, .int .u64 0, .int .i64 0, .int .u64 0, .int .i64 0, .int .u64 0, .int .u64 0, .int .u64 0, .int .u64 0, .int .i64 0, .int .u64 0, .int .u64 0, .int .u64 0, .int .u64 0, .int .u64 0, .int .i64 0, .int .u64 0] 24) = w0 at *
  have a := cells_of (S.get 0 rfl)
  go_wp2_with (refine wpList_load_row rfl 24 _ rfl _ rfl _ _ _ _ (S.get 0 rfl) Try.underlying24 rfl infoCfg ?_)
  refine (K.out _).mono ?_
  rintro e w1 ⟨rfl, q⟩
  replace S := S.step q
  clear q a
  have a := cells_of (S.get 0 rfl)
  go_wp2
  go_ret2
  exact ⟨rfl, S.bel⟩
theorem EngTo.newer {W W' : World} {f : Ft} {b n : Nat} {s : ES} (h : EngTo W f b W' s) (hn : n ≤ W.heap.size) (L : ∀ j, f.tag j ≠ 0 → n ≤ j) : ∃ f', EngC W' f' b s ∧ (∀ j, f'.tag j ≠ 0 → n ≤ j) ∧ Below n W W' := by
  obtain ⟨f', c, t, d⟩ := h
  refine ⟨f', c, fun j hj => ?_, d.below hn (fun k hk e => ?_)⟩
  · rcases Nat.lt_or_ge j W.heap.size with h | h
    · rw [t j h] at hj
      exact L j hj
    · omega
  · have := L k (by have := e.1; omega)
    omega
def eaD : DatD := ⟨0, 0, 0, 7, 2, [97, 98, 99]⟩
theorem eaOk : eaD.Ok := ⟨by decide, ⟨by decide, by decide⟩, ⟨by decide, by decide⟩, ⟨by decide, by decide⟩, ⟨by decide, by decide⟩, ⟨by decide, by decide⟩, by decide⟩
theorem eaPB2 : pollB (ea2.poll 5) = [] := by
  unfold pollB
  rw [eaV3]
  rfl
theorem eaPB : pollB (ea1.poll 5) = putDatP eaD := by
  unfold pollB
  rw [eaV2]
  rfl
def alStr : Array Value := #[.int .i64 1, .int .u64 5, .int .u64 ea3.w.cw, .int .u64 ea3.w.th, .int .u64 3, .int .u64 ea3.smooth, .int .u64 ea3.timer, .int .u64 1, .int .u64 ea3.l.low, .int .u64 3, .int .u64 ea3.tr, .int .u64 ea3.g.mal, .int .u64 ea3.g.drp, .int .u64 ea3.g.tak, .int .u64 ea3.g.cha, .int .u64 ea3.g.lat]
theorem eaSt : ea3.stRow = alStr := by
  unfold ES.stRow alStr
  rw [eaV4.1, eaV4.2.1, eaV4.2.2.1, eaV4.2.2.2.1, eaV4.2.2.2.2]
  rfl
set_option maxHeartbeats 4000000 in
set_option maxRecDepth 100000 in
theorem engAlive (w : World) : Calls Try.prog 5 #[] w fun e w' => e = .returned (.bool true) ∧ Below w.heap.size w w' := by
  have kc := fun (w : World) (C : Array Value) (n c : Nat) => Lib.run_convert_bytes_const (P := Try.prog) w 70 5 C n c Try.underlying70 Try.underlying5
  go_enter Try.func5, Try.ntmps5
  go_wp2_with fail
  refine (eng_new0 w).mono ?_
  rintro e w1 ⟨rfl, q⟩
  have B1 := Lib.hid q
  clear q
  go_upto_region 2 with fail
  go_wp2_with fail
  have RL := Lib.hid (Rd.lit w1 1 #[.int .u32 9, .int .u32 0, .int .u32 0, .int .u32 0, .int .u32 0, .int .u32 0, .int .u32 0, .int .u32 0, .int .u32 99, .int .u32 0, .int .u32 0, .int .u32 0, .int .u32 0, .int .u32 50] 66 14 (U4 [9, 0, 0, 0, 0, 0, 0, 0, 99, 0, 0, 0, 0, 50]) rfl rfl (by unfold maxLen; omega))
  have E2 := Lib.hid (B1.out.trans ((box_below w1 (.cells #[.int .u32 9, .int .u32 0, .int .u32 0, .int .u32 0, .int .u32 0, .int .u32 0, .int .u32 0, .int .u32 0, .int .u32 99, .int .u32 0, .int .u32 0, .int .u32 0, .int .u32 0, .int .u32 50] 66)).mono B1.out.size))
  refine (law_conf (some ⟨w1.heap.size, 0, none⟩) 14 [9, 0, 0, 0, 0, 0, 0, 0, 99, 0, 0, 0, 0, 50] _ RL.out (by unfold isU32; decide)).mono ?_
  clear RL
  rintro e w3 ⟨rfl, q⟩
  have B3 := Lib.hid (E2.out.trans (q.mono E2.out.size))
  clear q E2 B1
  rw [show (cfS [9, 0, 0, 0, 0, 0, 0, 0, 99, 0, 0, 0, 0, 50]).val = eaC.val from rfl]
  generalize hcv : eaC.val = cv at *
  have hcv := Lib.hid hcv
  go_wp2_with fail
  have RL := Lib.hid (Rd.lit w3 1 #[.int .u64 1, .int .u64 7, .int .u64 0] 22 3 (Us [1, 7, 0]) rfl rfl (by unfold maxLen; omega))
  have q3 := (box_below w3 (.cells #[.int .u64 1, .int .u64 7, .int .u64 0] 22))
  have E3 := Lib.hid (B3.out.trans (q3.mono B3.out.size))
  have KN := Lib.hid (eng_new eaC (some ⟨w3.heap.size, 0, none⟩) 3 [1, 7, 0] _ (cfS_ok (by unfold isU32; decide)) RL.out (by decide) (by unfold isU64; decide))
  rw [hcv.out] at KN
  clear RL q3 B3
  refine KN.out.mono ?_
  rintro e w4 ⟨f, b, rfl, c4, l4, q4⟩
  have C4 := Lib.hid c4
  have L4 := Lib.hid (fun j hj => Nat.le_trans E3.out.size (l4 j hj))
  have B4 := Lib.hid (E3.out.trans (q4.mono E3.out.size))
  clear KN c4 l4 q4 E3
  go_upto_region 5 with fail
  have RL := Lib.hid (Rd.litm w4 1 #[.int .u8 97, .int .u8 98, .int .u8 99] 5 (3, 4) 3 (U8 [97, 98, 99]) w4.heap.size rfl rfl rfl (by unfold maxLen; omega))
  have q5 := (box_below w4 (.cells #[.int .u8 97, .int .u8 98, .int .u8 99] 5 (3, 4)))
  have E5 := Lib.hid (B4.out.trans (q5.mono B4.out.size))
  have KW := Lib.hid (eng_write _ f b ea0 [97, 98, 99] (some ⟨w4.heap.size, 0, none⟩) 3 (C4.out.below q5) RL.out (by decide) (by decide))
  have v1 : (ea0.write [97, 98, 99]).2.1 = 3 := congrArg Prod.fst eaV1
  have v2 : (ea0.write [97, 98, 99]).2.2 = 0 := congrArg Prod.snd eaV1
  rw [v1, v2] at KW
  clear v1 v2 RL q5
  go_wp2_with fail
  refine KW.out.mono ?_
  rintro e w5 ⟨rfl, t5⟩
  obtain ⟨f5, c5, l5, q5⟩ := t5.newer E5.out.size L4.out
  have C5 := Lib.hid c5
  have L5 := Lib.hid l5
  have B5 := Lib.hid (E5.out.trans q5)
  clear KW t5 c5 l5 q5 C4 L4 B4 E5
  have KP := Lib.hid (eng_poll w5 f5 b ea1 5 C5.out ⟨by decide, by decide⟩ (by rw [eaV5.1]; decide) (by rw [eaV5.2.1]; decide))
  go_upto_region 6 with fail
  go_wp2_with fail
  refine KP.out.mono ?_
  clear KP
  unfold PollTo
  rw [eaPB, show (ea1.poll 5).2.2.1 = 0 from congrArg (fun x => x.2.1) eaV2]
  rintro e w6 ⟨A, c, rfl, r6, t6⟩
  obtain ⟨f6, c6, l6, q6⟩ := EngTo.newer (s := ea2) t6 B5.out.size L5.out
  have C6 := Lib.hid c6
  have L6 := Lib.hid l6
  have B6 := Lib.hid (B5.out.trans q6)
  have KD := Lib.hid (head_decode w6 A c (putDatP eaD) r6.rd (putDat_u8 _ eaOk) (Nat.le_trans (putDat_len _ eaOk) (by decide)))
  clear c6 l6 q6 r6 t6 C5 L5 B5
  unfold DatVal at KD
  rw [datP_put _ eaOk] at KD
  generalize hP : (putDatP eaD).length = n at *
  clear hP
  go_upto_region 7 with fail
  go_wp2_with fail
  refine KD.out.mono ?_
  clear KD
  rintro e w7 ⟨A7, c7, rfl, r7, b7, n7⟩
  have N7 := Lib.hid n7
  have T7 := Lib.hid C6.out.lt
  clear n7
  have hs : strOfNums [97, 98, 99] = { data := #[97, 98, 99] } := by decide
  have R7 := Lib.hid r7
  have C7 := Lib.hid (C6.out.below b7)
  have B7 := Lib.hid (B6.out.trans (b7.mono B6.out.size))
  have hsz7 := b7.size
  clear r7 b7 C6 B6
  rw [show eaD.cells A7 eaD.body.length c7 = #[.int .u64 0, .int .u64 0, .int .u64 0, .int .u64 7, .int .i64 2, .slice A7 3 c7] from rfl]
  go_upto_region 8 with fail
  have q8 := box_below w7 (.cells #[.int .u64 0, .int .u64 0, .int .u64 0, .int .u64 7, .int .i64 2, .slice A7 3 c7] 74)
  have H8 := Lib.hid (heap_alloc_new w7 (.cells #[.int .u64 0, .int .u64 0, .int .u64 0, .int .u64 7, .int .i64 2, .slice A7 3 c7] 74))
  generalize hw8 : w7.alloc (.cells #[.int .u64 0, .int .u64 0, .int .u64 0, .int .u64 7, .int .i64 2, .slice A7 3 c7] 74) = w8 at *
  clear hw8
  have C8 := Lib.hid (C7.out.below q8)
  have R8 := Lib.hid (R7.out.below q8)
  have B8 := Lib.hid (B7.out.trans (q8.mono B7.out.size))
  have s7 : Hid (w6.heap.size ≤ w7.heap.size) := Lib.hid hsz7
  generalize w7.heap.size = g at *
  clear q8 C7 R7 B7
  have KP := Lib.hid (eng_poll w8 f6 b ea2 5 C8.out ⟨by decide, by decide⟩ (by rw [eaV5.2.2.1]; decide) (by rw [eaV5.2.2.2.1]; decide))
  go_wp2_with fail
  refine KP.out.mono ?_
  clear KP
  unfold PollTo
  rw [eaPB2, show (ea2.poll 5).2.2.1 = 10 from congrArg (fun x => x.2.1) eaV3]
  rintro e w9 ⟨A9, c9', rfl, r9, t9⟩
  obtain ⟨f9, c9, u9, d9⟩ := t9
  have C9 : Hid (EngC w9 f9 b ea3) := Lib.hid c9
  have nm : ∀ k, w6.heap.size ≤ k → ¬ f6.mut k := fun k hk e => by
    have := T7.out k (by have := e.1; omega)
    omega
  have H9 := Lib.hid (d9.blk H8.out (nm g s7.out))
  have R9 := Lib.hid (R8.out.chg d9 (fun k off e h0 => nm k (N7.out k off e (by decide))))
  have B9 := Lib.hid (B8.out.trans (d9.below B8.out.size (fun k hk e => by have := L6.out k (by have := e.1; omega); omega)))
  clear c9 u9 d9 r9 nm C8 H8 R8 B8 T7 N7 L6 s7
  have KS := Lib.hid (eng_state w9 f9 b ea3 C9.out)
  rw [eaSt] at KS
  go_upto_region 9 with fail
  go_wp2_with fail
  refine KS.out.mono ?_
  rintro e w10 ⟨rfl, q⟩
  have H10 := Lib.hid ((q.block _ (lt_of_block H9.out)).trans H9.out)
  have R10 := Lib.hid (R9.out.below q)
  have B10 := Lib.hid (B9.out.trans (q.mono B9.out.size))
  clear q H9 R9 B9 KS C9
  unfold alStr
  go_upto_region 10 with fail
  have q11 := box_below w10 (.cells #[.int .i64 1, .int .u64 5, .int .u64 ea3.w.cw, .int .u64 ea3.w.th, .int .u64 3, .int .u64 ea3.smooth, .int .u64 ea3.timer, .int .u64 1, .int .u64 ea3.l.low, .int .u64 3, .int .u64 ea3.tr, .int .u64 ea3.g.mal, .int .u64 ea3.g.drp, .int .u64 ea3.g.tak, .int .u64 ea3.g.cha, .int .u64 ea3.g.lat] 35)
  have H11 := Lib.hid (heap_alloc_new w10 (.cells #[.int .i64 1, .int .u64 5, .int .u64 ea3.w.cw, .int .u64 ea3.w.th, .int .u64 3, .int .u64 ea3.smooth, .int .u64 ea3.timer, .int .u64 1, .int .u64 ea3.l.low, .int .u64 3, .int .u64 ea3.tr, .int .u64 ea3.g.mal, .int .u64 ea3.g.drp, .int .u64 ea3.g.tak, .int .u64 ea3.g.cha, .int .u64 ea3.g.lat] 35))
  generalize hw11 : w10.alloc (.cells #[.int .i64 1, .int .u64 5, .int .u64 ea3.w.cw, .int .u64 ea3.w.th, .int .u64 3, .int .u64 ea3.smooth, .int .u64 ea3.timer, .int .u64 1, .int .u64 ea3.l.low, .int .u64 3, .int .u64 ea3.tr, .int .u64 ea3.g.mal, .int .u64 ea3.g.drp, .int .u64 ea3.g.tak, .int .u64 ea3.g.cha, .int .u64 ea3.g.lat] 35) = w11 at *
  clear hw11
  have B11 := Lib.hid (B10.out.trans (q11.mono B10.out.size))
  have G11 := Lib.hid ((q11.block _ (lt_of_block H10.out)).trans H10.out)
  have R11 : Rd w11 1 A7 3 c7 (U8 [97, 98, 99]) := R10.out.below q11
  have cvs : (convert 70 9 (.slice A7 3 c7)).run Try.prog w11 = .ok (.string { data := #[97, 98, 99] }) w11 := by
    rw [← hs]
    exact conv_row (l := [97, 98, 99]) (dst := 9) Try.underlying70 Try.underlying5 Try.underlying9 R11
  generalize w10.heap.size = gs at *
  have y0 := cell_of_row w11 g 0 _ _ _ G11.out
  have y4 := cell_of_row w11 g 4 _ _ _ G11.out
  have y5 := cell_of_row w11 g 5 _ _ _ G11.out
  have z0 := cell_of_row w11 gs 0 _ _ _ H11.out
  have z1 := cell_of_row w11 gs 1 _ _ _ H11.out
  have z4 := cell_of_row w11 gs 4 _ _ _ H11.out
  have z7 := cell_of_row w11 gs 7 _ _ _ H11.out
  have z9 := cell_of_row w11 gs 9 _ _ _ H11.out
  clear R11 q11 H11 G11 R10 H10 B10 hs kc hcv
  go_wp2
  go_ret
  exact ⟨rfl, B11.out⟩
end Go.Proofs.Ytpkbimmhimgamaa
namespace Go.Proofs.Ytpkbimmhimgamaa
set_option linter.unusedSimpArgs false
set_option linter.unusedVariables false
set_option linter.unnecessarySimpa false
open Go.RowKit
def Cfg.okW (c : Cfg) : Prop := c.lea ≤ c.ini ∧ c.ini ≤ c.mo ∧ 2 * c.mss ≤ c.lea ∧ c.lea ≤ c.mo ∧ c.mo ≤ 1073741824 ∧ (c.algo = 1 ∨ c.algo = 2) ∧ 1 ≤ c.fst ∧ c.fst ≤ 1099511627776 ∧ 1 ≤ c.gr ∧ c.gr ≤ 1099511627776 ∧ c.gr ≤ c.cap ∧ c.cap ≤ 1099511627776 ∧ c.mss ≤ c.bur ∧ c.bur ≤ 1073741824 ∧ 1 ≤ c.slo ∧ c.slo ≤ 4294967296 ∧ 0 ≤ c.chal ∧ c.chal ≤ 64 ∧ 1 ≤ c.evy ∧ c.evy ≤ 1099511627776
def Cfg.okK (c : Cfg) : Prop := 1 ≤ c.bits ∧ c.bits ≤ 64 ∧ c.one ≠ 1 ∧ 4 ≤ c.ring ∧ c.ring ≤ 256 ∧ c.lim ≤ 4611686018427387903 ∧ 1 ≤ c.room ∧ c.room ≤ 65536 ∧ 1 ≤ c.mss ∧ c.mss ≤ 1500
set_option maxHeartbeats 8000000 in
set_option maxRecDepth 100000 in
theorem conf_windows_any (c : Cfg) (w : World) (hm : 1 ≤ c.mss ∧ c.mss ≤ 1500) :
    Calls Try.prog 57 #[c.val] w fun e w' => ∃ n : Int, e = .returned (.int .i64 n) ∧ (n = 0 ↔ c.okW) ∧ Below w.heap.size w w' := by
  have S := Bx.one w #[.int .i64 c.bits, .int .u64 c.one, .int .i64 c.ring, .int .u64 c.lim, .int .i64 c.room, .int .u64 c.mss, .int .u64 c.ini, .int .u64 c.lea, .int .u64 c.mo, .int .i64 c.algo, .int .u64 c.fst, .int .u64 c.gr, .int .u64 c.cap, .int .u64 c.bur, .int .u64 c.slo, .int .i64 c.chal, .int .u64 c.evy] 24
  have mw : IntKind.u64.wrap (2 * c.mss) = 2 * c.mss := IntWalk.u64_in _ (by omega)
  obtain ⟨p7a, h7a⟩ : ∃ p, decide (c.ini < c.lea) = p := ⟨_, rfl⟩
  obtain ⟨p7b, h7b⟩ : ∃ p, decide (c.mo < c.ini) = p := ⟨_, rfl⟩
  obtain ⟨p8a, h8a⟩ : ∃ p, decide (c.lea < 2 * c.mss) = p := ⟨_, rfl⟩
  obtain ⟨p9a, h9a⟩ : ∃ p, decide (c.mo < c.lea) = p := ⟨_, rfl⟩
  obtain ⟨p9b, h9b⟩ : ∃ p, decide (1073741824 < c.mo) = p := ⟨_, rfl⟩
  obtain ⟨p11a, h11a⟩ : ∃ p, decide (c.fst < 1) = p := ⟨_, rfl⟩
  obtain ⟨p11b, h11b⟩ : ∃ p, decide (1099511627776 < c.fst) = p := ⟨_, rfl⟩
  obtain ⟨p12a, h12a⟩ : ∃ p, decide (c.gr < 1) = p := ⟨_, rfl⟩
  obtain ⟨p12b, h12b⟩ : ∃ p, decide (1099511627776 < c.gr) = p := ⟨_, rfl⟩
  obtain ⟨p13a, h13a⟩ : ∃ p, decide (c.cap < c.gr) = p := ⟨_, rfl⟩
  obtain ⟨p13b, h13b⟩ : ∃ p, decide (1099511627776 < c.cap) = p := ⟨_, rfl⟩
  obtain ⟨p14a, h14a⟩ : ∃ p, decide (c.bur < c.mss) = p := ⟨_, rfl⟩
  obtain ⟨p14b, h14b⟩ : ∃ p, decide (1073741824 < c.bur) = p := ⟨_, rfl⟩
  obtain ⟨p15a, h15a⟩ : ∃ p, decide (c.slo < 1) = p := ⟨_, rfl⟩
  obtain ⟨p15b, h15b⟩ : ∃ p, decide (4294967296 < c.slo) = p := ⟨_, rfl⟩
  obtain ⟨p16a, h16a⟩ : ∃ p, decide (c.chal < 0) = p := ⟨_, rfl⟩
  obtain ⟨p16b, h16b⟩ : ∃ p, decide (64 < c.chal) = p := ⟨_, rfl⟩
  obtain ⟨p17a, h17a⟩ : ∃ p, decide (c.evy < 1) = p := ⟨_, rfl⟩
  obtain ⟨p17b, h17b⟩ : ∃ p, decide (1099511627776 < c.evy) = p := ⟨_, rfl⟩
  unfold Cfg.val
  go_enter Try.func57, Try.ntmps57
  go_upto_region 1 with fail
  generalize w.alloc (.cells #[.int .i64 c.bits, .int .u64 c.one, .int .i64 c.ring, .int .u64 c.lim, .int .i64 c.room, .int .u64 c.mss, .int .u64 c.ini, .int .u64 c.lea, .int .u64 c.mo, .int .i64 c.algo, .int .u64 c.fst, .int .u64 c.gr, .int .u64 c.cap, .int .u64 c.bur, .int .u64 c.slo, .int .i64 c.chal, .int .u64 c.evy] 24) = w0 at *
  have a := cells_of (S.get 0 rfl)
  rcases Bool.eq_false_or_eq_true p7a with rfl | rfl
  · go_wp2
    go_ret
    refine ⟨_, rfl, ⟨fun h => absurd h (by decide), fun h => ?_⟩, S.bel⟩
    simp only [decide_eq_true_eq, beq_iff_eq] at h7a
    unfold Cfg.okW at h
    omega
  rcases Bool.eq_false_or_eq_true p7b with rfl | rfl
  · go_wp2
    go_ret
    refine ⟨_, rfl, ⟨fun h => absurd h (by decide), fun h => ?_⟩, S.bel⟩
    simp only [decide_eq_true_eq, beq_iff_eq] at h7b
    unfold Cfg.okW at h
    omega
  go_upto_region 3 with fail
  rcases Bool.eq_false_or_eq_true p8a with rfl | rfl
  · go_wp2
    go_ret
    refine ⟨_, rfl, ⟨fun h => absurd h (by decide), fun h => ?_⟩, S.bel⟩
    simp only [decide_eq_true_eq, beq_iff_eq] at h8a
    unfold Cfg.okW at h
    omega
  go_upto_region 5 with fail
  rcases Bool.eq_false_or_eq_true p9a with rfl | rfl
  · go_wp2
    go_ret
    refine ⟨_, rfl, ⟨fun h => absurd h (by decide), fun h => ?_⟩, S.bel⟩
    simp only [decide_eq_true_eq, beq_iff_eq] at h9a
    unfold Cfg.okW at h
    omega
  rcases Bool.eq_false_or_eq_true p9b with rfl | rfl
  · go_wp2
    go_ret
    refine ⟨_, rfl, ⟨fun h => absurd h (by decide), fun h => ?_⟩, S.bel⟩
    simp only [decide_eq_true_eq, beq_iff_eq] at h9b
    unfold Cfg.okW at h
    omega
  go_upto_region 7 with fail
  by_cases q10 : c.algo = 1
  · have h10a : (c.algo != 1) = false := by simp [q10]
    go_upto_region 9 with fail
    rcases Bool.eq_false_or_eq_true p11a with rfl | rfl
    · go_wp2
      go_ret
      refine ⟨_, rfl, ⟨fun h => absurd h (by decide), fun h => ?_⟩, S.bel⟩
      simp only [decide_eq_true_eq, beq_iff_eq] at h11a
      unfold Cfg.okW at h
      omega
    rcases Bool.eq_false_or_eq_true p11b with rfl | rfl
    · go_wp2
      go_ret
      refine ⟨_, rfl, ⟨fun h => absurd h (by decide), fun h => ?_⟩, S.bel⟩
      simp only [decide_eq_true_eq, beq_iff_eq] at h11b
      unfold Cfg.okW at h
      omega
    go_upto_region 11 with fail
    rcases Bool.eq_false_or_eq_true p12a with rfl | rfl
    · go_wp2
      go_ret
      refine ⟨_, rfl, ⟨fun h => absurd h (by decide), fun h => ?_⟩, S.bel⟩
      simp only [decide_eq_true_eq, beq_iff_eq] at h12a
      unfold Cfg.okW at h
      omega
    rcases Bool.eq_false_or_eq_true p12b with rfl | rfl
    · go_wp2
      go_ret
      refine ⟨_, rfl, ⟨fun h => absurd h (by decide), fun h => ?_⟩, S.bel⟩
      simp only [decide_eq_true_eq, beq_iff_eq] at h12b
      unfold Cfg.okW at h
      omega
    go_upto_region 13 with fail
    rcases Bool.eq_false_or_eq_true p13a with rfl | rfl
    · go_wp2
      go_ret
      refine ⟨_, rfl, ⟨fun h => absurd h (by decide), fun h => ?_⟩, S.bel⟩
      simp only [decide_eq_true_eq, beq_iff_eq] at h13a
      unfold Cfg.okW at h
      omega
    rcases Bool.eq_false_or_eq_true p13b with rfl | rfl
    · go_wp2
      go_ret
      refine ⟨_, rfl, ⟨fun h => absurd h (by decide), fun h => ?_⟩, S.bel⟩
      simp only [decide_eq_true_eq, beq_iff_eq] at h13b
      unfold Cfg.okW at h
      omega
    go_upto_region 15 with fail
    rcases Bool.eq_false_or_eq_true p14a with rfl | rfl
    · go_wp2
      go_ret
      refine ⟨_, rfl, ⟨fun h => absurd h (by decide), fun h => ?_⟩, S.bel⟩
      simp only [decide_eq_true_eq, beq_iff_eq] at h14a
      unfold Cfg.okW at h
      omega
    rcases Bool.eq_false_or_eq_true p14b with rfl | rfl
    · go_wp2
      go_ret
      refine ⟨_, rfl, ⟨fun h => absurd h (by decide), fun h => ?_⟩, S.bel⟩
      simp only [decide_eq_true_eq, beq_iff_eq] at h14b
      unfold Cfg.okW at h
      omega
    go_upto_region 17 with fail
    rcases Bool.eq_false_or_eq_true p15a with rfl | rfl
    · go_wp2
      go_ret
      refine ⟨_, rfl, ⟨fun h => absurd h (by decide), fun h => ?_⟩, S.bel⟩
      simp only [decide_eq_true_eq, beq_iff_eq] at h15a
      unfold Cfg.okW at h
      omega
    rcases Bool.eq_false_or_eq_true p15b with rfl | rfl
    · go_wp2
      go_ret
      refine ⟨_, rfl, ⟨fun h => absurd h (by decide), fun h => ?_⟩, S.bel⟩
      simp only [decide_eq_true_eq, beq_iff_eq] at h15b
      unfold Cfg.okW at h
      omega
    go_upto_region 19 with fail
    rcases Bool.eq_false_or_eq_true p16a with rfl | rfl
    · go_wp2
      go_ret
      refine ⟨_, rfl, ⟨fun h => absurd h (by decide), fun h => ?_⟩, S.bel⟩
      simp only [decide_eq_true_eq, beq_iff_eq] at h16a
      unfold Cfg.okW at h
      omega
    rcases Bool.eq_false_or_eq_true p16b with rfl | rfl
    · go_wp2
      go_ret
      refine ⟨_, rfl, ⟨fun h => absurd h (by decide), fun h => ?_⟩, S.bel⟩
      simp only [decide_eq_true_eq, beq_iff_eq] at h16b
      unfold Cfg.okW at h
      omega
    go_upto_region 21 with fail
    rcases Bool.eq_false_or_eq_true p17a with rfl | rfl
    · go_wp2
      go_ret
      refine ⟨_, rfl, ⟨fun h => absurd h (by decide), fun h => ?_⟩, S.bel⟩
      simp only [decide_eq_true_eq, beq_iff_eq] at h17a
      unfold Cfg.okW at h
      omega
    rcases Bool.eq_false_or_eq_true p17b with rfl | rfl
    · go_wp2
      go_ret
      refine ⟨_, rfl, ⟨fun h => absurd h (by decide), fun h => ?_⟩, S.bel⟩
      simp only [decide_eq_true_eq, beq_iff_eq] at h17b
      unfold Cfg.okW at h
      omega
    go_wp2
    go_ret
    refine ⟨_, rfl, ⟨fun _ => ?_, fun _ => rfl⟩, S.bel⟩
    simp only [decide_eq_false_iff_not, beq_eq_false_iff_ne, ne_eq] at h7a h7b h8a h9a h9b h11a h11b h12a h12b h13a h13b h14a h14b h15a h15b h16a h16b h17a h17b
    unfold Cfg.okW
    omega
  by_cases q11 : c.algo = 2
  · have h10a : (c.algo != 1) = true := by simp [q10]
    have h10b : (c.algo != 2) = false := by simp [q11]
    go_upto_region 9 with fail
    rcases Bool.eq_false_or_eq_true p11a with rfl | rfl
    · go_wp2
      go_ret
      refine ⟨_, rfl, ⟨fun h => absurd h (by decide), fun h => ?_⟩, S.bel⟩
      simp only [decide_eq_true_eq, beq_iff_eq] at h11a
      unfold Cfg.okW at h
      omega
    rcases Bool.eq_false_or_eq_true p11b with rfl | rfl
    · go_wp2
      go_ret
      refine ⟨_, rfl, ⟨fun h => absurd h (by decide), fun h => ?_⟩, S.bel⟩
      simp only [decide_eq_true_eq, beq_iff_eq] at h11b
      unfold Cfg.okW at h
      omega
    go_upto_region 11 with fail
    rcases Bool.eq_false_or_eq_true p12a with rfl | rfl
    · go_wp2
      go_ret
      refine ⟨_, rfl, ⟨fun h => absurd h (by decide), fun h => ?_⟩, S.bel⟩
      simp only [decide_eq_true_eq, beq_iff_eq] at h12a
      unfold Cfg.okW at h
      omega
    rcases Bool.eq_false_or_eq_true p12b with rfl | rfl
    · go_wp2
      go_ret
      refine ⟨_, rfl, ⟨fun h => absurd h (by decide), fun h => ?_⟩, S.bel⟩
      simp only [decide_eq_true_eq, beq_iff_eq] at h12b
      unfold Cfg.okW at h
      omega
    go_upto_region 13 with fail
    rcases Bool.eq_false_or_eq_true p13a with rfl | rfl
    · go_wp2
      go_ret
      refine ⟨_, rfl, ⟨fun h => absurd h (by decide), fun h => ?_⟩, S.bel⟩
      simp only [decide_eq_true_eq, beq_iff_eq] at h13a
      unfold Cfg.okW at h
      omega
    rcases Bool.eq_false_or_eq_true p13b with rfl | rfl
    · go_wp2
      go_ret
      refine ⟨_, rfl, ⟨fun h => absurd h (by decide), fun h => ?_⟩, S.bel⟩
      simp only [decide_eq_true_eq, beq_iff_eq] at h13b
      unfold Cfg.okW at h
      omega
    go_upto_region 15 with fail
    rcases Bool.eq_false_or_eq_true p14a with rfl | rfl
    · go_wp2
      go_ret
      refine ⟨_, rfl, ⟨fun h => absurd h (by decide), fun h => ?_⟩, S.bel⟩
      simp only [decide_eq_true_eq, beq_iff_eq] at h14a
      unfold Cfg.okW at h
      omega
    rcases Bool.eq_false_or_eq_true p14b with rfl | rfl
    · go_wp2
      go_ret
      refine ⟨_, rfl, ⟨fun h => absurd h (by decide), fun h => ?_⟩, S.bel⟩
      simp only [decide_eq_true_eq, beq_iff_eq] at h14b
      unfold Cfg.okW at h
      omega
    go_upto_region 17 with fail
    rcases Bool.eq_false_or_eq_true p15a with rfl | rfl
    · go_wp2
      go_ret
      refine ⟨_, rfl, ⟨fun h => absurd h (by decide), fun h => ?_⟩, S.bel⟩
      simp only [decide_eq_true_eq, beq_iff_eq] at h15a
      unfold Cfg.okW at h
      omega
    rcases Bool.eq_false_or_eq_true p15b with rfl | rfl
    · go_wp2
      go_ret
      refine ⟨_, rfl, ⟨fun h => absurd h (by decide), fun h => ?_⟩, S.bel⟩
      simp only [decide_eq_true_eq, beq_iff_eq] at h15b
      unfold Cfg.okW at h
      omega
    go_upto_region 19 with fail
    rcases Bool.eq_false_or_eq_true p16a with rfl | rfl
    · go_wp2
      go_ret
      refine ⟨_, rfl, ⟨fun h => absurd h (by decide), fun h => ?_⟩, S.bel⟩
      simp only [decide_eq_true_eq, beq_iff_eq] at h16a
      unfold Cfg.okW at h
      omega
    rcases Bool.eq_false_or_eq_true p16b with rfl | rfl
    · go_wp2
      go_ret
      refine ⟨_, rfl, ⟨fun h => absurd h (by decide), fun h => ?_⟩, S.bel⟩
      simp only [decide_eq_true_eq, beq_iff_eq] at h16b
      unfold Cfg.okW at h
      omega
    go_upto_region 21 with fail
    rcases Bool.eq_false_or_eq_true p17a with rfl | rfl
    · go_wp2
      go_ret
      refine ⟨_, rfl, ⟨fun h => absurd h (by decide), fun h => ?_⟩, S.bel⟩
      simp only [decide_eq_true_eq, beq_iff_eq] at h17a
      unfold Cfg.okW at h
      omega
    rcases Bool.eq_false_or_eq_true p17b with rfl | rfl
    · go_wp2
      go_ret
      refine ⟨_, rfl, ⟨fun h => absurd h (by decide), fun h => ?_⟩, S.bel⟩
      simp only [decide_eq_true_eq, beq_iff_eq] at h17b
      unfold Cfg.okW at h
      omega
    go_wp2
    go_ret
    refine ⟨_, rfl, ⟨fun _ => ?_, fun _ => rfl⟩, S.bel⟩
    simp only [decide_eq_false_iff_not, beq_eq_false_iff_ne, ne_eq] at h7a h7b h8a h9a h9b h11a h11b h12a h12b h13a h13b h14a h14b h15a h15b h16a h16b h17a h17b
    unfold Cfg.okW
    omega
  have h10a : (c.algo != 1) = true := by simp [q10]
  have h10b : (c.algo != 2) = true := by simp [q11]
  go_wp2
  go_ret
  exact ⟨_, rfl, ⟨fun h => absurd h (by decide), fun h => by unfold Cfg.okW at h; omega⟩, S.bel⟩
set_option maxHeartbeats 8000000 in
set_option maxRecDepth 100000 in
theorem conf_check_any (c : Cfg) (w : World) :
    Calls Try.prog 33 #[c.val] w fun e w' => ∃ n : Int, e = .returned (.int .i64 n) ∧ (n = 0 ↔ c.okK ∧ c.okW) ∧ Below w.heap.size w w' := by
  have S := Bx.one w #[.int .i64 c.bits, .int .u64 c.one, .int .i64 c.ring, .int .u64 c.lim, .int .i64 c.room, .int .u64 c.mss, .int .u64 c.ini, .int .u64 c.lea, .int .u64 c.mo, .int .i64 c.algo, .int .u64 c.fst, .int .u64 c.gr, .int .u64 c.cap, .int .u64 c.bur, .int .u64 c.slo, .int .i64 c.chal, .int .u64 c.evy] 24
  obtain ⟨p1a, h1a⟩ : ∃ p, decide (c.bits < 1) = p := ⟨_, rfl⟩
  obtain ⟨p1b, h1b⟩ : ∃ p, decide (64 < c.bits) = p := ⟨_, rfl⟩
  obtain ⟨p2a, h2a⟩ : ∃ p, (c.one == 1) = p := ⟨_, rfl⟩
  obtain ⟨p3a, h3a⟩ : ∃ p, decide (c.ring < 4) = p := ⟨_, rfl⟩
  obtain ⟨p3b, h3b⟩ : ∃ p, decide (256 < c.ring) = p := ⟨_, rfl⟩
  obtain ⟨p4a, h4a⟩ : ∃ p, decide (4611686018427387903 < c.lim) = p := ⟨_, rfl⟩
  obtain ⟨p5a, h5a⟩ : ∃ p, decide (c.room < 1) = p := ⟨_, rfl⟩
  obtain ⟨p5b, h5b⟩ : ∃ p, decide (65536 < c.room) = p := ⟨_, rfl⟩
  obtain ⟨p6a, h6a⟩ : ∃ p, decide (c.mss < 1) = p := ⟨_, rfl⟩
  obtain ⟨p6b, h6b⟩ : ∃ p, decide (1500 < c.mss) = p := ⟨_, rfl⟩
  unfold Cfg.val
  go_enter Try.func33, Try.ntmps33
  go_upto_region 1 with fail
  generalize w.alloc (.cells #[.int .i64 c.bits, .int .u64 c.one, .int .i64 c.ring, .int .u64 c.lim, .int .i64 c.room, .int .u64 c.mss, .int .u64 c.ini, .int .u64 c.lea, .int .u64 c.mo, .int .i64 c.algo, .int .u64 c.fst, .int .u64 c.gr, .int .u64 c.cap, .int .u64 c.bur, .int .u64 c.slo, .int .i64 c.chal, .int .u64 c.evy] 24) = w0 at *
  have a := cells_of (S.get 0 rfl)
  rcases Bool.eq_false_or_eq_true p1a with rfl | rfl
  · go_wp2
    go_ret
    refine ⟨_, rfl, ⟨fun h => absurd h (by decide), fun h => ?_⟩, S.bel⟩
    simp only [decide_eq_true_eq, beq_iff_eq] at h1a
    unfold Cfg.okK at h
    omega
  rcases Bool.eq_false_or_eq_true p1b with rfl | rfl
  · go_wp2
    go_ret
    refine ⟨_, rfl, ⟨fun h => absurd h (by decide), fun h => ?_⟩, S.bel⟩
    simp only [decide_eq_true_eq, beq_iff_eq] at h1b
    unfold Cfg.okK at h
    omega
  go_upto_region 3 with fail
  rcases Bool.eq_false_or_eq_true p2a with rfl | rfl
  · go_wp2
    go_ret
    refine ⟨_, rfl, ⟨fun h => absurd h (by decide), fun h => ?_⟩, S.bel⟩
    simp only [decide_eq_true_eq, beq_iff_eq] at h2a
    unfold Cfg.okK at h
    omega
  go_upto_region 5 with fail
  rcases Bool.eq_false_or_eq_true p3a with rfl | rfl
  · go_wp2
    go_ret
    refine ⟨_, rfl, ⟨fun h => absurd h (by decide), fun h => ?_⟩, S.bel⟩
    simp only [decide_eq_true_eq, beq_iff_eq] at h3a
    unfold Cfg.okK at h
    omega
  rcases Bool.eq_false_or_eq_true p3b with rfl | rfl
  · go_wp2
    go_ret
    refine ⟨_, rfl, ⟨fun h => absurd h (by decide), fun h => ?_⟩, S.bel⟩
    simp only [decide_eq_true_eq, beq_iff_eq] at h3b
    unfold Cfg.okK at h
    omega
  go_upto_region 7 with fail
  rcases Bool.eq_false_or_eq_true p4a with rfl | rfl
  · go_wp2
    go_ret
    refine ⟨_, rfl, ⟨fun h => absurd h (by decide), fun h => ?_⟩, S.bel⟩
    simp only [decide_eq_true_eq, beq_iff_eq] at h4a
    unfold Cfg.okK at h
    omega
  go_upto_region 9 with fail
  rcases Bool.eq_false_or_eq_true p5a with rfl | rfl
  · go_wp2
    go_ret
    refine ⟨_, rfl, ⟨fun h => absurd h (by decide), fun h => ?_⟩, S.bel⟩
    simp only [decide_eq_true_eq, beq_iff_eq] at h5a
    unfold Cfg.okK at h
    omega
  rcases Bool.eq_false_or_eq_true p5b with rfl | rfl
  · go_wp2
    go_ret
    refine ⟨_, rfl, ⟨fun h => absurd h (by decide), fun h => ?_⟩, S.bel⟩
    simp only [decide_eq_true_eq, beq_iff_eq] at h5b
    unfold Cfg.okK at h
    omega
  go_upto_region 11 with fail
  rcases Bool.eq_false_or_eq_true p6a with rfl | rfl
  · go_wp2
    go_ret
    refine ⟨_, rfl, ⟨fun h => absurd h (by decide), fun h => ?_⟩, S.bel⟩
    simp only [decide_eq_true_eq, beq_iff_eq] at h6a
    unfold Cfg.okK at h
    omega
  rcases Bool.eq_false_or_eq_true p6b with rfl | rfl
  · go_wp2
    go_ret
    refine ⟨_, rfl, ⟨fun h => absurd h (by decide), fun h => ?_⟩, S.bel⟩
    simp only [decide_eq_true_eq, beq_iff_eq] at h6b
    unfold Cfg.okK at h
    omega
  have hK : c.okK := by
    simp only [decide_eq_false_iff_not, beq_eq_false_iff_ne, ne_eq] at h1a h1b h2a h3a h3b h4a h5a h5b h6a h6b
    unfold Cfg.okK
    omega
  have KW := Lib.hid (fun w => conf_windows_any c w ⟨by unfold Cfg.okK at hK; omega, by unfold Cfg.okK at hK; omega⟩)
  unfold Cfg.val at KW
  go_upto_region 13 with fail
  go_wp2_with fail
  refine (KW.out _).mono ?_
  rintro e w2 ⟨n, rfl, hn, q⟩
  replace S := S.step q
  go_wp2
  go_ret
  exact ⟨_, rfl, hn.trans ⟨fun h => ⟨hK, h⟩, fun h => h.2⟩, S.bel⟩
/-- Numbers of their types. -/
structure Cfg.Ty (c : Cfg) : Prop where
  one : isU64 c.one
  lim : 0 ≤ c.lim
theorem Cfg.ok_iff (c : Cfg) (h : c.Ty) : c.okK ∧ c.okW ↔ c.Ok := by
  constructor
  · rintro ⟨a, b⟩
    unfold Cfg.okK at a
    unfold Cfg.okW at b
    have h1 := h.one
    have h2 := h.lim
    constructor <;> first | omega | exact ⟨h1, by omega⟩
  · intro g
    obtain ⟨g1, g2, g3, g4, g5, g6, g7, g8, g9, g10, g11, g12, g13, g14, g15, g16, g17⟩ := g
    have g2 := g2.2
    unfold Cfg.okK Cfg.okW
    omega
set_option maxHeartbeats 8000000 in
set_option maxRecDepth 100000 in
theorem conf_may_any (c : Cfg) (w : World) (h : c.Ty) :
    Calls Try.prog 9 #[c.val] w fun e w' => ∃ r : Bool, e = .returned (.bool r) ∧ (r = true ↔ c.Ok) ∧ Below w.heap.size w w' := by
  have S := Bx.one w #[.int .i64 c.bits, .int .u64 c.one, .int .i64 c.ring, .int .u64 c.lim, .int .i64 c.room, .int .u64 c.mss, .int .u64 c.ini, .int .u64 c.lea, .int .u64 c.mo, .int .i64 c.algo, .int .u64 c.fst, .int .u64 c.gr, .int .u64 c.cap, .int .u64 c.bur, .int .u64 c.slo, .int .i64 c.chal, .int .u64 c.evy] 24
  have K := Lib.hid (fun w => conf_check_any c w)
  have J := Lib.hid (c.ok_iff h)
  unfold Cfg.val at *
  go_enter Try.func9, Try.ntmps9
  go_upto_region 1 with fail
  generalize w.alloc (.cells #[.int .i64 c.bits, .int .u64 c.one, .int .i64 c.ring, .int .u64 c.lim, .int .i64 c.room, .int .u64 c.mss, .int .u64 c.ini, .int .u64 c.lea, .int .u64 c.mo, .int .i64 c.algo, .int .u64 c.fst, .int .u64 c.gr, .int .u64 c.cap, .int .u64 c.bur, .int .u64 c.slo, .int .i64 c.chal, .int .u64 c.evy] 24) = w0 at *
  have a := cells_of (S.get 0 rfl)
  go_wp2_with fail
  refine (K.out _).mono ?_
  rintro e w1 ⟨n, rfl, hn, q⟩
  replace S := S.step q
  rcases Decidable.em (n = 0) with hz | hz
  · have hz' : (n == 0) = true := by simp [hz]
    go_wp2
    go_ret
    exact ⟨_, rfl, ⟨fun _ => J.out.1 (hn.1 hz), fun _ => rfl⟩, S.bel⟩
  · have hz' : (n == 0) = false := by simp [hz]
    go_wp2
    go_ret
    exact ⟨_, rfl, ⟨fun h => absurd h (by decide), fun h => absurd (hn.2 (J.out.2 h)) hz⟩, S.bel⟩
end Go.Proofs.Ytpkbimmhimgamaa
