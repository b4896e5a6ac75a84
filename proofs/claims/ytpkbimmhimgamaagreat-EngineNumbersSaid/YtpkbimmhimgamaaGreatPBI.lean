/-
  Part of the proof of EngineNumbers.
-/
import Derived.Test.YtpkbimmhimgamaaGreatPBE
import Derived.Test.YtpkbimmhimgamaaGreatPBF
import Derived.Test.YtpkbimmhimgamaaGreatPBG
import Derived.Test.YtpkbimmhimgamaaGreatPBH
import Derived.Test.YtpkbimmhimgamaaGreatPAT
import Derived.Test.YtpkbimmhimgamaaGreatPAS
import Derived.Lib.SlBytesConst
import Derived.Test.YtpkbimmhimgamaaGreatPBC
namespace Go.Proofs.YtpkbimmhimgamaaGreat
set_option linter.unusedSimpArgs false
set_option linter.unusedVariables false
set_option linter.unnecessarySimpa false
open Go.RowKit
theorem Rd.litm (w : World) (size : Nat) (cs : Array Value) (t : TypeId) (fr : Nat × Nat) (n : Nat) (xs : List Value) (g : Nat) (hg : g = w.heap.size) (hx : cs.toList = xs) (hs : xs.length = n * size) (hn : n ≤ maxLen) :
    Rd (w.alloc (.cells cs t fr)) size (some ⟨g, 0, none⟩) n n xs := by
  subst hg
  subst hx
  refine ⟨hs, Nat.le_refl _, hn, fun _ => ⟨_, _, rfl, fun j u hu => ?_⟩⟩
  rw [cell_of_row _ w.heap.size (0 + j) cs t fr (heap_alloc_new w _)]
  simpa using hu
def eaC : Cfg := cfS [9, 0, 0, 0, 0, 0, 0, 0, 99, 0, 0, 0, 0, 50]
def ea0 : ES := ES.start eaC [1, 7, 0]
def ea1 : ES := (ea0.write [97, 98, 99]).1
def ea2 : ES := (ea1.poll 5).1
def ea3 : ES := (ea2.poll 5).1
theorem eaV1 : (ea0.write [97, 98, 99]).2 = (3, 0) := by kernel_rfl
theorem eaV2 : (ea1.poll 5).2 = (some ⟨0, 0, 0, 7, 2, [97, 98, 99]⟩, 0, 0) := by kernel_rfl
theorem eaV3 : (ea2.poll 5).2 = (none, 10, 0) := by kernel_rfl
theorem eaV4 : ea3.st = 1 ∧ ea3.l.flight = 3 ∧ ea3.l.all.length = 1 ∧ ea3.now = 5 ∧ ((ea3.q.b.length : Int) - (ea3.q.base : Int)) = 3 := ⟨by kernel_rfl, by kernel_rfl, by kernel_rfl, by kernel_rfl, by kernel_rfl⟩
theorem eaV5 : ea1.k = 0 ∧ ea1.told = 0 ∧ ea2.k = 3 ∧ ea2.told = 0 ∧ ea0.q.b.length = 0 := ⟨by kernel_rfl, by kernel_rfl, by kernel_rfl, by kernel_rfl, by kernel_rfl⟩
def zCf : Value := .agg #[.int .i64 0, .int .u64 0, .int .i64 0, .int .u64 0, .int .i64 0, .int .u64 0, .int .u64 0, .int .u64 0, .int .u64 0, .int .i64 0, .int .u64 0, .int .u64 0, .int .u64 0, .int .u64 0, .int .u64 0, .int .i64 0, .int .u64 0]
set_option maxRecDepth 100000 in
theorem conf_check0 (w : World) : Calls Tryz.prog 96 #[zCf] w fun e w' => e = .returned (.int .i64 1) ∧ Below w.heap.size w w' := by
  unfold zCf
  go_enter Tryz.func96, Tryz.ntmps96
  go_wp2
  go_ret
  exact ⟨rfl, box_below w _⟩
set_option maxRecDepth 100000 in
theorem conf_may0 (w : World) : Calls Tryz.prog 34 #[zCf] w fun e w' => e = .returned (.bool false) ∧ Below w.heap.size w w' := by
  have S := Bx.one w #[.int .i64 0, .int .u64 0, .int .i64 0, .int .u64 0, .int .i64 0, .int .u64 0, .int .u64 0, .int .u64 0, .int .u64 0, .int .i64 0, .int .u64 0, .int .u64 0, .int .u64 0, .int .u64 0, .int .u64 0, .int .i64 0, .int .u64 0] 26
  have K := Lib.hid conf_check0
  unfold zCf at *
  go_enter Tryz.func34, Tryz.ntmps34
  go_upto_region 1 with fail
  generalize w.alloc (.cells #[.int .i64 0, .int .u64 0, .int .i64 0, .int .u64 0, .int .i64 0, .int .u64 0, .int .u64 0, .int .u64 0, .int .u64 0, .int .i64 0, .int .u64 0, .int .u64 0, .int .u64 0, .int .u64 0, .int .u64 0, .int .i64 0, .int .u64 0] 26) = w0 at *
  have a := cells_of (S.get 0 rfl)
  go_wp2_with (refine wpList_load_row rfl 26 _ rfl _ rfl _ _ _ _ (S.get 0 rfl) Tryz.underlying26 rfl infoCfg ?_)
  refine (K.out _).mono ?_
  rintro e w1 ⟨rfl, q⟩
  replace S := S.step q
  clear q a
  have a := cells_of (S.get 0 rfl)
  go_wp2
  go_ret
  exact ⟨rfl, S.bel⟩
set_option maxRecDepth 100000 in
theorem eng_new0 (w : World) : Calls Tryz.prog 12 #[zCf, .slice none 0 0] w fun e w' => e = .returned (.tuple #[.pointer none, .int .i64 6]) ∧ Below w.heap.size w w' := by
  have S := Bx.one w #[.int .i64 0, .int .u64 0, .int .i64 0, .int .u64 0, .int .i64 0, .int .u64 0, .int .u64 0, .int .u64 0, .int .u64 0, .int .i64 0, .int .u64 0, .int .u64 0, .int .u64 0, .int .u64 0, .int .u64 0, .int .i64 0, .int .u64 0] 26
  have K := Lib.hid conf_may0
  unfold zCf at *
  go_enter Tryz.func12, Tryz.ntmps12
  go_upto_region 1 with fail
  generalize w.alloc (.cells #[.int .i64 0, .int .u64 0, .int .i64 0, .int .u64 0, .int .i64 0, .int .u64 0, .int .u64 0, .int .u64 0, .int .u64 0, .int .i64 0, .int .u64 0, .int .u64 0, .int .u64 0, .int .u64 0, .int .u64 0, .int .i64 0, .int .u64 0] 26) = w0 at *
  have a := cells_of (S.get 0 rfl)
  go_wp2_with (refine wpList_load_row rfl 26 _ rfl _ rfl _ _ _ _ (S.get 0 rfl) Tryz.underlying26 rfl infoCfg ?_)
  refine (K.out _).mono ?_
  rintro e w1 ⟨rfl, q⟩
  replace S := S.step q
  clear q a
  have a := cells_of (S.get 0 rfl)
  go_wp2
  go_ret2
  exact ⟨rfl, S.bel⟩
theorem EngTo.newer {W W' : World} {f : Ft} {b n : Nat} {s : ES} (h : EngTo W f b W' s) (hn : n ≤ W.heap.size) (L : ∀ j, f.tag j ≠ 0 → n ≤ j) : ∃ f', EngC W' f' b s ∧ (∀ j, f'.tag j ≠ 0 → n ≤ j) ∧ Below n W W' := by
  obtain ⟨f', c, t, d⟩ := h
  refine ⟨f', c, fun j hj => ?_, d.below hn (fun k hk e => ?_)⟩
  · rcases Nat.lt_or_ge j W.heap.size with h | h
    · rw [t j h] at hj
      exact L j hj
    · omega
  · have := L k (by have := e.1; omega)
    omega
def eaD : DatD := ⟨0, 0, 0, 7, 2, [97, 98, 99]⟩
theorem eaOk : eaD.Ok := ⟨by decide, ⟨by decide, by decide⟩, ⟨by decide, by decide⟩, ⟨by decide, by decide⟩, ⟨by decide, by decide⟩, ⟨by decide, by decide⟩, by decide⟩
theorem eaPB2 : pollB (ea2.poll 5) = [] := by
  unfold pollB
  rw [eaV3]
  rfl
theorem eaPB : pollB (ea1.poll 5) = putDatP eaD := by
  unfold pollB
  rw [eaV2]
  rfl
def alStr : Array Value := #[.int .i64 1, .int .u64 5, .int .u64 ea3.w.cw, .int .u64 ea3.w.th, .int .u64 3, .int .u64 ea3.smooth, .int .u64 ea3.timer, .int .u64 1, .int .u64 ea3.l.low, .int .u64 3, .int .u64 ea3.tr, .int .u64 ea3.g.mal, .int .u64 ea3.g.drp, .int .u64 ea3.g.tak, .int .u64 ea3.g.cha, .int .u64 ea3.g.lat]
theorem eaSt : ea3.stRow = alStr := by
  unfold ES.stRow alStr
  rw [eaV4.1, eaV4.2.1, eaV4.2.2.1, eaV4.2.2.2.1, eaV4.2.2.2.2]
  rfl
set_option maxHeartbeats 4000000 in
set_option maxRecDepth 100000 in
theorem engAlive (w : World) : Calls Tryz.prog 14 #[] w fun e w' => e = .returned (.bool true) ∧ Below w.heap.size w w' := by
  have kc := fun (w : World) (C : Array Value) (n c : Nat) => Lib.run_convert_bytes_const (P := Tryz.prog) w 36 5 C n c Tryz.underlying36 Tryz.underlying5
  go_enter Tryz.func14, Tryz.ntmps14
  go_wp2_with fail
  refine (eng_new0 w).mono ?_
  rintro e w1 ⟨rfl, q⟩
  have B1 := Lib.hid q
  clear q
  go_upto_region 2 with fail
  go_wp2_with fail
  have RL := Lib.hid (Rd.lit w1 1 #[.int .u32 9, .int .u32 0, .int .u32 0, .int .u32 0, .int .u32 0, .int .u32 0, .int .u32 0, .int .u32 0, .int .u32 99, .int .u32 0, .int .u32 0, .int .u32 0, .int .u32 0, .int .u32 50] 51 14 (U4 [9, 0, 0, 0, 0, 0, 0, 0, 99, 0, 0, 0, 0, 50]) rfl rfl (by unfold maxLen; omega))
  have E2 := Lib.hid (B1.out.trans ((box_below w1 (.cells #[.int .u32 9, .int .u32 0, .int .u32 0, .int .u32 0, .int .u32 0, .int .u32 0, .int .u32 0, .int .u32 0, .int .u32 99, .int .u32 0, .int .u32 0, .int .u32 0, .int .u32 0, .int .u32 50] 51)).mono B1.out.size))
  refine (law_conf (some ⟨w1.heap.size, 0, none⟩) 14 [9, 0, 0, 0, 0, 0, 0, 0, 99, 0, 0, 0, 0, 50] _ RL.out (by unfold isU32; decide)).mono ?_
  clear RL
  rintro e w3 ⟨rfl, q⟩
  have B3 := Lib.hid (E2.out.trans (q.mono E2.out.size))
  clear q E2 B1
  rw [show (cfS [9, 0, 0, 0, 0, 0, 0, 0, 99, 0, 0, 0, 0, 50]).val = eaC.val from rfl]
  generalize hcv : eaC.val = cv at *
  have hcv := Lib.hid hcv
  go_wp2_with fail
  have RL := Lib.hid (Rd.lit w3 1 #[.int .u64 1, .int .u64 7, .int .u64 0] 24 3 (Us [1, 7, 0]) rfl rfl (by unfold maxLen; omega))
  have q3 := (box_below w3 (.cells #[.int .u64 1, .int .u64 7, .int .u64 0] 24))
  have E3 := Lib.hid (B3.out.trans (q3.mono B3.out.size))
  have KN := Lib.hid (eng_new eaC (some ⟨w3.heap.size, 0, none⟩) 3 [1, 7, 0] _ (cfS_ok (by unfold isU32; decide)) RL.out (by decide) (by unfold isU64; decide))
  rw [hcv.out] at KN
  clear RL q3 B3
  refine KN.out.mono ?_
  rintro e w4 ⟨f, b, rfl, c4, l4, q4⟩
  have C4 := Lib.hid c4
  have L4 := Lib.hid (fun j hj => Nat.le_trans E3.out.size (l4 j hj))
  have B4 := Lib.hid (E3.out.trans (q4.mono E3.out.size))
  clear KN c4 l4 q4 E3
  go_upto_region 5 with fail
  have RL := Lib.hid (Rd.litm w4 1 #[.int .u8 97, .int .u8 98, .int .u8 99] 5 (3, 4) 3 (U8 [97, 98, 99]) w4.heap.size rfl rfl rfl (by unfold maxLen; omega))
  have q5 := (box_below w4 (.cells #[.int .u8 97, .int .u8 98, .int .u8 99] 5 (3, 4)))
  have E5 := Lib.hid (B4.out.trans (q5.mono B4.out.size))
  have KW := Lib.hid (eng_write _ f b ea0 [97, 98, 99] (some ⟨w4.heap.size, 0, none⟩) 3 (C4.out.below q5) RL.out (by decide) (by decide))
  have v1 : (ea0.write [97, 98, 99]).2.1 = 3 := congrArg Prod.fst eaV1
  have v2 : (ea0.write [97, 98, 99]).2.2 = 0 := congrArg Prod.snd eaV1
  rw [v1, v2] at KW
  clear v1 v2 RL q5
  go_wp2_with fail
  refine KW.out.mono ?_
  rintro e w5 ⟨rfl, t5⟩
  obtain ⟨f5, c5, l5, q5⟩ := t5.newer E5.out.size L4.out
  have C5 := Lib.hid c5
  have L5 := Lib.hid l5
  have B5 := Lib.hid (E5.out.trans q5)
  clear KW t5 c5 l5 q5 C4 L4 B4 E5
  have KP := Lib.hid (eng_poll w5 f5 b ea1 5 C5.out ⟨by decide, by decide⟩ (by rw [eaV5.1]; decide) (by rw [eaV5.2.1]; decide))
  go_upto_region 6 with fail
  go_wp2_with fail
  refine KP.out.mono ?_
  clear KP
  unfold PollTo
  rw [eaPB, show (ea1.poll 5).2.2.1 = 0 from congrArg (fun x => x.2.1) eaV2]
  rintro e w6 ⟨A, c, rfl, r6, t6⟩
  obtain ⟨f6, c6, l6, q6⟩ := EngTo.newer (s := ea2) t6 B5.out.size L5.out
  have C6 := Lib.hid c6
  have L6 := Lib.hid l6
  have B6 := Lib.hid (B5.out.trans q6)
  have KD := Lib.hid (head_decode w6 A c (putDatP eaD) r6.rd (putDat_u8 _ eaOk) (Nat.le_trans (putDat_len _ eaOk) (by decide)))
  clear c6 l6 q6 r6 t6 C5 L5 B5
  unfold DatVal at KD
  rw [datP_put _ eaOk] at KD
  generalize hP : (putDatP eaD).length = n at *
  clear hP
  go_upto_region 7 with fail
  go_wp2_with fail
  refine KD.out.mono ?_
  clear KD
  rintro e w7 ⟨A7, c7, rfl, r7, b7, n7⟩
  have N7 := Lib.hid n7
  have T7 := Lib.hid C6.out.lt
  clear n7
  have hs : strOfNums [97, 98, 99] = { data := #[97, 98, 99] } := by decide
  have R7 := Lib.hid r7
  have C7 := Lib.hid (C6.out.below b7)
  have B7 := Lib.hid (B6.out.trans (b7.mono B6.out.size))
  have hsz7 := b7.size
  clear r7 b7 C6 B6
  rw [show eaD.cells A7 eaD.body.length c7 = #[.int .u64 0, .int .u64 0, .int .u64 0, .int .u64 7, .int .i64 2, .slice A7 3 c7] from rfl]
  go_upto_region 8 with fail
  have q8 := box_below w7 (.cells #[.int .u64 0, .int .u64 0, .int .u64 0, .int .u64 7, .int .i64 2, .slice A7 3 c7] 85)
  have H8 := Lib.hid (heap_alloc_new w7 (.cells #[.int .u64 0, .int .u64 0, .int .u64 0, .int .u64 7, .int .i64 2, .slice A7 3 c7] 85))
  generalize hw8 : w7.alloc (.cells #[.int .u64 0, .int .u64 0, .int .u64 0, .int .u64 7, .int .i64 2, .slice A7 3 c7] 85) = w8 at *
  clear hw8
  have C8 := Lib.hid (C7.out.below q8)
  have R8 := Lib.hid (R7.out.below q8)
  have B8 := Lib.hid (B7.out.trans (q8.mono B7.out.size))
  have s7 : Hid (w6.heap.size ≤ w7.heap.size) := Lib.hid hsz7
  generalize w7.heap.size = g at *
  clear q8 C7 R7 B7
  have KP := Lib.hid (eng_poll w8 f6 b ea2 5 C8.out ⟨by decide, by decide⟩ (by rw [eaV5.2.2.1]; decide) (by rw [eaV5.2.2.2.1]; decide))
  go_wp2_with fail
  refine KP.out.mono ?_
  clear KP
  unfold PollTo
  rw [eaPB2, show (ea2.poll 5).2.2.1 = 10 from congrArg (fun x => x.2.1) eaV3]
  rintro e w9 ⟨A9, c9', rfl, r9, t9⟩
  obtain ⟨f9, c9, u9, d9⟩ := t9
  have C9 : Hid (EngC w9 f9 b ea3) := Lib.hid c9
  have nm : ∀ k, w6.heap.size ≤ k → ¬ f6.mut k := fun k hk e => by
    have := T7.out k (by have := e.1; omega)
    omega
  have H9 := Lib.hid (d9.blk H8.out (nm g s7.out))
  have R9 := Lib.hid (R8.out.chg d9 (fun k off e h0 => nm k (N7.out k off e (by decide))))
  have B9 := Lib.hid (B8.out.trans (d9.below B8.out.size (fun k hk e => by have := L6.out k (by have := e.1; omega); omega)))
  clear c9 u9 d9 r9 nm C8 H8 R8 B8 T7 N7 L6 s7
  have KS := Lib.hid (eng_state w9 f9 b ea3 C9.out)
  rw [eaSt] at KS
  go_upto_region 9 with fail
  go_wp2_with fail
  refine KS.out.mono ?_
  rintro e w10 ⟨rfl, q⟩
  have H10 := Lib.hid ((q.block _ (lt_of_block H9.out)).trans H9.out)
  have R10 := Lib.hid (R9.out.below q)
  have B10 := Lib.hid (B9.out.trans (q.mono B9.out.size))
  clear q H9 R9 B9 KS C9
  unfold alStr
  go_upto_region 10 with fail
  have q11 := box_below w10 (.cells #[.int .i64 1, .int .u64 5, .int .u64 ea3.w.cw, .int .u64 ea3.w.th, .int .u64 3, .int .u64 ea3.smooth, .int .u64 ea3.timer, .int .u64 1, .int .u64 ea3.l.low, .int .u64 3, .int .u64 ea3.tr, .int .u64 ea3.g.mal, .int .u64 ea3.g.drp, .int .u64 ea3.g.tak, .int .u64 ea3.g.cha, .int .u64 ea3.g.lat] 42)
  have H11 := Lib.hid (heap_alloc_new w10 (.cells #[.int .i64 1, .int .u64 5, .int .u64 ea3.w.cw, .int .u64 ea3.w.th, .int .u64 3, .int .u64 ea3.smooth, .int .u64 ea3.timer, .int .u64 1, .int .u64 ea3.l.low, .int .u64 3, .int .u64 ea3.tr, .int .u64 ea3.g.mal, .int .u64 ea3.g.drp, .int .u64 ea3.g.tak, .int .u64 ea3.g.cha, .int .u64 ea3.g.lat] 42))
  generalize hw11 : w10.alloc (.cells #[.int .i64 1, .int .u64 5, .int .u64 ea3.w.cw, .int .u64 ea3.w.th, .int .u64 3, .int .u64 ea3.smooth, .int .u64 ea3.timer, .int .u64 1, .int .u64 ea3.l.low, .int .u64 3, .int .u64 ea3.tr, .int .u64 ea3.g.mal, .int .u64 ea3.g.drp, .int .u64 ea3.g.tak, .int .u64 ea3.g.cha, .int .u64 ea3.g.lat] 42) = w11 at *
  clear hw11
  have B11 := Lib.hid (B10.out.trans (q11.mono B10.out.size))
  have G11 := Lib.hid ((q11.block _ (lt_of_block H10.out)).trans H10.out)
  have R11 : Rd w11 1 A7 3 c7 (U8 [97, 98, 99]) := R10.out.below q11
  have cvs : (convert 36 9 (.slice A7 3 c7)).run Tryz.prog w11 = .ok (.string { data := #[97, 98, 99] }) w11 := by
    rw [← hs]
    exact conv_row (l := [97, 98, 99]) (dst := 9) Tryz.underlying36 Tryz.underlying5 Tryz.underlying9 R11
  generalize w10.heap.size = gs at *
  have y0 := cell_of_row w11 g 0 _ _ _ G11.out
  have y4 := cell_of_row w11 g 4 _ _ _ G11.out
  have y5 := cell_of_row w11 g 5 _ _ _ G11.out
  have z0 := cell_of_row w11 gs 0 _ _ _ H11.out
  have z1 := cell_of_row w11 gs 1 _ _ _ H11.out
  have z4 := cell_of_row w11 gs 4 _ _ _ H11.out
  have z7 := cell_of_row w11 gs 7 _ _ _ H11.out
  have z9 := cell_of_row w11 gs 9 _ _ _ H11.out
  clear R11 q11 H11 G11 R10 H10 B10 hs kc hcv
  go_wp2
  go_ret
  exact ⟨rfl, B11.out⟩
end Go.Proofs.YtpkbimmhimgamaaGreat
namespace Go.Proofs.YtpkbimmhimgamaaGreat
set_option linter.unusedSimpArgs false
set_option linter.unusedVariables false
set_option linter.unnecessarySimpa false
open Go.RowKit
def NumW (w : World) (g b : Nat) (c : Cfg) (i : Nat) (now : Int) (wr : World) : Prop := ∃ f s, EngC wr f b s ∧ (∀ j, f.tag j ≠ 0 → g + 1 ≤ j) ∧ ES.NI c i now s ∧ wr.heap[g]? = some (.cells #[.int .i64 c.bits, .int .u64 c.one, .int .i64 c.ring, .int .u64 c.lim, .int .i64 c.room, .int .u64 c.mss, .int .u64 c.ini, .int .u64 c.lea, .int .u64 c.mo, .int .i64 c.algo, .int .u64 c.fst, .int .u64 c.gr, .int .u64 c.cap, .int .u64 c.bur, .int .u64 c.slo, .int .i64 c.chal, .int .u64 c.evy] 26 (0, 0)) ∧ Below w.heap.size w wr ∧ w.heap.size ≤ g
theorem fld7 (v0 v1 v2 v3 v4 v5 v6 v7 v8 v9 v10 v11 v12 v13 v14 v15 : Value) (w : World) : Sem.run Tryz.prog (Instr.field 42 (.agg #[v0, v1, v2, v3, v4, v5, v6, v7, v8, v9, v10, v11, v12, v13, v14, v15]) 7) w = .ok v7 w := by kernel_rfl
set_option maxHeartbeats 8000000 in
set_option maxRecDepth 100000 in
theorem engineNumbers_any (A A2 : Option Addr) (c1 c2 : Nat) (l ws : List Int) (lim : Int) (w : World) (hr : Rd w 1 A l.length c1 (U4 l)) (hu : ∀ x ∈ l, isU32 x) (hr2 : Rd w 1 A2 ws.length c2 (Us ws)) (hu2 : ∀ x ∈ ws, isU64 x) (hl : 0 ≤ lim ∧ lim ≤ 255) :
    Calls Tryz.prog 3 #[.slice A l.length c1, .slice A2 ws.length c2, .int .u8 lim] w fun e w' => e = .returned (.bool true) ∧ Below w.heap.size w w' := by
  have kc := fun (w : World) (C : Array Value) (n c : Nat) => Lib.run_convert_bytes_const (P := Tryz.prog) w 36 5 C n c Tryz.underlying36 Tryz.underlying5
  have t30 : lim.tmod 30 = lim % 30 := tmod_e hl.1
  have OK1 := Lib.hid (cfS_ok hu)
  have R2 := Lib.hid hr2
  have HU2 := Lib.hid hu2
  have KC := Lib.hid (law_conf A c1 l w hr hu)
  generalize cfS l = c0 at *
  have hcv : c0.val = .agg #[.int .i64 c0.bits, .int .u64 c0.one, .int .i64 c0.ring, .int .u64 c0.lim, .int .i64 c0.room, .int .u64 c0.mss, .int .u64 c0.ini, .int .u64 c0.lea, .int .u64 c0.mo, .int .i64 c0.algo, .int .u64 c0.fst, .int .u64 c0.gr, .int .u64 c0.cap, .int .u64 c0.bur, .int .u64 c0.slo, .int .i64 c0.chal, .int .u64 c0.evy] := rfl
  rw [hcv] at KC
  clear hr hr2 hu hu2 hcv hl
  go_enter Tryz.func3, Tryz.ntmps3
  go_upto_region 1 with fail
  go_wp2_with fail
  refine KC.out.mono ?_
  rintro e w1 ⟨rfl, q⟩
  have B1 := Lib.hid q
  clear q KC
  go_upto_region 2 with fail
  have q1 := box_below w1 (.cells #[.int .i64 c0.bits, .int .u64 c0.one, .int .i64 c0.ring, .int .u64 c0.lim, .int .i64 c0.room, .int .u64 c0.mss, .int .u64 c0.ini, .int .u64 c0.lea, .int .u64 c0.mo, .int .i64 c0.algo, .int .u64 c0.fst, .int .u64 c0.gr, .int .u64 c0.cap, .int .u64 c0.bur, .int .u64 c0.slo, .int .i64 c0.chal, .int .u64 c0.evy] 26)
  have H1 := Lib.hid (heap_alloc_new w1 (.cells #[.int .i64 c0.bits, .int .u64 c0.one, .int .i64 c0.ring, .int .u64 c0.lim, .int .i64 c0.room, .int .u64 c0.mss, .int .u64 c0.ini, .int .u64 c0.lea, .int .u64 c0.mo, .int .i64 c0.algo, .int .u64 c0.fst, .int .u64 c0.gr, .int .u64 c0.cap, .int .u64 c0.bur, .int .u64 c0.slo, .int .i64 c0.chal, .int .u64 c0.evy] 26))
  have E1 := Lib.hid (B1.out.trans (q1.mono B1.out.size))
  have hg := Lib.hid B1.out.size
  generalize w1.alloc (.cells #[.int .i64 c0.bits, .int .u64 c0.one, .int .i64 c0.ring, .int .u64 c0.lim, .int .i64 c0.room, .int .u64 c0.mss, .int .u64 c0.ini, .int .u64 c0.lea, .int .u64 c0.mo, .int .i64 c0.algo, .int .u64 c0.fst, .int .u64 c0.gr, .int .u64 c0.cap, .int .u64 c0.bur, .int .u64 c0.slo, .int .i64 c0.chal, .int .u64 c0.evy] 26) = w2 at *
  generalize w1.heap.size = g at *
  have y3 := cell_of_row w2 g 3 _ _ _ H1.out
  have fy3 := frozen_of_row w2 g 3 _ _ H1.out
  have HL : Hid (0 ≤ lim % 30 ∧ lim % 30 ≤ 29) := Lib.hid (by omega)
  clear q1 B1
  go_upto_region 3 with fail
  have H2 := Lib.hid (heap_setCell_same w2 g 3 _ _ (.int .u64 (lim % 30)) H1.out)
  have E2 := Lib.hid (E1.out.setCell (p := ⟨g, 3, none⟩) hg.out (.int .u64 (lim % 30)))
  generalize w2.setCell ⟨g, 3, none⟩ (.int .u64 (lim % 30)) = w3 at *
  clear y3 fy3 H1 E1 t30
  generalize lim % 30 = m at *
  obtain ⟨c, hc⟩ : ∃ c : Cfg, c = { c0 with lim := m } := ⟨_, rfl⟩
  have OK : Hid c.Ok := Lib.hid (by
    obtain ⟨k1, k2, k3, k4, k5, k6, k7, k8, k9, k10, k11, k12, k13, k14, k15, k16, k17⟩ := OK1.out
    rw [hc]
    exact ⟨k1, k2, k3, (show 0 ≤ m ∧ m ≤ 4611686018427387903 from ⟨HL.out.1, by have := HL.out.2; omega⟩), k5, k6, k7, k8, k9, k10, k11, k12, k13, k14, k15, k16, k17⟩)
  have HB : Hid (w3.heap[g]? = some (.cells #[.int .i64 c.bits, .int .u64 c.one, .int .i64 c.ring, .int .u64 c.lim, .int .i64 c.room, .int .u64 c.mss, .int .u64 c.ini, .int .u64 c.lea, .int .u64 c.mo, .int .i64 c.algo, .int .u64 c.fst, .int .u64 c.gr, .int .u64 c.cap, .int .u64 c.bur, .int .u64 c.slo, .int .i64 c.chal, .int .u64 c.evy] 26 (0, 0))) := Lib.hid (by rw [hc]; exact H2.out)
  have HM : Hid (c.lim = m) := Lib.hid (by rw [hc])
  clear hc H2 OK1
  have gz := lt_of_block HB.out
  have KS := Lib.hid (fun W (q : Below w3.heap.size w3 W) => law_short A2 c2 ws 100 W (R2.out.below (E2.out.trans (q.mono E2.out.size))) (by omega))
  have GZ := Lib.hid gz
  have KN := Lib.hid (fun W c' (r : Rd W 1 A2 (ws.take 100).length c' (Us (ws.take 100))) => eng_new c A2 c' (ws.take 100) W OK.out r (by simp; omega) (fun x hx => HU2.out x (List.mem_of_mem_take hx)))
  dsimp only [Cfg.val] at KN
  clear gz R2
  generalize ws.take 100 = wt at *
  refine wp_region_chg (fun _ => False) (by kernel_rfl) (by kernel_rfl) ?_
  repeat (refine wpMix_seg 1 _ _ rfl ?_; simp only [List.take_succ_cons, List.take_zero, List.drop_succ_cons, List.drop_zero]; (first | (refine wpQuiet_load_row rfl 26 _ rfl g rfl 26 _ (0, 0) _ (mixF_row HB.out id) rfl Tryz.underlying26 infoCfg ?_; refine wpQuiet_nil ?_; simp only [Act.put, List.setIfInBounds_toArray, List.set_cons_succ, List.set_cons_zero]) | (go_big_quiet_step (fail); refine wpQuiet_nil ?_)))
  generalize hv0 : w3.drew = v0 at *
  have B0 : Hid (Below w3.heap.size w3 v0) := Lib.hid (by rw [← hv0]; exact (Below.refl _ _).drew)
  clear hv0
  refine wpMix_bar rfl (by rfl) ?_
  go_wp2_with fail
  refine (KS.out _ B0.out).mono ?_
  rintro e v1 ⟨c', rfl, r, q⟩
  go_wp2
  refine ⟨chg_mixF (chgM (B0.out.trans (q.below.mono B0.out.size))), ?_⟩
  repeat (refine wpMix_seg 1 _ _ rfl ?_; simp only [List.take_succ_cons, List.take_zero, List.drop_succ_cons, List.drop_zero]; (first | (refine wpQuiet_load_row rfl 26 _ rfl g rfl 26 _ (0, 0) _ (mixF_row HB.out id) rfl Tryz.underlying26 infoCfg ?_; refine wpQuiet_nil ?_; simp only [Act.put, List.setIfInBounds_toArray, List.set_cons_succ, List.set_cons_zero]) | (go_big_quiet_step (fail); refine wpQuiet_nil ?_)))
  have B1 := Lib.hid (B0.out.trans (q.below.mono B0.out.size))
  have R1 := Lib.hid r
  clear r q B0 KS
  refine wpMix_bar rfl (by rfl) ?_
  go_wp2_with fail
  refine (KN.out _ _ R1.out).mono ?_
  rintro e v2 ⟨f, b, rfl, c2, l2, q⟩
  go_wp2
  refine ⟨chg_mixF (chgM (B1.out.trans (q.mono B1.out.size))), ?_⟩
  repeat (refine wpMix_seg 1 _ _ rfl ?_; simp only [List.take_succ_cons, List.take_zero, List.drop_succ_cons, List.drop_zero]; (first | (refine wpQuiet_load_row rfl 26 _ rfl g rfl 26 _ (0, 0) _ (mixF_row HB.out id) rfl Tryz.underlying26 infoCfg ?_; refine wpQuiet_nil ?_; simp only [Act.put, List.setIfInBounds_toArray, List.set_cons_succ, List.set_cons_zero]) | (go_big_quiet_step (fail); refine wpQuiet_nil ?_)))
  have C4 := Lib.hid c2
  have L4 : Hid (∀ j, f.tag j ≠ 0 → g + 1 ≤ j) := Lib.hid (fun j hj => by have h1 := l2 j hj; have h2 := B1.out.size; have h3 := GZ.out; omega)
  have B4 := Lib.hid (E2.out.trans ((B1.out.trans (q.mono B1.out.size)).mono E2.out.size))
  have H4 := Lib.hid (((B1.out.trans (q.mono B1.out.size)).block _ GZ.out).trans HB.out)
  clear c2 l2 q KN R1 B1 E2 HB
  refine wpMix_nil ?_
  go_upto_region 4 with fail
  go_wp2_with fail
  refine (engAlive v2).mono ?_
  rintro e w5 ⟨rfl, q⟩
  have N5 : Hid (NumW w g b c 0 0 w5) := Lib.hid ⟨f, _, C4.out.below q, L4.out, ES.ni_start OK.out wt, (q.block _ (lt_of_block H4.out)).trans H4.out, B4.out.trans (q.mono B4.out.size), hg.out⟩
  clear q C4 L4 B4 H4 GZ hg
  go_wp2
  go_loopw [10, 11] (fun nv iv wr => ∃ (i : Nat) (now : Int), i ≤ 200 ∧ nv = .int .u64 now ∧ iv = .int .i64 i ∧ Hid (NumW w g b c i now wr)) (fun _ iv _ => 200 - (intOf iv).toNat)
  case atStart => exact ⟨0, 0, by omega, rfl, rfl, N5⟩
  case round =>
    obtain ⟨i, now, hi, rfl, rfl, HN⟩ := hrel
    obtain ⟨f1, s, c1, l1, n1, h1, b1, g1⟩ := HN.out
    by_cases hlt : i < 200
    · have d0 : decide ((i : Int) < 200) = true := decide_eq_true (by omega)
      have CR := Lib.hid c1
      have LR := Lib.hid l1
      have NN := Lib.hid n1
      have HR := Lib.hid h1
      have BR := Lib.hid b1
      have G1 := Lib.hid g1
      clear c1 l1 n1 h1 b1 g1 HN N5
      have RL := Lib.hid (Rd.litm wr 1 #[.int .u8 97, .int .u8 98, .int .u8 99, .int .u8 100, .int .u8 101, .int .u8 102, .int .u8 103, .int .u8 104] 5 (8, 9) 8 (U8 [97, 98, 99, 100, 101, 102, 103, 104]) wr.heap.size rfl rfl rfl (by unfold maxLen; omega))
      have q1 := box_below wr (.cells #[.int .u8 97, .int .u8 98, .int .u8 99, .int .u8 100, .int .u8 101, .int .u8 102, .int .u8 103, .int .u8 104] 5 (8, 9))
      have KW := Lib.hid (eng_write _ f1 b s [97, 98, 99, 100, 101, 102, 103, 104] (some ⟨wr.heap.size, 0, none⟩) 8 (CR.out.below q1) RL.out (by decide) (by have := NN.out.b; simp; omega))
      have B2 := Lib.hid (BR.out.trans (q1.mono BR.out.size))
      have H2 := Lib.hid ((q1.block _ (lt_of_block HR.out)).trans HR.out)
      have sz2 := Lib.hid (Nat.succ_le_of_lt (lt_of_block H2.out))
      clear q1 RL BR
      go_wp2_with fail
      refine KW.out.mono ?_
      rintro e w2 ⟨rfl, t2⟩
      obtain ⟨f2, c2', l2, q2⟩ := t2.newer (n := g + 1) sz2.out LR.out
      have C2 := Lib.hid c2'
      have L2 := Lib.hid l2
      have H3 := Lib.hid ((q2.block _ (by omega)).trans H2.out)
      have B3 := Lib.hid (B2.out.trans (q2.mono (by have := G1.out; omega)))
      have u64n : Hid (isU64 now) := Lib.hid ⟨NN.out.n0, by have h1 := NN.out.n1; omega⟩
      have W2 := Lib.hid (ES.ni_write NN.out CR.out.q.good [97, 98, 99, 100, 101, 102, 103, 104] rfl)
      have KP := Lib.hid (eng_poll w2 f2 b _ now c2' u64n.out (by rw [W2.out.2.2.2.2.2.2.1]; have := NN.out.k; omega) (by rw [W2.out.2.2.2.2.2.2.2.1]; decide))
      have CASES := ES.ni_sent NN.out CR.out.q.good [97, 98, 99, 100, 101, 102, 103, 104] rfl c2'.good c2'.l.good c2'.q.good c2'.q.few
      have sz3 := Lib.hid (Nat.succ_le_of_lt (lt_of_block H3.out))
      clear KW t2 c2' l2 q2 sz2 H2 B2 CR LR HR
      generalize hs1 : (s.write [97, 98, 99, 100, 101, 102, 103, 104]).1 = s1 at *
      unfold PollTo at KP
      go_upto_region 11 with fail
      rcases CASES with ⟨p1, p2, p3⟩ | ⟨p1, p2⟩ | ⟨p1, p2, p3⟩
      · rw [p1] at KP
        obtain ⟨s2, hs2⟩ : ∃ s2 : ES, s2 = { s1.tick now with st := 3 } := ⟨_, rfl⟩
        rw [p2, ← hs2] at KP
        have ov : (s2.tick now).over := .inl (by rw [hs2]; rfl)
        have hR := Lib.hid (poll_over s2 now ov)
        have hst : (s2.tick now).st = 3 := by rw [hs2]; rfl
        have hall : ((s2.tick now).l.all.length : Int) = c.lim + 1 := by
          have h1 := C2.out.l.good.len
          have h2 := C2.out.good.lim
          rw [W2.out.2.2.2.2.2.1] at h2
          have h3 : (s2.tick now).l = s1.l := by rw [hs2]; rfl
          rw [h3]
          unfold ES.next at p3
          omega
        have hk2 : s2.k + 3 < 1000000000 := by
          have h3 : s2.k = s1.k := by rw [hs2]; rfl
          rw [h3, W2.out.2.2.2.2.2.2.1]
          have := NN.out.k
          omega
        have ht2 : s2.told + 1 ≤ 1000000000 := by
          have h3 : s2.told = s1.told := by rw [hs2]; rfl
          rw [h3, W2.out.2.2.2.2.2.2.2.1]
          decide
        have pb0 : pollB (s2.tick now, none, 9, 0) = [] := by unfold pollB; exact if_neg (show ¬ (9 : Int) = 0 by decide)
        have HH := Lib.hid (And.intro hst (And.intro hall (And.intro hk2 (And.intro ht2 pb0))))
        clear p1 p2 p3 hs2 ov hst hall hk2 ht2 pb0
        go_wp2_with fail
        refine KP.out.mono ?_
        rintro e w3 ⟨A3, cc3, rfl, r3, t3⟩
        obtain ⟨f3, c3, l3, q3⟩ := t3.newer (n := g + 1) sz3.out L2.out
        have L3 := Lib.hid l3
        have H4 := Lib.hid ((q3.block _ (by omega)).trans H3.out)
        have B4 := Lib.hid (B3.out.trans (q3.mono (by have := G1.out; omega)))
        have KP2 := Lib.hid (eng_poll w3 f3 b s2 now c3 u64n.out HH.out.2.2.1 HH.out.2.2.2.1)
        have sz4 := Lib.hid (Nat.succ_le_of_lt (lt_of_block H4.out))
        clear KP r3 t3 c3 l3 q3 C2 L2 H3 B3 sz3
        unfold PollTo at KP2
        rw [hR.out, HH.out.2.2.2.2] at KP2
        go_upto_region 13 with fail
        go_wp2_with fail
        refine KP2.out.mono ?_
        rintro e w4 ⟨A4, cc4, rfl, r4, t4⟩
        obtain ⟨f4, c4, l4, q4⟩ := EngTo.newer (s := s2.tick now) t4 (n := g + 1) sz4.out L3.out
        have H5 := Lib.hid ((q4.block _ (by omega)).trans H4.out)
        have B5 := Lib.hid (B4.out.trans (q4.mono (by have := G1.out; omega)))
        have KS := Lib.hid (eng_state w4 f4 b _ c4)
        dsimp only [ES.stRow] at KS
        rw [HH.out.1, HH.out.2.1] at KS
        clear KP2 r4 t4 c4 l4 q4 L3 H4 B4 sz4
        go_upto_region 14 with fail
        go_wp2_with fail
        refine KS.out.mono ?_
        rintro e w5 ⟨rfl, q5⟩
        have y3 : w5.cell? ⟨g, 3, none⟩ = some (.int .u64 c.lim) := cell_of_row _ _ 3 _ _ _ ((q5.block _ (lt_of_block H5.out)).trans H5.out)
        have gz5 : g < w5.heap.size := Nat.lt_of_lt_of_le (lt_of_block H5.out) q5.size
        have B6 := Lib.hid (B5.out.trans (q5.mono B5.out.size))
        have hw1 : IntKind.u64.wrap (c.lim + 1) = c.lim + 1 := IntWalk.u64_in _ (by have := HM.out; have := HL.out; omega)
        clear q5 KS H5 B5
        go_wp2
        go_ret
        exact ⟨rfl, B6.out.trans ((box_below _ _).mono B6.out.size)⟩
      · rw [p1] at KP
        have NX := Lib.hid p2
        clear p1 p2
        go_wp2_with fail
        refine KP.out.mono ?_
        rintro e w3 ⟨A3, cc3, rfl, r3, t3⟩
        obtain ⟨f3, c3, l3, q3⟩ := t3.newer (n := g + 1) sz3.out L2.out
        have CX := Lib.hid c3
        have LX := Lib.hid l3
        have HX := Lib.hid ((q3.block _ (by omega)).trans H3.out)
        have BX := Lib.hid (B3.out.trans (q3.mono (by have := G1.out; omega)))
        clear KP r3 t3 c3 l3 q3 C2 L2 H3 B3 sz3
        generalize (s1.poll now).1 = s3 at *
        have KS := Lib.hid (fun u => eng_state _ f3 b s3 (CX.out.mix u))
        dsimp only [ES.stRow] at KS
        have m3 : ∀ u, (Go.Proofs.YtpkbimmhimgamaaGreat.mix w3 u).cell? ⟨g, 3, none⟩ = some (.int .u64 c.lim) := mixc (cell_of_row _ _ 3 _ _ _ HX.out)
        have F7 := fld7
        have hw1 : IntKind.u64.wrap (c.lim + 1) = c.lim + 1 := IntWalk.u64_in _ (by have := HM.out; have := HL.out; omega)
        have hgr : decide (c.lim + 1 < (s3.l.all.length : Int)) = false := decide_eq_false (by have h1 := CX.out.l.good.len; have h2 := CX.out.good.lim; rw [NX.out.c] at h2; omega)
        generalize (s3.l.all.length : Int) = al at *
        go_upto_region 19 with fail
        refine wp_region_below (by kernel_rfl) (by kernel_rfl) ?_
        repeat (first | go_big_quiet_step ((go_at_call 17; with_reducible exact Calls.mix_of (KS.out _))) | quiet_step ((go_at_call 17; with_reducible exact Calls.mix_of (KS.out _))))
        refine wpQuiet_nil ?_
        intro w9 q
        have N9 : Hid (NumW w g b c (i + 1) now w9) := Lib.hid ⟨f3, _, CX.out.below q, LX.out, NX.out, (q.block _ (lt_of_block HX.out)).trans HX.out, BX.out.trans (q.mono BX.out.size), G1.out⟩
        clear q KS m3 F7 hw1 CX LX NX HX BX
        go_wp2
        go_roundw
        case rel => exact ⟨i + 1, now, by omega, rfl, by go_num, N9⟩
        case measure => simp [intOf]; omega
      · obtain ⟨er, her⟩ : ∃ er, (s1.poll now).2.2.1 = er := ⟨_, rfl⟩
        rw [her] at KP p1 p2
        have x1 : (er == 8) = false := by simp [p2]
        have x2 : (er != 0) = true := by simp [p1]
        have P3 := Lib.hid p3
        clear p1 p2 p3 her
        go_wp2_with fail
        refine KP.out.mono ?_
        rintro e w3 ⟨A3, cc3, rfl, r3, t3⟩
        obtain ⟨f3, c3, l3, q3⟩ := t3.newer (n := g + 1) sz3.out L2.out
        have C3 := Lib.hid c3
        have L3 := Lib.hid l3
        have H4 := Lib.hid ((q3.block _ (by omega)).trans H3.out)
        have B4 := Lib.hid (B3.out.trans (q3.mono (by have := G1.out; omega)))
        clear KP r3 t3 c3 l3 q3 C2 L2 H3 B3 sz3
        have y12 := cell_of_row w3 g 12 _ _ _ H4.out
        have y5 := cell_of_row w3 g 5 _ _ _ H4.out
        have y14 := cell_of_row w3 g 14 _ _ _ H4.out
        have hc1 := OK.out.cap
        have hc2 := OK.out.mss
        have hc3 := OK.out.slo
        have hc4 := OK.out.gr
        have hq0 : 0 ≤ c.mss * 1000000 / c.slo := Int.ediv_nonneg (by omega) (by omega)
        have hq1 : c.mss * 1000000 / c.slo ≤ c.mss * 1000000 := Int.ediv_le_self _ (by omega)
        have hnn := u64n.out
        have hn2 := NN.out.n1
        have td : (c.mss * 1000000).tdiv c.slo = c.mss * 1000000 / c.slo := tdiv_e (by omega)
        have k1 : IntKind.u64.wrap (now + c.cap) = now + c.cap := IntWalk.u64_in _ (by have := hnn.1; omega)
        have k2 : IntKind.u64.wrap (now + c.cap + 1) = now + c.cap + 1 := IntWalk.u64_in _ (by have := hnn.1; omega)
        have k3 : IntKind.u64.wrap (c.mss * 1000000) = c.mss * 1000000 := IntWalk.u64_in _ (by omega)
        have k4 : IntKind.u64.wrap (c.mss * 1000000 / c.slo) = c.mss * 1000000 / c.slo := IntWalk.u64_in _ (by omega)
        have k5 : IntKind.u64.wrap (now + c.cap + 1 + c.mss * 1000000 / c.slo) = now + c.cap + 1 + c.mss * 1000000 / c.slo := IntWalk.u64_in _ (by have := hnn.1; omega)
        have ks : (c.slo == 0) = false := by simp; omega
        have ks2 : c.slo ≠ 0 := by omega
        have UN : Hid (isU64 (now + c.cap + 1 + c.mss * 1000000 / c.slo)) := Lib.hid ⟨by have := hnn.1; omega, by omega⟩
        clear hc1 hc2 hc3 hc4 hq0 hq1 hnn hn2
        go_upto_region 17 with fail
        refine wp_region_qt (by kernel_rfl) (by kernel_rfl) ?_
        repeat (go_big_quiet_step (fail))
        refine wpQuiet_nil ?_
        intro w4 q
        have C4 := Lib.hid (C3.out.below q.below)
        have H5 := Lib.hid ((q.below.block _ (lt_of_block H4.out)).trans H4.out)
        have B5 := Lib.hid (B4.out.trans (q.below.mono B4.out.size))
        clear q C3 H4 B4 y12 y5 y14 td k1 k2 k3 k4 k5 ks ks2 x1 x2
        have PX := Lib.hid (P3.out C4.out.good C4.out.l.good C4.out.q.good _ rfl hlt)
        generalize hnow2 : now + c.cap + 1 + c.mss * 1000000 / c.slo = now2 at *
        generalize (s1.poll now).1 = s3 at *
        have KT := Lib.hid (eng_onTick w4 f3 b s3 now2 C4.out UN.out)
        have sz4 := Lib.hid (Nat.succ_le_of_lt (lt_of_block H5.out))
        go_upto_region 18 with fail
        go_wp2_with fail
        refine KT.out.mono ?_
        rintro e w5 ⟨rfl, t5⟩
        obtain ⟨f5, c5, l5, q5⟩ := t5.newer (n := g + 1) sz4.out L3.out
        have CX := Lib.hid c5
        have LX := Lib.hid l5
        have NX := Lib.hid PX.out
        have HX := Lib.hid ((q5.block _ (by omega)).trans H5.out)
        have BX := Lib.hid (B5.out.trans (q5.mono (by have := G1.out; omega)))
        clear KT t5 c5 l5 q5 C4 L3 H5 B5 sz4 PX P3
        generalize s3.onTick now2 = s5 at *
        have KS := Lib.hid (fun u => eng_state _ f5 b s5 (CX.out.mix u))
        dsimp only [ES.stRow] at KS
        have m3 : ∀ u, (Go.Proofs.YtpkbimmhimgamaaGreat.mix w5 u).cell? ⟨g, 3, none⟩ = some (.int .u64 c.lim) := mixc (cell_of_row _ _ 3 _ _ _ HX.out)
        have F7 := fld7
        have hw1 : IntKind.u64.wrap (c.lim + 1) = c.lim + 1 := IntWalk.u64_in _ (by have := HM.out; have := HL.out; omega)
        have hgr : decide (c.lim + 1 < (s5.l.all.length : Int)) = false := decide_eq_false (by have h1 := CX.out.l.good.len; have h2 := CX.out.good.lim; rw [NX.out.c] at h2; omega)
        generalize (s5.l.all.length : Int) = al at *
        go_upto_region 19 with fail
        refine wp_region_below (by kernel_rfl) (by kernel_rfl) ?_
        repeat (first | go_big_quiet_step ((go_at_call 17; with_reducible exact Calls.mix_of (KS.out _))) | quiet_step ((go_at_call 17; with_reducible exact Calls.mix_of (KS.out _))))
        refine wpQuiet_nil ?_
        intro w9 q
        have N9 : Hid (NumW w g b c (i + 1) now2 w9) := Lib.hid ⟨f5, _, CX.out.below q, LX.out, NX.out, (q.block _ (lt_of_block HX.out)).trans HX.out, BX.out.trans (q.mono BX.out.size), G1.out⟩
        clear q KS m3 F7 hw1 CX LX NX HX BX
        go_wp2
        go_roundw
        case rel => exact ⟨i + 1, now2, by omega, rfl, by go_num, N9⟩
        case measure => simp [intOf]; omega
    · exfalso
      have e1 := n1.it
      have e2 := c1.l.good.len
      have e3 := c1.good.lim
      have e4 := n1.c
      have e5 := HM.out
      have e6 := HL.out.2
      rw [e4] at e3
      unfold ES.next at e1
      omega
end Go.Proofs.YtpkbimmhimgamaaGreat
