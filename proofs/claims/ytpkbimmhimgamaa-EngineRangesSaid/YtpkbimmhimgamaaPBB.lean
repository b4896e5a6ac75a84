/-
  Part of the proof of EngineRanges.
-/
import Derived.Test.YtpkbimmhimgamaaPAM
import Derived.Test.YtpkbimmhimgamaaPBA
namespace Go.Proofs.Ytpkbimmhimgamaa
set_option linter.unusedSimpArgs false
set_option linter.unusedVariables false
set_option linter.unnecessarySimpa false
open Go.RowKit
section
variable {P : Program} {ops : Array Oper} {C : World → Prop} {K : Act → Prop} {o : Oper} {rest : List Oper} {a : Act}
/-- An operation under a guard that is a letter: its value where the guard lets it come. -/
theorem wpQuiet_maybe (b k : Bool) (v : Value) (hw : Region.wanted o (yielded ops a.tmps) = (some b == some k)) (hv : b = k → wpQuiet P ops C (fun a' => a' = a.put o.dst v) [o] a)
    (h : ∀ x, (b = k → x = v) → wpQuiet P ops C K rest (a.put o.dst x)) : wpQuiet P ops C K (o :: rest) a := by
  unfold wpQuiet
  by_cases e : b = k
  · have hw' : Region.wanted o (yielded ops a.tmps) = true := by rw [hw, e]; simp
    have q := hv e
    simp only [wpQuiet, hw', if_true] at q ⊢
    exact Oper.quiet_mono (fun a' e' => by subst e'; exact h v (fun _ => rfl)) q
  · have hw' : Region.wanted o (yielded ops a.tmps) = false := by rw [hw]; simpa using e
    simp only [hw', Bool.false_eq_true, if_false]
    exact h undef (fun e' => absurd e' e)
theorem wpQuiet_pick {c x y : Operand} (b : Bool) (v : Value) (ho : o.op = .pick c x y) (hg : o.guard = none) (hc : a.eval c = .bool b) (hx : b = true → a.eval x = v) (hy : b = false → a.eval y = v)
    (h : wpQuiet P ops C K rest (a.put o.dst v)) : wpQuiet P ops C K (o :: rest) a := by
  unfold wpQuiet
  rw [if_pos (by simp [Region.wanted, hg])]
  refine ⟨v, fun w hw => ?_, h⟩
  unfold Oper.quietAt execOp
  simp only [ho, hc, asBool, Sem.run_bind, Sem.run_pure, Result.andThen_ok]
  cases b
  · rw [hy rfl]
    exact ⟨rfl, rfl⟩
  · rw [hx rfl]
    exact ⟨rfl, rfl⟩
end
theorem may_ok {c : Cfg} (h : c.Ty) {p1a p1b p2a p3a p3b p4a p5a p5b p6a p6b p7a p7b p8a p9a p9b p10a p10b p11a p11b p12a p12b p13a p13b p14a p14b p15a p15b p16a p16b p17a p17b : Bool} (h1a : decide (1 ≤ c.bits) = p1a) (h1b : decide (c.bits ≤ 64) = p1b) (h2a : (c.one != 1) = p2a) (h3a : decide (4 ≤ c.ring) = p3a) (h3b : decide (c.ring ≤ 256) = p3b) (h4a : decide (c.lim ≤ 4611686018427387903) = p4a) (h5a : decide (1 ≤ c.room) = p5a) (h5b : decide (c.room ≤ 65536) = p5b) (h6a : decide (1 ≤ c.mss) = p6a) (h6b : decide (c.mss ≤ 1500) = p6b) (h7a : decide (c.lea ≤ c.ini) = p7a) (h7b : decide (c.ini ≤ c.mo) = p7b) (h8a : decide (mulS 2 c.mss ≤ c.lea) = p8a) (h9a : decide (c.lea ≤ c.mo) = p9a) (h9b : decide (c.mo ≤ 1073741824) = p9b) (h10a : (c.algo == 1) = p10a) (h10b : (c.algo == 2) = p10b) (h11a : decide (1 ≤ c.fst) = p11a) (h11b : decide (c.fst ≤ 1099511627776) = p11b) (h12a : decide (1 ≤ c.gr) = p12a) (h12b : decide (c.gr ≤ 1099511627776) = p12b) (h13a : decide (c.gr ≤ c.cap) = p13a) (h13b : decide (c.cap ≤ 1099511627776) = p13b) (h14a : decide (c.mss ≤ c.bur) = p14a) (h14b : decide (c.bur ≤ 1073741824) = p14b) (h15a : decide (1 ≤ c.slo) = p15a) (h15b : decide (c.slo ≤ 4294967296) = p15b) (h16a : decide (0 ≤ c.chal) = p16a) (h16b : decide (c.chal ≤ 64) = p16b) (h17a : decide (1 ≤ c.evy) = p17a) (h17b : decide (c.evy ≤ 1099511627776) = p17b) :
    (∀ j, j < 17 → [p1a && p1b, p2a, p3a && p3b, p4a, p5a && p5b, p6a && p6b, p7a && p7b, p8a, p9a && p9b, p10a || p10b, p11a && p11b, p12a && p12b, p13a && p13b, p14a && p14b, p15a && p15b, p16a && p16b, p17a && p17b][j]? = some true) ↔ c.Ok := by
  have h1 := h.one
  have h2 := h.lim
  constructor
  · intro g
    have g0 := g 0 (by omega)
    have g1 := g 1 (by omega)
    have g2 := g 2 (by omega)
    have g3 := g 3 (by omega)
    have g4 := g 4 (by omega)
    have g5 := g 5 (by omega)
    have g6 := g 6 (by omega)
    have g7 := g 7 (by omega)
    have g8 := g 8 (by omega)
    have g9 := g 9 (by omega)
    have g10 := g 10 (by omega)
    have g11 := g 11 (by omega)
    have g12 := g 12 (by omega)
    have g13 := g 13 (by omega)
    have g14 := g 14 (by omega)
    have g15 := g 15 (by omega)
    have g16 := g 16 (by omega)
    clear g
    simp only [List.getElem?_cons_zero, List.getElem?_cons_succ, Option.some.injEq, Bool.and_eq_true, Bool.or_eq_true] at g0 g1 g2 g3 g4 g5 g6 g7 g8 g9 g10 g11 g12 g13 g14 g15 g16
    rw [← h8a] at g7
    simp only [decide_eq_true_eq] at g7
    unfold mulS at g7
    clear h8a
    subst h1a
    subst h1b
    subst h2a
    subst h3a
    subst h3b
    subst h4a
    subst h5a
    subst h5b
    subst h6a
    subst h6b
    subst h7a
    subst h7b
    subst h9a
    subst h9b
    subst h10a
    subst h10b
    subst h11a
    subst h11b
    subst h12a
    subst h12b
    subst h13a
    subst h13b
    subst h14a
    subst h14b
    subst h15a
    subst h15b
    subst h16a
    subst h16b
    subst h17a
    subst h17b
    simp only [decide_eq_true_eq, bne_iff_ne, beq_iff_eq, ne_eq] at g0 g1 g2 g3 g4 g5 g6 g8 g9 g10 g11 g12 g13 g14 g15 g16
    constructor <;> first | omega | exact ⟨h1, g1⟩
  · intro g j hj
    have f := g.factsR
    have m := g.more
    rw [m.2.2.2.2.1] at h8a
    have a := g.algo
    simp only [h1a, h1b, h2a, h3a, h3b, h4a, h5a, h5b, h6a, h6b, h7a, h7b, h8a, h9a, h9b, h11a, h11b, h12a, h12b, h13a, h13b, h14a, h14b, h15a, h15b, h16a, h16b, h17a, h17b] at f
    have f2 := h2a.symm.trans m.2.1
    obtain ⟨f100, f101, f102, f103, f104, f105, f106, f107, f108, f109, f110, f111, f112, f113, f114, f115, f116, f117, f118, f119, f120, f121, f122, f123, f124, f125, f126, f127⟩ := f
    have fa : (p10a || p10b) = true := by
      rw [← h10a, ← h10b]
      simpa using a
    rw [fa]
    subst_vars
    rcases (by omega : j = 0 ∨ j = 1 ∨ j = 2 ∨ j = 3 ∨ j = 4 ∨ j = 5 ∨ j = 6 ∨ j = 7 ∨ j = 8 ∨ j = 9 ∨ j = 10 ∨ j = 11 ∨ j = 12 ∨ j = 13 ∨ j = 14 ∨ j = 15 ∨ j = 16) with rfl | rfl | rfl | rfl | rfl | rfl | rfl | rfl | rfl | rfl | rfl | rfl | rfl | rfl | rfl | rfl | rfl <;> simp [*]
set_option maxHeartbeats 40000000 in
set_option maxRecDepth 100000 in
theorem ref_check_any (c : Cfg) (w : World) (h : c.Ty) (hm : isU64 c.mss) :
    Calls Try.prog 6 #[c.val] w fun e w' => ∃ n : Int, e = .returned (.int .i64 n) ∧ (n = 0 ↔ c.Ok) ∧ Below w.heap.size w w' := by
  obtain ⟨C, hC, cs⟩ : ∃ C : Array Value, c.val = .agg C ∧ (C[0]? = some (.int .i64 c.bits) ∧ C[1]? = some (.int .u64 c.one) ∧ C[2]? = some (.int .i64 c.ring) ∧ C[3]? = some (.int .u64 c.lim) ∧ C[4]? = some (.int .i64 c.room) ∧ C[5]? = some (.int .u64 c.mss) ∧ C[6]? = some (.int .u64 c.ini) ∧ C[7]? = some (.int .u64 c.lea) ∧ C[8]? = some (.int .u64 c.mo) ∧ C[9]? = some (.int .i64 c.algo) ∧ C[10]? = some (.int .u64 c.fst) ∧ C[11]? = some (.int .u64 c.gr) ∧ C[12]? = some (.int .u64 c.cap) ∧ C[13]? = some (.int .u64 c.bur) ∧ C[14]? = some (.int .u64 c.slo) ∧ C[15]? = some (.int .i64 c.chal) ∧ C[16]? = some (.int .u64 c.evy)) := ⟨_, rfl, rfl, rfl, rfl, rfl, rfl, rfl, rfl, rfl, rfl, rfl, rfl, rfl, rfl, rfl, rfl, rfl, rfl⟩
  rw [hC]
  have S := Bx.one w C 24
  have K := Lib.hid (fun w => ref_mul 2 c.mss w is2 hm)
  have HT := Lib.hid h
  clear h hm hC
  obtain ⟨p1a, h1a⟩ : ∃ p, decide (1 ≤ c.bits) = p := ⟨_, rfl⟩
  obtain ⟨p1b, h1b⟩ : ∃ p, decide (c.bits ≤ 64) = p := ⟨_, rfl⟩
  obtain ⟨p2a, h2a⟩ : ∃ p, (c.one != 1) = p := ⟨_, rfl⟩
  obtain ⟨p3a, h3a⟩ : ∃ p, decide (4 ≤ c.ring) = p := ⟨_, rfl⟩
  obtain ⟨p3b, h3b⟩ : ∃ p, decide (c.ring ≤ 256) = p := ⟨_, rfl⟩
  obtain ⟨p4a, h4a⟩ : ∃ p, decide (c.lim ≤ 4611686018427387903) = p := ⟨_, rfl⟩
  obtain ⟨p5a, h5a⟩ : ∃ p, decide (1 ≤ c.room) = p := ⟨_, rfl⟩
  obtain ⟨p5b, h5b⟩ : ∃ p, decide (c.room ≤ 65536) = p := ⟨_, rfl⟩
  obtain ⟨p6a, h6a⟩ : ∃ p, decide (1 ≤ c.mss) = p := ⟨_, rfl⟩
  obtain ⟨p6b, h6b⟩ : ∃ p, decide (c.mss ≤ 1500) = p := ⟨_, rfl⟩
  obtain ⟨p7a, h7a⟩ : ∃ p, decide (c.lea ≤ c.ini) = p := ⟨_, rfl⟩
  obtain ⟨p7b, h7b⟩ : ∃ p, decide (c.ini ≤ c.mo) = p := ⟨_, rfl⟩
  obtain ⟨p8a, h8a⟩ : ∃ p, decide (mulS 2 c.mss ≤ c.lea) = p := ⟨_, rfl⟩
  obtain ⟨p9a, h9a⟩ : ∃ p, decide (c.lea ≤ c.mo) = p := ⟨_, rfl⟩
  obtain ⟨p9b, h9b⟩ : ∃ p, decide (c.mo ≤ 1073741824) = p := ⟨_, rfl⟩
  obtain ⟨p10a, h10a⟩ : ∃ p, (c.algo == 1) = p := ⟨_, rfl⟩
  obtain ⟨p10b, h10b⟩ : ∃ p, (c.algo == 2) = p := ⟨_, rfl⟩
  obtain ⟨p11a, h11a⟩ : ∃ p, decide (1 ≤ c.fst) = p := ⟨_, rfl⟩
  obtain ⟨p11b, h11b⟩ : ∃ p, decide (c.fst ≤ 1099511627776) = p := ⟨_, rfl⟩
  obtain ⟨p12a, h12a⟩ : ∃ p, decide (1 ≤ c.gr) = p := ⟨_, rfl⟩
  obtain ⟨p12b, h12b⟩ : ∃ p, decide (c.gr ≤ 1099511627776) = p := ⟨_, rfl⟩
  obtain ⟨p13a, h13a⟩ : ∃ p, decide (c.gr ≤ c.cap) = p := ⟨_, rfl⟩
  obtain ⟨p13b, h13b⟩ : ∃ p, decide (c.cap ≤ 1099511627776) = p := ⟨_, rfl⟩
  obtain ⟨p14a, h14a⟩ : ∃ p, decide (c.mss ≤ c.bur) = p := ⟨_, rfl⟩
  obtain ⟨p14b, h14b⟩ : ∃ p, decide (c.bur ≤ 1073741824) = p := ⟨_, rfl⟩
  obtain ⟨p15a, h15a⟩ : ∃ p, decide (1 ≤ c.slo) = p := ⟨_, rfl⟩
  obtain ⟨p15b, h15b⟩ : ∃ p, decide (c.slo ≤ 4294967296) = p := ⟨_, rfl⟩
  obtain ⟨p16a, h16a⟩ : ∃ p, decide (0 ≤ c.chal) = p := ⟨_, rfl⟩
  obtain ⟨p16b, h16b⟩ : ∃ p, decide (c.chal ≤ 64) = p := ⟨_, rfl⟩
  obtain ⟨p17a, h17a⟩ : ∃ p, decide (1 ≤ c.evy) = p := ⟨_, rfl⟩
  obtain ⟨p17b, h17b⟩ : ∃ p, decide (c.evy ≤ 1099511627776) = p := ⟨_, rfl⟩
  go_enter Try.func6, Try.ntmps6
  go_upto_region 1 with fail
  generalize w.alloc (.cells C 24) = w0 at *
  have a := cells_of (S.get 0 rfl)
  have af := cells_ofF (fun _ => False) (S.get 0 rfl) id
  go_cut [3] (fun s3 wx => ∃ g, s3 = .pointer (some ⟨g, 0, none⟩) ∧ Hid (wx.heap[g]? = some (.cells #[.bool (p1a && p1b), .bool (p2a), .bool (p3a && p3b), .bool (p4a), .bool (p5a && p5b), .bool (p6a && p6b), .bool (p7a && p7b), .bool (p8a), .bool (p9a && p9b), .bool (p10a || p10b), .bool (p11a && p11b), .bool (p12a && p12b), .bool (p13a && p13b), .bool (p14a && p14b), .bool (p15a && p15b), .bool (p16a && p16b), .bool (p17a && p17b)] 78 (0, 0)) ∧ Below w.heap.size w wx))
  case first =>
    simp only [List.append_eq, List.cons_append, List.nil_append]
    refine wp_region_float 135 _ (by kernel_rfl) (by rfl) (by kernel_rfl) (C := fun w' => ∃ u, w' = mixF (fun _ => False) w0 u) (chg_mixF (Chg.refl _ _).drew) ?_
    iterate 4 (refine wpFl_seg rfl ?_; go_big_quiet_step (fail); refine wpQuiet_nil ?_)
    refine wpFl_seg rfl ?_
    refine wpQuiet_maybe p1a true (.pointer (some ⟨w.heap.size, 0, none⟩)) rfl ?_ ?_
    · intro hb
      subst hb
      go_big_quiet_step (fail)
      refine wpQuiet_nil ?_
      rfl
    intro x9 y9
    simp only [Act.put, List.setIfInBounds_toArray, List.set_cons_succ, List.set_cons_zero]
    refine wpQuiet_nil ?_
    refine wpFl_seg rfl ?_
    refine wpQuiet_maybe p1a true (.int .i64 c.bits) rfl ?_ ?_
    · intro hb
      subst hb
      obtain rfl := y9 rfl
      go_big_quiet_step (fail)
      refine wpQuiet_nil ?_
      rfl
    intro x10 y10
    simp only [Act.put, List.setIfInBounds_toArray, List.set_cons_succ, List.set_cons_zero]
    refine wpQuiet_nil ?_
    refine wpFl_seg rfl ?_
    refine wpQuiet_maybe p1a true (.bool p1b) rfl ?_ ?_
    · intro hb
      subst hb
      obtain rfl := y10 rfl
      go_big_quiet_step (fail)
      refine wpQuiet_nil ?_
      rfl
    intro x11 y11
    simp only [Act.put, List.setIfInBounds_toArray, List.set_cons_succ, List.set_cons_zero]
    refine wpQuiet_nil ?_
    refine wpFl_seg rfl ?_
    refine wpQuiet_pick p1a (.bool (p1a && p1b)) rfl rfl rfl (fun hb => ?_) (fun hb => ?_) ?_
    · subst hb
      obtain rfl := y11 rfl
      rfl
    · subst hb
      rfl
    simp only [Act.put, List.setIfInBounds_toArray, List.set_cons_succ, List.set_cons_zero]
    refine wpQuiet_nil ?_
    iterate 7 (refine wpFl_seg rfl ?_; go_big_quiet_step (fail); refine wpQuiet_nil ?_)
    refine wpFl_seg rfl ?_
    refine wpQuiet_maybe p3a true (.pointer (some ⟨w.heap.size, 2, none⟩)) rfl ?_ ?_
    · intro hb
      subst hb
      go_big_quiet_step (fail)
      refine wpQuiet_nil ?_
      rfl
    intro x20 y20
    simp only [Act.put, List.setIfInBounds_toArray, List.set_cons_succ, List.set_cons_zero]
    refine wpQuiet_nil ?_
    refine wpFl_seg rfl ?_
    refine wpQuiet_maybe p3a true (.int .i64 c.ring) rfl ?_ ?_
    · intro hb
      subst hb
      obtain rfl := y20 rfl
      go_big_quiet_step (fail)
      refine wpQuiet_nil ?_
      rfl
    intro x21 y21
    simp only [Act.put, List.setIfInBounds_toArray, List.set_cons_succ, List.set_cons_zero]
    refine wpQuiet_nil ?_
    refine wpFl_seg rfl ?_
    refine wpQuiet_maybe p3a true (.bool p3b) rfl ?_ ?_
    · intro hb
      subst hb
      obtain rfl := y21 rfl
      go_big_quiet_step (fail)
      refine wpQuiet_nil ?_
      rfl
    intro x22 y22
    simp only [Act.put, List.setIfInBounds_toArray, List.set_cons_succ, List.set_cons_zero]
    refine wpQuiet_nil ?_
    refine wpFl_seg rfl ?_
    refine wpQuiet_pick p3a (.bool (p3a && p3b)) rfl rfl rfl (fun hb => ?_) (fun hb => ?_) ?_
    · subst hb
      obtain rfl := y22 rfl
      rfl
    · subst hb
      rfl
    simp only [Act.put, List.setIfInBounds_toArray, List.set_cons_succ, List.set_cons_zero]
    refine wpQuiet_nil ?_
    iterate 7 (refine wpFl_seg rfl ?_; go_big_quiet_step (fail); refine wpQuiet_nil ?_)
    refine wpFl_seg rfl ?_
    refine wpQuiet_maybe p5a true (.pointer (some ⟨w.heap.size, 4, none⟩)) rfl ?_ ?_
    · intro hb
      subst hb
      go_big_quiet_step (fail)
      refine wpQuiet_nil ?_
      rfl
    intro x31 y31
    simp only [Act.put, List.setIfInBounds_toArray, List.set_cons_succ, List.set_cons_zero]
    refine wpQuiet_nil ?_
    refine wpFl_seg rfl ?_
    refine wpQuiet_maybe p5a true (.int .i64 c.room) rfl ?_ ?_
    · intro hb
      subst hb
      obtain rfl := y31 rfl
      go_big_quiet_step (fail)
      refine wpQuiet_nil ?_
      rfl
    intro x32 y32
    simp only [Act.put, List.setIfInBounds_toArray, List.set_cons_succ, List.set_cons_zero]
    refine wpQuiet_nil ?_
    refine wpFl_seg rfl ?_
    refine wpQuiet_maybe p5a true (.bool p5b) rfl ?_ ?_
    · intro hb
      subst hb
      obtain rfl := y32 rfl
      go_big_quiet_step (fail)
      refine wpQuiet_nil ?_
      rfl
    intro x33 y33
    simp only [Act.put, List.setIfInBounds_toArray, List.set_cons_succ, List.set_cons_zero]
    refine wpQuiet_nil ?_
    refine wpFl_seg rfl ?_
    refine wpQuiet_pick p5a (.bool (p5a && p5b)) rfl rfl rfl (fun hb => ?_) (fun hb => ?_) ?_
    · subst hb
      obtain rfl := y33 rfl
      rfl
    · subst hb
      rfl
    simp only [Act.put, List.setIfInBounds_toArray, List.set_cons_succ, List.set_cons_zero]
    refine wpQuiet_nil ?_
    iterate 4 (refine wpFl_seg rfl ?_; go_big_quiet_step (fail); refine wpQuiet_nil ?_)
    refine wpFl_seg rfl ?_
    refine wpQuiet_maybe p6a true (.pointer (some ⟨w.heap.size, 5, none⟩)) rfl ?_ ?_
    · intro hb
      subst hb
      go_big_quiet_step (fail)
      refine wpQuiet_nil ?_
      rfl
    intro x39 y39
    simp only [Act.put, List.setIfInBounds_toArray, List.set_cons_succ, List.set_cons_zero]
    refine wpQuiet_nil ?_
    refine wpFl_seg rfl ?_
    refine wpQuiet_maybe p6a true (.int .u64 c.mss) rfl ?_ ?_
    · intro hb
      subst hb
      obtain rfl := y39 rfl
      go_big_quiet_step (fail)
      refine wpQuiet_nil ?_
      rfl
    intro x40 y40
    simp only [Act.put, List.setIfInBounds_toArray, List.set_cons_succ, List.set_cons_zero]
    refine wpQuiet_nil ?_
    refine wpFl_seg rfl ?_
    refine wpQuiet_maybe p6a true (.bool p6b) rfl ?_ ?_
    · intro hb
      subst hb
      obtain rfl := y40 rfl
      go_big_quiet_step (fail)
      refine wpQuiet_nil ?_
      rfl
    intro x41 y41
    simp only [Act.put, List.setIfInBounds_toArray, List.set_cons_succ, List.set_cons_zero]
    refine wpQuiet_nil ?_
    refine wpFl_seg rfl ?_
    refine wpQuiet_pick p6a (.bool (p6a && p6b)) rfl rfl rfl (fun hb => ?_) (fun hb => ?_) ?_
    · subst hb
      obtain rfl := y41 rfl
      rfl
    · subst hb
      rfl
    simp only [Act.put, List.setIfInBounds_toArray, List.set_cons_succ, List.set_cons_zero]
    refine wpQuiet_nil ?_
    iterate 6 (refine wpFl_seg rfl ?_; go_big_quiet_step (fail); refine wpQuiet_nil ?_)
    refine wpFl_seg rfl ?_
    refine wpQuiet_maybe p7a true (.pointer (some ⟨w.heap.size, 6, none⟩)) rfl ?_ ?_
    · intro hb
      subst hb
      go_big_quiet_step (fail)
      refine wpQuiet_nil ?_
      rfl
    intro x49 y49
    simp only [Act.put, List.setIfInBounds_toArray, List.set_cons_succ, List.set_cons_zero]
    refine wpQuiet_nil ?_
    refine wpFl_seg rfl ?_
    refine wpQuiet_maybe p7a true (.int .u64 c.ini) rfl ?_ ?_
    · intro hb
      subst hb
      obtain rfl := y49 rfl
      go_big_quiet_step (fail)
      refine wpQuiet_nil ?_
      rfl
    intro x50 y50
    simp only [Act.put, List.setIfInBounds_toArray, List.set_cons_succ, List.set_cons_zero]
    refine wpQuiet_nil ?_
    refine wpFl_seg rfl ?_
    refine wpQuiet_maybe p7a true (.pointer (some ⟨w.heap.size, 8, none⟩)) rfl ?_ ?_
    · intro hb
      subst hb
      go_big_quiet_step (fail)
      refine wpQuiet_nil ?_
      rfl
    intro x51 y51
    simp only [Act.put, List.setIfInBounds_toArray, List.set_cons_succ, List.set_cons_zero]
    refine wpQuiet_nil ?_
    refine wpFl_seg rfl ?_
    refine wpQuiet_maybe p7a true (.int .u64 c.mo) rfl ?_ ?_
    · intro hb
      subst hb
      obtain rfl := y51 rfl
      go_big_quiet_step (fail)
      refine wpQuiet_nil ?_
      rfl
    intro x52 y52
    simp only [Act.put, List.setIfInBounds_toArray, List.set_cons_succ, List.set_cons_zero]
    refine wpQuiet_nil ?_
    refine wpFl_seg rfl ?_
    refine wpQuiet_maybe p7a true (.bool p7b) rfl ?_ ?_
    · intro hb
      subst hb
      obtain rfl := y50 rfl
      obtain rfl := y52 rfl
      go_big_quiet_step (fail)
      refine wpQuiet_nil ?_
      rfl
    intro x53 y53
    simp only [Act.put, List.setIfInBounds_toArray, List.set_cons_succ, List.set_cons_zero]
    refine wpQuiet_nil ?_
    refine wpFl_seg rfl ?_
    refine wpQuiet_pick p7a (.bool (p7a && p7b)) rfl rfl rfl (fun hb => ?_) (fun hb => ?_) ?_
    · subst hb
      obtain rfl := y53 rfl
      rfl
    · subst hb
      rfl
    simp only [Act.put, List.setIfInBounds_toArray, List.set_cons_succ, List.set_cons_zero]
    refine wpQuiet_nil ?_
    iterate 4 (refine wpFl_seg rfl ?_; go_big_quiet_step (fail); refine wpQuiet_nil ?_)
    refine wpFl_bar rfl rfl rfl ?_ ?_
    · go_wp2_with fail
      refine (K.out _).mono ?_
      rintro e w1 ⟨rfl, q⟩
      have S0 := (Bx.nil (((Below.refl _ _).drew).trans q.below : Below w0.heap.size w0 w1)).alloc #[.bool false, .bool false, .bool false, .bool false, .bool false, .bool false, .bool false, .bool false, .bool false, .bool false, .bool false, .bool false, .bool false, .bool false, .bool false, .bool false, .bool false] 78
      have c1 := Lib.hid (chg_mixF (chg_below S0.bel (F := fun _ => False)))
      have c2 := chg_mixF (chg_below ((((Below.refl _ _).drew).trans q.below : Below w0.heap.size w0 w1)) (F := fun _ => False))
      clear q
      go_wp2
      refine ⟨c2, ?_⟩
      clear c2
      iterate 7 (refine wpFl_seg rfl ?_; go_big_quiet_step (fail); refine wpQuiet_nil ?_)
      refine wpFl_seg rfl ?_
      refine wpQuiet_maybe p9a true (.pointer (some ⟨w.heap.size, 8, none⟩)) rfl ?_ ?_
      · intro hb
        subst hb
        go_big_quiet_step (fail)
        refine wpQuiet_nil ?_
        rfl
      intro x67 y67
      simp only [Act.put, List.setIfInBounds_toArray, List.set_cons_succ, List.set_cons_zero]
      refine wpQuiet_nil ?_
      refine wpFl_seg rfl ?_
      refine wpQuiet_maybe p9a true (.int .u64 c.mo) rfl ?_ ?_
      · intro hb
        subst hb
        obtain rfl := y67 rfl
        go_big_quiet_step (fail)
        refine wpQuiet_nil ?_
        rfl
      intro x68 y68
      simp only [Act.put, List.setIfInBounds_toArray, List.set_cons_succ, List.set_cons_zero]
      refine wpQuiet_nil ?_
      refine wpFl_seg rfl ?_
      refine wpQuiet_maybe p9a true (.bool p9b) rfl ?_ ?_
      · intro hb
        subst hb
        obtain rfl := y68 rfl
        go_big_quiet_step (fail)
        refine wpQuiet_nil ?_
        rfl
      intro x69 y69
      simp only [Act.put, List.setIfInBounds_toArray, List.set_cons_succ, List.set_cons_zero]
      refine wpQuiet_nil ?_
      refine wpFl_seg rfl ?_
      refine wpQuiet_pick p9a (.bool (p9a && p9b)) rfl rfl rfl (fun hb => ?_) (fun hb => ?_) ?_
      · subst hb
        obtain rfl := y69 rfl
        rfl
      · subst hb
        rfl
      simp only [Act.put, List.setIfInBounds_toArray, List.set_cons_succ, List.set_cons_zero]
      refine wpQuiet_nil ?_
      iterate 4 (refine wpFl_seg rfl ?_; go_big_quiet_step (fail); refine wpQuiet_nil ?_)
      refine wpFl_seg rfl ?_
      refine wpQuiet_maybe p10a false (.pointer (some ⟨w.heap.size, 9, none⟩)) rfl ?_ ?_
      · intro hb
        subst hb
        go_big_quiet_step (fail)
        refine wpQuiet_nil ?_
        rfl
      intro x75 y75
      simp only [Act.put, List.setIfInBounds_toArray, List.set_cons_succ, List.set_cons_zero]
      refine wpQuiet_nil ?_
      refine wpFl_seg rfl ?_
      refine wpQuiet_maybe p10a false (.int .i64 c.algo) rfl ?_ ?_
      · intro hb
        subst hb
        obtain rfl := y75 rfl
        go_big_quiet_step (fail)
        refine wpQuiet_nil ?_
        rfl
      intro x76 y76
      simp only [Act.put, List.setIfInBounds_toArray, List.set_cons_succ, List.set_cons_zero]
      refine wpQuiet_nil ?_
      refine wpFl_seg rfl ?_
      refine wpQuiet_maybe p10a false (.bool p10b) rfl ?_ ?_
      · intro hb
        subst hb
        obtain rfl := y76 rfl
        go_big_quiet_step (fail)
        refine wpQuiet_nil ?_
        rfl
      intro x77 y77
      simp only [Act.put, List.setIfInBounds_toArray, List.set_cons_succ, List.set_cons_zero]
      refine wpQuiet_nil ?_
      refine wpFl_seg rfl ?_
      refine wpQuiet_pick p10a (.bool (p10a || p10b)) rfl rfl rfl (fun hb => ?_) (fun hb => ?_) ?_
      · subst hb
        rfl
      · subst hb
        obtain rfl := y77 rfl
        rfl
      simp only [Act.put, List.setIfInBounds_toArray, List.set_cons_succ, List.set_cons_zero]
      refine wpQuiet_nil ?_
      iterate 4 (refine wpFl_seg rfl ?_; go_big_quiet_step (fail); refine wpQuiet_nil ?_)
      refine wpFl_seg rfl ?_
      refine wpQuiet_maybe p11a true (.pointer (some ⟨w.heap.size, 10, none⟩)) rfl ?_ ?_
      · intro hb
        subst hb
        go_big_quiet_step (fail)
        refine wpQuiet_nil ?_
        rfl
      intro x83 y83
      simp only [Act.put, List.setIfInBounds_toArray, List.set_cons_succ, List.set_cons_zero]
      refine wpQuiet_nil ?_
      refine wpFl_seg rfl ?_
      refine wpQuiet_maybe p11a true (.int .u64 c.fst) rfl ?_ ?_
      · intro hb
        subst hb
        obtain rfl := y83 rfl
        go_big_quiet_step (fail)
        refine wpQuiet_nil ?_
        rfl
      intro x84 y84
      simp only [Act.put, List.setIfInBounds_toArray, List.set_cons_succ, List.set_cons_zero]
      refine wpQuiet_nil ?_
      refine wpFl_seg rfl ?_
      refine wpQuiet_maybe p11a true (.bool p11b) rfl ?_ ?_
      · intro hb
        subst hb
        obtain rfl := y84 rfl
        go_big_quiet_step (fail)
        refine wpQuiet_nil ?_
        rfl
      intro x85 y85
      simp only [Act.put, List.setIfInBounds_toArray, List.set_cons_succ, List.set_cons_zero]
      refine wpQuiet_nil ?_
      refine wpFl_seg rfl ?_
      refine wpQuiet_pick p11a (.bool (p11a && p11b)) rfl rfl rfl (fun hb => ?_) (fun hb => ?_) ?_
      · subst hb
        obtain rfl := y85 rfl
        rfl
      · subst hb
        rfl
      simp only [Act.put, List.setIfInBounds_toArray, List.set_cons_succ, List.set_cons_zero]
      refine wpQuiet_nil ?_
      iterate 4 (refine wpFl_seg rfl ?_; go_big_quiet_step (fail); refine wpQuiet_nil ?_)
      refine wpFl_seg rfl ?_
      refine wpQuiet_maybe p12a true (.pointer (some ⟨w.heap.size, 11, none⟩)) rfl ?_ ?_
      · intro hb
        subst hb
        go_big_quiet_step (fail)
        refine wpQuiet_nil ?_
        rfl
      intro x91 y91
      simp only [Act.put, List.setIfInBounds_toArray, List.set_cons_succ, List.set_cons_zero]
      refine wpQuiet_nil ?_
      refine wpFl_seg rfl ?_
      refine wpQuiet_maybe p12a true (.int .u64 c.gr) rfl ?_ ?_
      · intro hb
        subst hb
        obtain rfl := y91 rfl
        go_big_quiet_step (fail)
        refine wpQuiet_nil ?_
        rfl
      intro x92 y92
      simp only [Act.put, List.setIfInBounds_toArray, List.set_cons_succ, List.set_cons_zero]
      refine wpQuiet_nil ?_
      refine wpFl_seg rfl ?_
      refine wpQuiet_maybe p12a true (.bool p12b) rfl ?_ ?_
      · intro hb
        subst hb
        obtain rfl := y92 rfl
        go_big_quiet_step (fail)
        refine wpQuiet_nil ?_
        rfl
      intro x93 y93
      simp only [Act.put, List.setIfInBounds_toArray, List.set_cons_succ, List.set_cons_zero]
      refine wpQuiet_nil ?_
      refine wpFl_seg rfl ?_
      refine wpQuiet_pick p12a (.bool (p12a && p12b)) rfl rfl rfl (fun hb => ?_) (fun hb => ?_) ?_
      · subst hb
        obtain rfl := y93 rfl
        rfl
      · subst hb
        rfl
      simp only [Act.put, List.setIfInBounds_toArray, List.set_cons_succ, List.set_cons_zero]
      refine wpQuiet_nil ?_
      iterate 6 (refine wpFl_seg rfl ?_; go_big_quiet_step (fail); refine wpQuiet_nil ?_)
      refine wpFl_seg rfl ?_
      refine wpQuiet_maybe p13a true (.pointer (some ⟨w.heap.size, 12, none⟩)) rfl ?_ ?_
      · intro hb
        subst hb
        go_big_quiet_step (fail)
        refine wpQuiet_nil ?_
        rfl
      intro x101 y101
      simp only [Act.put, List.setIfInBounds_toArray, List.set_cons_succ, List.set_cons_zero]
      refine wpQuiet_nil ?_
      refine wpFl_seg rfl ?_
      refine wpQuiet_maybe p13a true (.int .u64 c.cap) rfl ?_ ?_
      · intro hb
        subst hb
        obtain rfl := y101 rfl
        go_big_quiet_step (fail)
        refine wpQuiet_nil ?_
        rfl
      intro x102 y102
      simp only [Act.put, List.setIfInBounds_toArray, List.set_cons_succ, List.set_cons_zero]
      refine wpQuiet_nil ?_
      refine wpFl_seg rfl ?_
      refine wpQuiet_maybe p13a true (.bool p13b) rfl ?_ ?_
      · intro hb
        subst hb
        obtain rfl := y102 rfl
        go_big_quiet_step (fail)
        refine wpQuiet_nil ?_
        rfl
      intro x103 y103
      simp only [Act.put, List.setIfInBounds_toArray, List.set_cons_succ, List.set_cons_zero]
      refine wpQuiet_nil ?_
      refine wpFl_seg rfl ?_
      refine wpQuiet_pick p13a (.bool (p13a && p13b)) rfl rfl rfl (fun hb => ?_) (fun hb => ?_) ?_
      · subst hb
        obtain rfl := y103 rfl
        rfl
      · subst hb
        rfl
      simp only [Act.put, List.setIfInBounds_toArray, List.set_cons_succ, List.set_cons_zero]
      refine wpQuiet_nil ?_
      iterate 6 (refine wpFl_seg rfl ?_; go_big_quiet_step (fail); refine wpQuiet_nil ?_)
      refine wpFl_seg rfl ?_
      refine wpQuiet_maybe p14a true (.pointer (some ⟨w.heap.size, 13, none⟩)) rfl ?_ ?_
      · intro hb
        subst hb
        go_big_quiet_step (fail)
        refine wpQuiet_nil ?_
        rfl
      intro x111 y111
      simp only [Act.put, List.setIfInBounds_toArray, List.set_cons_succ, List.set_cons_zero]
      refine wpQuiet_nil ?_
      refine wpFl_seg rfl ?_
      refine wpQuiet_maybe p14a true (.int .u64 c.bur) rfl ?_ ?_
      · intro hb
        subst hb
        obtain rfl := y111 rfl
        go_big_quiet_step (fail)
        refine wpQuiet_nil ?_
        rfl
      intro x112 y112
      simp only [Act.put, List.setIfInBounds_toArray, List.set_cons_succ, List.set_cons_zero]
      refine wpQuiet_nil ?_
      refine wpFl_seg rfl ?_
      refine wpQuiet_maybe p14a true (.bool p14b) rfl ?_ ?_
      · intro hb
        subst hb
        obtain rfl := y112 rfl
        go_big_quiet_step (fail)
        refine wpQuiet_nil ?_
        rfl
      intro x113 y113
      simp only [Act.put, List.setIfInBounds_toArray, List.set_cons_succ, List.set_cons_zero]
      refine wpQuiet_nil ?_
      refine wpFl_seg rfl ?_
      refine wpQuiet_pick p14a (.bool (p14a && p14b)) rfl rfl rfl (fun hb => ?_) (fun hb => ?_) ?_
      · subst hb
        obtain rfl := y113 rfl
        rfl
      · subst hb
        rfl
      simp only [Act.put, List.setIfInBounds_toArray, List.set_cons_succ, List.set_cons_zero]
      refine wpQuiet_nil ?_
      iterate 4 (refine wpFl_seg rfl ?_; go_big_quiet_step (fail); refine wpQuiet_nil ?_)
      refine wpFl_seg rfl ?_
      refine wpQuiet_maybe p15a true (.pointer (some ⟨w.heap.size, 14, none⟩)) rfl ?_ ?_
      · intro hb
        subst hb
        go_big_quiet_step (fail)
        refine wpQuiet_nil ?_
        rfl
      intro x119 y119
      simp only [Act.put, List.setIfInBounds_toArray, List.set_cons_succ, List.set_cons_zero]
      refine wpQuiet_nil ?_
      refine wpFl_seg rfl ?_
      refine wpQuiet_maybe p15a true (.int .u64 c.slo) rfl ?_ ?_
      · intro hb
        subst hb
        obtain rfl := y119 rfl
        go_big_quiet_step (fail)
        refine wpQuiet_nil ?_
        rfl
      intro x120 y120
      simp only [Act.put, List.setIfInBounds_toArray, List.set_cons_succ, List.set_cons_zero]
      refine wpQuiet_nil ?_
      refine wpFl_seg rfl ?_
      refine wpQuiet_maybe p15a true (.bool p15b) rfl ?_ ?_
      · intro hb
        subst hb
        obtain rfl := y120 rfl
        go_big_quiet_step (fail)
        refine wpQuiet_nil ?_
        rfl
      intro x121 y121
      simp only [Act.put, List.setIfInBounds_toArray, List.set_cons_succ, List.set_cons_zero]
      refine wpQuiet_nil ?_
      refine wpFl_seg rfl ?_
      refine wpQuiet_pick p15a (.bool (p15a && p15b)) rfl rfl rfl (fun hb => ?_) (fun hb => ?_) ?_
      · subst hb
        obtain rfl := y121 rfl
        rfl
      · subst hb
        rfl
      simp only [Act.put, List.setIfInBounds_toArray, List.set_cons_succ, List.set_cons_zero]
      refine wpQuiet_nil ?_
      iterate 4 (refine wpFl_seg rfl ?_; go_big_quiet_step (fail); refine wpQuiet_nil ?_)
      refine wpFl_seg rfl ?_
      refine wpQuiet_maybe p16a true (.pointer (some ⟨w.heap.size, 15, none⟩)) rfl ?_ ?_
      · intro hb
        subst hb
        go_big_quiet_step (fail)
        refine wpQuiet_nil ?_
        rfl
      intro x127 y127
      simp only [Act.put, List.setIfInBounds_toArray, List.set_cons_succ, List.set_cons_zero]
      refine wpQuiet_nil ?_
      refine wpFl_seg rfl ?_
      refine wpQuiet_maybe p16a true (.int .i64 c.chal) rfl ?_ ?_
      · intro hb
        subst hb
        obtain rfl := y127 rfl
        go_big_quiet_step (fail)
        refine wpQuiet_nil ?_
        rfl
      intro x128 y128
      simp only [Act.put, List.setIfInBounds_toArray, List.set_cons_succ, List.set_cons_zero]
      refine wpQuiet_nil ?_
      refine wpFl_seg rfl ?_
      refine wpQuiet_maybe p16a true (.bool p16b) rfl ?_ ?_
      · intro hb
        subst hb
        obtain rfl := y128 rfl
        go_big_quiet_step (fail)
        refine wpQuiet_nil ?_
        rfl
      intro x129 y129
      simp only [Act.put, List.setIfInBounds_toArray, List.set_cons_succ, List.set_cons_zero]
      refine wpQuiet_nil ?_
      refine wpFl_seg rfl ?_
      refine wpQuiet_pick p16a (.bool (p16a && p16b)) rfl rfl rfl (fun hb => ?_) (fun hb => ?_) ?_
      · subst hb
        obtain rfl := y129 rfl
        rfl
      · subst hb
        rfl
      simp only [Act.put, List.setIfInBounds_toArray, List.set_cons_succ, List.set_cons_zero]
      refine wpQuiet_nil ?_
      iterate 4 (refine wpFl_seg rfl ?_; go_big_quiet_step (fail); refine wpQuiet_nil ?_)
      refine wpFl_seg rfl ?_
      refine wpQuiet_maybe p17a true (.pointer (some ⟨w.heap.size, 16, none⟩)) rfl ?_ ?_
      · intro hb
        subst hb
        go_big_quiet_step (fail)
        refine wpQuiet_nil ?_
        rfl
      intro x135 y135
      simp only [Act.put, List.setIfInBounds_toArray, List.set_cons_succ, List.set_cons_zero]
      refine wpQuiet_nil ?_
      refine wpFl_seg rfl ?_
      refine wpQuiet_maybe p17a true (.int .u64 c.evy) rfl ?_ ?_
      · intro hb
        subst hb
        obtain rfl := y135 rfl
        go_big_quiet_step (fail)
        refine wpQuiet_nil ?_
        rfl
      intro x136 y136
      simp only [Act.put, List.setIfInBounds_toArray, List.set_cons_succ, List.set_cons_zero]
      refine wpQuiet_nil ?_
      refine wpFl_seg rfl ?_
      refine wpQuiet_maybe p17a true (.bool p17b) rfl ?_ ?_
      · intro hb
        subst hb
        obtain rfl := y136 rfl
        go_big_quiet_step (fail)
        refine wpQuiet_nil ?_
        rfl
      intro x137 y137
      simp only [Act.put, List.setIfInBounds_toArray, List.set_cons_succ, List.set_cons_zero]
      refine wpQuiet_nil ?_
      refine wpFl_seg rfl ?_
      refine wpQuiet_pick p17a (.bool (p17a && p17b)) rfl rfl rfl (fun hb => ?_) (fun hb => ?_) ?_
      · subst hb
        obtain rfl := y137 rfl
        rfl
      · subst hb
        rfl
      simp only [Act.put, List.setIfInBounds_toArray, List.set_cons_succ, List.set_cons_zero]
      refine wpQuiet_nil ?_
      iterate 1 (refine wpFl_seg rfl ?_; go_big_quiet_step (fail); refine wpQuiet_nil ?_)
      refine wpFl_zero ?_
      refine wpMix_bar rfl (by rfl) ?_
      go_wp2
      refine ⟨c1.out, ?_⟩
      generalize w1.alloc (.cells #[.bool false, .bool false, .bool false, .bool false, .bool false, .bool false, .bool false, .bool false, .bool false, .bool false, .bool false, .bool false, .bool false, .bool false, .bool false, .bool false, .bool false] 78) = w2 at *
      have b := cells_of (S0.get 0 rfl)
      refine wpMix_bar rfl (by rfl) ?_
      replace S0 := S0.fill 0 0 [.bool (p1a && p1b), .bool (p2a), .bool (p3a && p3b), .bool (p4a), .bool (p5a && p5b), .bool (p6a && p6b), .bool (p7a && p7b), .bool (p8a), .bool (p9a && p9b), .bool (p10a || p10b), .bool (p11a && p11b), .bool (p12a && p12b), .bool (p13a && p13b), .bool (p14a && p14b), .bool (p15a && p15b), .bool (p16a && p16b), .bool (p17a && p17b)] rfl
      simp only [putAll, setAll, Nat.reduceAdd, List.setIfInBounds_toArray, List.set_cons_succ, List.set_cons_zero] at S0
      have hc0 := Lib.hid (chg_mixF (chg_below S0.bel (F := fun _ => False)))
      have hm := Lib.hid (And.intro (S0.get 0 rfl) (S.bel.trans (S0.bel.mono S.bel.size)))
      clear S0 c1
      go_wp2
      refine ⟨hc0.out, ?_⟩
      refine wpMix_nil ?_
      go_wp2_with fail
      go_meet
      exact ⟨_, rfl, hm⟩
    · have S0 := ((Bx.nil (Below.refl w0.heap.size w0)).alloc #[.bool false, .bool false, .bool false, .bool false, .bool false, .bool false, .bool false, .bool false, .bool false, .bool false, .bool false, .bool false, .bool false, .bool false, .bool false, .bool false, .bool false] 78).step ((Below.refl _ _).drew)
      have c1 := Lib.hid (chg_mixF (chg_below S0.bel (F := fun _ => False)))
      go_wp2
      refine ⟨c1.out, ?_⟩
      clear c1
      generalize (w0.alloc (.cells #[.bool false, .bool false, .bool false, .bool false, .bool false, .bool false, .bool false, .bool false, .bool false, .bool false, .bool false, .bool false, .bool false, .bool false, .bool false, .bool false, .bool false] 78)).drew = w2 at *
      simp only [List.eraseIdx_cons_succ, List.eraseIdx_cons_zero]
      refine wpMix_bar rfl (by rfl) ?_
      go_wp2_with fail
      refine (K.out _).mono ?_
      rintro e w3 ⟨rfl, q⟩
      replace S0 := S0.stepQ q
      clear q
      have c1 := Lib.hid (chg_mixF (chg_below S0.bel (F := fun _ => False)))
      go_wp2
      refine ⟨c1.out, ?_⟩
      iterate 7 (refine wpMix_seg 1 _ _ rfl ?_; simp only [List.take_succ_cons, List.take_zero, List.drop_succ_cons, List.drop_zero]; go_big_quiet_step (fail); refine wpQuiet_nil ?_)
      refine wpMix_seg 1 _ _ rfl ?_
      simp only [List.take_succ_cons, List.take_zero, List.drop_succ_cons, List.drop_zero]
      refine wpQuiet_maybe p9a true (.pointer (some ⟨w.heap.size, 8, none⟩)) rfl ?_ ?_
      · intro hb
        subst hb
        go_big_quiet_step (fail)
        refine wpQuiet_nil ?_
        rfl
      intro x67 y67
      simp only [Act.put, List.setIfInBounds_toArray, List.set_cons_succ, List.set_cons_zero]
      refine wpQuiet_nil ?_
      refine wpMix_seg 1 _ _ rfl ?_
      simp only [List.take_succ_cons, List.take_zero, List.drop_succ_cons, List.drop_zero]
      refine wpQuiet_maybe p9a true (.int .u64 c.mo) rfl ?_ ?_
      · intro hb
        subst hb
        obtain rfl := y67 rfl
        go_big_quiet_step (fail)
        refine wpQuiet_nil ?_
        rfl
      intro x68 y68
      simp only [Act.put, List.setIfInBounds_toArray, List.set_cons_succ, List.set_cons_zero]
      refine wpQuiet_nil ?_
      refine wpMix_seg 1 _ _ rfl ?_
      simp only [List.take_succ_cons, List.take_zero, List.drop_succ_cons, List.drop_zero]
      refine wpQuiet_maybe p9a true (.bool p9b) rfl ?_ ?_
      · intro hb
        subst hb
        obtain rfl := y68 rfl
        go_big_quiet_step (fail)
        refine wpQuiet_nil ?_
        rfl
      intro x69 y69
      simp only [Act.put, List.setIfInBounds_toArray, List.set_cons_succ, List.set_cons_zero]
      refine wpQuiet_nil ?_
      refine wpMix_seg 1 _ _ rfl ?_
      simp only [List.take_succ_cons, List.take_zero, List.drop_succ_cons, List.drop_zero]
      refine wpQuiet_pick p9a (.bool (p9a && p9b)) rfl rfl rfl (fun hb => ?_) (fun hb => ?_) ?_
      · subst hb
        obtain rfl := y69 rfl
        rfl
      · subst hb
        rfl
      simp only [Act.put, List.setIfInBounds_toArray, List.set_cons_succ, List.set_cons_zero]
      refine wpQuiet_nil ?_
      iterate 4 (refine wpMix_seg 1 _ _ rfl ?_; simp only [List.take_succ_cons, List.take_zero, List.drop_succ_cons, List.drop_zero]; go_big_quiet_step (fail); refine wpQuiet_nil ?_)
      refine wpMix_seg 1 _ _ rfl ?_
      simp only [List.take_succ_cons, List.take_zero, List.drop_succ_cons, List.drop_zero]
      refine wpQuiet_maybe p10a false (.pointer (some ⟨w.heap.size, 9, none⟩)) rfl ?_ ?_
      · intro hb
        subst hb
        go_big_quiet_step (fail)
        refine wpQuiet_nil ?_
        rfl
      intro x75 y75
      simp only [Act.put, List.setIfInBounds_toArray, List.set_cons_succ, List.set_cons_zero]
      refine wpQuiet_nil ?_
      refine wpMix_seg 1 _ _ rfl ?_
      simp only [List.take_succ_cons, List.take_zero, List.drop_succ_cons, List.drop_zero]
      refine wpQuiet_maybe p10a false (.int .i64 c.algo) rfl ?_ ?_
      · intro hb
        subst hb
        obtain rfl := y75 rfl
        go_big_quiet_step (fail)
        refine wpQuiet_nil ?_
        rfl
      intro x76 y76
      simp only [Act.put, List.setIfInBounds_toArray, List.set_cons_succ, List.set_cons_zero]
      refine wpQuiet_nil ?_
      refine wpMix_seg 1 _ _ rfl ?_
      simp only [List.take_succ_cons, List.take_zero, List.drop_succ_cons, List.drop_zero]
      refine wpQuiet_maybe p10a false (.bool p10b) rfl ?_ ?_
      · intro hb
        subst hb
        obtain rfl := y76 rfl
        go_big_quiet_step (fail)
        refine wpQuiet_nil ?_
        rfl
      intro x77 y77
      simp only [Act.put, List.setIfInBounds_toArray, List.set_cons_succ, List.set_cons_zero]
      refine wpQuiet_nil ?_
      refine wpMix_seg 1 _ _ rfl ?_
      simp only [List.take_succ_cons, List.take_zero, List.drop_succ_cons, List.drop_zero]
      refine wpQuiet_pick p10a (.bool (p10a || p10b)) rfl rfl rfl (fun hb => ?_) (fun hb => ?_) ?_
      · subst hb
        rfl
      · subst hb
        obtain rfl := y77 rfl
        rfl
      simp only [Act.put, List.setIfInBounds_toArray, List.set_cons_succ, List.set_cons_zero]
      refine wpQuiet_nil ?_
      iterate 4 (refine wpMix_seg 1 _ _ rfl ?_; simp only [List.take_succ_cons, List.take_zero, List.drop_succ_cons, List.drop_zero]; go_big_quiet_step (fail); refine wpQuiet_nil ?_)
      refine wpMix_seg 1 _ _ rfl ?_
      simp only [List.take_succ_cons, List.take_zero, List.drop_succ_cons, List.drop_zero]
      refine wpQuiet_maybe p11a true (.pointer (some ⟨w.heap.size, 10, none⟩)) rfl ?_ ?_
      · intro hb
        subst hb
        go_big_quiet_step (fail)
        refine wpQuiet_nil ?_
        rfl
      intro x83 y83
      simp only [Act.put, List.setIfInBounds_toArray, List.set_cons_succ, List.set_cons_zero]
      refine wpQuiet_nil ?_
      refine wpMix_seg 1 _ _ rfl ?_
      simp only [List.take_succ_cons, List.take_zero, List.drop_succ_cons, List.drop_zero]
      refine wpQuiet_maybe p11a true (.int .u64 c.fst) rfl ?_ ?_
      · intro hb
        subst hb
        obtain rfl := y83 rfl
        go_big_quiet_step (fail)
        refine wpQuiet_nil ?_
        rfl
      intro x84 y84
      simp only [Act.put, List.setIfInBounds_toArray, List.set_cons_succ, List.set_cons_zero]
      refine wpQuiet_nil ?_
      refine wpMix_seg 1 _ _ rfl ?_
      simp only [List.take_succ_cons, List.take_zero, List.drop_succ_cons, List.drop_zero]
      refine wpQuiet_maybe p11a true (.bool p11b) rfl ?_ ?_
      · intro hb
        subst hb
        obtain rfl := y84 rfl
        go_big_quiet_step (fail)
        refine wpQuiet_nil ?_
        rfl
      intro x85 y85
      simp only [Act.put, List.setIfInBounds_toArray, List.set_cons_succ, List.set_cons_zero]
      refine wpQuiet_nil ?_
      refine wpMix_seg 1 _ _ rfl ?_
      simp only [List.take_succ_cons, List.take_zero, List.drop_succ_cons, List.drop_zero]
      refine wpQuiet_pick p11a (.bool (p11a && p11b)) rfl rfl rfl (fun hb => ?_) (fun hb => ?_) ?_
      · subst hb
        obtain rfl := y85 rfl
        rfl
      · subst hb
        rfl
      simp only [Act.put, List.setIfInBounds_toArray, List.set_cons_succ, List.set_cons_zero]
      refine wpQuiet_nil ?_
      iterate 4 (refine wpMix_seg 1 _ _ rfl ?_; simp only [List.take_succ_cons, List.take_zero, List.drop_succ_cons, List.drop_zero]; go_big_quiet_step (fail); refine wpQuiet_nil ?_)
      refine wpMix_seg 1 _ _ rfl ?_
      simp only [List.take_succ_cons, List.take_zero, List.drop_succ_cons, List.drop_zero]
      refine wpQuiet_maybe p12a true (.pointer (some ⟨w.heap.size, 11, none⟩)) rfl ?_ ?_
      · intro hb
        subst hb
        go_big_quiet_step (fail)
        refine wpQuiet_nil ?_
        rfl
      intro x91 y91
      simp only [Act.put, List.setIfInBounds_toArray, List.set_cons_succ, List.set_cons_zero]
      refine wpQuiet_nil ?_
      refine wpMix_seg 1 _ _ rfl ?_
      simp only [List.take_succ_cons, List.take_zero, List.drop_succ_cons, List.drop_zero]
      refine wpQuiet_maybe p12a true (.int .u64 c.gr) rfl ?_ ?_
      · intro hb
        subst hb
        obtain rfl := y91 rfl
        go_big_quiet_step (fail)
        refine wpQuiet_nil ?_
        rfl
      intro x92 y92
      simp only [Act.put, List.setIfInBounds_toArray, List.set_cons_succ, List.set_cons_zero]
      refine wpQuiet_nil ?_
      refine wpMix_seg 1 _ _ rfl ?_
      simp only [List.take_succ_cons, List.take_zero, List.drop_succ_cons, List.drop_zero]
      refine wpQuiet_maybe p12a true (.bool p12b) rfl ?_ ?_
      · intro hb
        subst hb
        obtain rfl := y92 rfl
        go_big_quiet_step (fail)
        refine wpQuiet_nil ?_
        rfl
      intro x93 y93
      simp only [Act.put, List.setIfInBounds_toArray, List.set_cons_succ, List.set_cons_zero]
      refine wpQuiet_nil ?_
      refine wpMix_seg 1 _ _ rfl ?_
      simp only [List.take_succ_cons, List.take_zero, List.drop_succ_cons, List.drop_zero]
      refine wpQuiet_pick p12a (.bool (p12a && p12b)) rfl rfl rfl (fun hb => ?_) (fun hb => ?_) ?_
      · subst hb
        obtain rfl := y93 rfl
        rfl
      · subst hb
        rfl
      simp only [Act.put, List.setIfInBounds_toArray, List.set_cons_succ, List.set_cons_zero]
      refine wpQuiet_nil ?_
      iterate 6 (refine wpMix_seg 1 _ _ rfl ?_; simp only [List.take_succ_cons, List.take_zero, List.drop_succ_cons, List.drop_zero]; go_big_quiet_step (fail); refine wpQuiet_nil ?_)
      refine wpMix_seg 1 _ _ rfl ?_
      simp only [List.take_succ_cons, List.take_zero, List.drop_succ_cons, List.drop_zero]
      refine wpQuiet_maybe p13a true (.pointer (some ⟨w.heap.size, 12, none⟩)) rfl ?_ ?_
      · intro hb
        subst hb
        go_big_quiet_step (fail)
        refine wpQuiet_nil ?_
        rfl
      intro x101 y101
      simp only [Act.put, List.setIfInBounds_toArray, List.set_cons_succ, List.set_cons_zero]
      refine wpQuiet_nil ?_
      refine wpMix_seg 1 _ _ rfl ?_
      simp only [List.take_succ_cons, List.take_zero, List.drop_succ_cons, List.drop_zero]
      refine wpQuiet_maybe p13a true (.int .u64 c.cap) rfl ?_ ?_
      · intro hb
        subst hb
        obtain rfl := y101 rfl
        go_big_quiet_step (fail)
        refine wpQuiet_nil ?_
        rfl
      intro x102 y102
      simp only [Act.put, List.setIfInBounds_toArray, List.set_cons_succ, List.set_cons_zero]
      refine wpQuiet_nil ?_
      refine wpMix_seg 1 _ _ rfl ?_
      simp only [List.take_succ_cons, List.take_zero, List.drop_succ_cons, List.drop_zero]
      refine wpQuiet_maybe p13a true (.bool p13b) rfl ?_ ?_
      · intro hb
        subst hb
        obtain rfl := y102 rfl
        go_big_quiet_step (fail)
        refine wpQuiet_nil ?_
        rfl
      intro x103 y103
      simp only [Act.put, List.setIfInBounds_toArray, List.set_cons_succ, List.set_cons_zero]
      refine wpQuiet_nil ?_
      refine wpMix_seg 1 _ _ rfl ?_
      simp only [List.take_succ_cons, List.take_zero, List.drop_succ_cons, List.drop_zero]
      refine wpQuiet_pick p13a (.bool (p13a && p13b)) rfl rfl rfl (fun hb => ?_) (fun hb => ?_) ?_
      · subst hb
        obtain rfl := y103 rfl
        rfl
      · subst hb
        rfl
      simp only [Act.put, List.setIfInBounds_toArray, List.set_cons_succ, List.set_cons_zero]
      refine wpQuiet_nil ?_
      iterate 6 (refine wpMix_seg 1 _ _ rfl ?_; simp only [List.take_succ_cons, List.take_zero, List.drop_succ_cons, List.drop_zero]; go_big_quiet_step (fail); refine wpQuiet_nil ?_)
      refine wpMix_seg 1 _ _ rfl ?_
      simp only [List.take_succ_cons, List.take_zero, List.drop_succ_cons, List.drop_zero]
      refine wpQuiet_maybe p14a true (.pointer (some ⟨w.heap.size, 13, none⟩)) rfl ?_ ?_
      · intro hb
        subst hb
        go_big_quiet_step (fail)
        refine wpQuiet_nil ?_
        rfl
      intro x111 y111
      simp only [Act.put, List.setIfInBounds_toArray, List.set_cons_succ, List.set_cons_zero]
      refine wpQuiet_nil ?_
      refine wpMix_seg 1 _ _ rfl ?_
      simp only [List.take_succ_cons, List.take_zero, List.drop_succ_cons, List.drop_zero]
      refine wpQuiet_maybe p14a true (.int .u64 c.bur) rfl ?_ ?_
      · intro hb
        subst hb
        obtain rfl := y111 rfl
        go_big_quiet_step (fail)
        refine wpQuiet_nil ?_
        rfl
      intro x112 y112
      simp only [Act.put, List.setIfInBounds_toArray, List.set_cons_succ, List.set_cons_zero]
      refine wpQuiet_nil ?_
      refine wpMix_seg 1 _ _ rfl ?_
      simp only [List.take_succ_cons, List.take_zero, List.drop_succ_cons, List.drop_zero]
      refine wpQuiet_maybe p14a true (.bool p14b) rfl ?_ ?_
      · intro hb
        subst hb
        obtain rfl := y112 rfl
        go_big_quiet_step (fail)
        refine wpQuiet_nil ?_
        rfl
      intro x113 y113
      simp only [Act.put, List.setIfInBounds_toArray, List.set_cons_succ, List.set_cons_zero]
      refine wpQuiet_nil ?_
      refine wpMix_seg 1 _ _ rfl ?_
      simp only [List.take_succ_cons, List.take_zero, List.drop_succ_cons, List.drop_zero]
      refine wpQuiet_pick p14a (.bool (p14a && p14b)) rfl rfl rfl (fun hb => ?_) (fun hb => ?_) ?_
      · subst hb
        obtain rfl := y113 rfl
        rfl
      · subst hb
        rfl
      simp only [Act.put, List.setIfInBounds_toArray, List.set_cons_succ, List.set_cons_zero]
      refine wpQuiet_nil ?_
      iterate 4 (refine wpMix_seg 1 _ _ rfl ?_; simp only [List.take_succ_cons, List.take_zero, List.drop_succ_cons, List.drop_zero]; go_big_quiet_step (fail); refine wpQuiet_nil ?_)
      refine wpMix_seg 1 _ _ rfl ?_
      simp only [List.take_succ_cons, List.take_zero, List.drop_succ_cons, List.drop_zero]
      refine wpQuiet_maybe p15a true (.pointer (some ⟨w.heap.size, 14, none⟩)) rfl ?_ ?_
      · intro hb
        subst hb
        go_big_quiet_step (fail)
        refine wpQuiet_nil ?_
        rfl
      intro x119 y119
      simp only [Act.put, List.setIfInBounds_toArray, List.set_cons_succ, List.set_cons_zero]
      refine wpQuiet_nil ?_
      refine wpMix_seg 1 _ _ rfl ?_
      simp only [List.take_succ_cons, List.take_zero, List.drop_succ_cons, List.drop_zero]
      refine wpQuiet_maybe p15a true (.int .u64 c.slo) rfl ?_ ?_
      · intro hb
        subst hb
        obtain rfl := y119 rfl
        go_big_quiet_step (fail)
        refine wpQuiet_nil ?_
        rfl
      intro x120 y120
      simp only [Act.put, List.setIfInBounds_toArray, List.set_cons_succ, List.set_cons_zero]
      refine wpQuiet_nil ?_
      refine wpMix_seg 1 _ _ rfl ?_
      simp only [List.take_succ_cons, List.take_zero, List.drop_succ_cons, List.drop_zero]
      refine wpQuiet_maybe p15a true (.bool p15b) rfl ?_ ?_
      · intro hb
        subst hb
        obtain rfl := y120 rfl
        go_big_quiet_step (fail)
        refine wpQuiet_nil ?_
        rfl
      intro x121 y121
      simp only [Act.put, List.setIfInBounds_toArray, List.set_cons_succ, List.set_cons_zero]
      refine wpQuiet_nil ?_
      refine wpMix_seg 1 _ _ rfl ?_
      simp only [List.take_succ_cons, List.take_zero, List.drop_succ_cons, List.drop_zero]
      refine wpQuiet_pick p15a (.bool (p15a && p15b)) rfl rfl rfl (fun hb => ?_) (fun hb => ?_) ?_
      · subst hb
        obtain rfl := y121 rfl
        rfl
      · subst hb
        rfl
      simp only [Act.put, List.setIfInBounds_toArray, List.set_cons_succ, List.set_cons_zero]
      refine wpQuiet_nil ?_
      iterate 4 (refine wpMix_seg 1 _ _ rfl ?_; simp only [List.take_succ_cons, List.take_zero, List.drop_succ_cons, List.drop_zero]; go_big_quiet_step (fail); refine wpQuiet_nil ?_)
      refine wpMix_seg 1 _ _ rfl ?_
      simp only [List.take_succ_cons, List.take_zero, List.drop_succ_cons, List.drop_zero]
      refine wpQuiet_maybe p16a true (.pointer (some ⟨w.heap.size, 15, none⟩)) rfl ?_ ?_
      · intro hb
        subst hb
        go_big_quiet_step (fail)
        refine wpQuiet_nil ?_
        rfl
      intro x127 y127
      simp only [Act.put, List.setIfInBounds_toArray, List.set_cons_succ, List.set_cons_zero]
      refine wpQuiet_nil ?_
      refine wpMix_seg 1 _ _ rfl ?_
      simp only [List.take_succ_cons, List.take_zero, List.drop_succ_cons, List.drop_zero]
      refine wpQuiet_maybe p16a true (.int .i64 c.chal) rfl ?_ ?_
      · intro hb
        subst hb
        obtain rfl := y127 rfl
        go_big_quiet_step (fail)
        refine wpQuiet_nil ?_
        rfl
      intro x128 y128
      simp only [Act.put, List.setIfInBounds_toArray, List.set_cons_succ, List.set_cons_zero]
      refine wpQuiet_nil ?_
      refine wpMix_seg 1 _ _ rfl ?_
      simp only [List.take_succ_cons, List.take_zero, List.drop_succ_cons, List.drop_zero]
      refine wpQuiet_maybe p16a true (.bool p16b) rfl ?_ ?_
      · intro hb
        subst hb
        obtain rfl := y128 rfl
        go_big_quiet_step (fail)
        refine wpQuiet_nil ?_
        rfl
      intro x129 y129
      simp only [Act.put, List.setIfInBounds_toArray, List.set_cons_succ, List.set_cons_zero]
      refine wpQuiet_nil ?_
      refine wpMix_seg 1 _ _ rfl ?_
      simp only [List.take_succ_cons, List.take_zero, List.drop_succ_cons, List.drop_zero]
      refine wpQuiet_pick p16a (.bool (p16a && p16b)) rfl rfl rfl (fun hb => ?_) (fun hb => ?_) ?_
      · subst hb
        obtain rfl := y129 rfl
        rfl
      · subst hb
        rfl
      simp only [Act.put, List.setIfInBounds_toArray, List.set_cons_succ, List.set_cons_zero]
      refine wpQuiet_nil ?_
      iterate 4 (refine wpMix_seg 1 _ _ rfl ?_; simp only [List.take_succ_cons, List.take_zero, List.drop_succ_cons, List.drop_zero]; go_big_quiet_step (fail); refine wpQuiet_nil ?_)
      refine wpMix_seg 1 _ _ rfl ?_
      simp only [List.take_succ_cons, List.take_zero, List.drop_succ_cons, List.drop_zero]
      refine wpQuiet_maybe p17a true (.pointer (some ⟨w.heap.size, 16, none⟩)) rfl ?_ ?_
      · intro hb
        subst hb
        go_big_quiet_step (fail)
        refine wpQuiet_nil ?_
        rfl
      intro x135 y135
      simp only [Act.put, List.setIfInBounds_toArray, List.set_cons_succ, List.set_cons_zero]
      refine wpQuiet_nil ?_
      refine wpMix_seg 1 _ _ rfl ?_
      simp only [List.take_succ_cons, List.take_zero, List.drop_succ_cons, List.drop_zero]
      refine wpQuiet_maybe p17a true (.int .u64 c.evy) rfl ?_ ?_
      · intro hb
        subst hb
        obtain rfl := y135 rfl
        go_big_quiet_step (fail)
        refine wpQuiet_nil ?_
        rfl
      intro x136 y136
      simp only [Act.put, List.setIfInBounds_toArray, List.set_cons_succ, List.set_cons_zero]
      refine wpQuiet_nil ?_
      refine wpMix_seg 1 _ _ rfl ?_
      simp only [List.take_succ_cons, List.take_zero, List.drop_succ_cons, List.drop_zero]
      refine wpQuiet_maybe p17a true (.bool p17b) rfl ?_ ?_
      · intro hb
        subst hb
        obtain rfl := y136 rfl
        go_big_quiet_step (fail)
        refine wpQuiet_nil ?_
        rfl
      intro x137 y137
      simp only [Act.put, List.setIfInBounds_toArray, List.set_cons_succ, List.set_cons_zero]
      refine wpQuiet_nil ?_
      refine wpMix_seg 1 _ _ rfl ?_
      simp only [List.take_succ_cons, List.take_zero, List.drop_succ_cons, List.drop_zero]
      refine wpQuiet_pick p17a (.bool (p17a && p17b)) rfl rfl rfl (fun hb => ?_) (fun hb => ?_) ?_
      · subst hb
        obtain rfl := y137 rfl
        rfl
      · subst hb
        rfl
      simp only [Act.put, List.setIfInBounds_toArray, List.set_cons_succ, List.set_cons_zero]
      refine wpQuiet_nil ?_
      iterate 1 (refine wpMix_seg 1 _ _ rfl ?_; simp only [List.take_succ_cons, List.take_zero, List.drop_succ_cons, List.drop_zero]; go_big_quiet_step (fail); refine wpQuiet_nil ?_)
      have b := cells_of (S0.get 0 rfl)
      refine wpMix_bar rfl (by rfl) ?_
      replace S0 := S0.fill 0 0 [.bool (p1a && p1b), .bool (p2a), .bool (p3a && p3b), .bool (p4a), .bool (p5a && p5b), .bool (p6a && p6b), .bool (p7a && p7b), .bool (p8a), .bool (p9a && p9b), .bool (p10a || p10b), .bool (p11a && p11b), .bool (p12a && p12b), .bool (p13a && p13b), .bool (p14a && p14b), .bool (p15a && p15b), .bool (p16a && p16b), .bool (p17a && p17b)] rfl
      simp only [putAll, setAll, Nat.reduceAdd, List.setIfInBounds_toArray, List.set_cons_succ, List.set_cons_zero] at S0
      have hc0 := Lib.hid (chg_mixF (chg_below S0.bel (F := fun _ => False)))
      have hm := Lib.hid (And.intro (S0.get 0 rfl) (S.bel.trans (S0.bel.mono S.bel.size)))
      clear S0 c1
      go_wp2
      refine ⟨hc0.out, ?_⟩
      refine wpMix_nil ?_
      go_wp2_with fail
      go_meet
      exact ⟨_, rfl, hm⟩
  case rest =>
    obtain ⟨g, rfl, hG⟩ := hcut
    have b := Lib.hid (cells_of hG.out.1)
    clear a af K
    have HO : Hid ((∀ j, j < 17 → [p1a && p1b, p2a, p3a && p3b, p4a, p5a && p5b, p6a && p6b, p7a && p7b, p8a, p9a && p9b, p10a || p10b, p11a && p11b, p12a && p12b, p13a && p13b, p14a && p14b, p15a && p15b, p16a && p16b, p17a && p17b][j]? = some true) ↔ c.Ok) := Lib.hid (may_ok HT.out h1a h1b h2a h3a h3b h4a h5a h5b h6a h6b h7a h7b h8a h9a h9b h10a h10b h11a h11b h12a h12b h13a h13b h14a h14b h15a h15b h16a h16b h17a h17b)
    clear h1a h1b h2a h3a h3b h4a h5a h5b h6a h6b h7a h7b h8a h9a h9b h10a h10b h11a h11b h12a h12b h13a h13b h14a h14b h15a h15b h16a h16b h17a h17b
    obtain ⟨R, hR⟩ : ∃ R, R = [p1a && p1b, p2a, p3a && p3b, p4a, p5a && p5b, p6a && p6b, p7a && p7b, p8a, p9a && p9b, p10a || p10b, p11a && p11b, p12a && p12b, p13a && p13b, p14a && p14b, p15a && p15b, p16a && p16b, p17a && p17b] := ⟨_, rfl⟩
    have hl : R.length = 17 := by rw [hR]; rfl
    have bb : Hid (∀ k r, R[k]? = some r → wc.cell? ⟨g, k, none⟩ = some (.bool r)) := Lib.hid (fun k r h => (b.out.1 k).trans (by
      have e : ([p1a && p1b, p2a, p3a && p3b, p4a, p5a && p5b, p6a && p6b, p7a && p7b, p8a, p9a && p9b, p10a || p10b, p11a && p11b, p12a && p12b, p13a && p13b, p14a && p14b, p15a && p15b, p16a && p16b, p17a && p17b].map Value.bool)[k]? = some (.bool r) := by rw [List.getElem?_map, ← hR, h]; rfl
      simpa using e))
    rw [← hR] at HO
    clear hR b
    go_wp2
    go_loop [2, 4] (fun s2 s4 => ∃ k : Nat, k ≤ 17 ∧ s2 = .int .i64 0 ∧ s4 = .int .i64 k ∧ Hid (∀ j, j < k → R[j]? = some true)) (fun _ i => match i with | .int _ n => 17 - n.toNat | _ => 0)
    case atStart => exact ⟨0, by omega, rfl, rfl, Lib.hid (fun j hj => by omega)⟩
    case round =>
      obtain ⟨k, hk, rfl, rfl, hall⟩ := hrel
      by_cases h17 : k < 17
      · have e1 : decide ((k : Int) < 17) = true := decide_eq_true (by omega)
        obtain ⟨r, hr⟩ : ∃ r, R[k]? = some r := ⟨R[k]'(by omega), List.getElem?_eq_getElem _⟩
        have bk := bb.out k r hr
        have Hr := Lib.hid hr
        clear hr
        cases r
        · go_wp2
          go_ret
          refine ⟨_, rfl, ⟨fun h => by omega, fun h => ?_⟩, hG.out.2⟩
          have := (HO.out.2 h) k h17
          rw [Hr.out] at this
          cases this
        · go_wp2
          refine ⟨⟨k + 1, by omega, rfl, by simp, Lib.hid (fun j hj => ?_)⟩, ?_⟩
          · rcases Nat.lt_or_eq_of_le (Nat.le_of_lt_succ hj) with h | rfl
            · exact hall.out j h
            · exact Hr.out
          · simp
            omega
      · have e1 : decide ((k : Int) < 17) = false := decide_eq_false (by omega)
        obtain rfl : k = 17 := by omega
        go_wp2
        go_ret
        exact ⟨_, rfl, ⟨fun _ => HO.out.1 hall.out, fun _ => rfl⟩, hG.out.2⟩
end Go.Proofs.Ytpkbimmhimgamaa
