/-
  Part of the proof of EngineNumbers.
-/
import Derived.Test.YtpkbimmhimgamaaGreatPAY
import Derived.Test.YtpkbimmhimgamaaGreatPAO
import Derived.Deep.RegionHeld3
namespace Go.Proofs.YtpkbimmhimgamaaGreat
set_option linter.unusedSimpArgs false
set_option linter.unusedVariables false
set_option linter.unnecessarySimpa false
open Go.RowKit
theorem fill_row {W : World} {g : Nat} {T : TypeId} : ∀ (vs : List Value) (i : Nat) (cs : Array Value) (W : World), W.heap[g]? = some (.cells cs T (0, 0)) → (putAll g i vs W).heap[g]? = some (.cells (setAll cs i vs) T (0, 0)) ∧ Chg (fun j => j = g) W (putAll g i vs W) := by
  intro vs
  induction vs with
  | nil => intro i cs W h; exact ⟨h, Chg.refl _ _⟩
  | cons v vs ih =>
    intro i cs W h
    have h2 := heap_setCell_same W g i _ _ v h
    obtain ⟨a, b⟩ := ih (i + 1) _ _ h2
    exact ⟨a, ((Chg.refl (fun j => j = g) W).setCell (p := ⟨g, i, none⟩) (.inl rfl) v).trans (b.mono fun k _ e => .inl e)⟩
/-- A struct of the engine is stored whole. -/
theorem EngC.fill {W : World} {f : Ft} {b : Nat} {s : ES} (h : EngC W f b s) (s' : ES) (i : Nat) (vs : List Value) (hr : engRow f s' = setAll (engRow f s) i vs) (h1 : s'.ws = s.ws) (h2 : s'.k = s.k) (h3 : s'.q = s.q) (h4 : s'.l = s.l) (h5 : s'.g = s.g) (hg : s'.Good) : EngC (putAll b i vs W) f b s' := by
  obtain ⟨a, c⟩ := fill_row (W := W) vs i _ W h.t
  rw [← hr] at a
  exact h.row c a h1 h2 h3 h4 h5 hg
theorem EngC.fillTo {W : World} {f : Ft} {b : Nat} {s : ES} (h : EngC W f b s) (s' : ES) (i : Nat) (vs : List Value) (hc : EngC (putAll b i vs W) f b s') : EngTo W f b (putAll b i vs W) s' :=
  .row h (fill_row (W := W) vs i _ W h.t).2 hc
theorem EngTo.then {w W W' : World} {f : Ft} {b : Nat} {s1 s2 : ES} (T : EngTo w f b W s1) (n : ∀ f', EngC W f' b s1 → EngTo W f' b W' s2) : EngTo w f b W' s2 := by
  obtain ⟨f1, c1, t1, d1⟩ := T
  exact EngTo.trans c1.lt t1 d1 (n f1 c1)
theorem EngTo.of_set {w : World} {f : Ft} {b : Nat} {s s' : ES} (h : EngC w f b s) {i : Nat} {v : Value} (h2 : EngC (w.setCell ⟨b, i, none⟩ v) f b s') : EngTo w f b (w.setCell ⟨b, i, none⟩ v) s' :=
  .row h ((Chg.refl (fun j => j = b) w).setCell (p := ⟨b, i, none⟩) (.inl rfl) v) h2
theorem run_loadVar_part {P : Program} (w : World) (g off : Nat) (t ty : TypeId) (row vs : Array Value) (fr : Nat × Nat) (d : TypeDesc) (hg : w.heap[g]? = some (.cells row t fr)) (hv : ∀ j, j < vs.size → row[off + j]? = vs[j]?)
    (hd : (match d with | .struct _ | .array _ _ => true | _ => false) = true) (hu : P.underlying ty = some d) (hi : (P.info? ty).map (·.size) = some vs.size) : (loadVar ty ⟨g, off, none⟩).run P w = .ok (.agg vs) w := by
  have hl : (loadCells ⟨g, off, none⟩ vs.toList.length).run P w = .ok vs.toList.toArray w :=
    run_loadCells_list (P := P) w ⟨g, off, none⟩ vs.toList (fun j v hv' => by
      rw [add_addr, cell_of_row w g (off + j) row t fr hg]
      have hj : j < vs.size := by
        have := (List.getElem?_eq_some_iff.1 hv').1
        simpa using this
      rw [hv j hj]
      simpa using hv')
  cases hq : P.info? ty with
  | none => simp [hq] at hi
  | some i =>
    have hs : i.size = vs.size := by simpa [hq] using hi
    have hagg : (isAgg ty).run P w = .ok true w := by
      unfold isAgg
      rw [Sem.run_bind, run_underlying hu w]
      cases d <;> simp_all
    simp only [Array.length_toList, Array.toArray_toList] at hl
    simp [loadVar, Sem.run_bind, hagg, sizeOf, typeInfo, hq, hs, hl]
theorem wpQuiet_load_part {P : Program} {ops : Array Oper} {C : World → Prop} {K : Act → Prop} {o : Oper} {rest : List Oper} {a : Act} (hgd : o.guard = none) (ty : TypeId) (x : Operand) (ho : o.op = .load ty x)
    (g off : Nat) (hx : a.eval x = .pointer (some ⟨g, off, none⟩)) (vs : Array Value) (hL : ∀ w, C w → (loadVar ty ⟨g, off, none⟩).run P w = .ok (.agg vs) w)
    (h : wpQuiet P ops C K rest (a.put o.dst (.agg vs))) : wpQuiet P ops C K (o :: rest) a := by
  unfold wpQuiet
  rw [if_pos (by simp [Region.wanted, hgd])]
  refine ⟨.agg vs, fun w hw => ?_, h⟩
  have e : (execOp a.eval o).run P w = .ok (.value (.agg vs)) w := by
    unfold execOp
    simp only [ho, hx, Instr.loadAt, Instr.sureAddr, Sem.run_bind, Sem.run_pure, Result.andThen_ok, hL w hw]
  unfold Oper.quietAt
  rw [e]
  exact ⟨rfl, rfl⟩
def Cfg.arr (c : Cfg) : Array Value := #[.int .i64 c.bits, .int .u64 c.one, .int .i64 c.ring, .int .u64 c.lim, .int .i64 c.room, .int .u64 c.mss, .int .u64 c.ini, .int .u64 c.lea, .int .u64 c.mo, .int .i64 c.algo, .int .u64 c.fst, .int .u64 c.gr, .int .u64 c.cap, .int .u64 c.bur, .int .u64 c.slo, .int .i64 c.chal, .int .u64 c.evy]
theorem row_cfg (f : Ft) (s : ES) : ∀ j, j < s.c.arr.size → (engRow f s)[0 + j]? = s.c.arr[j]? := by
  intro j hj
  have hj' : j < 17 := hj
  rcases (by omega : j = 0 ∨ j = 1 ∨ j = 2 ∨ j = 3 ∨ j = 4 ∨ j = 5 ∨ j = 6 ∨ j = 7 ∨ j = 8 ∨ j = 9 ∨ j = 10 ∨ j = 11 ∨ j = 12 ∨ j = 13 ∨ j = 14 ∨ j = 15 ∨ j = 16) with rfl | rfl | rfl | rfl | rfl | rfl | rfl | rfl | rfl | rfl | rfl | rfl | rfl | rfl | rfl | rfl | rfl <;> rfl
/-- The configuration is loaded whole. -/
theorem EngC.cfg {W : World} {f : Ft} {b : Nat} {s : ES} (h : EngC W f b s) : (loadVar 26 ⟨b, 0, none⟩).run Tryz.prog W = .ok (.agg s.c.arr) W :=
  run_loadVar_part W b 0 _ _ (engRow f s) s.c.arr (0, 0) _ h.t (row_cfg f s) rfl Tryz.underlying26 infoCfg
theorem EngC.cfgM {W : World} {f : Ft} {b : Nat} {s : ES} (h : EngC W f b s) : ∀ w, (∃ u, w = Go.Proofs.YtpkbimmhimgamaaGreat.mix W u) → (loadVar 26 ⟨b, 0, none⟩).run Tryz.prog w = .ok (.agg s.c.arr) w := by
  rintro _ ⟨u, rfl⟩
  exact (h.mix u).cfg
theorem eng_write (w : World) (f : Ft) (b : Nat) (s : ES) (l : List Int) (A : Option Addr) (c : Nat) (h : EngC w f b s) (hr : Rd w 1 A l.length c (U8 l)) (hb : ∀ x ∈ l, 0 ≤ x ∧ x ≤ 255) (hl : s.q.b.length + l.length ≤ 1000000) :
    Calls Tryz.prog 15 #[.pointer (some ⟨b, 0, none⟩), .slice A l.length c] w fun e w' => e = .returned (.tuple #[.int .i64 (s.write l).2.1, .int .i64 (s.write l).2.2]) ∧ EngTo w f b w' (s.write l).1 := by
  have K := Lib.hid (que_write w _ f.q s.q l A c h.q hr hb hl)
  have HW : Hid (s.write l = if s.st ≠ 1 then (s, 0, 9) else ({ s with q := (s.q.write l).1 }, (s.q.write l).2, if (s.q.write l).2 < l.length then 7 else 0)) := Lib.hid rfl
  have H := Lib.hid h
  have e18 : w.cell? ⟨b, 18, none⟩ = some (.int .i64 s.st) := h.c 18 rfl
  have e20 : w.cell? ⟨b, 20, none⟩ = some (.pointer (some ⟨f.q, 0, none⟩)) := h.c 20 rfl
  clear h hr hb hl
  by_cases h1 : s.st = 1
  · rw [if_neg (by simp [h1])] at HW
    have d1 : (s.st != 1) = false := by simp [h1]
    generalize (s.q.write l).1 = q' at *
    generalize (s.q.write l).2 = n at *
    clear h1
    by_cases h2 : n < l.length
    · rw [if_pos h2] at HW
      have d2 : decide (n < (l.length : Int)) = true := decide_eq_true h2
      go_enter Tryz.func15, Tryz.ntmps15
      go_wp2_with fail
      refine K.out.mono ?_
      rintro e w1 ⟨rfl, hq, hc⟩
      have T := Lib.hid (H.out.que hq hc)
      clear hq hc
      go_wp2
      go_ret2
      exact ⟨by rw [HW.out]; rfl, by rw [HW.out]; exact T.out⟩
    · rw [if_neg h2] at HW
      have d2 : decide (n < (l.length : Int)) = false := decide_eq_false h2
      go_enter Tryz.func15, Tryz.ntmps15
      go_wp2_with fail
      refine K.out.mono ?_
      rintro e w1 ⟨rfl, hq, hc⟩
      have T := Lib.hid (H.out.que hq hc)
      clear hq hc
      go_wp2
      go_ret2
      exact ⟨by rw [HW.out]; rfl, by rw [HW.out]; exact T.out⟩
  · rw [if_pos h1] at HW
    have d1 : (s.st != 1) = true := by simp [h1]
    clear h1 K
    go_enter Tryz.func15, Tryz.ntmps15
    go_wp2
    go_ret2
    exact ⟨by rw [HW.out]; rfl, by rw [HW.out]; exact EngTo.refl H.out⟩
theorem ES.Good.stat {s : ES} (g : s.Good) (n : Int) (hn : 1 ≤ n ∧ n ≤ 4) : ({ s with st := n } : ES).Good := by
  obtain ⟨g1, g2, g3, g4, g5, g6, g7, g8, g9, g10, g11, g12, g13, g14, g15, g16, g17, g18, g19, g20, g21⟩ := g
  exact ⟨g1, g2, hn, g4, g5, g6, g7, g8, g9, g10, g11, g12, g13, g14, g15, g16, g17, g18, g19, g20, g21⟩
end Go.Proofs.YtpkbimmhimgamaaGreat
namespace Go.Proofs.YtpkbimmhimgamaaGreat
set_option linter.unusedSimpArgs false
set_option linter.unusedVariables false
set_option linter.unnecessarySimpa false
open Go.RowKit
end Go.Proofs.YtpkbimmhimgamaaGreat
namespace Go.Proofs.YtpkbimmhimgamaaGreat
set_option linter.unusedSimpArgs false
set_option linter.unusedVariables false
set_option linter.unnecessarySimpa false
open Go.RowKit
theorem word_of (s : ES) : wordOf s.ws s.k = s.word := by
  unfold wordOf ES.word
  by_cases h : s.k < s.ws.length
  · rw [if_pos h, dif_pos h, List.getD_eq_getElem?_getD, List.getElem?_eq_getElem h]
    rfl
  · rw [if_neg h, dif_neg h]
theorem EngC.srcC {W W' : World} {f : Ft} {b : Nat} {s : ES} (h : EngC W f b s) (q : Qt (W.setCell ⟨f.sb, 1, none⟩ (.int .i64 ((s.k + 1 : Nat) : Int))) W') (hk : s.k + 1 < 1000000000) : EngC W' f b s.drawn ∧ Chg (fun j => j = f.sb) W W' := by
  have hs := h.ts
  have c0 := (Chg.refl (fun j => j = f.sb) W).setCell (p := ⟨f.sb, 1, none⟩) (.inl rfl) (.int .i64 ((s.k + 1 : Nat) : Int))
  have hc : Chg (fun j => j = f.sb) W W' := c0.thenBelow q.below c0.size
  obtain ⟨f', c, t, _⟩ := h.srcS q hk
  have e : ∀ k, f.tag k ≠ 2 → k ≠ f.sb := fun k hk e => by subst e; exact hk hs
  have h1 := heap_setCell_same W f.sb 1 _ _ (.int .i64 ((s.k + 1 : Nat) : Int)) h.src.t
  have h2 := q.below.block _ (lt_of_block h1)
  rw [h1] at h2
  exact ⟨⟨hc.blk h.t (e b (by have := h.tb; omega)), h.tb, ⟨by rw [h2]; simp [ES.drawn], h.src.r.chg hc (fun g off e' h0 => h.src.a g off e' h0), h.src.a⟩, hs, h.tA, h.q.chg hc (fun k _ hk => e k (by omega)) (fun _ _ h => h), h.l.chg hc (fun k _ hk => e k (by omega)) (fun _ _ h => h), h.g.chg hc (fun k _ hk => e k (by omega)) (fun _ _ h => h) (fun _ _ h => h) (fun k h6 h5 => by omega), fun k hk => Nat.lt_of_lt_of_le (h.lt k hk) hc.size, c.good⟩, hc⟩
theorem eng_nextC (W : World) (f : Ft) (b : Nat) (s : ES) (h : EngC W f b s) (hk : s.k + 1 < 1000000000) :
    Calls Tryz.prog 104 #[.pointer (some ⟨f.sb, 0, none⟩)] W fun e w' => e = .returned (.int .u64 s.word) ∧ EngC w' f b s.drawn ∧ Chg (fun j => j = f.sb) W w' :=
  (src_next f.sb 0 f.A f.c s.k s.ws W (cell_of_row _ _ 0 _ _ _ h.src.t) (cell_of_row _ _ 1 _ _ _ h.src.t) (frozen_of_row _ _ 1 _ _ h.src.t) h.src.r h.src.a (by omega)).mono fun e w' he => ⟨he.1.trans (by rw [word_of]), h.srcC he.2 hk⟩
theorem u64_wr (x : Int) : isU64 (IntKind.u64.wrap x) := by
  have e : IntKind.u64.wrap x = x % 18446744073709551616 := by simp [IntKind.wrap, IntKind.bits, IntKind.signed]
  rw [e]
  unfold isU64
  omega
theorem mixW_u (x : Int) : isU64 (mixW x) := by
  unfold mixW drD
  exact u64_wr _
theorem ES.word_u (s : ES) (g : s.Good) : isU64 s.word := by
  unfold ES.word
  split
  · exact g.ws _ (List.getElem_mem _)
  · exact mixW_u _
theorem wpMix_off {P : Program} {ops : Array Oper} {C : World → Prop} {Q : Act → World → Prop} {w : World} {o : Oper} {rest : List Oper} {a : Act} (hw : Region.wanted o (yielded ops a.tmps) = false) (h : wpQuiet P ops C (fun a' => wpMix P ops C Q rest a' w) [o] a) : wpMix P ops C Q (o :: rest) a w := by
  refine wpMix_skip hw ?_
  simpa only [wpQuiet, hw, Bool.false_eq_true, if_false] using h
def regE10 (n : Nat) : Code → Option Code
  | .region i o b => if i = n then some (.region i o b) else none
  | .seq a b => match regE10 n a with
    | some c => some c
    | none => regE10 n b
  | .block _ c => regE10 n c
  | .scope c => regE10 n c
  | .cond _ a b => match regE10 n a with
    | some c => some c
    | none => regE10 n b
  | _ => none
end Go.Proofs.YtpkbimmhimgamaaGreat
namespace Go.Proofs.YtpkbimmhimgamaaGreat
set_option linter.unusedSimpArgs false
set_option linter.unusedVariables false
set_option linter.unnecessarySimpa false
open Go.RowKit
theorem clk_due (now at_ : Int) (w : World) :
    Calls Tryz.prog 58 #[.int .u64 now, .int .u64 at_] w fun e w' => e = .returned (.bool (ES.due now at_)) ∧ Qt w w' := by
  unfold ES.due
  by_cases h : at_ = 18446744073709551615
  · have d1 : (at_ != 18446744073709551615) = false := by simp [h]
    have HD : Hid ((decide (at_ ≠ 18446744073709551615) && decide (at_ ≤ now)) = false) := Lib.hid (by simp [h])
    clear h
    go_enter Tryz.func58, Tryz.ntmps58
    go_wp2
    go_ret
    exact ⟨congrArg (fun x => Ending.returned (.bool x)) HD.out.symm, Qt.refl _⟩
  · have d1 : (at_ != 18446744073709551615) = true := by simp [h]
    have HD : Hid ((decide (at_ ≠ 18446744073709551615) && decide (at_ ≤ now)) = decide (at_ ≤ now)) := Lib.hid (by simp [h])
    clear h
    go_enter Tryz.func58, Tryz.ntmps58
    go_wp2
    go_ret
    exact ⟨congrArg (fun x => Ending.returned (.bool x)) HD.out.symm, Qt.refl _⟩
end Go.Proofs.YtpkbimmhimgamaaGreat
namespace Go.Proofs.YtpkbimmhimgamaaGreat
set_option linter.unusedSimpArgs false
set_option linter.unusedVariables false
set_option linter.unnecessarySimpa false
open Go.RowKit
section
variable {P : Program} {md : Region.Mode}
theorem not_asks {Q : Exit → Act → World → Prop} {p : Prop} (h : p ∨ noRoomEvent ∈ (#[] : Array Event) ∧ LetsOut Q) : p := h.resolve_right fun h => by simp at h
theorem extract_wpOp {ops : Array Oper} {k : Nat} {o : Oper} {x : Operand} {i : Nat} (hk : ops[k]? = some o) (ho : o.op = .extract x i) (hg : o.guard = none) {a : Act} {w : World} {K : Act → World → Prop} {Q : Exit → Act → World → Prop} (h : wpOp P ops Q k K a w) : ∃ v, Yields P ops o v a ∧ K (a.put o.dst v) w := by
  have hw : Region.wanted o (yielded ops a.tmps) = true := by simp [Region.wanted, hg]
  unfold wpOp at h
  simp only [hk, hw, if_true] at h
  unfold Oper.wp Oper.asks at h
  unfold Yields
  simp only [hw, true_and]
  unfold execOp at h ⊢
  rw [ho] at h ⊢
  simp only [Instr.extract] at h ⊢
  cases hx : a.eval x with
  | tuple vs =>
    rw [hx] at h
    simp only at h
    cases hv : vs[i]? with
    | some v =>
      rw [hv] at h
      simp [Sem.run_bind, Oper.upon] at h
      exact ⟨v, .inl (fun w => by simp [hv]), not_asks h⟩
    | none =>
      rw [hv] at h
      simp [Sem.run_bind, Oper.upon] at h
      exact absurd h.1 (by show noRoomEvent ∉ (#[] : Array Event); simp)
  | _ =>
    rw [hx] at h
    simp [Sem.run_bind, Oper.upon] at h
    exact absurd h.1 (by show noRoomEvent ∉ (#[] : Array Event); simp)
def withEdge (o : Oper) (k : Nat) : Oper := { o with after := o.after.push ⟨k, .data⟩ }
theorem wpAny_edge {ops ops' : Array Oper} {Q : Exit → Act → World → Prop} {k s i : Nat} {x : Operand} {ok os : Oper} (hk : ops[k]? = some ok) (hx : ok.op = .extract x i) (hg : ok.guard = none) (hs : ops[s]? = some os) (hks : k ≠ s) (hs' : ops'[s]? = some (withEdge os k)) (hsame : ∀ j, j ≠ s → ops'[j]? = ops[j]?)
    (hsel : ∀ (j : Nat) (o : Oper) cs b, ops[j]? = some o → o.op ≠ .select cs b) (hQ : ∀ c v (a : Act) w, Q (.panic c) (a.put ok.dst v) w → Q (.panic c) a w) (hdep : ∀ e ∈ ok.after, Region.binds md e = true → ∃ d ∈ os.after, Region.binds md d = true ∧ d.on = e.on)
    (hfree : ∀ (j : Nat) (oj : Oper), ops[j]? = some oj → j ≠ k → (∀ e ∈ oj.after, Region.binds md e = true → e.on ≠ k) → (∀ e ∈ ok.after, Region.binds md e = true → e.on ≠ j) → ok.apart ops oj = true) :
    ∀ (f : Nat) (listed : Array Bool) (a : Act) (w : World), listed.size = ops.size → wpAny P md ops' Q f listed a w → wpAny P md ops Q f listed a w := by
  have hy : ∀ t, yielded ops' t = yielded ops t := by
    intro t
    funext j
    unfold yielded
    rcases Decidable.em (j = s) with rfl | h
    · rw [hs', hs]
      rfl
    · rw [hsame j h]
  have r1 : ∀ listed j, j ≠ s → (j ∈ Region.ready md ops' listed ↔ j ∈ Region.ready md ops listed) := fun listed j h => by rw [mem_ready, mem_ready, hsame j h]
  have r2 : ∀ listed, s ∈ Region.ready md ops listed → listed.getD k false = true → s ∈ Region.ready md ops' listed := by
    intro listed h hl
    obtain ⟨h0, o, ho, hall⟩ := mem_ready.1 h
    have : o = os := Option.some.inj (ho.symm.trans hs)
    subst this
    refine mem_ready.2 ⟨h0, _, hs', fun e he hb => ?_⟩
    rcases Array.mem_push.1 he with he | rfl
    · exact hall e he hb
    · exact hl
  have r3 : ∀ listed, s ∈ Region.ready md ops listed → listed.getD k true = false → k ∈ Region.ready md ops listed := by
    intro listed h hl
    obtain ⟨h0, o, ho, hall⟩ := mem_ready.1 h
    have : o = os := Option.some.inj (ho.symm.trans hs)
    subst this
    refine mem_ready.2 ⟨hl, ok, hk, fun e he hb => ?_⟩
    obtain ⟨d, hd, hbd, hon⟩ := hdep e he hb
    rw [← hon]
    exact hall d hd hbd
  have hks' : k < ops.size := (Array.getElem?_eq_some_iff.1 hk).1
  have gk : ∀ listed : Array Bool, listed.size = ops.size → listed.getD k true = false ∨ listed.getD k false = true := by
    intro listed hz
    have h : k < listed.size := by omega
    simp [h]
  intro f
  induction f with
  | zero =>
    intro listed a w hz h
    refine ⟨List.eq_nil_iff_forall_not_mem.2 fun j hj => ?_, h.2⟩
    rcases Decidable.em (j = s) with rfl | hjs
    · rcases gk listed hz with hl | hl
      · have := (r1 listed k hks).2 (r3 listed hj hl)
        rw [h.1] at this
        cases this
      · have := r2 listed hj hl
        rw [h.1] at this
        cases this
    · have := (r1 listed j hjs).2 hj
      rw [h.1] at this
      cases this
  | succ f ih =>
    intro listed a w hz h
    by_cases hsr : s ∈ Region.ready md ops listed ∧ listed.getD k true = false
    · have hkr := r3 listed hsr.1 hsr.2
      have hk' : ops'[k]? = some ok := by rw [hsame k hks]; exact hk
      obtain ⟨v, hv, hn⟩ := extract_wpOp hk' hx hg (h.2 k ((r1 listed k hks).2 hkr))
      have hv' : Yields P ops ok v a := by
        unfold Yields at *
        rwa [hy] at hv
      exact wpAny_first hk hsel (fun c a w => hQ c v a w) f listed a w (fun j oj hj hjk hun hno => hfree j oj hj hjk hno (fun e he hb heq => by
        obtain ⟨_, o, ho, hall⟩ := mem_ready.1 hkr
        have : o = ok := Option.some.inj (ho.symm.trans hk)
        subst this
        have h1 := hall e he hb
        rw [heq, getD_both hun] at h1
        cases h1)) hkr hv' (ih _ _ _ (by simpa using hz) hn)
    · refine ⟨fun h0 => h.1 (List.eq_nil_iff_forall_not_mem.2 fun j hj => ?_), fun j hj => ?_⟩
      · rcases Decidable.em (j = s) with rfl | hjs
        · obtain ⟨u0, o, ho, hall⟩ := mem_ready.1 hj
          have : j ∈ Region.ready md ops listed := by
            refine mem_ready.2 ⟨u0, os, hs, fun e he hb => hall e ?_ hb⟩
            have : o = withEdge os k := Option.some.inj (ho.symm.trans hs')
            subst this
            exact Array.mem_push.2 (.inl he)
          rw [h0] at this
          cases this
        · have := (r1 listed j hjs).1 hj
          rw [h0] at this
          cases this
      · rcases Decidable.em (j = s) with rfl | hjs
        · have hl : listed.getD k false = true := (gk listed hz).resolve_left fun e => hsr ⟨hj, e⟩
          have h1 := h.2 j (r2 listed hj hl)
          unfold wpOp at h1 ⊢
          rw [hs'] at h1
          rw [hs]
          simp only at h1 ⊢
          rw [hy] at h1
          have ew : Region.wanted (withEdge os k) (yielded ops a.tmps) = Region.wanted os (yielded ops a.tmps) := rfl
          rw [ew] at h1
          split at h1
          · rename_i hw
            rw [if_pos hw]
            rcases h1 with h1 | h1
            · exact .inl (Oper.wp_mono (fun a' w' => ih _ a' w' (by simpa using hz)) h1)
            · exact .inr h1
          · rename_i hw
            rw [if_neg hw]
            exact ih _ _ _ (by simpa using hz) h1
        · have h1 := h.2 j ((r1 listed j hjs).2 hj)
          unfold wpOp at h1 ⊢
          rw [hsame j hjs] at h1
          cases ho : ops[j]? with
          | none =>
            rw [ho] at h1
            exact ih _ _ _ (by simpa using hz) h1
          | some o =>
            rw [ho] at h1
            simp only at h1 ⊢
            rw [hy] at h1
            split at h1
            · rename_i hw
              rw [if_pos hw]
              rcases h1 with h1 | h1
              · exact .inl (Oper.wp_mono (fun a' w' => ih _ a' w' (by simpa using hz)) h1)
              · exact .inr h1
            · rename_i hw
              rw [if_neg hw]
              exact ih _ _ _ (by simpa using hz) h1
def edgeLast (l : List Oper) (os : Oper) (k : Nat) : List Oper := l.dropLast ++ [withEdge os k]
def isExtract (o : Oper) : Bool := match o.op with
  | .extract _ _ => true
  | _ => false
/-- Operation k takes a result out that the last operation does not wait for. -/
def pureB (l : List Oper) (n k : Nat) (ok os : Oper) : Bool := Region.lexTailB .any (edgeLast l os k).toArray n && isExtract ok && ok.guard.isNone && Nat.blt k n && Nat.beq l.length (n + 1) &&
  ok.after.toList.all (fun e => !Region.binds .any e || os.after.toList.any fun d => Region.binds .any d && Nat.beq d.on e.on) && (List.range l.length).all (fun j => Nat.beq j k || hasEdge .any ok j || ((l[j]?).map (fun oj => hasEdge .any oj k || ok.apart l.toArray oj)).getD true)
theorem wp_region_pure {C : World → Prop} {id : Nat} {Q : Exit → Act → World → Prop} {a : Act} {w : World} {l : List Oper} (n k : Nat) (ok os : Oper) (hm : P.follows .mixedOrders = true) (hk : l[k]? = some ok) (hl : l.getLast? = some os) (hB : pureB l n k ok os = true) (hC : C w.drew)
    (h : wpQuiet P (edgeLast l os k).toArray C (fun a' => ∀ w', C w' → wpList P (edgeLast l os k).toArray (NoPanic Q) [withEdge os k] a' w') (l.take n) a) : (Code.region id l.toArray true).wp P Q a w := by
  refine wp_region_noPanic ?_
  simp only [pureB, Bool.and_eq_true] at hB
  obtain ⟨⟨⟨⟨⟨⟨hT, hx⟩, hg⟩, hkn⟩, hz⟩, hdep⟩, hfree⟩ := hB
  replace hkn : k < n := by simpa using hkn
  replace hz : l.length = n + 1 := Nat.eq_of_beq_eq_true hz
  have el : l = l.dropLast ++ [os] := by
    obtain ⟨l', rfl⟩ : ∃ l', l = l' ++ [os] := List.getLast?_eq_some_iff.1 hl
    simp
  have hd : l.dropLast.length = n := by simp; omega
  have ht : l.take n = l.dropLast := by rw [List.dropLast_eq_take, hz]; rfl
  have hlast : l[n]? = some os := by rw [List.getLast?_eq_getElem?, hz] at hl; exact hl
  have hsame : ∀ j, j ≠ n → (edgeLast l os k)[j]? = l[j]? := by
    intro j hj
    unfold edgeLast
    conv => rhs; rw [el]
    rcases Nat.lt_or_ge j n with h | h
    · rw [List.getElem?_append_left (by omega), List.getElem?_append_left (by omega)]
    · rw [List.getElem?_append_right (by omega), List.getElem?_append_right (by omega), hd]
      obtain ⟨m, hm⟩ : ∃ m, j - n = m + 1 := ⟨j - n - 1, by omega⟩
      rw [hm]
      simp
  have hnew : (edgeLast l os k)[n]? = some (withEdge os k) := by
    unfold edgeLast
    rw [List.getElem?_append_right (by omega), hd]
    simp
  have hlen : (edgeLast l os k).length = n + 1 := by
    unfold edgeLast
    simp
    omega
  have hsel : ∀ (j : Nat) (o : Oper) cs b, l.toArray[j]? = some o → o.op ≠ .select cs b := by
    simp only [Region.lexTailB, Bool.and_eq_true] at hT
    have h1 := Region.noSelect_spec hT.1.1.1.1
    intro j o cs b ho
    have ho' : l[j]? = some o := by simpa using ho
    rcases Decidable.em (j = n) with rfl | hj
    · have : o = os := Option.some.inj (ho'.symm.trans hlast)
      subst this
      exact h1 j (withEdge o k) cs b (by simpa using hnew)
    · exact h1 j o cs b (by rw [← hsame j hj] at ho'; simpa using ho')
  obtain ⟨x, i, hxi⟩ : ∃ x i, ok.op = .extract x i := by
    unfold isExtract at hx
    split at hx
    · rename_i x i e; exact ⟨x, i, e⟩
    · cases hx
  have hd' : (edgeLast l os k).drop n = [withEdge os k] := by
    unfold edgeLast
    rw [← hd, List.drop_left]
  have ht' : (edgeLast l os k).take n = l.take n := by
    unfold edgeLast
    rw [← hd, List.take_left, hd, ht]
  refine wp_region_any hm ?_
  refine wpAny_edge (md := .any) (ops' := (edgeLast l os k).toArray) (k := k) (s := n) (by simpa using hk) hxi (by simpa using hg) (by simpa using hlast) (by omega) (by simpa using hnew) (fun j hj => by simpa using hsame j hj) hsel (fun c v a w h => (h : False).elim) ?_ ?_ _ _ _ _ (by simp) ?_
  · intro e he hb
    have := List.all_eq_true.1 hdep e (by simpa using he)
    simp only [hb, Bool.not_true, Bool.false_or] at this
    obtain ⟨d, hd1, hd2⟩ := List.any_eq_true.1 this
    simp only [Bool.and_eq_true] at hd2
    exact ⟨d, by simpa using hd1, hd2.1, Nat.eq_of_beq_eq_true hd2.2⟩
  · intro j oj hj hjk hno hnk
    have hj' : l[j]? = some oj := by simpa using hj
    have hjl : j < l.length := (List.getElem?_eq_some_iff.1 hj').1
    have := List.all_eq_true.1 hfree j (List.mem_range.2 hjl)
    simp only [hj', Option.map_some, Option.getD_some, Bool.or_eq_true] at this
    rcases this with (this | this) | this | this
    · exact absurd (Nat.eq_of_beq_eq_true this) hjk
    · obtain ⟨e, he, h2⟩ := List.any_eq_true.1 this
      simp only [Bool.and_eq_true] at h2
      exact absurd (Nat.eq_of_beq_eq_true h2.2) (hnk e (by simpa using he) h2.1)
    · obtain ⟨e, he, h2⟩ := List.any_eq_true.1 this
      simp only [Bool.and_eq_true] at h2
      exact absurd (Nat.eq_of_beq_eq_true h2.2) (hno e (by simpa using he) h2.1)
    · exact this
  · have hT2 := hT
    simp only [Region.lexTailB, Bool.and_eq_true, decide_eq_true_eq] at hT
    obtain ⟨⟨⟨⟨hsel', hn⟩, hs⟩, hc⟩, hlex⟩ := hT
    have htl : ((edgeLast l os k).take n).length = n := by simp; omega
    have hdl : ((edgeLast l os k).drop n).length = (edgeLast l os k).toArray.size - n := by simp
    have inv0 : HeadInv .any (edgeLast l os k).toArray n (Array.replicate (edgeLast l os k).toArray.size false) :=
      ⟨by simp, fun j oj _ hl => (by rw [getD_replicate_false] at hl; cases hl), fun t _ ht => getD_in (by simpa using ht) (getD_replicate_false _ _)⟩
    rw [← ht'] at h
    have H := wpHd_lex (md := .any) (g := (edgeLast l os k).toArray.size - n) hsel' hs hc hn ((edgeLast l os k).take n) 0 _ a (fun j hj => by
      have hj' : j < n := by rw [htl] at hj; exact hj
      simp [hj']) (by simpa using htl) inv0 (by rw [htl]; exact hlex) h
    have := wpAny_of_hd (Q := NoPanic Q) (g := (edgeLast l os k).toArray.size - n) (fun listed a' w' hw' hL => by
      have := wpAny_of_seq (P := P) (ops := (edgeLast l os k).toArray) (md := .any) (Q' := NoPanic Q) ((edgeLast l os k).drop n) n listed a' w' (fun j => by simp [List.getElem?_drop]) (by rw [hdl]; exact hL.1) (by rw [hd']; exact hL.2 w' hw')
      rwa [hdl] at this) _ _ _ _ hC H
    rw [htl, show n + ((edgeLast l os k).toArray.size - n) = (edgeLast l os k).toArray.size by simp; omega] at this
    have e1 : (edgeLast l os k).toArray.size = l.toArray.size := by simp; omega
    rw [e1] at this
    exact this
end
end Go.Proofs.YtpkbimmhimgamaaGreat
