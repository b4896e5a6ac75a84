/-
  Part of the proof of EngineRanges.
-/
import Derived.Test.YtpkbimmhimgamaaPBA
import Derived.Test.YtpkbimmhimgamaaPBB
import Derived.Test.YtpkbimmhimgamaaPAA
import Derived.ProofKit
import Derived.OpenShut
import Derived.SizedLaws
import Derived.ChangeSame
import Derived.Deep.Grids
import Derived.Deep.SlicePairs
import Derived.Lib.SmallJoins
namespace Go.Proofs.Ytpkbimmhimgamaa
set_option linter.unusedSimpArgs false
set_option linter.unusedVariables false
set_option linter.unnecessarySimpa false
open Go.RowKit
set_option maxHeartbeats 4000000 in
set_option maxRecDepth 100000 in
theorem eng_new_bad (c : Cfg) (A : Option Addr) (k n : Nat) (w : World) (ht : c.Ty) (hc : ¬ c.Ok) :
    Calls Try.prog 4 #[c.val, .slice A n k] w fun e w' => e = .returned (.tuple #[.pointer none, .int .i64 6]) ∧ Below w.heap.size w w' := by
  have S := Bx.one w #[.int .i64 c.bits, .int .u64 c.one, .int .i64 c.ring, .int .u64 c.lim, .int .i64 c.room, .int .u64 c.mss, .int .u64 c.ini, .int .u64 c.lea, .int .u64 c.mo, .int .i64 c.algo, .int .u64 c.fst, .int .u64 c.gr, .int .u64 c.cap, .int .u64 c.bur, .int .u64 c.slo, .int .i64 c.chal, .int .u64 c.evy] 24
  have KM : Hid (∀ w, Calls Try.prog 9 #[c.val] w fun e w' => e = .returned (.bool false) ∧ Below w.heap.size w w') := Lib.hid (fun w => (conf_may_any c w ht).mono (by
    rintro e w' ⟨r, rfl, hr, q⟩
    cases r
    · exact ⟨rfl, q⟩
    · exact absurd (hr.1 rfl) hc))
  clear hc ht
  unfold Cfg.val at *
  go_enter Try.func4, Try.ntmps4
  go_upto_region 1 with fail
  generalize w.alloc (.cells #[.int .i64 c.bits, .int .u64 c.one, .int .i64 c.ring, .int .u64 c.lim, .int .i64 c.room, .int .u64 c.mss, .int .u64 c.ini, .int .u64 c.lea, .int .u64 c.mo, .int .i64 c.algo, .int .u64 c.fst, .int .u64 c.gr, .int .u64 c.cap, .int .u64 c.bur, .int .u64 c.slo, .int .i64 c.chal, .int .u64 c.evy] 24) = w0 at *
  have a := cells_of (S.get 0 rfl)
  go_wp2_with (refine wpList_load_row rfl 24 _ rfl _ rfl _ _ _ _ (S.get 0 rfl) Try.underlying24 rfl infoCfg ?_)
  refine (KM.out _).mono ?_
  rintro e wm ⟨rfl, q⟩
  replace S := S.step q
  clear q a
  have a := cells_of (S.get 0 rfl)
  go_wp2
  go_ret2
  exact ⟨rfl, S.bel⟩
theorem start_row {c : Cfg} (hc : c.Ok) (ws : List Int) : (ES.start c ws).stRow = #[.int .i64 1, .int .u64 0, .int .u64 c.ini, .int .u64 18446744073709551615, .int .u64 0, .int .u64 c.fst, .int .u64 18446744073709551615, .int .u64 0, .int .u64 0, .int .u64 0, .int .u64 (rateS c.ini c.fst c.slo), .int .u64 0, .int .u64 0, .int .u64 0, .int .u64 0, .int .u64 0] := by
  have h1 : min (rateS c.ini c.fst c.slo) 4294967296 = rateS c.ini c.fst c.slo := by unfold rateS; omega
  have h0 : (ES.start c ws).l.kept = [] := List.drop_nil
  have h6 : (ES.start c ws).l.flight = 0 := by
    unfold LS.flight
    rw [h0]
    rfl
  have h2 : (ES.start c ws).timer = 18446744073709551615 := by
    unfold ES.timer
    have ho : ¬ (ES.start c ws).over := show ¬ ((1 : Int) = 3 ∨ (1 : Int) = 4) by decide
    rw [if_neg ho]
    have e : (ES.start c ws).dead = deadS 0 0 false (ES.start c ws).tmo c.cap := by
      unfold ES.dead
      rw [h6]
      rfl
    have e3 : (ES.start c ws).tm = 18446744073709551615 := rfl
    rw [e, e3]
    unfold deadS
    simp
  have h3 : (ES.start c ws).tr = rateS c.ini c.fst c.slo := h1
  have h4 : (ES.start c ws).l.low = 0 := Nat.zero_sub _
  have h5 : ((ES.start c ws).q.b.length : Int) - ((ES.start c ws).q.base : Int) = 0 := by rfl
  unfold ES.stRow
  rw [h2, h3, h4, h5, h6]
  rfl
set_option maxHeartbeats 8000000 in
set_option maxRecDepth 100000 in
theorem engineRanges_any (A : Option Addr) (k : Nat) (c : Cfg) (ws : List Int) (w : World) (ht : c.Ty) (hm : isU64 c.mss) (hr : Rd w 1 A ws.length k (Us ws)) (hn : ws.length ≤ 17592186044000) (hu : ∀ x ∈ ws, isU64 x) :
    Calls Try.prog 3 #[c.val, .slice A ws.length k] w fun e w' => e = .returned (.bool true) ∧ Below w.heap.size w w' := by
  have S := Bx.one w #[.int .i64 c.bits, .int .u64 c.one, .int .i64 c.ring, .int .u64 c.lim, .int .i64 c.room, .int .u64 c.mss, .int .u64 c.ini, .int .u64 c.lea, .int .u64 c.mo, .int .i64 c.algo, .int .u64 c.fst, .int .u64 c.gr, .int .u64 c.cap, .int .u64 c.bur, .int .u64 c.slo, .int .i64 c.chal, .int .u64 c.evy] 24
  have KC := Lib.hid (fun w => ref_check_any c w ht hm)
  have KA := Lib.hid engAlive
  by_cases hc : c.Ok
  · have KN := Lib.hid (fun W (q : Below w.heap.size w W) => eng_new c A k ws W hc (hr.below q) hn hu)
    have HR := Lib.hid (start_row hc ws)
    have KR := Lib.hid (fun w => ref_rate c.ini c.fst c.slo w hc.u.2.2.2.1 hc.u.2.2.2.2.2.2.1)
    have HC := Lib.hid hc
    clear hc ht hm hr hn hu
    unfold Cfg.val at *
    go_enter Try.func3, Try.ntmps3
    go_upto_region 1 with fail
    generalize w.alloc (.cells #[.int .i64 c.bits, .int .u64 c.one, .int .i64 c.ring, .int .u64 c.lim, .int .i64 c.room, .int .u64 c.mss, .int .u64 c.ini, .int .u64 c.lea, .int .u64 c.mo, .int .i64 c.algo, .int .u64 c.fst, .int .u64 c.gr, .int .u64 c.cap, .int .u64 c.bur, .int .u64 c.slo, .int .i64 c.chal, .int .u64 c.evy] 24) = w0 at *
    have a := cells_of (S.get 0 rfl)
    go_wp2_with (refine wpList_load_row rfl 24 _ rfl _ rfl _ _ _ _ (S.get 0 rfl) Try.underlying24 rfl infoCfg ?_)
    refine (KN.out _ S.bel).mono ?_
    rintro e w1 ⟨f, b, rfl, c1, l1, q⟩
    replace S := S.step q
    have C1 := Lib.hid c1
    clear q a c1 l1
    have a := cells_of (S.get 0 rfl)
    go_upto_region 2 with fail
    go_wp2_with fail
    refine (KA.out _).mono ?_
    rintro e w2 ⟨rfl, q⟩
    replace S := S.step q
    have C2 := Lib.hid (C1.out.below q)
    clear q a C1
    have a := cells_of (S.get 0 rfl)
    go_upto_region 4 with fail
    go_wp2_with (refine wpList_load_row rfl 24 _ rfl _ rfl _ _ _ _ (S.get 0 rfl) Try.underlying24 rfl infoCfg ?_)
    refine (KC.out _).mono ?_
    rintro e w3 ⟨n, rfl, hn, q⟩
    replace S := S.step q
    have C3 := Lib.hid (C2.out.below q)
    obtain rfl : n = 0 := hn.2 HC.out
    clear q a C2 hn
    have a := cells_of (S.get 0 rfl)
    go_upto_region 6 with fail
    have KS := Lib.hid (fun W (c : EngC W f b (ES.start c ws)) => eng_state W f b _ c)
    rw [HR.out] at KS
    have am := cells_ofM (S.get 0 rfl)
    have CM : Hid (∀ u, EngC (Go.Proofs.Ytpkbimmhimgamaa.mix w3 u) f b (ES.start c ws)) := Lib.hid (fun u => C3.out.mix u)
    refine wp_region_below (by kernel_rfl) (by kernel_rfl) ?_
    repeat (first | go_big_quiet_step ((first | (go_at_call 7; with_reducible exact Calls.mix_of (KS.out _ (CM.out _))) | (go_at_call 8; with_reducible exact Calls.mix_of (KR.out _)))) | quiet_step ((first | (go_at_call 7; with_reducible exact Calls.mix_of (KS.out _ (CM.out _))) | (go_at_call 8; with_reducible exact Calls.mix_of (KR.out _)))))
    refine wpQuiet_nil ?_
    intro w4 q
    replace S := S.step q
    go_wp2
    go_ret
    exact ⟨rfl, S.bel⟩
  · have KN := Lib.hid (fun W => eng_new_bad c A k ws.length W ht hc)
    have HC := Lib.hid hc
    clear hc ht hm hr hn hu
    unfold Cfg.val at *
    go_enter Try.func3, Try.ntmps3
    go_upto_region 1 with fail
    generalize w.alloc (.cells #[.int .i64 c.bits, .int .u64 c.one, .int .i64 c.ring, .int .u64 c.lim, .int .i64 c.room, .int .u64 c.mss, .int .u64 c.ini, .int .u64 c.lea, .int .u64 c.mo, .int .i64 c.algo, .int .u64 c.fst, .int .u64 c.gr, .int .u64 c.cap, .int .u64 c.bur, .int .u64 c.slo, .int .i64 c.chal, .int .u64 c.evy] 24) = w0 at *
    have a := cells_of (S.get 0 rfl)
    go_wp2_with (refine wpList_load_row rfl 24 _ rfl _ rfl _ _ _ _ (S.get 0 rfl) Try.underlying24 rfl infoCfg ?_)
    refine (KN.out _).mono ?_
    rintro e w1 ⟨rfl, q⟩
    replace S := S.step q
    clear q a
    have a := cells_of (S.get 0 rfl)
    go_upto_region 2 with fail
    go_wp2_with fail
    refine (KA.out _).mono ?_
    rintro e w2 ⟨rfl, q⟩
    replace S := S.step q
    clear q a
    have a := cells_of (S.get 0 rfl)
    go_upto_region 4 with fail
    go_wp2_with (refine wpList_load_row rfl 24 _ rfl _ rfl _ _ _ _ (S.get 0 rfl) Try.underlying24 rfl infoCfg ?_)
    refine (KC.out _).mono ?_
    rintro e w3 ⟨n, rfl, hn, q⟩
    replace S := S.step q
    have hz : (n != 0) = true := by
      have : n ≠ 0 := fun e => HC.out (hn.1 e)
      simpa using this
    clear q a hn
    have a := cells_of (S.get 0 rfl)
    go_wp2
    go_ret
    exact ⟨rfl, S.bel⟩
end Go.Proofs.Ytpkbimmhimgamaa
namespace Go.Proofs.Ytpkbimmhimgamaa
set_option linter.unusedSimpArgs false
set_option linter.unusedVariables false
set_option linter.unnecessarySimpa false
open Go.ChangeShapes Go.WideShapes Go.ChangeAt Go.RowKit Go.Deep
section
variable {H : Type} {enc : TypeId × Value → H} {P : Program} {W W' : World}
theorem trodAll_stays (hl : laidOutB P = true) (hb : Below W.heap.size W W') :
    ∀ {ts : List TypeId} {vs : List Value} {ds : List (DataW H)} {ps : List MemPlace}, (∀ t ∈ ts, P.readableRec t = true ∧ t < P.types.size) →
      DataW.TrodAll enc P W 0 (fun _ => true) true ts vs ds ps → (∀ x ∈ ps, x.block < W.heap.size) →
      DataW.TrodAll enc P W' 0 (fun b => decide (b < W.heap.size)) true ts vs ds ps := by
  intro ts
  induction ts with
  | nil =>
    intro vs ds ps _ h _
    obtain ⟨rfl, rfl, rfl⟩ := trodAll_nil h
    exact trodAll_mk0
  | cons t ts ih =>
    intro vs ds ps ht h hlt
    obtain ⟨v, vs', d, ds', p, q, rfl, rfl, rfl, h0, h1⟩ := trodAll_cons h
    have h2 := ht t (List.mem_cons_self ..)
    exact trodAll_cons_mk (Below.trod hl h2.1 h2.2 h0 hb (fun x hx => hlt x (List.mem_append.2 (.inl hx)))) (ih (fun u hu => ht u (List.mem_cons_of_mem _ hu)) h1 (fun x hx => hlt x (List.mem_append.2 (.inr hx))))

/-- A LAW's last step: it returned true and nothing that was there has turned. -/
theorem law_post {f : Func} {s : ChangeSpec} {args : Array Value} {ds gs : List (DataW H)} {before : List MemPlace} {tb : TypeId}
    (hl : laidOutB P = true) (hr : (f.params.toList.all fun t => P.readableRec t && decide (t < P.types.size)) = true) (hvars : s.vars = []) (hres : f.resultTypes = #[tb]) (htb : P.underlying tb = some .bool)
    (hfn : s.fn H (ds ++ gs) = { results := [.lit (.bool true)], args := ds })
    (hW : DataW.Whole enc P f.params.toList s.vars false W args.toList ds gs before) (hb : Below W.heap.size W W') :
    s.post enc P f false true false false W args (.bool true) W' := by
  have hW' := hW
  obtain ⟨p, q, hA, hV, rfl, _, _⟩ := hW
  rw [hvars] at hV
  obtain ⟨rfl, rfl⟩ := trodVars_none hV
  have hlt : ∀ x ∈ p, x.block < W.heap.size := fun x hx => hW'.lt x (List.mem_append.2 (.inl hx))
  refine ⟨_, _, _, [], p, [], hW', ?_, ?_, ?_, hb.frame _, fun h => by cases h⟩
  · rw [hfn, hres]
    exact trodAll_mk1 (shut_bool htb true)
  · rw [hfn]
    refine trodAll_stays hl hb (fun t ht => ?_) hA hlt
    have := List.all_eq_true.1 hr t ht
    simpa using this
  · rw [hfn, hvars]
    rfl

theorem weights_at {ts : List TypeId} {ds : List (DataW H)} (h : (DataW.weightsEach P ts ds).all (· ≤ reachBytes) = true) {j : Nat} {t : TypeId} {d : DataW H} (ht : ts[j]? = some t) (hd : ds[j]? = some d) :
    ∀ n ∈ d.weights P t, n ≤ reachBytes := fun n hn => by
  have := List.all_eq_true.1 h _ (DataW.weights_mem_each ht hd n hn)
  simpa using this

variable {base b0 : Nat} {t e : TypeId} {v : Value} {d : DataW H} {p : List MemPlace}
theorem rd_of_cells {a : Addr} {len cap : Nat} (hlc : len ≤ cap) (hm : cap ≤ maxLen) (xs : List Value) (size : Nat) (hs : 0 < size) (hx : xs.length = len * size) (hc : ∀ j u, xs[j]? = some u → W.cell? (a.add j) = some u) : Rd W size (some a) len cap xs := by
  refine ⟨hx, hlc, hm, fun hn => ?_⟩
  have hl : 0 < xs.length := by rw [hx]; exact Nat.mul_pos hn hs
  have h0 := hc 0 _ (List.getElem?_eq_getElem hl)
  obtain ⟨b, off, sp⟩ := a
  have hsp : sp = none := by simpa [Addr.add] using World.cell?_spot h0
  subst hsp
  refine ⟨b, off, rfl, fun j u hu => ?_⟩
  rw [← hc j u hu]
  congr 1
  unfold Addr.add
  split <;> simp_all

theorem open_is {k : IntKind} (ht : P.underlying t = some (.slice e)) (he : P.underlying e = some (.int k)) (hc : P.cellsOf e = 1) (hval : Value.okWide P W .any b0 t v)
    (h : DataW.Trod enc P W 0 (fun _ => true) true t v d p) (hw : ∀ n ∈ d.weights P t, n ≤ reachBytes) :
    ∃ (A : Option Addr) (n c : Nat) (l : List Int), v = .slice A n c ∧ Rd W 1 A n c (l.map (Value.int k)) ∧ (∀ x ∈ l, (Lit.int k x).wf = true) ∧ c * P.bytesOf e ≤ reachBytes := by
  obtain ⟨a0, len, cap, rfl⟩ := okWide_slice ht hval
  obtain ⟨fuel, hf⟩ := h
  rcases open_ints ht he hc hf with ⟨hcs, hx⟩ | ⟨a, len', cap', zs, hcs, _, hl, hm, hz, hx, hcell, hwz⟩
  · simp [Value.cells] at hcs
    obtain ⟨rfl, rfl, rfl⟩ := hcs
    exact ⟨none, 0, 0, [], rfl, Rd.nil_ _ _, by simp, by simp [reachBytes]⟩
  · simp [Value.cells] at hcs
    obtain ⟨rfl, rfl, rfl⟩ := hcs
    simp only [Prod.mk.injEq] at hx
    obtain ⟨rfl, rfl⟩ := hx
    simp only [if_true] at hz
    refine ⟨some a, len, cap, zs.take len, rfl, rd_of_cells hl hm _ 1 (by omega) (by simp; omega) ?_, fun x hx => hwz x (List.mem_of_mem_take hx), ?_⟩
    · intro j u hu
      have hj : j < len := by have := (List.getElem?_eq_some_iff.1 hu).1; simp at this; omega
      rw [hcell j (by omega), ← hu]
      have hj' : j < zs.length := by omega
      simp [hj, hj']
    · have := hw ((lits (H := H) k (zs.take len)).length * P.bytesOf e + (lits (H := H) k (zs.drop len)).length * P.bytesOf e) (by simp [DataW.weights, ht, Nat.add_mul])
      simp only [lits, List.length_map, List.length_take, List.length_drop, ← Nat.add_mul] at this
      rw [show min len zs.length + (zs.length - len) = cap by omega] at this
      exact this

end
theorem wf_u64 {x : Int} (h : (Lit.int .u64 x).wf = true) : isU64 x := by
  have : 0 ≤ x ∧ x ≤ 18446744073709551615 := by simpa [Lit.wf, IntKind.min, IntKind.max, IntKind.signed, IntKind.bits] using h
  unfold isU64; omega
theorem own : ownKnob Try.prog.godebug = none := by kernel_rfl
theorem laidOut : laidOutB Try.prog = true := by kernel_rfl
end Go.Proofs.Ytpkbimmhimgamaa
namespace Go.Proofs.Ytpkbimmhimgamaa
set_option linter.unusedSimpArgs false
set_option linter.unusedVariables false
set_option linter.unnecessarySimpa false
open Go.RowKit
open Go.ChangeShapes Go.WideShapes Go.ChangeAt Go.Deep Go.Joins
theorem cellsCI : Try.prog.cellsOf 3 = 1 := by kernel_rfl
theorem cellsCU : Try.prog.cellsOf 22 = 1 := by kernel_rfl
theorem cellsCC : Try.prog.cellsOf 24 = 17 := by kernel_rfl
theorem okWide_structC {P : Program} {w : World} {r : Reach} {base : Nat} {t : TypeId} {fs : Array Field} {v : Value} (ht : P.underlying t = some (.struct fs)) (h : Value.okWide P w r base t v) : ∃ cs, v = .agg cs ∧ cs.size = P.cellsOf t := by
  simp only [Value.okWide, ht] at h
  obtain ⟨cs, h1, h2, _⟩ := h
  exact ⟨cs, h1, h2⟩
section
variable {H : Type} {enc : TypeId × Value → H} {W : World} {b0 : Nat} {v : Value} {d : DataW H} {p : List MemPlace}
theorem trodC_i64 {spare : Nat → Bool} {n : Nat} {u : Value} {y : DataW H × List MemPlace} (h : DataW.trod enc Try.prog W 0 spare true n 3 [u] = some y) : ∃ x : Int, u = .int .i64 x := by
  obtain ⟨x, h1, h2, h3⟩ := DataW.trod_int (k := .i64) Try.underlying3 h
  simp at h1
  exact ⟨x, h1⟩
theorem trodC_u64 {spare : Nat → Bool} {n : Nat} {u : Value} {y : DataW H × List MemPlace} (h : DataW.trod enc Try.prog W 0 spare true n 22 [u] = some y) : ∃ x : Int, u = .int .u64 x ∧ isU64 x := by
  obtain ⟨x, h1, h2, h3⟩ := DataW.trod_int (k := .u64) Try.underlying22 h
  simp at h1
  exact ⟨x, h1, wf_u64 h3⟩
set_option maxRecDepth 100000 in
theorem open_cfg (hval : Value.okWide Try.prog W .any b0 24 v) (h : DataW.Trod enc Try.prog W 0 (fun _ => true) true 24 v d p) :
    ∃ c : Cfg, v = c.val ∧ c.Ty ∧ isU64 c.mss := by
  obtain ⟨⟨cs⟩, rfl, hsz⟩ := okWide_structC Try.underlying24 hval
  have hc : cs.length = 17 := hsz.trans cellsCC
  obtain ⟨fuel, hf⟩ := h
  obtain ⟨xs, k, _, _, _, hxl, hg⟩ := DataW.trod_struct Try.underlying24 hf
  match cs, hc, xs, hxl with
  | [v0, v1, v2, v3, v4, v5, v6, v7, v8, v9, v10, v11, v12, v13, v14, v15, v16], _, [y0, y1, y2, y3, y4, y5, y6, y7, y8, y9, y10, y11, y12, y13, y14, y15, y16], _ =>
    have g0 := hg 0 _ rfl
    have g1 := hg 1 _ rfl
    have g2 := hg 2 _ rfl
    have g3 := hg 3 _ rfl
    have g4 := hg 4 _ rfl
    have g5 := hg 5 _ rfl
    have g6 := hg 6 _ rfl
    have g7 := hg 7 _ rfl
    have g8 := hg 8 _ rfl
    have g9 := hg 9 _ rfl
    have g10 := hg 10 _ rfl
    have g11 := hg 11 _ rfl
    have g12 := hg 12 _ rfl
    have g13 := hg 13 _ rfl
    have g14 := hg 14 _ rfl
    have g15 := hg 15 _ rfl
    have g16 := hg 16 _ rfl
    simp [Value.cells, cellsCI, cellsCU] at g0 g1 g2 g3 g4 g5 g6 g7 g8 g9 g10 g11 g12 g13 g14 g15 g16
    obtain ⟨x0, rfl⟩ := trodC_i64 g0
    obtain ⟨x1, rfl, u1⟩ := trodC_u64 g1
    obtain ⟨x2, rfl⟩ := trodC_i64 g2
    obtain ⟨x3, rfl, u3⟩ := trodC_u64 g3
    obtain ⟨x4, rfl⟩ := trodC_i64 g4
    obtain ⟨x5, rfl, u5⟩ := trodC_u64 g5
    obtain ⟨x6, rfl, u6⟩ := trodC_u64 g6
    obtain ⟨x7, rfl, u7⟩ := trodC_u64 g7
    obtain ⟨x8, rfl, u8⟩ := trodC_u64 g8
    obtain ⟨x9, rfl⟩ := trodC_i64 g9
    obtain ⟨x10, rfl, u10⟩ := trodC_u64 g10
    obtain ⟨x11, rfl, u11⟩ := trodC_u64 g11
    obtain ⟨x12, rfl, u12⟩ := trodC_u64 g12
    obtain ⟨x13, rfl, u13⟩ := trodC_u64 g13
    obtain ⟨x14, rfl, u14⟩ := trodC_u64 g14
    obtain ⟨x15, rfl⟩ := trodC_i64 g15
    obtain ⟨x16, rfl, u16⟩ := trodC_u64 g16
    exact ⟨⟨x0, x1, x2, x3, x4, x5, x6, x7, x8, x9, x10, x11, x12, x13, x14, x15, x16⟩, rfl, ⟨u1, u3.1⟩, u5⟩
end
end Go.Proofs.Ytpkbimmhimgamaa
