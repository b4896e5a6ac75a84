/-
  Part of the proof of EngineRanges.
-/
import Derived.Test.YtpkbimmhimgamaaPAI
import Derived.Test.YtpkbimmhimgamaaPAE
import Derived.Deep.QuietTactic
import Derived.BigQuiet
import Derived.Deep.RegionHeld3
import Derived.Deep.DeepCutAuto
import Derived.Test.YtpkbimmhimgamaaPAP
import Derived.Test.YtpkbimmhimgamaaPAJ
import Derived.Test.YtpkbimmhimgamaaPAD
import Derived.Test.YtpkbimmhimgamaaPAA
namespace Go.Proofs.Ytpkbimmhimgamaa
set_option linter.unusedSimpArgs false
set_option linter.unusedVariables false
set_option linter.unnecessarySimpa false
open Go.RowKit
end Go.Proofs.Ytpkbimmhimgamaa
namespace Go.Proofs.Ytpkbimmhimgamaa
set_option linter.unusedSimpArgs false
set_option linter.unusedVariables false
set_option linter.unnecessarySimpa false
open Go.RowKit
/-- Two rows of the call's own: nonces and coins, the first k laid. -/
structure SumRows (B : Nat) (gp gq : Nat) (mk : List Sp) (l : List Snt) (k : Nat) (W : World) : Prop where
  p : W.ownsRow B 22 1 (.slice (some ⟨gp, 0, none⟩) l.length l.length) l.length (Us ((l.take k).map Snt.nonce ++ List.replicate (l.length - k) 0))
  q : W.ownsRow B 4 1 (.slice (some ⟨gq, 0, none⟩) l.length l.length) l.length (Bs ((l.take k).map (LS.odd mk) ++ List.replicate (l.length - k) false))
  ne : gp ≠ gq
  bp : B ≤ gp
  bq : B ≤ gq
theorem SumRows.below {B gp gq k : Nat} {mk : List Sp} {l : List Snt} {W W' : World} (h : SumRows B gp gq mk l k W) (b : Below W.heap.size W W') : SumRows B gp gq mk l k W' :=
  ⟨own_chg h.p (chg_below b (F := fun _ => False)) (fun _ _ h => h), own_chg h.q (chg_below b (F := fun _ => False)) (fun _ _ h => h), h.ne, h.bp, h.bq⟩
theorem SumRows.lt {B gp gq k : Nat} {mk : List Sp} {l : List Snt} {W : World} (h : SumRows B gp gq mk l k W) (hn : 0 < l.length) : gp < W.heap.size ∧ gq < W.heap.size :=
  ⟨(h.p.lt gp (by simp [Value.ownBlock])).2, (h.q.lt gq (by simp [Value.ownBlock])).2⟩
theorem SumRows.cells {B gp gq k : Nat} {mk : List Sp} {l : List Snt} {W : World} (h : SumRows B gp gq mk l k W) (hk : k < l.length) :
    (∃ x, W.cell? ⟨gp, k, none⟩ = some x) ∧ W.frozen? ⟨gp, k, none⟩ = false ∧ (∃ y, W.cell? ⟨gq, k, none⟩ = some y) ∧ W.frozen? ⟨gq, k, none⟩ = false := by
  refine ⟨?_, h.p.frozenAt k, ?_, h.q.frozenAt k⟩
  · have := h.p.cellAt k (by omega)
    have hl := h.p.1
    simp at hl
    rw [this]
    exact ⟨_, List.getElem?_eq_getElem (by simp; omega)⟩
  · have := h.q.cellAt k (by omega)
    rw [this]
    exact ⟨_, List.getElem?_eq_getElem (by simp; omega)⟩

theorem SumRows.made (w : World) (mk : List Sp) (l : List Snt) (hl : l.length ≤ maxLen) :
    SumRows w.heap.size w.heap.size (w.heap.size + 1) mk l 0 (((w.alloc (.cells (madeCells #[.int .u64 0] l.length) 22)).alloc (.cells (madeCells #[.bool false] l.length) 4)).drew) ∧ Below w.heap.size w (((w.alloc (.cells (madeCells #[.int .u64 0] l.length) 22)).alloc (.cells (madeCells #[.bool false] l.length) 4)).drew) := by
  have h1 := World.ownsRow_lit (base := w.heap.size) (e := 22) (size := 1) w (madeCells #[.int .u64 0] l.length) l.length (Nat.le_refl _) hl (by rw [size_madeCells]; omega)
  have z1 : (w.alloc (.cells (madeCells #[.int .u64 0] l.length) 22)).heap.size = w.heap.size + 1 := by simp
  have b1 := box_below w (.cells (madeCells #[.int .u64 0] l.length) 22)
  generalize (w.alloc (.cells (madeCells #[.int .u64 0] l.length) 22)) = w1 at *
  have h2 := World.ownsRow_lit (base := w.heap.size) (e := 4) (size := 1) w1 (madeCells #[.bool false] l.length) l.length (by omega) hl (by rw [size_madeCells]; omega)
  have b2 := box_below w1 (.cells (madeCells #[.bool false] l.length) 4)
  have h1' := h1.alloc (.cells (madeCells #[.bool false] l.length) 4)
  rw [toList_madeCells_one] at h1' h2
  rw [z1] at h2
  exact ⟨⟨show (w1.alloc _).ownsRow _ _ _ _ _ _ from by simpa [Us] using h1', show (w1.alloc _).ownsRow _ _ _ _ _ _ from by simpa [Bs] using h2, by omega, Nat.le_refl _, by omega⟩, (b1.trans (b2.mono b1.size)).drew⟩
/-- What stays: the ledger, what is claimed and marked, all that is kept. -/
structure SumSt (w : World) (F : Nat → Prop) (b : Nat) (s : LS) (A1 A2 A3 : Option Addr) (c1 c2 c3 : Nat) (cl mk : List Sp) (W : World) : Prop where
  led : LedP W F b s
  r1 : Rd W 2 A1 cl.length c1 (Ss cl)
  r2 : Rd W 2 A2 mk.length c2 (Ss mk)
  r3 : Rd W 8 A3 s.kept.length c3 (Sns s.kept)
  bel : Below w.heap.size w W
theorem SumSt.below {w W W' : World} {F : Nat → Prop} {b : Nat} {s : LS} {A1 A2 A3 : Option Addr} {c1 c2 c3 : Nat} {cl mk : List Sp} (h : SumSt w F b s A1 A2 A3 c1 c2 c3 cl mk W) (q : Below W.heap.size W W') : SumSt w F b s A1 A2 A3 c1 c2 c3 cl mk W' :=
  ⟨h.led.below q, h.r1.below q, h.r2.below q, h.r3.below q, h.bel.trans (q.mono h.bel.size)⟩
theorem SumSt.chg {w w4 W W' : World} {F : Nat → Prop} {b gp gq : Nat} {s : LS} {A1 A2 A3 : Option Addr} {c1 c2 c3 : Nat} {cl mk : List Sp} (h4 : SumSt w F b s A1 A2 A3 c1 c2 c3 cl mk w4) (q : Below w4.heap.size w4 W) : SumSt w F b s A1 A2 A3 c1 c2 c3 cl mk W := h4.below q
/-- The first loop: k rows laid. -/
structure SumL1 (w w4 : World) (gp gq : Nat) (mk : List Sp) (l : List Snt) (k : Nat) (W : World) : Prop where
  rows : SumRows w4.heap.size gp gq mk l k W
  bel : Below w4.heap.size w4 W
theorem SumL1.below {w w4 W W' : World} {gp gq k : Nat} {mk : List Sp} {l : List Snt} (h : SumL1 w w4 gp gq mk l k W) (b : Below W.heap.size W W') : SumL1 w w4 gp gq mk l k W' :=
  ⟨h.rows.below b, h.bel.trans (b.mono h.bel.size)⟩
/-- The second loop: k claims told. -/
structure SumL2 (w : World) (F : Nat → Prop) (b : Nat) (s : LS) (A1 A2 A3 Ap Aq : Option Addr) (c1 c2 c3 cp cq : Nat) (cl mk : List Sp) (k : Nat) (X : Int) (O : Bool) (W : World) : Prop where
  st : SumSt w F b s A1 A2 A3 c1 c2 c3 cl mk W
  p : Rd W 1 Ap (s.kept.length + 1) cp (Us (scan xor64 0 (s.kept.map Snt.nonce)))
  q : Rd W 1 Aq (s.kept.length + 1) cq (Bs (scan (· != ·) false (s.kept.map (LS.odd mk))))
  rg : ∀ i, (h : i < cl.length) → i < k → (s.low : Int) ≤ cl[i].1 ∧ cl[i].2 < s.all.length
  ns : LS.noSkip s.kept (cl.take k)
  x : X = LS.sumX (cl.take k) s.kept
  o : O = LS.sumO (cl.take k) mk s.kept
theorem SumL2.below {w W W' : World} {F : Nat → Prop} {b : Nat} {s : LS} {A1 A2 A3 Ap Aq : Option Addr} {c1 c2 c3 cp cq : Nat} {cl mk : List Sp} {k : Nat} {X : Int} {O : Bool} (h : SumL2 w F b s A1 A2 A3 Ap Aq c1 c2 c3 cp cq cl mk k X O W) (q : Below W.heap.size W W') :
    SumL2 w F b s A1 A2 A3 Ap Aq c1 c2 c3 cp cq cl mk k X O W' := ⟨h.st.below q, h.p.below q, h.q.below q, h.rg, h.ns, h.x, h.o⟩

end Go.Proofs.Ytpkbimmhimgamaa
namespace Go.Proofs.Ytpkbimmhimgamaa
set_option linter.unusedSimpArgs false
set_option linter.unusedVariables false
set_option linter.unnecessarySimpa false
open Go.RowKit
end Go.Proofs.Ytpkbimmhimgamaa
namespace Go.Proofs.Ytpkbimmhimgamaa
set_option linter.unusedSimpArgs false
set_option linter.unusedVariables false
set_option linter.unnecessarySimpa false
open Go.RowKit
attribute [local go_sem ↓] run_min_int run_max_int
/-- The boxed acknowledgment and the ledger. -/
structure ChkSt (w : World) (F : Nat → Prop) (b : Nat) (s : LS) (a : Ak) (g : Nat) (W : World) : Prop where
  p : AkBox w a g W
  led : LedP W F b s
theorem ChkSt.below {w W W' : World} {F : Nat → Prop} {b : Nat} {s : LS} {a : Ak} {g : Nat} (h : ChkSt w F b s a g W) (q : Below W.heap.size W W') : ChkSt w F b s a g W' := ⟨h.p.below q, h.led.below q⟩

end Go.Proofs.Ytpkbimmhimgamaa
namespace Go.Proofs.Ytpkbimmhimgamaa
set_option linter.unusedSimpArgs false
set_option linter.unusedVariables false
set_option linter.unnecessarySimpa false
open Go.RowKit
end Go.Proofs.Ytpkbimmhimgamaa
namespace Go.Proofs.Ytpkbimmhimgamaa
set_option linter.unusedSimpArgs false
set_option linter.unusedVariables false
set_option linter.unnecessarySimpa false
open Go.RowKit
theorem results_cell_row {P : Program} {fn : Func} {p : Tmp} {ty : TypeId} (h : fn.results = #[.cell p ty]) (tmps : Array Value) (w : World) (g : Nat) (t : TypeId) (cs : Array Value) (fr : Nat × Nat) (d : TypeDesc)
    (hp : tmps.getD p undef = .pointer (some ⟨g, 0, none⟩)) (hg : w.heap[g]? = some (.cells cs t fr))
    (hu : P.underlying ty = some d) (hd : (match d with | .struct _ | .array _ _ => true | _ => false) = true) (hi : (P.info? ty).map (·.size) = some cs.size) :
    (results fn tmps).run P w = .ok (.agg cs) w := by
  simp only [Array.getD_eq_getD_getElem?] at hp
  simp only [results, h]
  simp [Sem.run_bind, Result.andThen, hp, asAddr, run_loadVar_row w g t ty cs fr d hg hu hd hi]
/-- An acknowledgment in memory, its rows in blocks of E. -/
structure AkE (w : World) (E : Nat → Prop) (a : Ak) : Prop where
  r : AkR w a
  eA : ∀ b off, a.A = some ⟨b, off, none⟩ → 0 < a.sp.length → E b
  eB : ∀ b off, a.B = some ⟨b, off, none⟩ → 0 < a.mm.length → E b
theorem AkE.chg {w w' : World} {E E' G : Nat → Prop} {a : Ak} (h : AkE w E a) (hc : Chg G w w') (hd : ∀ k, k < w.heap.size → E k → ¬ G k) (hs : ∀ k, k < w.heap.size → E k → E' k) : AkE w' E' a :=
  have l1 : ∀ b off, a.A = some ⟨b, off, none⟩ → 0 < a.sp.length → b < w.heap.size := fun b off e hn => h.r.rs.lt (by omega) hn b off e
  have l2 : ∀ b off, a.B = some ⟨b, off, none⟩ → 0 < a.mm.length → b < w.heap.size := fun b off e hn => h.r.rm.lt (by omega) hn b off e
  ⟨h.r.chg hc (fun b off e hn => hd b (l1 b off e hn) (h.eA b off e hn)) (fun b off e hn => hd b (l2 b off e hn) (h.eB b off e hn)),
   fun b off e hn => hs b (l1 b off e hn) (h.eA b off e hn), fun b off e hn => hs b (l2 b off e hn) (h.eB b off e hn)⟩
theorem AkE.below {w w' : World} {E : Nat → Prop} {a : Ak} (h : AkE w E a) (b : Below w.heap.size w w') : AkE w' E a :=
  h.chg (chg_below b (F := fun _ => False)) (fun _ _ _ h => h) (fun _ _ h => h)
theorem AkE.nil (w : World) (E : Nat → Prop) (a : Ak) (h1 : a.A = none) (h2 : a.c = 0) (h3 : a.B = none) (h4 : a.d = 0) (h5 : a.sp = []) (h6 : a.mm = []) (ht : isU64 a.tr) (hx : isU64 a.xo) : AkE w E a := by
  obtain ⟨A, c, B, d, sp, mm, tr, xo, od⟩ := a
  simp only at h1 h2 h3 h4 h5 h6 ht hx
  subst h1 h2 h3 h4 h5 h6
  exact ⟨⟨Rd.nil_ _ _, Rd.nil_ _ _, (fun _ h => by cases h), (fun _ h => by cases h), ht, hx⟩, (fun b off e => by cases e), (fun b off e => by cases e)⟩

def ovN (o : Bool) : Int := if o = true then 1 else 0
/-- The guard's cells. -/
def guaRow (qb : Nat) (g : GS) (a : Ak) : Array Value :=
  #[.pointer (some ⟨qb, 0, none⟩), .int .u64 g.mal, .int .u64 g.drp, .int .u64 g.tak, .int .u64 g.cha, .int .u64 g.lat, .int .u32 (ovN g.over), .int .u32 (ovN g.over), .int .i32 0, .int .u32 0,
    .int .u64 g.ev.at_, .int .u64 g.ev.pn, .int .u64 g.ev.used, .int .i64 g.ev.why, .slice a.A a.sp.length a.c, .slice a.B a.mm.length a.d, .int .u64 a.tr, .int .u64 a.xo, .bool a.od]
structure GuaC (w : World) (F E : Nat → Prop) (b : Nat) (g : GS) (qb : Nat) (a : Ak) : Prop where
  t : w.heap[b]? = some (.cells (guaRow qb g a) 110 (0, 0))
  bud : BudP w (fun k => F k ∧ k ≠ b) qb g.b
  ev : AkE w E a
  is : a.is g.ev.d
  gd : g.ev.d.Good
  fb : F b
  dj : ∀ k, E k → ¬ F k
structure GuaP (w : World) (F E : Nat → Prop) (b : Nat) (g : GS) : Prop where
  good : g.Good
  ex : ∃ qb a, GuaC w F E b g qb a
theorem GuaC.chg {w w' : World} {F E F' E' G : Nat → Prop} {b qb : Nat} {g : GS} {a : Ak} (h : GuaC w F E b g qb a) (hc : Chg G w w') (hd : ∀ k, k < w.heap.size → F k ∨ E k → ¬ G k) (hF : ∀ k, k < w.heap.size → F k → F' k) (hE : ∀ k, k < w.heap.size → E k → E' k) (dj : ∀ k, E' k → ¬ F' k) : GuaC w' F' E' b g qb a := by
  have hb := lt_of_block h.t
  exact ⟨hc.blk h.t (hd b hb (.inl h.fb)), h.bud.chg hc (fun k hk hf => hd k hk (.inl hf.1)) (fun k hk hf => ⟨hF k hk hf.1, hf.2⟩), h.ev.chg hc (fun k hk he => hd k hk (.inr he)) hE, h.is, h.gd, hF b hb h.fb, dj⟩
theorem GuaC.below {w w' : World} {F E : Nat → Prop} {b qb : Nat} {g : GS} {a : Ak} (h : GuaC w F E b g qb a) (q : Below w.heap.size w w') : GuaC w' F E b g qb a :=
  h.chg (chg_below q (F := fun _ => False)) (fun _ _ _ h => h) (fun _ _ h => h) (fun _ _ h => h) h.dj
theorem GuaP.chg {w w' : World} {F E F' E' G : Nat → Prop} {b : Nat} {g : GS} (h : GuaP w F E b g) (hc : Chg G w w') (hd : ∀ k, k < w.heap.size → F k ∨ E k → ¬ G k) (hF : ∀ k, k < w.heap.size → F k → F' k) (hE : ∀ k, k < w.heap.size → E k → E' k) (dj : ∀ k, E' k → ¬ F' k) : GuaP w' F' E' b g := by
  obtain ⟨g1, qb, a, hC⟩ := h
  exact ⟨g1, qb, a, hC.chg hc hd hF hE dj⟩
theorem GuaP.below {w w' : World} {F E : Nat → Prop} {b : Nat} {g : GS} (h : GuaP w F E b g) (q : Below w.heap.size w w') : GuaP w' F E b g := by
  obtain ⟨g1, qb, a, hC⟩ := h
  exact ⟨g1, qb, a, hC.below q⟩
theorem GuaP.dj {w : World} {F E : Nat → Prop} {b : Nat} {g : GS} (h : GuaP w F E b g) : ∀ k, E k → ¬ F k := by
  obtain ⟨g1, qb, a, hC⟩ := h
  exact hC.dj
theorem GuaP.lt {w : World} {F E : Nat → Prop} {b : Nat} {g : GS} (h : GuaP w F E b g) : b < w.heap.size ∧ F b := by
  obtain ⟨g1, qb, a, hC⟩ := h
  exact ⟨lt_of_block hC.t, hC.fb⟩
/-- Less is kept. -/
theorem GuaP.sub {w : World} {F E F' E' : Nat → Prop} {b : Nat} {g : GS} (h : GuaP w F E b g) (hF : ∀ k, k < w.heap.size → F k → F' k) (hE : ∀ k, k < w.heap.size → E k → E' k) (dj : ∀ k, E' k → ¬ F' k) : GuaP w F' E' b g :=
  h.chg (Chg.refl (fun _ => False) w) (fun _ _ _ h => h) hF hE dj
/-- A count (or the mark of the end) has been stored. -/
theorem GuaC.set {w : World} {F E : Nat → Prop} {b qb : Nat} {g g' : GS} {a : Ak} (h : GuaC w F E b g qb a) (i : Nat) (v : Value) (hr : guaRow qb g' a = (guaRow qb g a).setIfInBounds i v) (h1 : g'.b = g.b) (h2 : g'.ev = g.ev) : GuaC (w.setCell ⟨b, i, none⟩ v) F E b g' qb a := by
  have hC : Chg (fun j => j = b) w (w.setCell ⟨b, i, none⟩ v) := (Chg.refl (fun j => j = b) w).setCell (p := ⟨b, i, none⟩) (.inl rfl) _
  exact ⟨by rw [hr]; exact heap_setCell_same w b i _ _ v h.t, by rw [h1]; exact h.bud.chg hC (fun k _ hk e => hk.2 e) (fun _ _ h => h), h.ev.chg hC (fun k _ hk e => h.dj k hk (by rw [show k = b from e]; exact h.fb)) (fun _ _ h => h), by rw [h2]; exact h.is, by rw [h2]; exact h.gd, h.fb, h.dj⟩
/-- The budget has been asked. -/
theorem GuaC.asked {w w' : World} {F E : Nat → Prop} {b qb : Nat} {g : GS} {a : Ak} {s : BS} (h : GuaC w F E b g qb a) (hb : BudP w' (Grow (fun k => F k ∧ k ≠ b) w) qb s) (hc : Chg (fun k => F k ∧ k ≠ b) w w') :
    GuaC w' (Grow F w) (fun k => E k ∧ k < w.heap.size) b { g with b := s } qb a := by
  have hbs := lt_of_block h.t
  exact ⟨hc.blk h.t (fun e => e.2 rfl), hb.sub (fun k _ hk => hk.elim (fun e => ⟨.inl e.1, e.2⟩) (fun e => ⟨.inr e, by omega⟩)), h.ev.chg hc (fun k _ hk e => h.dj k hk e.1) (fun k hk he => ⟨he, hk⟩), h.is, h.gd, .inl h.fb, fun k hk hf => hf.elim (h.dj k hk.1) (fun e => by have := hk.2; omega)⟩

theorem infoCts : (Try.prog.info? 33).map (·.size) = some 5 := by kernel_rfl
end Go.Proofs.Ytpkbimmhimgamaa
namespace Go.Proofs.Ytpkbimmhimgamaa
set_option linter.unusedSimpArgs false
set_option linter.unusedVariables false
set_option linter.unnecessarySimpa false
open Go.RowKit
def fillFrom (W : World) (g : Nat) : Nat → List Value → World
  | _, [] => W
  | k, v :: r => fillFrom (W.setCell ⟨g, k, none⟩ v) g (k + 1) r
theorem fill_chg (g : Nat) : ∀ (vs : List Value) (W : World) (k : Nat), Chg (fun j => j = g) W (fillFrom W g k vs) := by
  intro vs
  induction vs with
  | nil => intro W k; exact Chg.refl _ _
  | cons v r ih =>
    intro W k
    exact ((Chg.refl (fun j => j = g) W).setCell (p := ⟨g, k, none⟩) (.inl rfl) v).trans ((ih _ _).mono fun _ _ h => .inl h)
theorem fill_list (g : Nat) (t : TypeId) : ∀ (vs : List Value) (W : World) (k : Nat) (l : List Value), W.heap[g]? = some (.cells l.toArray t) → k + vs.length ≤ l.length →
    (fillFrom W g k vs).heap[g]? = some (.cells (l.take k ++ vs ++ l.drop (k + vs.length)).toArray t) := by
  intro vs
  induction vs with
  | nil => intro W k l h hl; simpa [fillFrom] using h
  | cons v r ih =>
    intro W k l h hl
    simp only [List.length_cons] at hl
    have h1 := heap_setCell_same W g k _ _ v h
    rw [show l.toArray.setIfInBounds k v = (l.set k v).toArray by simp] at h1
    have h2 := ih (W.setCell ⟨g, k, none⟩ v) (k + 1) (l.set k v) h1 (by simp; omega)
    show (fillFrom (W.setCell ⟨g, k, none⟩ v) g (k + 1) r).heap[g]? = _
    rw [h2]
    congr 3
    have e1 : (l.set k v).take (k + 1) = l.take k ++ [v] := by
      apply List.ext_getElem
      · simp; omega
      · intro i h3 h4
        simp only [List.length_take, List.length_set] at h3
        rw [List.getElem_take, List.getElem_set, List.getElem_append]
        by_cases hik : k = i
        · subst hik; simp; intro h5; omega
        · have : i < k := by omega
          simp [hik, this]
          intro h5
          omega
    have e2 : (l.set k v).drop (k + 1 + r.length) = l.drop (k + (r.length + 1)) := by
      rw [List.drop_set_of_lt (by omega)]
      congr 1
      omega
    rw [e1, e2]
    simp
/-- The whole row. -/
theorem fill_all {W : World} {g : Nat} {t : TypeId} {cs : Array Value} (vs : List Value) (h : W.heap[g]? = some (.cells cs t)) (hl : vs.length = cs.size) : (fillFrom W g 0 vs).heap[g]? = some (.cells vs.toArray t) := by
  have := fill_list g t vs W 0 cs.toList (by simpa using h) (by simp; omega)
  rw [this]
  congr 2
  simp [hl]

end Go.Proofs.Ytpkbimmhimgamaa
namespace Go.Proofs.Ytpkbimmhimgamaa
set_option linter.unusedSimpArgs false
set_option linter.unusedVariables false
set_option linter.unnecessarySimpa false
open Go.RowKit
theorem GuaC.c {w : World} {F E : Nat → Prop} {b qb : Nat} {g : GS} {a : Ak} (h : GuaC w F E b g qb a) (i : Nat) {v : Value} (hv : (guaRow qb g a)[i]? = some v) : w.cell? ⟨b, i, none⟩ = some v := (cell_of_row w b i _ _ _ h.t).trans hv
theorem GuaC.c6 {w : World} {F E : Nat → Prop} {b qb : Nat} {g : GS} {a : Ak} (h : GuaC w F E b g qb a) {o : Bool} (ho : g.over = o) : w.cell? ⟨b, 6, none⟩ = some (.int .u32 (ovN o)) := by subst ho; exact h.c 6 rfl
theorem GuaC.fz {w : World} {F E : Nat → Prop} {b qb : Nat} {g : GS} {a : Ak} (h : GuaC w F E b g qb a) (i : Nat) : w.frozen? ⟨b, i, none⟩ = false := frozen_of_row w b i _ _ h.t

set_option maxHeartbeats 1000000 in
theorem gua_new (most every : Int) (w : World) (he : isU64 every) :
    Calls Try.prog 13 #[.int .i64 most, .int .u64 every] w fun e w' => ∃ b, e = .returned (.pointer (some ⟨b, 0, none⟩)) ∧ GuaP w' (fun k => w.heap.size ≤ k) (fun _ => False) b (GS.new most every) ∧ Below w.heap.size w w' := by
  have C1 := Lib.hid (bud_new most every w he)
  have HE := Lib.hid he
  clear he
  go_enter Try.func13, Try.ntmps13
  go_wp2_with fail
  refine C1.out.mono ?_
  rintro e w1 ⟨rfl, hB, hb⟩
  have HB := Lib.hid hB
  have Hb := Lib.hid hb
  have hl := hB.lt.1
  clear hB hb C1
  go_wp2
  go_ret
  have eb := box_below w1 (.cells (guaRow w.heap.size (GS.new most every) ⟨none, 0, none, 0, [], [], 0, 0, false⟩) 110)
  refine ⟨w1.heap.size, rfl, ⟨GS.Good.new HE.out, w.heap.size, ⟨none, 0, none, 0, [], [], 0, 0, false⟩, ⟨heap_alloc_new w1 _, ((HB.out.below eb).sub (fun k _ hk => ⟨by show w.heap.size ≤ k; omega, by omega⟩)), AkE.nil _ _ _ rfl rfl rfl rfl rfl rfl ⟨by decide, by decide⟩ ⟨by decide, by decide⟩, ⟨rfl, rfl, rfl, rfl, rfl⟩, AckD.Good.zero, by show w.heap.size ≤ _; exact Hb.out.size, fun k hk => hk.elim⟩⟩, Hb.out.trans (eb.mono Hb.out.size)⟩

def ctsRow (g : GS) : Array Value := #[.int .u64 g.mal, .int .u64 g.drp, .int .u64 g.tak, .int .u64 g.cha, .int .u64 g.lat]
set_option maxHeartbeats 4000000 in
set_option maxRecDepth 100000 in
theorem gua_counts (w : World) (F E : Nat → Prop) (b : Nat) (g : GS) (h : GuaP w F E b g) :
    Calls Try.prog 28 #[.pointer (some ⟨b, 0, none⟩)] w fun e w' => e = .returned (.agg (ctsRow g)) ∧ Below w.heap.size w w' := by
  obtain ⟨qb, a, hC⟩ := h.ex
  have eb := box_below w (.cells #[.int .u64 0, .int .u64 0, .int .u64 0, .int .u64 0, .int .u64 0] 33)
  have C1 := Lib.hid (hC.below eb)
  have Z1 := Lib.hid (heap_alloc_new w (.cells #[.int .u64 0, .int .u64 0, .int .u64 0, .int .u64 0, .int .u64 0] 33))
  have B1 := Lib.hid eb
  have hbs := lt_of_block hC.t
  clear h hC eb
  go_enter Try.func28, Try.ntmps28
  go_upto_region 3 with fail
  generalize w.alloc (.cells #[.int .u64 0, .int .u64 0, .int .u64 0, .int .u64 0, .int .u64 0] 33) = w1 at *
  have B2 : Hid (Below w.heap.size w w1.drew) := Lib.hid B1.out.drew
  have C2 := Lib.hid (C1.out.below (Below.refl _ _).drew)
  have Z2 : Hid (w1.drew.heap[w.heap.size]? = some (.cells #[.int .u64 0, .int .u64 0, .int .u64 0, .int .u64 0, .int .u64 0] 33 (0, 0))) := Z1
  refine wp_region_chg (fun j => j = w.heap.size) (by kernel_rfl) (by kernel_rfl) ?_
  repeat (refine wpMix_seg 1 _ _ rfl ?_; simp only [List.take_succ_cons, List.take_zero, List.drop_succ_cons, List.drop_zero]; go_big_quiet_step (fail); refine wpQuiet_nil ?_)
  generalize hw2 : w1.drew = w2 at *
  have hq : Hid (Chg (fun j => j = w.heap.size) w1 w2) := Lib.hid (by rw [← hw2]; exact (Chg.refl _ _).drew)
  clear hw2
  refine wpMix_bar rfl (by rfl) ?_
  go_wp2_with fail
  refine (u64_load ⟨b, 1, none⟩ g.mal _ (C2.out.c 1 rfl)).mono ?_
  rintro e w3 ⟨rfl, rfl⟩
  go_wp2
  refine ⟨chg_mixF (hq.out), ?_⟩
  repeat (refine wpMix_seg 1 _ _ rfl ?_; simp only [List.take_succ_cons, List.take_zero, List.drop_succ_cons, List.drop_zero]; go_big_quiet_step (fail); refine wpQuiet_nil ?_)
  refine wpMix_bar rfl (by rfl) ?_
  go_wp2_with fail
  refine (u64_load ⟨b, 2, none⟩ g.drp _ (C2.out.c 2 rfl)).mono ?_
  rintro e w3 ⟨rfl, rfl⟩
  go_wp2
  refine ⟨chg_mixF (hq.out), ?_⟩
  repeat (refine wpMix_seg 1 _ _ rfl ?_; simp only [List.take_succ_cons, List.take_zero, List.drop_succ_cons, List.drop_zero]; go_big_quiet_step (fail); refine wpQuiet_nil ?_)
  refine wpMix_bar rfl (by rfl) ?_
  go_wp2_with fail
  refine (u64_load ⟨b, 3, none⟩ g.tak _ (C2.out.c 3 rfl)).mono ?_
  rintro e w3 ⟨rfl, rfl⟩
  go_wp2
  refine ⟨chg_mixF (hq.out), ?_⟩
  repeat (refine wpMix_seg 1 _ _ rfl ?_; simp only [List.take_succ_cons, List.take_zero, List.drop_succ_cons, List.drop_zero]; go_big_quiet_step (fail); refine wpQuiet_nil ?_)
  refine wpMix_bar rfl (by rfl) ?_
  go_wp2_with fail
  refine (u64_load ⟨b, 4, none⟩ g.cha _ (C2.out.c 4 rfl)).mono ?_
  rintro e w3 ⟨rfl, rfl⟩
  go_wp2
  refine ⟨chg_mixF (hq.out), ?_⟩
  repeat (refine wpMix_seg 1 _ _ rfl ?_; simp only [List.take_succ_cons, List.take_zero, List.drop_succ_cons, List.drop_zero]; go_big_quiet_step (fail); refine wpQuiet_nil ?_)
  refine wpMix_bar rfl (by rfl) ?_
  go_wp2_with fail
  refine (u64_load ⟨b, 5, none⟩ g.lat _ (C2.out.c 5 rfl)).mono ?_
  rintro e w3 ⟨rfl, rfl⟩
  go_wp2
  refine ⟨chg_mixF (hq.out), ?_⟩
  repeat (refine wpMix_seg 1 _ _ rfl ?_; simp only [List.take_succ_cons, List.take_zero, List.drop_succ_cons, List.drop_zero]; go_big_quiet_step (fail); refine wpQuiet_nil ?_)
  have zr := Z2.out
  have z0 := cell_of_row w2 w.heap.size 0 _ _ _ zr
  have fz0 := frozen_of_row w2 w.heap.size 0 _ _ zr
  have z1 := cell_of_row w2 w.heap.size 1 _ _ _ zr
  have fz1 := frozen_of_row w2 w.heap.size 1 _ _ zr
  have z2 := cell_of_row w2 w.heap.size 2 _ _ _ zr
  have fz2 := frozen_of_row w2 w.heap.size 2 _ _ zr
  have z3 := cell_of_row w2 w.heap.size 3 _ _ _ zr
  have fz3 := frozen_of_row w2 w.heap.size 3 _ _ zr
  have z4 := cell_of_row w2 w.heap.size 4 _ _ _ zr
  have fz4 := frozen_of_row w2 w.heap.size 4 _ _ zr
  have q := fill_all [.int .u64 g.mal, .int .u64 g.drp, .int .u64 g.tak, .int .u64 g.cha, .int .u64 g.lat] zr rfl
  have hf := fill_chg w.heap.size [.int .u64 g.mal, .int .u64 g.drp, .int .u64 g.tak, .int .u64 g.cha, .int .u64 g.lat] w2 0
  simp only [fillFrom] at q hf
  have HQ := Lib.hid q
  have HF := Lib.hid hf
  clear q hf zr
  refine wpMix_bar rfl (by rfl) ?_
  go_wp2
  refine ⟨chg_mixF (hq.out.step HF.out (fun _ _ h => h)), ?_⟩
  repeat (refine wpMix_seg 1 _ _ rfl ?_; simp only [List.take_succ_cons, List.take_zero, List.drop_succ_cons, List.drop_zero]; go_big_quiet_step (fail); refine wpQuiet_nil ?_)
  refine wpMix_nil ?_
  go_wp2
  (try simp only [Exit.inBlock, Exit.then])
  refine bodyPost_ret (results_cell_row rfl _ _ w.heap.size _ _ _ _ rfl HQ.out Try.underlying33 rfl infoCts) rfl ?_
  exact ⟨rfl, B2.out.trans (HF.out.below B2.out.size (fun k hk e => by omega))⟩

end Go.Proofs.Ytpkbimmhimgamaa
namespace Go.Proofs.Ytpkbimmhimgamaa
set_option linter.unusedSimpArgs false
set_option linter.unusedVariables false
set_option linter.unnecessarySimpa false
open Go.RowKit
end Go.Proofs.Ytpkbimmhimgamaa
namespace Go.Proofs.Ytpkbimmhimgamaa
set_option linter.unusedSimpArgs false
set_option linter.unusedVariables false
set_option linter.unnecessarySimpa false
open Go.RowKit
end Go.Proofs.Ytpkbimmhimgamaa
namespace Go.Proofs.Ytpkbimmhimgamaa
set_option linter.unusedSimpArgs false
set_option linter.unusedVariables false
set_option linter.unnecessarySimpa false
open Go.RowKit
theorem AkE.zero (w : World) (E : Nat → Prop) : AkE w E ⟨none, 0, none, 0, [], [], 0, 0, false⟩ := AkE.nil _ _ _ rfl rfl rfl rfl rfl rfl ⟨by decide, by decide⟩ ⟨by decide, by decide⟩
end Go.Proofs.Ytpkbimmhimgamaa
