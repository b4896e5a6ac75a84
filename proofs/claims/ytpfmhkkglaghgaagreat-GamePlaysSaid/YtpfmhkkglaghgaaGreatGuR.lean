/-
  The reference's guard: the object; where its Take stands. · The reference's guard: NewGuard, Take, Fork.
-/
import Derived.Test.YtpfmhkkglaghgaaGreatGua5
import Derived.Test.YtpfmhkkglaghgaaGreatOct4
import Derived.Test.YtpfmhkkglaghgaaGreatLookR
namespace Go.Proofs.YtpfmhkkglaghgaaGreat
set_option linter.unusedSimpArgs false
set_option linter.unusedVariables false
set_option linter.unnecessarySimpa false
open Go.RowKit

/-- The cells of the reference's guard. -/
def gurRow (qb : Nat) (g : GS) (a : Ak) : Array Value :=
  #[.pointer (some ⟨qb, 0, none⟩), .int .u64 g.mal, .int .u64 g.drp, .int .u64 g.tak, .int .u64 g.cha, .int .u64 g.lat, .bool g.over,
    .int .u64 g.ev.at_, .int .u64 g.ev.pn, .int .u64 g.ev.used, .int .i64 g.ev.why, .slice a.A a.sp.length a.c, .slice a.B a.mm.length a.d, .int .u64 a.tr, .int .u64 a.xo, .bool a.od]
structure GuRC (w : World) (F E : Nat → Prop) (b : Nat) (g : GS) (qb : Nat) (a : Ak) : Prop where
  t : w.heap[b]? = some (.cells (gurRow qb g a) 138 (0, 0))
  bud : BudR w (fun k => F k ∧ k ≠ b) qb g.b
  ev : AkE w E a
  is : a.is g.ev.d
  gd : g.ev.d.Good
  fb : F b
  dj : ∀ k, E k → ¬ F k
structure GuRP (w : World) (F E : Nat → Prop) (b : Nat) (g : GS) : Prop where
  good : g.Good
  ex : ∃ qb a, GuRC w F E b g qb a
theorem GuRC.chg {w w' : World} {F E F' E' G : Nat → Prop} {b qb : Nat} {g : GS} {a : Ak} (h : GuRC w F E b g qb a) (hc : Chg G w w') (hd : ∀ k, k < w.heap.size → F k ∨ E k → ¬ G k) (hF : ∀ k, k < w.heap.size → F k → F' k) (hE : ∀ k, k < w.heap.size → E k → E' k) (dj : ∀ k, E' k → ¬ F' k) : GuRC w' F' E' b g qb a := by
  have hb := lt_of_block h.t
  exact ⟨hc.blk h.t (hd b hb (.inl h.fb)), h.bud.chg hc (fun k hk hf => hd k hk (.inl hf.1)) (fun k hk hf => ⟨hF k hk hf.1, hf.2⟩), h.ev.chg hc (fun k hk he => hd k hk (.inr he)) hE, h.is, h.gd, hF b hb h.fb, dj⟩
theorem GuRC.below {w w' : World} {F E : Nat → Prop} {b qb : Nat} {g : GS} {a : Ak} (h : GuRC w F E b g qb a) (q : Below w.heap.size w w') : GuRC w' F E b g qb a :=
  h.chg (chg_below q (F := fun _ => False)) (fun _ _ _ h => h) (fun _ _ h => h) (fun _ _ h => h) h.dj
theorem GuRP.chg {w w' : World} {F E F' E' G : Nat → Prop} {b : Nat} {g : GS} (h : GuRP w F E b g) (hc : Chg G w w') (hd : ∀ k, k < w.heap.size → F k ∨ E k → ¬ G k) (hF : ∀ k, k < w.heap.size → F k → F' k) (hE : ∀ k, k < w.heap.size → E k → E' k) (dj : ∀ k, E' k → ¬ F' k) : GuRP w' F' E' b g := by
  obtain ⟨g1, qb, a, hC⟩ := h
  exact ⟨g1, qb, a, hC.chg hc hd hF hE dj⟩
theorem GuRP.below {w w' : World} {F E : Nat → Prop} {b : Nat} {g : GS} (h : GuRP w F E b g) (q : Below w.heap.size w w') : GuRP w' F E b g := by
  obtain ⟨g1, qb, a, hC⟩ := h
  exact ⟨g1, qb, a, hC.below q⟩
theorem GuRP.dj {w : World} {F E : Nat → Prop} {b : Nat} {g : GS} (h : GuRP w F E b g) : ∀ k, E k → ¬ F k := by
  obtain ⟨g1, qb, a, hC⟩ := h
  exact hC.dj
theorem GuRP.lt {w : World} {F E : Nat → Prop} {b : Nat} {g : GS} (h : GuRP w F E b g) : b < w.heap.size ∧ F b := by
  obtain ⟨g1, qb, a, hC⟩ := h
  exact ⟨lt_of_block hC.t, hC.fb⟩
/-- Less is kept. -/
theorem GuRP.sub {w : World} {F E F' E' : Nat → Prop} {b : Nat} {g : GS} (h : GuRP w F E b g) (hF : ∀ k, k < w.heap.size → F k → F' k) (hE : ∀ k, k < w.heap.size → E k → E' k) (dj : ∀ k, E' k → ¬ F' k) : GuRP w F' E' b g :=
  h.chg (Chg.refl (fun _ => False) w) (fun _ _ _ h => h) hF hE dj
/-- A count (or the mark of the end) has been stored. -/
theorem GuRC.set {w : World} {F E : Nat → Prop} {b qb : Nat} {g g' : GS} {a : Ak} (h : GuRC w F E b g qb a) (i : Nat) (v : Value) (hr : gurRow qb g' a = (gurRow qb g a).setIfInBounds i v) (h1 : g'.b = g.b) (h2 : g'.ev = g.ev) : GuRC (w.setCell ⟨b, i, none⟩ v) F E b g' qb a := by
  have hC : Chg (fun j => j = b) w (w.setCell ⟨b, i, none⟩ v) := (Chg.refl (fun j => j = b) w).setCell (p := ⟨b, i, none⟩) (.inl rfl) _
  exact ⟨by rw [hr]; exact heap_setCell_same w b i _ _ v h.t, by rw [h1]; exact h.bud.chg hC (fun k _ hk e => hk.2 e) (fun _ _ h => h), h.ev.chg hC (fun k _ hk e => h.dj k hk (by rw [show k = b from e]; exact h.fb)) (fun _ _ h => h), by rw [h2]; exact h.is, by rw [h2]; exact h.gd, h.fb, h.dj⟩
/-- The budget has been asked. -/
theorem GuRC.asked {w w' : World} {F E : Nat → Prop} {b qb : Nat} {g : GS} {a : Ak} {s : BS} (h : GuRC w F E b g qb a) (hb : BudR w' (Grow (fun k => F k ∧ k ≠ b) w) qb s) (hc : Chg (fun k => F k ∧ k ≠ b) w w') :
    GuRC w' (Grow F w) (fun k => E k ∧ k < w.heap.size) b { g with b := s } qb a := by
  have hbs := lt_of_block h.t
  exact ⟨hc.blk h.t (fun e => e.2 rfl), hb.sub (fun k _ hk => hk.elim (fun e => ⟨.inl e.1, e.2⟩) (fun e => ⟨.inr e, by omega⟩)), h.ev.chg hc (fun k _ hk e => h.dj k hk e.1) (fun k hk he => ⟨he, hk⟩), h.is, h.gd, .inl h.fb, fun k hk hf => hf.elim (h.dj k hk.1) (fun e => by have := hk.2; omega)⟩

theorem GuRC.c {w : World} {F E : Nat → Prop} {b qb : Nat} {g : GS} {a : Ak} (h : GuRC w F E b g qb a) (i : Nat) {v : Value} (hv : (gurRow qb g a)[i]? = some v) : w.cell? ⟨b, i, none⟩ = some v := (cell_of_row w b i _ _ _ h.t).trans hv
theorem GuRC.fz {w : World} {F E : Nat → Prop} {b qb : Nat} {g : GS} {a : Ak} (h : GuRC w F E b g qb a) (i : Nat) : w.frozen? ⟨b, i, none⟩ = false := frozen_of_row w b i _ _ h.t

structure TrB (w : World) (W : World) : Prop where
  q2 : W.heap[w.heap.size]? = some (.cells #[.int .i64 0, .int .i64 0, .int .u64 0, .bool false] 43 (0, 0))
  q3 : W.heap[w.heap.size + 1]? = some (.cells #[.slice none 0 0, .slice none 0 0, .int .u64 0, .int .u64 0, .bool false] 74 (0, 0))
theorem TrB.chg {w W W' : World} {G : Nat → Prop} (h : TrB w W) (hc : Chg G W W') (hG : ∀ k, G k → k < w.heap.size ∨ w.heap.size + 2 ≤ k) : TrB w W' :=
  ⟨hc.blk h.q2 (fun e => by have := hG _ e; omega), hc.blk h.q3 (fun e => by have := hG _ e; omega)⟩
theorem TrB.start (w : World) : TrB w ((w.alloc (.cells #[.int .i64 0, .int .i64 0, .int .u64 0, .bool false] 43)).alloc (.cells #[.slice none 0 0, .slice none 0 0, .int .u64 0, .int .u64 0, .bool false] 74)) ∧
    Below w.heap.size w ((w.alloc (.cells #[.int .i64 0, .int .i64 0, .int .u64 0, .bool false] 43)).alloc (.cells #[.slice none 0 0, .slice none 0 0, .int .u64 0, .int .u64 0, .bool false] 74)) ∧
    ((w.alloc (.cells #[.int .i64 0, .int .i64 0, .int .u64 0, .bool false] 43)).alloc (.cells #[.slice none 0 0, .slice none 0 0, .int .u64 0, .int .u64 0, .bool false] 74)).heap.size = w.heap.size + 2 := by
  have n3 := heap_alloc_new w (.cells #[.int .i64 0, .int .i64 0, .int .u64 0, .bool false] 43)
  have b3 := box_below w (.cells #[.int .i64 0, .int .i64 0, .int .u64 0, .bool false] 43)
  generalize hw3 : w.alloc (.cells #[.int .i64 0, .int .i64 0, .int .u64 0, .bool false] 43) = w3 at *
  have s3 : w3.heap.size = w.heap.size + 1 := by rw [← hw3]; simp
  have n4 := heap_alloc_new w3 (.cells #[.slice none 0 0, .slice none 0 0, .int .u64 0, .int .u64 0, .bool false] 74)
  have b4 := box_below w3 (.cells #[.slice none 0 0, .slice none 0 0, .int .u64 0, .int .u64 0, .bool false] 74)
  rw [s3] at n4
  exact ⟨⟨(b4.block _ (by omega)).trans n3, n4⟩, b3.trans (b4.mono (by omega)), by simp [s3]⟩

/-- The parts of Take's walk. -/
structure TrM (w : World) (T F0 E0 F E : Nat → Prop) (p b qb : Nat) (s : LS) (g : GS) (a0 : Ak) (W : World) : Prop where
  led : LedR W T p s
  gua : GuRC W F E b g qb a0
  good : g.Good
  tb : TrB w W
  chg : Chg (fun k => T k ∨ F0 k) w W
  sz : w.heap.size + 2 ≤ W.heap.size
  tT : ∀ k, T k → k < w.heap.size ∧ ¬ F k ∧ ¬ E k
  gF : ∀ k, F k → Grow F0 w k ∧ (k < w.heap.size ∨ w.heap.size + 2 ≤ k)
  gE : ∀ k, E k → Grow E0 w k ∧ (k < w.heap.size ∨ w.heap.size + 2 ≤ k)
theorem TrM.below {w W W' : World} {T F0 E0 F E : Nat → Prop} {p b qb : Nat} {s : LS} {g : GS} {a0 : Ak} (h : TrM w T F0 E0 F E p b qb s g a0 W) (q : Below W.heap.size W W') : TrM w T F0 E0 F E p b qb s g a0 W' :=
  ⟨h.led.below q, h.gua.below q, h.good, h.tb.chg (chg_below q (F := fun _ => False)) (fun _ h => h.elim), h.chg.thenBelow q h.chg.size, Nat.le_trans h.sz q.size, h.tT, h.gF, h.gE⟩
/-- What turns new blocks alone. -/
theorem TrM.own {w W W' : World} {T F0 E0 F E : Nat → Prop} {p b qb : Nat} {s : LS} {g : GS} {a0 : Ak} (h : TrM w T F0 E0 F E p b qb s g a0 W) {G : Nat → Prop} (q : Chg G W W') (hG : ∀ k, G k → w.heap.size + 2 ≤ k ∧ ¬ F k ∧ ¬ E k) : TrM w T F0 E0 F E p b qb s g a0 W' :=
  ⟨h.led.chg q (fun k _ hk hg => by have := (h.tT k hk).1; have := (hG k hg).1; omega) (fun _ _ h => h), h.gua.chg q (fun k _ hk hg => hk.elim (hG k hg).2.1 (hG k hg).2.2) (fun _ _ h => h) (fun _ _ h => h) h.gua.dj, h.good, h.tb.chg q (fun k hk => .inr (hG k hk).1),
    h.chg.trans (q.mono fun k _ hk => .inr (by have := (hG k hk).1; omega)), Nat.le_trans h.sz q.size, h.tT, h.gF, h.gE⟩
/-- A count has been stored. -/
theorem TrM.set {w W : World} {T F0 E0 F E : Nat → Prop} {p b qb : Nat} {s : LS} {g g' : GS} {a0 : Ak} (h : TrM w T F0 E0 F E p b qb s g a0 W) (hb : F0 b) (i : Nat) (v : Value) (hr : gurRow qb g' a0 = (gurRow qb g a0).setIfInBounds i v) (h1 : g'.b = g.b) (h2 : g'.ev = g.ev) (hg : g'.Good) :
    TrM w T F0 E0 F E p b qb s g' a0 (W.setCell ⟨b, i, none⟩ v) := by
  have hC : Chg (fun j => j = b) W (W.setCell ⟨b, i, none⟩ v) := (Chg.refl (fun j => j = b) W).setCell (p := ⟨b, i, none⟩) (.inl rfl) _
  refine ⟨h.led.chg hC (fun k _ hk e => (h.tT k hk).2.1 (by rw [show k = b from e]; exact h.gua.fb)) (fun _ _ h => h), h.gua.set i v hr h1 h2, hg, h.tb.chg hC (fun k e => by rw [show k = b from e]; exact (h.gF b h.gua.fb).2), h.chg.setCell (p := ⟨b, i, none⟩) (.inl (.inr hb)) _, by simpa using h.sz, h.tT, h.gF, h.gE⟩
/-- The ledger has turned. -/
theorem TrM.used {w W W' : World} {T F0 E0 F E : Nat → Prop} {p b qb : Nat} {s s' : LS} {g : GS} {a0 : Ak} (h : TrM w T F0 E0 F E p b qb s g a0 W) (hl : LedR W' T p s') (hc : Chg T W W') : TrM w T F0 E0 F E p b qb s' g a0 W' :=
  ⟨hl, h.gua.chg hc (fun k _ hk ht => hk.elim (h.tT k ht).2.1 (h.tT k ht).2.2) (fun _ _ h => h) (fun _ _ h => h) h.gua.dj, h.good, h.tb.chg hc (fun k hk => .inl (h.tT k hk).1), h.chg.trans (hc.mono fun k _ hk => .inl (.inl hk)), Nat.le_trans h.sz hc.size, h.tT, h.gF, h.gE⟩

/-- What Take answers. -/
def GTakeValR (w : World) (T F E : Nat → Prop) (p b : Nat) (o : GOut) (e : Ending) (w' : World) : Prop := ∃ a : Ak, e = .returned (.tuple #[o.v.val, a.val]) ∧ a.is o.a ∧ AkE w' (fun k => w.heap.size ≤ k) a ∧ LedR w' T p o.s ∧
  (∃ F' E', GuRP w' F' E' b o.g ∧ (∀ k, F' k → Grow F w k) ∧ (∀ k, E' k → Grow E w k)) ∧ Chg (fun k => T k ∨ F k) w w'
theorem gtakeR_done {w W : World} {T F0 E0 F E : Nat → Prop} {p b qb : Nat} {s : LS} {g : GS} {a0 : Ak} (h : TrM w T F0 E0 F E p b qb s g a0 W) (x0 x1 x2 x3 : Value) (a : Ak) (ha : AkE W (fun k => w.heap.size + 2 ≤ k) a) :
    (fillFrom (fillFrom W w.heap.size 0 [x0, x1, x2, x3]) (w.heap.size + 1) 0 [.slice a.A a.sp.length a.c, .slice a.B a.mm.length a.d, .int .u64 a.tr, .int .u64 a.xo, .bool a.od]).heap[w.heap.size]? = some (.cells #[x0, x1, x2, x3] 43 (0, 0)) ∧
    (fillFrom (fillFrom W w.heap.size 0 [x0, x1, x2, x3]) (w.heap.size + 1) 0 [.slice a.A a.sp.length a.c, .slice a.B a.mm.length a.d, .int .u64 a.tr, .int .u64 a.xo, .bool a.od]).heap[w.heap.size + 1]? = some (.cells #[.slice a.A a.sp.length a.c, .slice a.B a.mm.length a.d, .int .u64 a.tr, .int .u64 a.xo, .bool a.od] 74 (0, 0)) ∧
    (∀ (v : Vd) (d : AckD), #[x0, x1, x2, x3] = #[.int .i64 v.kind, .int .i64 v.why, .int .u64 v.pn, .bool v.ch] → a.is d → GTakeValR w T F0 E0 p b ⟨g, s, v, d⟩ (.returned (.tuple #[.agg #[x0, x1, x2, x3], .agg #[.slice a.A a.sp.length a.c, .slice a.B a.mm.length a.d, .int .u64 a.tr, .int .u64 a.xo, .bool a.od]])) (fillFrom (fillFrom W w.heap.size 0 [x0, x1, x2, x3]) (w.heap.size + 1) 0 [.slice a.A a.sp.length a.c, .slice a.B a.mm.length a.d, .int .u64 a.tr, .int .u64 a.xo, .bool a.od])) := by
  have f1 := fill_all [x0, x1, x2, x3] h.tb.q2 rfl
  have c1 := fill_chg (w.heap.size) [x0, x1, x2, x3] W 0
  generalize fillFrom W w.heap.size 0 [x0, x1, x2, x3] = W1 at *
  have q3 := c1.blk h.tb.q3 (by omega)
  have f2 := fill_all [.slice a.A a.sp.length a.c, .slice a.B a.mm.length a.d, .int .u64 a.tr, .int .u64 a.xo, .bool a.od] q3 rfl
  have c2 := fill_chg (w.heap.size + 1) [.slice a.A a.sp.length a.c, .slice a.B a.mm.length a.d, .int .u64 a.tr, .int .u64 a.xo, .bool a.od] W1 0
  generalize fillFrom W1 (w.heap.size + 1) 0 [.slice a.A a.sp.length a.c, .slice a.B a.mm.length a.d, .int .u64 a.tr, .int .u64 a.xo, .bool a.od] = W2 at *
  refine ⟨c2.blk f1 (by omega), f2, fun v d hv hd => ?_⟩
  have c3 : Chg (fun j => j = w.heap.size ∨ j = w.heap.size + 1) W W2 := (c1.mono fun _ _ h => .inl h).step (c2.mono fun _ _ h => .inr h) (fun _ _ h => h)
  have hsz := h.sz
  refine ⟨a, ?_, hd, ?_, ?_, ⟨F, E, ⟨h.good, qb, a0, ?_⟩, fun k hk => (h.gF k hk).1, fun k hk => (h.gE k hk).1⟩, ?_⟩
  · rw [hv]; rfl
  · exact ha.chg c3 (fun k _ hk e => by rcases e with e | e <;> omega) (fun k _ hk => by show _ ≤ k; omega)
  · exact h.led.chg c3 (fun k _ hk e => by have := (h.tT k hk).1; rcases e with e | e <;> omega) (fun _ _ h => h)
  · exact h.gua.chg c3 (fun k _ hk e => by
      rcases hk with hk | hk
      · have := (h.gF k hk).2; rcases e with e | e <;> omega
      · have := (h.gE k hk).2; rcases e with e | e <;> omega) (fun _ _ h => h) (fun _ _ h => h) h.gua.dj
  · exact h.chg.trans (c3.mono fun k _ e => .inr (by rcases e with e | e <;> omega))

end Go.Proofs.YtpfmhkkglaghgaaGreat

namespace Go.Proofs.YtpfmhkkglaghgaaGreat
set_option linter.unusedSimpArgs false
set_option linter.unusedVariables false
set_option linter.unnecessarySimpa false
open Go.RowKit

set_option maxHeartbeats 1000000 in
theorem gur_new (most every : Int) (w : World) (he : isU64 every) :
    Calls Tryz.prog 35 #[.int .i64 most, .int .u64 every] w fun e w' => ∃ b, e = .returned (.pointer (some ⟨b, 0, none⟩)) ∧ GuRP w' (fun k => w.heap.size ≤ k) (fun _ => False) b (GS.new most every) ∧ Below w.heap.size w w' := by
  have C1 := Lib.hid (budR_new most every w he)
  have HE := Lib.hid he
  clear he
  go_enter Tryz.func35, Tryz.ntmps35
  go_wp2_with fail
  refine C1.out.mono ?_
  rintro e w1 ⟨rfl, hB, hb⟩
  have HB := Lib.hid hB
  have Hb := Lib.hid hb
  have hl := hB.lt.1
  clear hB hb C1
  go_wp2
  go_ret
  have eb := box_below w1 (.cells (gurRow w.heap.size (GS.new most every) ⟨none, 0, none, 0, [], [], 0, 0, false⟩) 138)
  refine ⟨w1.heap.size, rfl, ⟨GS.Good.new HE.out, w.heap.size, ⟨none, 0, none, 0, [], [], 0, 0, false⟩, ⟨heap_alloc_new w1 _, ((HB.out.below eb).sub (fun k _ hk => ⟨by show w.heap.size ≤ k; omega, by omega⟩)), AkE.nil _ _ _ rfl rfl rfl rfl rfl rfl ⟨by decide, by decide⟩ ⟨by decide, by decide⟩, ⟨rfl, rfl, rfl, rfl, rfl⟩, AckD.Good.zero, by show w.heap.size ≤ _; exact Hb.out.size, fun k hk => hk.elim⟩⟩, Hb.out.trans (eb.mono Hb.out.size)⟩

/-- The budget has been asked. -/
theorem TrM.asked {w W vA : World} {T F E : Nat → Prop} {p b qb : Nat} {s : LS} {g : GS} {a0 : Ak} {bs : BS} (M : TrM w T F E F E p b qb s g a0 W) (hB : BudR vA (Grow (fun k => F k ∧ k ≠ b) W) qb bs) (hc : Chg (fun k => F k ∧ k ≠ b) W vA) (hg : ({ g with b := bs } : GS).Good) (hlt : ∀ k, T k ∨ F k ∨ E k → k < w.heap.size) :
    TrM w T F E (Grow F W) (fun k => E k ∧ k < W.heap.size) p b qb s { g with b := bs } a0 vA := by
  have hsz := M.sz
  have hcF : Chg F W vA := hc.mono fun k _ h => h.1
  refine ⟨M.led.chg hcF (fun k _ hk hf => (M.tT k hk).2.1 hf) (fun _ _ h => h), M.gua.asked hB hc, hg, M.tb.chg hcF (fun k hk => (M.gF k hk).2), M.chg.trans (hcF.mono fun k _ hk => .inl (.inr hk)), Nat.le_trans hsz hc.size, fun k hk => ⟨(M.tT k hk).1, fun hf => hf.elim (M.tT k hk).2.1 (fun e => by have := (M.tT k hk).1; omega), fun he => (M.tT k hk).2.2 he.1⟩, fun k hk => hk.elim (fun hf => M.gF k hf) (fun e => ⟨.inr (by omega), .inr (by omega)⟩), fun k hk => M.gE k hk.1⟩
/-- The evidence has been stored. -/
theorem TrM.ended {w W : World} {T F E : Nat → Prop} {p b qb : Nat} {s : LS} {g : GS} {a0 : Ak} (M : TrM w T F E F E p b qb s g a0 W) (hlt : ∀ k, T k ∨ F k ∨ E k → k < w.heap.size) (now pn used why : Int) (a : Ak) (d : AckD) (ha : AkE W (fun k => w.heap.size + 2 ≤ k) a) (is : a.is d) (hd : d.Good) :
    TrM w T F E F (fun k => w.heap.size + 2 ≤ k) p b qb s (g.ended ⟨now, pn, used, why, d⟩) a (fillFrom W b 6 [.bool true, .int .u64 now, .int .u64 pn, .int .u64 used, .int .i64 why, .slice a.A a.sp.length a.c, .slice a.B a.mm.length a.d, .int .u64 a.tr, .int .u64 a.xo, .bool a.od]) := by
  have c1 := fill_chg b [.bool true, .int .u64 now, .int .u64 pn, .int .u64 used, .int .i64 why, .slice a.A a.sp.length a.c, .slice a.B a.mm.length a.d, .int .u64 a.tr, .int .u64 a.xo, .bool a.od] W 6
  have f1 := fill_list b 138 [.bool true, .int .u64 now, .int .u64 pn, .int .u64 used, .int .i64 why, .slice a.A a.sp.length a.c, .slice a.B a.mm.length a.d, .int .u64 a.tr, .int .u64 a.xo, .bool a.od] W 6 (gurRow qb g a0).toList (by have := M.gua.t; simpa using this) (by simp [gurRow])
  generalize fillFrom W b 6 [.bool true, .int .u64 now, .int .u64 pn, .int .u64 used, .int .i64 why, .slice a.A a.sp.length a.c, .slice a.B a.mm.length a.d, .int .u64 a.tr, .int .u64 a.xo, .bool a.od] = W' at *
  have hbw : b < w.heap.size := hlt b (.inr (.inl M.gua.fb))
  refine ⟨M.led.chg c1 (fun k _ hk e => (M.tT k hk).2.1 (by rw [show k = b from e]; exact M.gua.fb)) (fun _ _ h => h), ⟨f1, ?_, ?_, is, hd, M.gua.fb, fun k hk hf => by have := hlt k (.inr (.inl hf)); omega⟩, M.good.ended _, M.tb.chg c1 (fun k e => .inl (by rw [show k = b from e]; exact hbw)), M.chg.trans (c1.mono fun k _ e => .inl (.inr (by rw [show k = b from e]; exact M.gua.fb))), Nat.le_trans M.sz c1.size, fun k hk => ⟨(M.tT k hk).1, (M.tT k hk).2.1, fun h => by have := (M.tT k hk).1; omega⟩, M.gF, fun k hk => ⟨.inr (by omega), .inr hk⟩⟩
  · exact M.gua.bud.chg c1 (fun k _ hk e => hk.2 e) (fun _ _ h => h)
  · exact ha.chg c1 (fun k _ hk e => by have : k = b := e; omega) (fun _ _ h => h)

set_option maxHeartbeats 16000000 in
set_option maxRecDepth 100000 in
theorem gur_take (w : World) (T F E : Nat → Prop) (p b : Nat) (s : LS) (g : GS) (A : Option Addr) (c : Nat) (l : List Int) (now : Int) (hL : LedR w T p s) (hG : GuRP w F E b g) (hlt : ∀ k, T k ∨ F k ∨ E k → k < w.heap.size) (dj : ∀ k, T k → ¬ F k ∧ ¬ E k)
    (hr : Rd w 1 A l.length c (U8 l)) (hb : ∀ x ∈ l, 0 ≤ x ∧ x ≤ 255) (hl : l.length ≤ 70368744177664) (hnow : isU64 now) (hga : g.b.all.length ≤ 1000000) :
    Calls Tryz.prog 38 #[.pointer (some ⟨b, 0, none⟩), .pointer (some ⟨p, 0, none⟩), .slice A l.length c, .int .u64 now] w fun e w' => GTakeValR w T F E p b (g.take s l now) e w' := by
  obtain ⟨good, qb, a0, hC⟩ := hG
  obtain ⟨tb, bel, hsz⟩ := TrB.start w
  have hFb := hC.fb
  have M := Lib.hid (TrM.mk (w := w) (T := T) (F0 := F) (E0 := E) (F := F) (E := E) (hL.below bel) (hC.below bel) good tb (chg_below bel) (by omega) (fun k hk => ⟨hlt k (.inl hk), dj k hk⟩) (fun k hk => ⟨.inl hk, .inl (hlt k (.inr (.inl hk)))⟩) (fun k hk => ⟨.inl hk, .inl (hlt k (.inr (.inr hk)))⟩))
  have R := Lib.hid (hr.below bel)
  have HB := Lib.hid hb
  have HLT := Lib.hid hlt
  have HNOW := Lib.hid hnow
  have KD := Lib.hid (ref_getAck _ A c l R.out hb hl)
  have hbw : b < w.heap.size := hlt b (.inr (.inl hFb))
  clear hL hC tb bel hr hb hlt dj hnow good
  go_enter Tryz.func38, Tryz.ntmps38
  go_upto_region 1 with fail
  generalize (w.alloc (.cells #[.int .i64 0, .int .i64 0, .int .u64 0, .bool false] 43)).alloc (.cells #[.slice none 0 0, .slice none 0 0, .int .u64 0, .int .u64 0, .bool false] 74) = w1 at *
  have ov : w1.cell? ⟨b, 6, none⟩ = some (.bool g.over) := M.out.gua.c 6 rfl
  cases hov : g.over with
  | true =>
    rw [hov] at ov
    have c5 : w1.cell? ⟨b, 5, none⟩ = some (.int .u64 g.lat) := M.out.gua.c 5 rfl
    have f5 := M.out.gua.fz 5
    have M2 := Lib.hid (M.out.set hFb (g' := g.late) 5 (.int .u64 (IntKind.u64.wrap (g.lat + 1))) rfl rfl rfl M.out.good.late)
    go_upto_region 3 with fail
    clear KD ov c5 f5
    generalize w1.setCell ⟨b, 5, none⟩ (.int .u64 (IntKind.u64.wrap (g.lat + 1))) = w3 at *
    have v2 := M2.out.tb.q2
    have v3 := M2.out.tb.q3
    have y0 := cell_of_row w3 w.heap.size 0 _ _ _ v2
    have fy0 := frozen_of_row w3 w.heap.size 0 _ _ v2
    have y1 := cell_of_row w3 w.heap.size 1 _ _ _ v2
    have fy1 := frozen_of_row w3 w.heap.size 1 _ _ v2
    have y2 := cell_of_row w3 w.heap.size 2 _ _ _ v2
    have fy2 := frozen_of_row w3 w.heap.size 2 _ _ v2
    have y3 := cell_of_row w3 w.heap.size 3 _ _ _ v2
    have fy3 := frozen_of_row w3 w.heap.size 3 _ _ v2
    have z0 := cell_of_row w3 (w.heap.size + 1) 0 _ _ _ v3
    have fz0 := frozen_of_row w3 (w.heap.size + 1) 0 _ _ v3
    have z1 := cell_of_row w3 (w.heap.size + 1) 1 _ _ _ v3
    have fz1 := frozen_of_row w3 (w.heap.size + 1) 1 _ _ v3
    have z2 := cell_of_row w3 (w.heap.size + 1) 2 _ _ _ v3
    have fz2 := frozen_of_row w3 (w.heap.size + 1) 2 _ _ v3
    have z3 := cell_of_row w3 (w.heap.size + 1) 3 _ _ _ v3
    have fz3 := frozen_of_row w3 (w.heap.size + 1) 3 _ _ v3
    have z4 := cell_of_row w3 (w.heap.size + 1) 4 _ _ _ v3
    have fz4 := frozen_of_row w3 (w.heap.size + 1) 4 _ _ v3
    go_wp2
    obtain ⟨d1, d2, d3⟩ := gtakeR_done M2.out (.int .i64 1) (.int .i64 8) (.int .u64 0) (.bool false) ⟨none, 0, none, 0, [], [], 0, 0, false⟩ (AkE.zero _ _)
    simp only [fillFrom, List.length_nil, Int.natCast_zero] at d1 d2 d3
    refine bodyPost_ret (results_cell_cell_row rfl _ _ _ _ _ _ _ _ _ _ _ _ rfl d1 rfl d2 Tryz.underlying43 rfl infoVd Tryz.underlying74 rfl infoAck2) rfl ?_
    rw [GS.take_late hov]
    exact d3 ⟨1, 8, 0, false⟩ AckD.zero rfl ⟨rfl, rfl, rfl, rfl, rfl⟩
  | false =>
    rw [hov] at ov
    go_wp2_with fail
    refine KD.out.mono ?_
    rintro e w2 hv
    clear KD ov R
    unfold DecVal at hv
    cases hp : ackP l with
    | error er =>
      rw [hp] at hv
      obtain ⟨rfl, hb2⟩ := hv
      have HP := Lib.hid hp
      have he : (er != 0) = true := by simp [ackP_err hp]
      have M2 := Lib.hid ((M.out.below hb2).below (box_below w2 (.cells #[.slice none 0 0, .slice none 0 0, .int .u64 0, .int .u64 0, .bool false] 74)))
      clear hb2 hp M
      simp only [zAck]
      go_upto_region 5 with fail
      generalize w2.alloc (.cells #[.slice none 0 0, .slice none 0 0, .int .u64 0, .int .u64 0, .bool false] 74) = w3 at *
      have c1 : w3.cell? ⟨b, 1, none⟩ = some (.int .u64 g.mal) := M2.out.gua.c 1 rfl
      have f1 := M2.out.gua.fz 1
      have M3 := Lib.hid (M2.out.set hFb (g' := g.bad) 1 (.int .u64 (IntKind.u64.wrap (g.mal + 1))) rfl rfl rfl M2.out.good.bad)
      go_upto_region 7 with fail
      clear c1 f1 M2
      generalize w3.setCell ⟨b, 1, none⟩ (.int .u64 (IntKind.u64.wrap (g.mal + 1))) = w4 at *
      have v2 := M3.out.tb.q2
      have v3 := M3.out.tb.q3
      have y0 := cell_of_row w4 w.heap.size 0 _ _ _ v2
      have fy0 := frozen_of_row w4 w.heap.size 0 _ _ v2
      have y1 := cell_of_row w4 w.heap.size 1 _ _ _ v2
      have fy1 := frozen_of_row w4 w.heap.size 1 _ _ v2
      have y2 := cell_of_row w4 w.heap.size 2 _ _ _ v2
      have fy2 := frozen_of_row w4 w.heap.size 2 _ _ v2
      have y3 := cell_of_row w4 w.heap.size 3 _ _ _ v2
      have fy3 := frozen_of_row w4 w.heap.size 3 _ _ v2
      have z0 := cell_of_row w4 (w.heap.size + 1) 0 _ _ _ v3
      have fz0 := frozen_of_row w4 (w.heap.size + 1) 0 _ _ v3
      have z1 := cell_of_row w4 (w.heap.size + 1) 1 _ _ _ v3
      have fz1 := frozen_of_row w4 (w.heap.size + 1) 1 _ _ v3
      have z2 := cell_of_row w4 (w.heap.size + 1) 2 _ _ _ v3
      have fz2 := frozen_of_row w4 (w.heap.size + 1) 2 _ _ v3
      have z3 := cell_of_row w4 (w.heap.size + 1) 3 _ _ _ v3
      have fz3 := frozen_of_row w4 (w.heap.size + 1) 3 _ _ v3
      have z4 := cell_of_row w4 (w.heap.size + 1) 4 _ _ _ v3
      have fz4 := frozen_of_row w4 (w.heap.size + 1) 4 _ _ v3
      go_wp2
      obtain ⟨d1, d2, d3⟩ := gtakeR_done M3.out (.int .i64 1) (.int .i64 1) (.int .u64 0) (.bool false) ⟨none, 0, none, 0, [], [], 0, 0, false⟩ (AkE.zero _ _)
      simp only [fillFrom, List.length_nil, Int.natCast_zero] at d1 d2 d3
      refine bodyPost_ret (results_cell_cell_row rfl _ _ _ _ _ _ _ _ _ _ _ _ rfl d1 rfl d2 Tryz.underlying43 rfl infoVd Tryz.underlying74 rfl infoAck2) rfl ?_
      rw [GS.take_bad hov s HP.out now]
      exact d3 ⟨1, 1, 0, false⟩ AckD.zero rfl ⟨rfl, rfl, rfl, rfl, rfl⟩
    | ok d =>
      rw [hp] at hv
      obtain ⟨a, rfl, e1, e2, e3, e4, e5, hA, hb2, n1, n2⟩ := hv
      have HP := Lib.hid hp
      have DG := Lib.hid (ackP_good hp HB.out)
      have IS : Hid (a.is d) := Lib.hid ⟨e1, e2, e3, e4, e5⟩
      have M2 := Lib.hid (M.out.below hb2)
      have NA := Lib.hid (And.intro n1 n2)
      have hs1 : w.heap.size + 2 ≤ w1.heap.size := M.out.sz
      have hs2 : w1.heap.size ≤ w2.heap.size := hb2.size
      obtain ⟨A2, c2, B2, dd2, sp, mm, tr, xo, od⟩ := a
      simp only at NA
      clear e1 e2 e3 e4 e5 hb2 n1 n2 hp M
      have eb := box_below w2 (.cells #[.slice A2 sp.length c2, .slice B2 mm.length dd2, .int .u64 tr, .int .u64 xo, .bool od] 74)
      have M3 := Lib.hid (M2.out.below eb)
      have HL2 := Lib.hid hA
      have HA := Lib.hid (hA.below eb)
      have T3 := Lib.hid (heap_alloc_new w2 (.cells #[.slice A2 sp.length c2, .slice B2 mm.length dd2, .int .u64 tr, .int .u64 xo, .bool od] 74))
      unfold Ak.val
      simp only [Ak.cells]
      go_upto_region 8 with fail
      generalize (w2.alloc (.cells #[.slice A2 sp.length c2, .slice B2 mm.length dd2, .int .u64 tr, .int .u64 xo, .bool od] 74)) = w3 at *
      have NC : Hid ((∀ b off, A2 = some ⟨b, off, none⟩ → 0 < sp.length → b < w2.heap.size) ∧ (∀ b off, B2 = some ⟨b, off, none⟩ → 0 < mm.length → b < w2.heap.size)) := Lib.hid ⟨fun b off e hn => HL2.out.rs.lt (by omega) hn b off e, fun b off e hn => HL2.out.rm.lt (by omega) hn b off e⟩
      clear HL2
      generalize w2.heap.size = h10 at *
      have NB : Hid ((∀ b off, A2 = some ⟨b, off, none⟩ → 0 < sp.length → w.heap.size + 2 ≤ b ∧ b < h10) ∧ (∀ b off, B2 = some ⟨b, off, none⟩ → 0 < mm.length → w.heap.size + 2 ≤ b ∧ b < h10)) := Lib.hid ⟨fun b off e hn => ⟨by have := NA.out.1 b off e hn; omega, NC.out.1 b off e hn⟩, fun b off e hn => ⟨by have := NA.out.2 b off e hn; omega, NC.out.2 b off e hn⟩⟩
      have KL := Lib.hid (lookR_any w3 T p s ⟨A2, c2, B2, dd2, sp, mm, tr, xo, od⟩ M3.out.led HA.out)
      rw [IS.out.look] at KL
      have hs3 := lt_of_block T3.out
      clear eb hA M2
      have k3 := T3.out
      have z0 := cell_of_row w3 h10 0 _ _ _ k3
      have fz0 := frozen_of_row w3 h10 0 _ _ k3
      have z1 := cell_of_row w3 h10 1 _ _ _ k3
      have fz1 := frozen_of_row w3 h10 1 _ _ k3
      have z2 := cell_of_row w3 h10 2 _ _ _ k3
      have fz2 := frozen_of_row w3 h10 2 _ _ k3
      have z3 := cell_of_row w3 h10 3 _ _ _ k3
      have fz3 := frozen_of_row w3 h10 3 _ _ k3
      have z4 := cell_of_row w3 h10 4 _ _ _ k3
      have fz4 := frozen_of_row w3 h10 4 _ _ k3
      clear k3
      go_wp2_with fail
      refine KL.out.mono ?_
      rintro e w4 ⟨rfl, hb4⟩
      have M4 := Lib.hid (M3.out.below hb4)
      have HA4 := Lib.hid (HA.out.below hb4)
      have T4 := Lib.hid ((hb4.block _ hs3).trans T3.out)
      have hs4 := hb4.size
      clear KL hb4 M3 HA T3 z0 z1 z2 z3 z4 fz0 fz1 fz2 fz3 fz4
      rcases hlk : d.ak.look s with ⟨x, y⟩
      have HLK := Lib.hid hlk
      clear hlk
      simp only
      by_cases hy : y = 0
      · subst hy
        have hx : isU64 x := by have := Ak.look_u64 d.ak M4.out.led.good; rw [HLK.out] at this; exact this
        have KU := Lib.hid (ledR_use w4 T p s x M4.out.led hx)
        go_wp2_with fail
        refine KU.out.mono ?_
        rintro e w6 ⟨rfl, hL6, hC6⟩
        have M6 := Lib.hid (M4.out.used hL6 hC6)
        have nT : Hid (∀ k, w.heap.size ≤ k → ¬ T k) := Lib.hid (fun k hk ht => by have := (M4.out.tT k ht).1; omega)
        have T6 := Lib.hid (hC6.blk T4.out (nT.out _ (by omega)))
        have HA6 : Hid (AkR w6 ⟨A2, c2, B2, dd2, sp, mm, tr, xo, od⟩) := Lib.hid ⟨HA4.out.rs.chg hC6 (fun b off e hn => nT.out _ (by have := NA.out.1 b off e hn; omega)), HA4.out.rm.chg hC6 (fun b off e hn => nT.out _ (by have := NA.out.2 b off e hn; omega)), HA4.out.us, HA4.out.um, HA4.out.ut, HA4.out.ux⟩
        have hs6 := hC6.size
        clear KU M4 T4 HA4 hL6 hC6
        generalize hs' : (s.use x).1 = s' at *
        have HS' := Lib.hid hs'
        clear hs'
        have KC := Lib.hid (checkR_any w6 T p s' ⟨A2, c2, B2, dd2, sp, mm, tr, xo, od⟩ M6.out.led HA6.out)
        rw [IS.out.check] at KC
        rcases hck : d.ak.check s' with ⟨y2, z⟩
        rw [hck] at KC
        have HCK := Lib.hid hck
        clear hck
        have k3 := T6.out
        have z0 := cell_of_row w6 h10 0 _ _ _ k3
        have fz0 := frozen_of_row w6 h10 0 _ _ k3
        have z1 := cell_of_row w6 h10 1 _ _ _ k3
        have fz1 := frozen_of_row w6 h10 1 _ _ k3
        have z2 := cell_of_row w6 h10 2 _ _ _ k3
        have fz2 := frozen_of_row w6 h10 2 _ _ k3
        have z3 := cell_of_row w6 h10 3 _ _ _ k3
        have fz3 := frozen_of_row w6 h10 3 _ _ k3
        have z4 := cell_of_row w6 h10 4 _ _ _ k3
        have fz4 := frozen_of_row w6 h10 4 _ _ k3
        clear k3
        go_wp2_with fail
        refine KC.out.mono ?_
        rintro e w7 ⟨rfl, hb7⟩
        clear z0 z1 z2 z3 z4 fz0 fz1 fz2 fz3 fz4 KC
        have hs7 := hb7.size
        have M7 := Lib.hid (M6.out.below hb7)
        have T7 := Lib.hid ((hb7.block _ (by omega)).trans T6.out)
        have HA7 := Lib.hid (HA6.out.below hb7)
        clear M6 T6 HA6 hb7
        have HA8 : Hid (AkE w7 (fun k => w.heap.size + 2 ≤ k) ⟨A2, c2, B2, dd2, sp, mm, tr, xo, od⟩) := Lib.hid ⟨HA7.out, fun g off e hn => (NB.out.1 g off e hn).1, fun g off e hn => (NB.out.2 g off e hn).1⟩
        by_cases hy2 : y2 = 0
        · subst hy2
          have HT := Lib.hid (GS.take_took hov HP.out now HLK.out (by rw [HS'.out]; exact HCK.out))
          rw [HS'.out] at HT
          have c3 : w7.cell? ⟨b, 3, none⟩ = some (.int .u64 g.tak) := M7.out.gua.c 3 rfl
          have f3 := M7.out.gua.fz 3
          have M9 := Lib.hid (M7.out.set hFb (g' := g.took) 3 (.int .u64 (IntKind.u64.wrap (g.tak + 1))) rfl rfl rfl M7.out.good.took)
          have C9 : Chg (fun j => j = b) w7 (w7.setCell ⟨b, 3, none⟩ (.int .u64 (IntKind.u64.wrap (g.tak + 1)))) := (Chg.refl (fun j => j = b) w7).setCell (p := ⟨b, 3, none⟩) (.inl rfl) _
          have T9 := C9.blk T7.out (by omega)
          have HA9 := Lib.hid (HA8.out.chg C9 (fun k _ hk e => by have : k = b := e; omega) (E' := fun k => w.heap.size + 2 ≤ k) (fun _ _ h => h))
          go_upto_region 23 with fail
          clear c3 f3 M7 T7 HA7 HA8 C9
          generalize w7.setCell ⟨b, 3, none⟩ (.int .u64 (IntKind.u64.wrap (g.tak + 1))) = w9 at *
          have hnn2 : h10 ≠ w.heap.size ∧ h10 ≠ w.heap.size + 1 := by omega
          have N1 := mixF_cell (F := fun j => j = w.heap.size ∨ j = w.heap.size + 1) (cell_of_row w9 h10 0 _ _ _ T9) (fun e => e.elim hnn2.1 hnn2.2)
          have N2 := mixF_cell (F := fun j => j = w.heap.size ∨ j = w.heap.size + 1) (cell_of_row w9 h10 1 _ _ _ T9) (fun e => e.elim hnn2.1 hnn2.2)
          have N3 := mixF_cell (F := fun j => j = w.heap.size ∨ j = w.heap.size + 1) (cell_of_row w9 h10 2 _ _ _ T9) (fun e => e.elim hnn2.1 hnn2.2)
          have N4 := mixF_cell (F := fun j => j = w.heap.size ∨ j = w.heap.size + 1) (cell_of_row w9 h10 3 _ _ _ T9) (fun e => e.elim hnn2.1 hnn2.2)
          have N5 := mixF_cell (F := fun j => j = w.heap.size ∨ j = w.heap.size + 1) (cell_of_row w9 h10 4 _ _ _ T9) (fun e => e.elim hnn2.1 hnn2.2)
          simp only [List.getElem_toArray, List.getElem_cons_zero, List.getElem_cons_succ] at N1 N2 N3 N4 N5
          have MM := Lib.hid (M9.out.below (Below.refl _ _).drew)
          have HH := Lib.hid (HA9.out.below (Below.refl _ _).drew)
          refine wp_region_chg (fun j => j = w.heap.size ∨ j = w.heap.size + 1) (by kernel_rfl) (by kernel_rfl) ?_
          repeat (refine wpMix_seg 1 _ _ rfl ?_; simp only [List.take_succ_cons, List.take_zero, List.drop_succ_cons, List.drop_zero]; go_big_quiet_step (fail); refine wpQuiet_nil ?_)
          generalize hw10 : w9.drew = w10 at *
          have HQ : Hid (Chg (fun j => j = w.heap.size ∨ j = w.heap.size + 1) w9 w10) := Lib.hid (by rw [← hw10]; exact (Chg.refl _ _).drew)
          clear hw10
          have DN := Lib.hid (gtakeR_done MM.out (.int .i64 2) (.int .i64 0) (.int .u64 x) (.bool false) ⟨A2, c2, B2, dd2, sp, mm, tr, xo, od⟩ HH.out)
          have c1 := fill_chg w.heap.size [.int .i64 2, .int .i64 0, .int .u64 x, .bool false] w10 0
          have c2' := fill_chg (w.heap.size + 1) [.slice A2 sp.length c2, .slice B2 mm.length dd2, .int .u64 tr, .int .u64 xo, .bool od] (fillFrom w10 w.heap.size 0 [.int .i64 2, .int .i64 0, .int .u64 x, .bool false]) 0
          simp only [fillFrom] at c1 c2'
          have C1 := Lib.hid (c1.mono (G := fun j => j = w.heap.size ∨ j = w.heap.size + 1) fun _ _ h => .inl h)
          have C2 := Lib.hid (c2'.mono (G := fun j => j = w.heap.size ∨ j = w.heap.size + 1) fun _ _ h => .inr h)
          clear c1 c2'
          have v2 := MM.out.tb.q2
          have v3 := MM.out.tb.q3
          have yy0 := cell_of_row w10 w.heap.size 0 _ _ _ v2
          have fyy0 := frozen_of_row w10 w.heap.size 0 _ _ v2
          have yy1 := cell_of_row w10 w.heap.size 1 _ _ _ v2
          have fyy1 := frozen_of_row w10 w.heap.size 1 _ _ v2
          have yy2 := cell_of_row w10 w.heap.size 2 _ _ _ v2
          have fyy2 := frozen_of_row w10 w.heap.size 2 _ _ v2
          have yy3 := cell_of_row w10 w.heap.size 3 _ _ _ v2
          have fyy3 := frozen_of_row w10 w.heap.size 3 _ _ v2
          have zz0 := cell_of_row w10 (w.heap.size + 1) 0 _ _ _ v3
          have fzz0 := frozen_of_row w10 (w.heap.size + 1) 0 _ _ v3
          have zz1 := cell_of_row w10 (w.heap.size + 1) 1 _ _ _ v3
          have fzz1 := frozen_of_row w10 (w.heap.size + 1) 1 _ _ v3
          have zz2 := cell_of_row w10 (w.heap.size + 1) 2 _ _ _ v3
          have fzz2 := frozen_of_row w10 (w.heap.size + 1) 2 _ _ v3
          have zz3 := cell_of_row w10 (w.heap.size + 1) 3 _ _ _ v3
          have fzz3 := frozen_of_row w10 (w.heap.size + 1) 3 _ _ v3
          have zz4 := cell_of_row w10 (w.heap.size + 1) 4 _ _ _ v3
          have fzz4 := frozen_of_row w10 (w.heap.size + 1) 4 _ _ v3
          clear v2 v3
          refine wpMix_bar rfl (by rfl) ?_
          go_wp2
          refine ⟨chg_mixF (HQ.out.step C1.out (fun _ _ h => h)), ?_⟩
          repeat (refine wpMix_seg 1 _ _ rfl ?_; simp only [List.take_succ_cons, List.take_zero, List.drop_succ_cons, List.drop_zero]; go_big_quiet_step (fail); refine wpQuiet_nil ?_)
          refine wpMix_bar rfl (by rfl) ?_
          go_wp2
          refine ⟨chg_mixF ((HQ.out.step C1.out (fun _ _ h => h)).step C2.out (fun _ _ h => h)), ?_⟩
          repeat (refine wpMix_seg 1 _ _ rfl ?_; simp only [List.take_succ_cons, List.take_zero, List.drop_succ_cons, List.drop_zero]; go_big_quiet_step (fail); refine wpQuiet_nil ?_)
          refine wpMix_nil ?_
          go_wp2
          obtain ⟨d1, d2, d3⟩ := DN.out
          simp only [fillFrom] at d1 d2 d3
          refine bodyPost_ret (results_cell_cell_row rfl _ _ _ _ _ _ _ _ _ _ _ _ rfl d1 rfl d2 Tryz.underlying43 rfl infoVd Tryz.underlying74 rfl infoAck2) rfl ?_
          rw [HT.out]
          exact d3 ⟨2, 0, x, false⟩ d rfl IS.out
        · have hyd : (y2 != 0) = true := by simp [hy2]
          have HT := Lib.hid (GS.take_end hov HP.out now HLK.out (by rw [HS'.out]; exact HCK.out) hy2)
          rw [HS'.out] at HT
          have M9 := Lib.hid (M7.out.ended HLT.out now z x y2 ⟨A2, c2, B2, dd2, sp, mm, tr, xo, od⟩ d HA8.out IS.out DG.out)
          have C9 := fill_chg b [.bool true, .int .u64 now, .int .u64 z, .int .u64 x, .int .i64 y2, .slice A2 sp.length c2, .slice B2 mm.length dd2, .int .u64 tr, .int .u64 xo, .bool od] w7 6
          have T9 := C9.blk T7.out (by omega)
          have HA9 := Lib.hid (HA8.out.chg C9 (fun k _ hk e => by have : k = b := e; omega) (E' := fun k => w.heap.size + 2 ≤ k) (fun _ _ h => h))
          simp only [fillFrom] at M9 T9 HA9
          have k3 := T7.out
          have z0 := cell_of_row w7 h10 0 _ _ _ k3
          have fz0 := frozen_of_row w7 h10 0 _ _ k3
          have z1 := cell_of_row w7 h10 1 _ _ _ k3
          have fz1 := frozen_of_row w7 h10 1 _ _ k3
          have z2 := cell_of_row w7 h10 2 _ _ _ k3
          have fz2 := frozen_of_row w7 h10 2 _ _ k3
          have z3 := cell_of_row w7 h10 3 _ _ _ k3
          have fz3 := frozen_of_row w7 h10 3 _ _ k3
          have z4 := cell_of_row w7 h10 4 _ _ _ k3
          have fz4 := frozen_of_row w7 h10 4 _ _ k3
          have r6 := M7.out.gua.t
          have r6 : w7.heap[b]? = some (.cells #[.pointer (some ⟨qb, 0, none⟩), .int .u64 g.mal, .int .u64 g.drp, .int .u64 g.tak, .int .u64 g.cha, .int .u64 g.lat, .bool g.over, .int .u64 g.ev.at_, .int .u64 g.ev.pn, .int .u64 g.ev.used, .int .i64 g.ev.why, .slice a0.A a0.sp.length a0.c, .slice a0.B a0.mm.length a0.d, .int .u64 a0.tr, .int .u64 a0.xo, .bool a0.od] 138 (0, 0)) := r6
          have q0 := cell_of_row w7 b 0 _ _ _ r6
          have fq0 := frozen_of_row w7 b 0 _ _ r6
          have q1 := cell_of_row w7 b 1 _ _ _ r6
          have fq1 := frozen_of_row w7 b 1 _ _ r6
          have q2 := cell_of_row w7 b 2 _ _ _ r6
          have fq2 := frozen_of_row w7 b 2 _ _ r6
          have q3 := cell_of_row w7 b 3 _ _ _ r6
          have fq3 := frozen_of_row w7 b 3 _ _ r6
          have q4 := cell_of_row w7 b 4 _ _ _ r6
          have fq4 := frozen_of_row w7 b 4 _ _ r6
          have q5 := cell_of_row w7 b 5 _ _ _ r6
          have fq5 := frozen_of_row w7 b 5 _ _ r6
          have q6 := cell_of_row w7 b 6 _ _ _ r6
          have fq6 := frozen_of_row w7 b 6 _ _ r6
          have q7 := cell_of_row w7 b 7 _ _ _ r6
          have fq7 := frozen_of_row w7 b 7 _ _ r6
          have q8 := cell_of_row w7 b 8 _ _ _ r6
          have fq8 := frozen_of_row w7 b 8 _ _ r6
          have q9 := cell_of_row w7 b 9 _ _ _ r6
          have fq9 := frozen_of_row w7 b 9 _ _ r6
          have q10 := cell_of_row w7 b 10 _ _ _ r6
          have fq10 := frozen_of_row w7 b 10 _ _ r6
          have q11 := cell_of_row w7 b 11 _ _ _ r6
          have fq11 := frozen_of_row w7 b 11 _ _ r6
          have q12 := cell_of_row w7 b 12 _ _ _ r6
          have fq12 := frozen_of_row w7 b 12 _ _ r6
          have q13 := cell_of_row w7 b 13 _ _ _ r6
          have fq13 := frozen_of_row w7 b 13 _ _ r6
          have q14 := cell_of_row w7 b 14 _ _ _ r6
          have fq14 := frozen_of_row w7 b 14 _ _ r6
          have q15 := cell_of_row w7 b 15 _ _ _ r6
          have fq15 := frozen_of_row w7 b 15 _ _ r6
          have hnb : b ≠ h10 := by omega
          have hnb2 : h10 ≠ b := by omega
          clear C9 k3 r6
          go_upto_region 21 with fail
          clear M7 T7 HA7 HA8 z0 z1 z2 z3 z4 fz0 fz1 fz2 fz3 fz4 q0 q1 q2 q3 q4 q5 q6 q7 q8 q9 q10 q11 q12 q13 q14 q15 fq0 fq1 fq2 fq3 fq4 fq5 fq6 fq7 fq8 fq9 fq10 fq11 fq12 fq13 fq14 fq15
          generalize ((((((((((w7.setCell ⟨b, 6, none⟩ (.bool true)).setCell ⟨b, 7, none⟩ (.int .u64 now)).setCell ⟨b, 8, none⟩ (.int .u64 z)).setCell ⟨b, 9, none⟩ (.int .u64 x)).setCell ⟨b, 10, none⟩ (.int .i64 y2)).setCell ⟨b, 11, none⟩ (.slice A2 sp.length c2)).setCell ⟨b, 12, none⟩ (.slice B2 mm.length dd2)).setCell ⟨b, 13, none⟩ (.int .u64 tr)).setCell ⟨b, 14, none⟩ (.int .u64 xo)).setCell ⟨b, 15, none⟩ (.bool od)) = w9 at *
          have hnn2 : h10 ≠ w.heap.size ∧ h10 ≠ w.heap.size + 1 := by omega
          have N1 := mixF_cell (F := fun j => j = w.heap.size ∨ j = w.heap.size + 1) (cell_of_row w9 h10 0 _ _ _ T9) (fun e => e.elim hnn2.1 hnn2.2)
          have N2 := mixF_cell (F := fun j => j = w.heap.size ∨ j = w.heap.size + 1) (cell_of_row w9 h10 1 _ _ _ T9) (fun e => e.elim hnn2.1 hnn2.2)
          have N3 := mixF_cell (F := fun j => j = w.heap.size ∨ j = w.heap.size + 1) (cell_of_row w9 h10 2 _ _ _ T9) (fun e => e.elim hnn2.1 hnn2.2)
          have N4 := mixF_cell (F := fun j => j = w.heap.size ∨ j = w.heap.size + 1) (cell_of_row w9 h10 3 _ _ _ T9) (fun e => e.elim hnn2.1 hnn2.2)
          have N5 := mixF_cell (F := fun j => j = w.heap.size ∨ j = w.heap.size + 1) (cell_of_row w9 h10 4 _ _ _ T9) (fun e => e.elim hnn2.1 hnn2.2)
          simp only [List.getElem_toArray, List.getElem_cons_zero, List.getElem_cons_succ] at N1 N2 N3 N4 N5
          have MM := Lib.hid (M9.out.below (Below.refl _ _).drew)
          have HH := Lib.hid (HA9.out.below (Below.refl _ _).drew)
          refine wp_region_chg (fun j => j = w.heap.size ∨ j = w.heap.size + 1) (by kernel_rfl) (by kernel_rfl) ?_
          repeat (refine wpMix_seg 1 _ _ rfl ?_; simp only [List.take_succ_cons, List.take_zero, List.drop_succ_cons, List.drop_zero]; go_big_quiet_step (fail); refine wpQuiet_nil ?_)
          generalize hw10 : w9.drew = w10 at *
          have HQ : Hid (Chg (fun j => j = w.heap.size ∨ j = w.heap.size + 1) w9 w10) := Lib.hid (by rw [← hw10]; exact (Chg.refl _ _).drew)
          clear hw10
          have DN := Lib.hid (gtakeR_done MM.out (.int .i64 3) (.int .i64 y2) (.int .u64 z) (.bool false) ⟨A2, c2, B2, dd2, sp, mm, tr, xo, od⟩ HH.out)
          have c1 := fill_chg w.heap.size [.int .i64 3, .int .i64 y2, .int .u64 z, .bool false] w10 0
          have c2' := fill_chg (w.heap.size + 1) [.slice A2 sp.length c2, .slice B2 mm.length dd2, .int .u64 tr, .int .u64 xo, .bool od] (fillFrom w10 w.heap.size 0 [.int .i64 3, .int .i64 y2, .int .u64 z, .bool false]) 0
          simp only [fillFrom] at c1 c2'
          have C1 := Lib.hid (c1.mono (G := fun j => j = w.heap.size ∨ j = w.heap.size + 1) fun _ _ h => .inl h)
          have C2 := Lib.hid (c2'.mono (G := fun j => j = w.heap.size ∨ j = w.heap.size + 1) fun _ _ h => .inr h)
          clear c1 c2'
          have v2 := MM.out.tb.q2
          have v3 := MM.out.tb.q3
          have yy0 := cell_of_row w10 w.heap.size 0 _ _ _ v2
          have fyy0 := frozen_of_row w10 w.heap.size 0 _ _ v2
          have yy1 := cell_of_row w10 w.heap.size 1 _ _ _ v2
          have fyy1 := frozen_of_row w10 w.heap.size 1 _ _ v2
          have yy2 := cell_of_row w10 w.heap.size 2 _ _ _ v2
          have fyy2 := frozen_of_row w10 w.heap.size 2 _ _ v2
          have yy3 := cell_of_row w10 w.heap.size 3 _ _ _ v2
          have fyy3 := frozen_of_row w10 w.heap.size 3 _ _ v2
          have zz0 := cell_of_row w10 (w.heap.size + 1) 0 _ _ _ v3
          have fzz0 := frozen_of_row w10 (w.heap.size + 1) 0 _ _ v3
          have zz1 := cell_of_row w10 (w.heap.size + 1) 1 _ _ _ v3
          have fzz1 := frozen_of_row w10 (w.heap.size + 1) 1 _ _ v3
          have zz2 := cell_of_row w10 (w.heap.size + 1) 2 _ _ _ v3
          have fzz2 := frozen_of_row w10 (w.heap.size + 1) 2 _ _ v3
          have zz3 := cell_of_row w10 (w.heap.size + 1) 3 _ _ _ v3
          have fzz3 := frozen_of_row w10 (w.heap.size + 1) 3 _ _ v3
          have zz4 := cell_of_row w10 (w.heap.size + 1) 4 _ _ _ v3
          have fzz4 := frozen_of_row w10 (w.heap.size + 1) 4 _ _ v3
          clear v2 v3
          refine wpMix_bar rfl (by rfl) ?_
          go_wp2
          refine ⟨chg_mixF (HQ.out.step C1.out (fun _ _ h => h)), ?_⟩
          repeat (refine wpMix_seg 1 _ _ rfl ?_; simp only [List.take_succ_cons, List.take_zero, List.drop_succ_cons, List.drop_zero]; go_big_quiet_step (fail); refine wpQuiet_nil ?_)
          refine wpMix_bar rfl (by rfl) ?_
          go_wp2
          refine ⟨chg_mixF ((HQ.out.step C1.out (fun _ _ h => h)).step C2.out (fun _ _ h => h)), ?_⟩
          repeat (refine wpMix_seg 1 _ _ rfl ?_; simp only [List.take_succ_cons, List.take_zero, List.drop_succ_cons, List.drop_zero]; go_big_quiet_step (fail); refine wpQuiet_nil ?_)
          refine wpMix_nil ?_
          go_wp2
          obtain ⟨d1, d2, d3⟩ := DN.out
          simp only [fillFrom] at d1 d2 d3
          refine bodyPost_ret (results_cell_cell_row rfl _ _ _ _ _ _ _ _ _ _ _ _ rfl d1 rfl d2 Tryz.underlying43 rfl infoVd Tryz.underlying74 rfl infoAck2) rfl ?_
          rw [HT.out]
          exact d3 ⟨3, y2, z, false⟩ d rfl IS.out
      · have hyd : (y != 0) = true := by simp [hy]
        have c2' : w4.cell? ⟨b, 2, none⟩ = some (.int .u64 g.drp) := M4.out.gua.c 2 rfl
        have f2 := M4.out.gua.fz 2
        have hgd : ({ g with drp := inc g.drp } : GS).Good := ⟨M4.out.good.b, M4.out.good.mal, inc_u64 _, M4.out.good.tak, M4.out.good.cha, M4.out.good.lat, M4.out.good.no⟩
        have M6 := Lib.hid (M4.out.set hFb (g' := { g with drp := inc g.drp }) 2 (.int .u64 (IntKind.u64.wrap (g.drp + 1))) rfl rfl rfl hgd)
        go_upto_region 11 with fail
        clear c2' f2 M4 T4 HA4 hgd
        generalize w4.setCell ⟨b, 2, none⟩ (.int .u64 (IntKind.u64.wrap (g.drp + 1))) = w6 at *
        have e7 := box_below w6 (.cells #[.int .i64 1, .int .i64 y, .int .u64 0, .bool false] 43)
        have M7 := Lib.hid (M6.out.below e7)
        have T7 := Lib.hid (heap_alloc_new w6 (.cells #[.int .i64 1, .int .i64 y, .int .u64 0, .bool false] 43))
        have hs6 := M6.out.sz
        go_upto_region 12 with fail
        clear e7 M6
        generalize (w6.alloc (.cells #[.int .i64 1, .int .i64 y, .int .u64 0, .bool false] 43)) = w7 at *
        generalize w6.heap.size = h at *
        have x3 : w7.cell? ⟨b, 0, none⟩ = some (.pointer (some ⟨qb, 0, none⟩)) := M7.out.gua.c 0 rfl
        have KB := Lib.hid (budR_ask w7 (fun k => F k ∧ k ≠ b) qb g.b now M7.out.gua.bud HNOW.out hga)
        go_wp2_with fail
        refine KB.out.mono ?_
        rintro e w8 ⟨rfl, hB, hC8⟩
        have GD := Lib.hid (M7.out.good.b.ask HNOW.out)
        have GD2 := Lib.hid (M7.out.good)
        have M8 := Lib.hid (M7.out.asked hB hC8 ⟨GD.out, GD2.out.mal, GD2.out.drp, GD2.out.tak, GD2.out.cha, GD2.out.lat, GD2.out.no⟩ HLT.out)
        have t8 := hC8.blk T7.out (fun e => by have := HLT.out _ (.inr (.inl e.1)); omega)
        have HT := Lib.hid (GS.take_drop hov HP.out now HLK.out hy)
        have hGb : Hid (Grow F w7 b) := Lib.hid (.inl hFb)
        have hhl := lt_of_block T7.out
        have hhn : Hid (¬ Grow F w7 h ∧ ¬ (E h ∧ h < w7.heap.size)) := Lib.hid ⟨fun e => e.elim (fun hf => by have := HLT.out h (.inr (.inl hf)); omega) (fun e => by omega), fun e => by have := HLT.out h (.inr (.inr e.1)); omega⟩
        clear KB hB hC8 M7 x3
        generalize g.b.ask now = r at *
        obtain ⟨bs, ch⟩ := r
        simp only at M8 GD
        cases ch with
        | true =>
          have c4 : w8.cell? ⟨b, 4, none⟩ = some (.int .u64 g.cha) := M8.out.gua.c 4 rfl
          have f4 := M8.out.gua.fz 4
          have M9 := Lib.hid (M8.out.set hFb (g' := g.drop (bs, true)) 4 (.int .u64 (IntKind.u64.wrap (g.cha + 1))) rfl rfl rfl ⟨GD.out, GD2.out.mal, GD2.out.drp, GD2.out.tak, inc_u64 _, GD2.out.lat, GD2.out.no⟩)
          have hC9 : Chg (fun j => j = b) w8 (w8.setCell ⟨b, 4, none⟩ (.int .u64 (IntKind.u64.wrap (g.cha + 1)))) := (Chg.refl (fun j => j = b) w8).setCell (p := ⟨b, 4, none⟩) (.inl rfl) _
          have t9 := hC9.blk t8 (by omega)
          go_upto_region 14 with fail
          clear c4 f4 M8 hC9 t8
          generalize w8.setCell ⟨b, 4, none⟩ (.int .u64 (IntKind.u64.wrap (g.cha + 1))) = w9 at *
          have C10 : Chg (fun j => j = h) w9 (w9.setCell ⟨h, 3, none⟩ (.bool true)) := (Chg.refl (fun j => j = h) w9).setCell (p := ⟨h, 3, none⟩) (.inl rfl) _
          have M10 := Lib.hid (M9.out.own C10 (fun k e => by rw [show k = h from e]; exact ⟨by omega, hhn.out.1, hhn.out.2⟩))
          have t10 := heap_setCell_same w9 h 3 _ _ (.bool true) t9
          simp at t10
          have t10 : (w9.setCell ⟨h, 3, none⟩ (.bool true)).heap[h]? = some (.cells #[.int .i64 1, .int .i64 y, .int .u64 0, .bool true] 43 (0, 0)) := t10
          have u3 := cell_of_row w9 h 3 _ _ _ t9
          have fu3 := frozen_of_row w9 h 3 _ _ t9
          go_upto_region 15 with fail
          clear C10 M9 t9 u3 fu3
          generalize w9.setCell ⟨h, 3, none⟩ (.bool true) = w10 at *
          have v2 := M10.out.tb.q2
          have v3 := M10.out.tb.q3
          have t0 := cell_of_row w10 h 0 _ _ _ t10
          have ft0 := frozen_of_row w10 h 0 _ _ t10
          have t1 := cell_of_row w10 h 1 _ _ _ t10
          have ft1 := frozen_of_row w10 h 1 _ _ t10
          have t2 := cell_of_row w10 h 2 _ _ _ t10
          have ft2 := frozen_of_row w10 h 2 _ _ t10
          have t3 := cell_of_row w10 h 3 _ _ _ t10
          have ft3 := frozen_of_row w10 h 3 _ _ t10
          have y0 := cell_of_row w10 w.heap.size 0 _ _ _ v2
          have fy0 := frozen_of_row w10 w.heap.size 0 _ _ v2
          have y1 := cell_of_row w10 w.heap.size 1 _ _ _ v2
          have fy1 := frozen_of_row w10 w.heap.size 1 _ _ v2
          have y2 := cell_of_row w10 w.heap.size 2 _ _ _ v2
          have fy2 := frozen_of_row w10 w.heap.size 2 _ _ v2
          have y3 := cell_of_row w10 w.heap.size 3 _ _ _ v2
          have fy3 := frozen_of_row w10 w.heap.size 3 _ _ v2
          have z0 := cell_of_row w10 (w.heap.size + 1) 0 _ _ _ v3
          have fz0 := frozen_of_row w10 (w.heap.size + 1) 0 _ _ v3
          have z1 := cell_of_row w10 (w.heap.size + 1) 1 _ _ _ v3
          have fz1 := frozen_of_row w10 (w.heap.size + 1) 1 _ _ v3
          have z2 := cell_of_row w10 (w.heap.size + 1) 2 _ _ _ v3
          have fz2 := frozen_of_row w10 (w.heap.size + 1) 2 _ _ v3
          have z3 := cell_of_row w10 (w.heap.size + 1) 3 _ _ _ v3
          have fz3 := frozen_of_row w10 (w.heap.size + 1) 3 _ _ v3
          have z4 := cell_of_row w10 (w.heap.size + 1) 4 _ _ _ v3
          have fz4 := frozen_of_row w10 (w.heap.size + 1) 4 _ _ v3
          go_wp2
          obtain ⟨d1, d2, d3⟩ := gtakeR_done M10.out (.int .i64 1) (.int .i64 y) (.int .u64 0) (.bool true) ⟨none, 0, none, 0, [], [], 0, 0, false⟩ (AkE.zero _ _)
          simp only [fillFrom, List.length_nil, Int.natCast_zero] at d1 d2 d3
          refine bodyPost_ret (results_cell_cell_row rfl _ _ _ _ _ _ _ _ _ _ _ _ rfl d1 rfl d2 Tryz.underlying43 rfl infoVd Tryz.underlying74 rfl infoAck2) rfl ?_
          rw [HT.out]
          exact d3 ⟨1, y, 0, true⟩ AckD.zero rfl ⟨rfl, rfl, rfl, rfl, rfl⟩
        | false =>
          have v2 := M8.out.tb.q2
          have v3 := M8.out.tb.q3
          have t0 := cell_of_row w8 h 0 _ _ _ t8
          have ft0 := frozen_of_row w8 h 0 _ _ t8
          have t1 := cell_of_row w8 h 1 _ _ _ t8
          have ft1 := frozen_of_row w8 h 1 _ _ t8
          have t2 := cell_of_row w8 h 2 _ _ _ t8
          have ft2 := frozen_of_row w8 h 2 _ _ t8
          have t3 := cell_of_row w8 h 3 _ _ _ t8
          have ft3 := frozen_of_row w8 h 3 _ _ t8
          have y0 := cell_of_row w8 w.heap.size 0 _ _ _ v2
          have fy0 := frozen_of_row w8 w.heap.size 0 _ _ v2
          have y1 := cell_of_row w8 w.heap.size 1 _ _ _ v2
          have fy1 := frozen_of_row w8 w.heap.size 1 _ _ v2
          have y2 := cell_of_row w8 w.heap.size 2 _ _ _ v2
          have fy2 := frozen_of_row w8 w.heap.size 2 _ _ v2
          have y3 := cell_of_row w8 w.heap.size 3 _ _ _ v2
          have fy3 := frozen_of_row w8 w.heap.size 3 _ _ v2
          have z0 := cell_of_row w8 (w.heap.size + 1) 0 _ _ _ v3
          have fz0 := frozen_of_row w8 (w.heap.size + 1) 0 _ _ v3
          have z1 := cell_of_row w8 (w.heap.size + 1) 1 _ _ _ v3
          have fz1 := frozen_of_row w8 (w.heap.size + 1) 1 _ _ v3
          have z2 := cell_of_row w8 (w.heap.size + 1) 2 _ _ _ v3
          have fz2 := frozen_of_row w8 (w.heap.size + 1) 2 _ _ v3
          have z3 := cell_of_row w8 (w.heap.size + 1) 3 _ _ _ v3
          have fz3 := frozen_of_row w8 (w.heap.size + 1) 3 _ _ v3
          have z4 := cell_of_row w8 (w.heap.size + 1) 4 _ _ _ v3
          have fz4 := frozen_of_row w8 (w.heap.size + 1) 4 _ _ v3
          go_wp2
          obtain ⟨d1, d2, d3⟩ := gtakeR_done M8.out (.int .i64 1) (.int .i64 y) (.int .u64 0) (.bool false) ⟨none, 0, none, 0, [], [], 0, 0, false⟩ (AkE.zero _ _)
          simp only [fillFrom, List.length_nil, Int.natCast_zero] at d1 d2 d3
          refine bodyPost_ret (results_cell_cell_row rfl _ _ _ _ _ _ _ _ _ _ _ _ rfl d1 rfl d2 Tryz.underlying43 rfl infoVd Tryz.underlying74 rfl infoAck2) rfl ?_
          rw [HT.out]
          exact d3 ⟨1, y, 0, false⟩ AckD.zero rfl ⟨rfl, rfl, rfl, rfl, rfl⟩

end Go.Proofs.YtpfmhkkglaghgaaGreat
