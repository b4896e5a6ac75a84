/-
  The program's guard: the object, copied, New, Counts. · A run of cells of one block stored one behind the other. · The program's guard: New, Counts, Evidence. · The program's guard: what is kept at the end (the function given to Once). · The program's guard: where the walk of Take stands.
-/
import Derived.Test.YtpfmhkkglaghgaaGreatGuaP
import Derived.Test.YtpfmhkkglaghgaaGreatBud
import Derived.Test.YtpfmhkkglaghgaaGreatSyn
import Derived.Test.YtpfmhkkglaghgaaGreatOct5
import Derived.Test.YtpfmhkkglaghgaaGreatSeq
import Derived.Test.YtpfmhkkglaghgaaGreatDo
import Derived.Test.YtpfmhkkglaghgaaGreatObj
import Derived.Test.YtpfmhkkglaghgaaGreatLookR
import Derived.Test.YtpfmhkkglaghgaaGreatCheck
namespace Go.Proofs.YtpfmhkkglaghgaaGreat
set_option linter.unusedSimpArgs false
set_option linter.unusedVariables false
set_option linter.unnecessarySimpa false
open Go.RowKit

theorem results_cell_row {P : Program} {fn : Func} {p : Tmp} {ty : TypeId} (h : fn.results = #[.cell p ty]) (tmps : Array Value) (w : World) (g : Nat) (t : TypeId) (cs : Array Value) (fr : Nat × Nat) (d : TypeDesc)
    (hp : tmps.getD p undef = .pointer (some ⟨g, 0, none⟩)) (hg : w.heap[g]? = some (.cells cs t fr))
    (hu : P.underlying ty = some d) (hd : (match d with | .struct _ | .array _ _ => true | _ => false) = true) (hi : (P.info? ty).map (·.size) = some cs.size) :
    (results fn tmps).run P w = .ok (.agg cs) w := by
  simp only [Array.getD_eq_getD_getElem?] at hp
  simp only [results, h]
  simp [Sem.run_bind, Result.andThen, hp, asAddr, run_loadVar_row w g t ty cs fr d hg hu hd hi]
theorem results_cell_cell_row {P : Program} {fn : Func} {p q : Tmp} {ty tz : TypeId} (h : fn.results = #[.cell p ty, .cell q tz]) (tmps : Array Value) (w : World) (g k : Nat) (t u : TypeId) (cs ds : Array Value) (fr fs : Nat × Nat) (d e : TypeDesc)
    (hp : tmps.getD p undef = .pointer (some ⟨g, 0, none⟩)) (hg : w.heap[g]? = some (.cells cs t fr)) (hq : tmps.getD q undef = .pointer (some ⟨k, 0, none⟩)) (hk : w.heap[k]? = some (.cells ds u fs))
    (hu : P.underlying ty = some d) (hd : (match d with | .struct _ | .array _ _ => true | _ => false) = true) (hi : (P.info? ty).map (·.size) = some cs.size)
    (hv : P.underlying tz = some e) (he : (match e with | .struct _ | .array _ _ => true | _ => false) = true) (hj : (P.info? tz).map (·.size) = some ds.size) :
    (results fn tmps).run P w = .ok (.tuple #[.agg cs, .agg ds]) w := by
  simp only [Array.getD_eq_getD_getElem?] at hp hq
  simp only [results, h]
  simp [Sem.run_bind, Result.andThen, hp, hq, asAddr, run_loadVar_row w g t ty cs fr d hg hu hd hi, run_loadVar_row w k u tz ds fs e hk hv he hj]

/-- An acknowledgment in memory, its rows in blocks of E. -/
structure AkE (w : World) (E : Nat → Prop) (a : Ak) : Prop where
  r : AkR w a
  eA : ∀ b off, a.A = some ⟨b, off, none⟩ → 0 < a.sp.length → E b
  eB : ∀ b off, a.B = some ⟨b, off, none⟩ → 0 < a.mm.length → E b
theorem AkE.chg {w w' : World} {E E' G : Nat → Prop} {a : Ak} (h : AkE w E a) (hc : Chg G w w') (hd : ∀ k, k < w.heap.size → E k → ¬ G k) (hs : ∀ k, k < w.heap.size → E k → E' k) : AkE w' E' a :=
  have l1 : ∀ b off, a.A = some ⟨b, off, none⟩ → 0 < a.sp.length → b < w.heap.size := fun b off e hn => h.r.rs.lt (by omega) hn b off e
  have l2 : ∀ b off, a.B = some ⟨b, off, none⟩ → 0 < a.mm.length → b < w.heap.size := fun b off e hn => h.r.rm.lt (by omega) hn b off e
  ⟨h.r.chg hc (fun b off e hn => hd b (l1 b off e hn) (h.eA b off e hn)) (fun b off e hn => hd b (l2 b off e hn) (h.eB b off e hn)),
   fun b off e hn => hs b (l1 b off e hn) (h.eA b off e hn), fun b off e hn => hs b (l2 b off e hn) (h.eB b off e hn)⟩
theorem AkE.below {w w' : World} {E : Nat → Prop} {a : Ak} (h : AkE w E a) (b : Below w.heap.size w w') : AkE w' E a :=
  h.chg (chg_below b (F := fun _ => False)) (fun _ _ _ h => h) (fun _ _ h => h)
theorem AkE.nil (w : World) (E : Nat → Prop) (a : Ak) (h1 : a.A = none) (h2 : a.c = 0) (h3 : a.B = none) (h4 : a.d = 0) (h5 : a.sp = []) (h6 : a.mm = []) (ht : isU64 a.tr) (hx : isU64 a.xo) : AkE w E a := by
  obtain ⟨A, c, B, d, sp, mm, tr, xo, od⟩ := a
  simp only at h1 h2 h3 h4 h5 h6 ht hx
  subst h1 h2 h3 h4 h5 h6
  exact ⟨⟨Rd.nil_ _ _, Rd.nil_ _ _, (fun _ h => by cases h), (fun _ h => by cases h), ht, hx⟩, (fun b off e => by cases e), (fun b off e => by cases e)⟩

def ovN (o : Bool) : Int := if o = true then 1 else 0
/-- The guard's cells. -/
def guaRow (qb : Nat) (g : GS) (a : Ak) : Array Value :=
  #[.pointer (some ⟨qb, 0, none⟩), .int .u64 g.mal, .int .u64 g.drp, .int .u64 g.tak, .int .u64 g.cha, .int .u64 g.lat, .int .u32 (ovN g.over), .int .u32 (ovN g.over), .int .i32 0, .int .u32 0,
    .int .u64 g.ev.at_, .int .u64 g.ev.pn, .int .u64 g.ev.used, .int .i64 g.ev.why, .slice a.A a.sp.length a.c, .slice a.B a.mm.length a.d, .int .u64 a.tr, .int .u64 a.xo, .bool a.od]
structure GuaC (w : World) (F E : Nat → Prop) (b : Nat) (g : GS) (qb : Nat) (a : Ak) : Prop where
  t : w.heap[b]? = some (.cells (guaRow qb g a) 117 (0, 0))
  bud : BudP w (fun k => F k ∧ k ≠ b) qb g.b
  ev : AkE w E a
  is : a.is g.ev.d
  gd : g.ev.d.Good
  fb : F b
  dj : ∀ k, E k → ¬ F k
structure GuaP (w : World) (F E : Nat → Prop) (b : Nat) (g : GS) : Prop where
  good : g.Good
  ex : ∃ qb a, GuaC w F E b g qb a
theorem GuaC.chg {w w' : World} {F E F' E' G : Nat → Prop} {b qb : Nat} {g : GS} {a : Ak} (h : GuaC w F E b g qb a) (hc : Chg G w w') (hd : ∀ k, k < w.heap.size → F k ∨ E k → ¬ G k) (hF : ∀ k, k < w.heap.size → F k → F' k) (hE : ∀ k, k < w.heap.size → E k → E' k) (dj : ∀ k, E' k → ¬ F' k) : GuaC w' F' E' b g qb a := by
  have hb := lt_of_block h.t
  exact ⟨hc.blk h.t (hd b hb (.inl h.fb)), h.bud.chg hc (fun k hk hf => hd k hk (.inl hf.1)) (fun k hk hf => ⟨hF k hk hf.1, hf.2⟩), h.ev.chg hc (fun k hk he => hd k hk (.inr he)) hE, h.is, h.gd, hF b hb h.fb, dj⟩
theorem GuaC.below {w w' : World} {F E : Nat → Prop} {b qb : Nat} {g : GS} {a : Ak} (h : GuaC w F E b g qb a) (q : Below w.heap.size w w') : GuaC w' F E b g qb a :=
  h.chg (chg_below q (F := fun _ => False)) (fun _ _ _ h => h) (fun _ _ h => h) (fun _ _ h => h) h.dj
theorem GuaP.chg {w w' : World} {F E F' E' G : Nat → Prop} {b : Nat} {g : GS} (h : GuaP w F E b g) (hc : Chg G w w') (hd : ∀ k, k < w.heap.size → F k ∨ E k → ¬ G k) (hF : ∀ k, k < w.heap.size → F k → F' k) (hE : ∀ k, k < w.heap.size → E k → E' k) (dj : ∀ k, E' k → ¬ F' k) : GuaP w' F' E' b g := by
  obtain ⟨g1, qb, a, hC⟩ := h
  exact ⟨g1, qb, a, hC.chg hc hd hF hE dj⟩
theorem GuaP.below {w w' : World} {F E : Nat → Prop} {b : Nat} {g : GS} (h : GuaP w F E b g) (q : Below w.heap.size w w') : GuaP w' F E b g := by
  obtain ⟨g1, qb, a, hC⟩ := h
  exact ⟨g1, qb, a, hC.below q⟩
theorem GuaP.dj {w : World} {F E : Nat → Prop} {b : Nat} {g : GS} (h : GuaP w F E b g) : ∀ k, E k → ¬ F k := by
  obtain ⟨g1, qb, a, hC⟩ := h
  exact hC.dj
theorem GuaP.lt {w : World} {F E : Nat → Prop} {b : Nat} {g : GS} (h : GuaP w F E b g) : b < w.heap.size ∧ F b := by
  obtain ⟨g1, qb, a, hC⟩ := h
  exact ⟨lt_of_block hC.t, hC.fb⟩
/-- Less is kept. -/
theorem GuaP.sub {w : World} {F E F' E' : Nat → Prop} {b : Nat} {g : GS} (h : GuaP w F E b g) (hF : ∀ k, k < w.heap.size → F k → F' k) (hE : ∀ k, k < w.heap.size → E k → E' k) (dj : ∀ k, E' k → ¬ F' k) : GuaP w F' E' b g :=
  h.chg (Chg.refl (fun _ => False) w) (fun _ _ _ h => h) hF hE dj
/-- A count (or the mark of the end) has been stored. -/
theorem GuaC.set {w : World} {F E : Nat → Prop} {b qb : Nat} {g g' : GS} {a : Ak} (h : GuaC w F E b g qb a) (i : Nat) (v : Value) (hr : guaRow qb g' a = (guaRow qb g a).setIfInBounds i v) (h1 : g'.b = g.b) (h2 : g'.ev = g.ev) : GuaC (w.setCell ⟨b, i, none⟩ v) F E b g' qb a := by
  have hC : Chg (fun j => j = b) w (w.setCell ⟨b, i, none⟩ v) := (Chg.refl (fun j => j = b) w).setCell (p := ⟨b, i, none⟩) (.inl rfl) _
  exact ⟨by rw [hr]; exact heap_setCell_same w b i _ _ v h.t, by rw [h1]; exact h.bud.chg hC (fun k _ hk e => hk.2 e) (fun _ _ h => h), h.ev.chg hC (fun k _ hk e => h.dj k hk (by rw [show k = b from e]; exact h.fb)) (fun _ _ h => h), by rw [h2]; exact h.is, by rw [h2]; exact h.gd, h.fb, h.dj⟩
/-- The budget has been asked. -/
theorem GuaC.asked {w w' : World} {F E : Nat → Prop} {b qb : Nat} {g : GS} {a : Ak} {s : BS} (h : GuaC w F E b g qb a) (hb : BudP w' (Grow (fun k => F k ∧ k ≠ b) w) qb s) (hc : Chg (fun k => F k ∧ k ≠ b) w w') :
    GuaC w' (Grow F w) (fun k => E k ∧ k < w.heap.size) b { g with b := s } qb a := by
  have hbs := lt_of_block h.t
  exact ⟨hc.blk h.t (fun e => e.2 rfl), hb.sub (fun k _ hk => hk.elim (fun e => ⟨.inl e.1, e.2⟩) (fun e => ⟨.inr e, by omega⟩)), h.ev.chg hc (fun k _ hk e => h.dj k hk e.1) (fun k hk he => ⟨he, hk⟩), h.is, h.gd, .inl h.fb, fun k hk hf => hf.elim (h.dj k hk.1) (fun e => by have := hk.2; omega)⟩

theorem infoEv : (Tryz.prog.info? 115).map (·.size) = some 9 := by kernel_rfl
theorem infoCts : (Tryz.prog.info? 136).map (·.size) = some 5 := by kernel_rfl
theorem infoVd : (Tryz.prog.info? 43).map (·.size) = some 4 := by kernel_rfl

set_option maxHeartbeats 2000000 in
set_option maxRecDepth 100000 in
theorem gua_copied (w : World) (a : Ak) (h : AkR w a) (l1 : a.sp.length ≤ 32) (l2 : a.mm.length ≤ 32) :
    Calls Tryz.prog 59 #[a.val] w fun e w' => ∃ a' : Ak, e = .returned a'.val ∧ a'.sp = a.sp ∧ a'.mm = a.mm ∧ a'.tr = a.tr ∧ a'.xo = a.xo ∧ a'.od = a.od ∧ AkE w' (fun k => w.heap.size ≤ k) a' ∧ Below w.heap.size w w' := by
  obtain ⟨i0, hi0, hz0, hz1, hz2⟩ := info_parts infoSpan
  have P0 := Lib.hid (AkBox.of h (Below.refl w.heap.size w))
  have e1 := box_below (w.alloc (.cells a.cells 74)) (.cells zAck 74)
  have P1 := Lib.hid (P0.out.below e1)
  have Z1 := Lib.hid (heap_alloc_new (w.alloc (.cells a.cells 74)) (.cells zAck 74))
  obtain ⟨A, c, B, d, sp, mm, tr, xo, od⟩ := a
  unfold Ak.val
  simp only [Ak.cells] at e1 P0 P1 Z1 h l1 l2 ⊢
  have H := Lib.hid h
  clear h e1
  go_enter Tryz.func59, Tryz.ntmps59
  go_upto_region 1 with fail
  have hZ : (w.alloc (.cells #[.slice A sp.length c, .slice B mm.length d, .int .u64 tr, .int .u64 xo, .bool od] 74)).alloc (.cells #[.slice none 0 0, .slice none 0 0, .int .u64 0, .int .u64 0, .bool false] 74) = (w.alloc (.cells #[.slice A sp.length c, .slice B mm.length d, .int .u64 tr, .int .u64 xo, .bool od] 74)).alloc (.cells zAck 74) := rfl
  rw [hZ]
  clear hZ
  have hs1 : ((w.alloc (.cells #[.slice A sp.length c, .slice B mm.length d, .int .u64 tr, .int .u64 xo, .bool od] 74)).alloc (.cells zAck 74)).heap.size = w.heap.size + 2 := by simp
  have Z1 : Hid (((w.alloc (.cells #[.slice A sp.length c, .slice B mm.length d, .int .u64 tr, .int .u64 xo, .bool od] 74)).alloc (.cells zAck 74)).heap[w.heap.size + 1]? = some (.cells zAck 74 (0, 0))) := Lib.hid (by have := Z1.out; rw [World.size_alloc] at this; exact this)
  clear P0
  generalize ((w.alloc (.cells #[.slice A sp.length c, .slice B mm.length d, .int .u64 tr, .int .u64 xo, .bool od] 74)).alloc (.cells zAck 74)) = w1 at *
  have t1 : w1.heap[w.heap.size]? = some (.cells #[.slice A sp.length c, .slice B mm.length d, .int .u64 tr, .int .u64 xo, .bool od] 74 (0, 0)) := P1.out.t
  have y0 := cell_of_row w1 w.heap.size 0 _ _ _ t1
  have fy0 := frozen_of_row w1 w.heap.size 0 _ _ t1
  have y1 := cell_of_row w1 w.heap.size 1 _ _ _ t1
  have fy1 := frozen_of_row w1 w.heap.size 1 _ _ t1
  have y2 := cell_of_row w1 w.heap.size 2 _ _ _ t1
  have fy2 := frozen_of_row w1 w.heap.size 2 _ _ t1
  have y3 := cell_of_row w1 w.heap.size 3 _ _ _ t1
  have fy3 := frozen_of_row w1 w.heap.size 3 _ _ t1
  have y4 := cell_of_row w1 w.heap.size 4 _ _ _ t1
  have fy4 := frozen_of_row w1 w.heap.size 4 _ _ t1
  clear t1
  have b1 := P1.out.bel
  go_wp2_with (first
    | (
      at_builtin
      refine wpList_append_rd _ rfl (.const (.slice none 0 0)) (.tmp 4) 72 rfl w1.heap.size 141 i0 _ 2 16 Tryz.underlying72 hi0 hz0 hz1 hz2 rfl (by decide) (.slice none 0 0) 0 [] rfl (World.ownsRow_nil _ _ _ _) A sp.length c (Ss sp) rfl P1.out.r.rs (Ss_one' _) (by unfold maxLen; omega) (by omega) (Nat.le_refl _) ?_
      intro v2 w2 hown2 hg2 hv2
      have hb2 : Below w1.heap.size w1 w2 := (Below.refl _ _).grown hg2 (Nat.le_refl _) (fun g hg => by simp [Value.ownBlock] at hg)
      rw [Nat.zero_add, List.nil_append] at hown2
      obtain ⟨A2, c2, hv, hA2⟩ := own_slice hown2
      subst hv
      have P2 := Lib.hid (P1.out.below hb2)
      have Z2 : Hid (w2.heap[w.heap.size + 1]? = some (.cells zAck 74 (0, 0))) := Lib.hid ((hb2.block _ (by omega)).trans Z1.out)
      have O2 := Lib.hid hown2
      have hs2 : w.heap.size + 2 ≤ w2.heap.size := by have := hb2.size; omega
      have t2 : w2.heap[w.heap.size]? = some (.cells #[.slice A sp.length c, .slice B mm.length d, .int .u64 tr, .int .u64 xo, .bool od] 74 (0, 0)) := P2.out.t
      have y20 := cell_of_row w2 w.heap.size 0 _ _ _ t2
      have y21 := cell_of_row w2 w.heap.size 1 _ _ _ t2
      have fy20 := frozen_of_row w2 w.heap.size 0 _ _ t2
      have C2 : Hid (Chg (fun j => j = w.heap.size) w2 (w2.setCell ⟨w.heap.size, 0, none⟩ (.slice A2 sp.length c2))) := Lib.hid ((Chg.refl (fun j => j = w.heap.size) w2).setCell (p := ⟨w.heap.size, 0, none⟩) (.inl rfl) _)
      have T3 : Hid ((w2.setCell ⟨w.heap.size, 0, none⟩ (.slice A2 sp.length c2)).heap[w.heap.size]? = some (.cells #[.slice A2 sp.length c2, .slice B mm.length d, .int .u64 tr, .int .u64 xo, .bool od] 74 (0, 0))) := Lib.hid (heap_setCell_same w2 w.heap.size 0 _ _ _ t2)
      have R3 : Hid (Rd (w2.setCell ⟨w.heap.size, 0, none⟩ (.slice A2 sp.length c2)) 2 A2 sp.length c2 (Ss sp)) := Lib.hid ((Rd.of_own O2.out).chg C2.out (fun b off e hn => by have := own_base2 O2.out b off e hn; omega))
      have M3 : Hid (Rd (w2.setCell ⟨w.heap.size, 0, none⟩ (.slice A2 sp.length c2)) 2 B mm.length d (Ss mm)) := Lib.hid (P2.out.r.rm.chg C2.out (fun b off e hn => by have := H.out.rm.lt (by omega) hn b off e; omega))
      have N3 : Hid (∀ b off, A2 = some ⟨b, off, none⟩ → 0 < sp.length → w.heap.size + 2 ≤ b) := Lib.hid (fun b off e hn => by have := own_base2 O2.out b off e hn; omega)
      have Z3 : Hid ((w2.setCell ⟨w.heap.size, 0, none⟩ (.slice A2 sp.length c2)).heap[w.heap.size + 1]? = some (.cells zAck 74 (0, 0))) := Lib.hid (C2.out.blk Z2.out (by omega))
      have B3 : Hid (Below w.heap.size w (w2.setCell ⟨w.heap.size, 0, none⟩ (.slice A2 sp.length c2))) := Lib.hid (P2.out.bel.trans (C2.out.below P2.out.bel.size (fun k hk e => by omega)))
      have hs3 : w.heap.size + 2 ≤ (w2.setCell ⟨w.heap.size, 0, none⟩ (.slice A2 sp.length c2)).heap.size := by simp; omega
      clear hb2 hown2 hg2 hv2 hA2 t2 y0 y1 y2 y3 y4 fy0 fy1 fy2 fy3 fy4)
    | (
      at_builtin
      refine wpList_append_rd _ rfl (.const (.slice none 0 0)) (.tmp 8) 72 rfl (w2.setCell ⟨w.heap.size, 0, none⟩ (.slice A2 sp.length c2)).heap.size 141 i0 _ 2 16 Tryz.underlying72 hi0 hz0 hz1 hz2 rfl (by decide) (.slice none 0 0) 0 [] rfl (World.ownsRow_nil _ _ _ _) B mm.length d (Ss mm) rfl M3.out (Ss_one' _) (by unfold maxLen; omega) (by omega) (Nat.le_refl _) ?_
      intro v4 w4 hown4 hg4 hv4
      have hb4 : Below (w2.setCell ⟨w.heap.size, 0, none⟩ (.slice A2 sp.length c2)).heap.size (w2.setCell ⟨w.heap.size, 0, none⟩ (.slice A2 sp.length c2)) w4 := (Below.refl _ _).grown hg4 (Nat.le_refl _) (fun g hg => by simp [Value.ownBlock] at hg)
      rw [Nat.zero_add, List.nil_append] at hown4
      obtain ⟨B4, d4, hv, hA4⟩ := own_slice hown4
      subst hv
      have Z4 : Hid (w4.heap[w.heap.size + 1]? = some (.cells zAck 74 (0, 0))) := Lib.hid ((hb4.block _ (by omega)).trans Z3.out)
      have O4 := Lib.hid hown4
      have t4 := (hb4.block _ (by omega)).trans T3.out
      have zr : w4.heap[w.heap.size + 1]? = some (.cells #[.slice none 0 0, .slice none 0 0, .int .u64 0, .int .u64 0, .bool false] 74 (0, 0)) := Z4.out
      have y0 := cell_of_row w4 w.heap.size 0 _ _ _ t4
      have fy0 := frozen_of_row w4 w.heap.size 0 _ _ t4
      have y1 := cell_of_row w4 w.heap.size 1 _ _ _ t4
      have fy1 := frozen_of_row w4 w.heap.size 1 _ _ t4
      have y2 := cell_of_row w4 w.heap.size 2 _ _ _ t4
      have fy2 := frozen_of_row w4 w.heap.size 2 _ _ t4
      have y3 := cell_of_row w4 w.heap.size 3 _ _ _ t4
      have fy3 := frozen_of_row w4 w.heap.size 3 _ _ t4
      have y4 := cell_of_row w4 w.heap.size 4 _ _ _ t4
      have fy4 := frozen_of_row w4 w.heap.size 4 _ _ t4
      have z0 := cell_of_row w4 (w.heap.size + 1) 0 _ _ _ zr
      have fz0 := frozen_of_row w4 (w.heap.size + 1) 0 _ _ zr
      have z1 := cell_of_row w4 (w.heap.size + 1) 1 _ _ _ zr
      have fz1 := frozen_of_row w4 (w.heap.size + 1) 1 _ _ zr
      have z2 := cell_of_row w4 (w.heap.size + 1) 2 _ _ _ zr
      have fz2 := frozen_of_row w4 (w.heap.size + 1) 2 _ _ zr
      have z3 := cell_of_row w4 (w.heap.size + 1) 3 _ _ _ zr
      have fz3 := frozen_of_row w4 (w.heap.size + 1) 3 _ _ zr
      have z4 := cell_of_row w4 (w.heap.size + 1) 4 _ _ _ zr
      have fz4 := frozen_of_row w4 (w.heap.size + 1) 4 _ _ zr
      have C4 : Hid (Chg (fun j => j = w.heap.size) w4 (w4.setCell ⟨w.heap.size, 1, none⟩ (.slice B4 mm.length d4))) := Lib.hid ((Chg.refl (fun j => j = w.heap.size) w4).setCell (p := ⟨w.heap.size, 1, none⟩) (.inl rfl) _)
      have T5 : Hid ((w4.setCell ⟨w.heap.size, 1, none⟩ (.slice B4 mm.length d4)).heap[w.heap.size]? = some (.cells #[.slice A2 sp.length c2, .slice B4 mm.length d4, .int .u64 tr, .int .u64 xo, .bool od] 74 (0, 0))) := Lib.hid (heap_setCell_same w4 w.heap.size 1 _ _ _ t4)
      have M5 : Hid (Rd (w4.setCell ⟨w.heap.size, 1, none⟩ (.slice B4 mm.length d4)) 2 B4 mm.length d4 (Ss mm)) := Lib.hid ((Rd.of_own O4.out).chg C4.out (fun b off e hn => by have := own_base2 O4.out b off e hn; omega))
      have R5 : Hid (Rd (w4.setCell ⟨w.heap.size, 1, none⟩ (.slice B4 mm.length d4)) 2 A2 sp.length c2 (Ss sp)) := Lib.hid ((R3.out.below hb4).chg C4.out (fun b off e hn => by have := N3.out b off e hn; omega))
      have N5 : Hid (∀ b off, B4 = some ⟨b, off, none⟩ → 0 < mm.length → w.heap.size + 2 ≤ b) := Lib.hid (fun b off e hn => by have := own_base2 O4.out b off e hn; omega)
      have Z5 : Hid ((w4.setCell ⟨w.heap.size, 1, none⟩ (.slice B4 mm.length d4)).heap[w.heap.size + 1]? = some (.cells #[.slice none 0 0, .slice none 0 0, .int .u64 0, .int .u64 0, .bool false] 74 (0, 0))) := Lib.hid (C4.out.blk Z4.out (by omega))
      have B5 : Hid (Below w.heap.size w (w4.setCell ⟨w.heap.size, 1, none⟩ (.slice B4 mm.length d4))) := Lib.hid ((B3.out.trans (hb4.mono (by omega))).trans (C4.out.below (by have := hb4.size; omega) (fun k hk e => by omega)))
      clear hb4 hown4 hg4 hv4 hA4 t4))
  clear P1 Z1 hs1 b1 O2 C2 P2 Z2 hs2 y20 fy20 T3 R3 M3 Z3 B3 O4 Z4 C4 y0 y1 y2 y3 y4 fy0 fy1 fy2 fy3 fy4 zr z0 z1 z2 z3 z4 fz0 fz1 fz2 fz3 fz4
  generalize (w4.setCell ⟨w.heap.size, 1, none⟩ (.slice B4 mm.length d4)) = w5 at *
  have z5 := Z5.out
  have q1 := heap_setCell_same w5 (w.heap.size + 1) 0 _ _ (.slice A2 sp.length c2) z5
  have q2 := heap_setCell_same _ (w.heap.size + 1) 1 _ _ (.slice B4 mm.length d4) q1
  have q3 := heap_setCell_same _ (w.heap.size + 1) 2 _ _ (.int .u64 tr) q2
  have q4 := heap_setCell_same _ (w.heap.size + 1) 3 _ _ (.int .u64 xo) q3
  have q5 := heap_setCell_same _ (w.heap.size + 1) 4 _ _ (.bool od) q4
  have hC : Chg (fun j => j = w.heap.size + 1) w5 (((((w5.setCell ⟨w.heap.size + 1, 0, none⟩ (.slice A2 sp.length c2)).setCell ⟨w.heap.size + 1, 1, none⟩ (.slice B4 mm.length d4)).setCell ⟨w.heap.size + 1, 2, none⟩ (.int .u64 tr)).setCell ⟨w.heap.size + 1, 3, none⟩ (.int .u64 xo)).setCell ⟨w.heap.size + 1, 4, none⟩ (.bool od)) :=
    (((((Chg.refl (fun j => j = w.heap.size + 1) w5).setCell (p := ⟨w.heap.size + 1, 0, none⟩) (.inl rfl) _).setCell (p := ⟨w.heap.size + 1, 1, none⟩) (.inl rfl) _).setCell (p := ⟨w.heap.size + 1, 2, none⟩) (.inl rfl) _).setCell (p := ⟨w.heap.size + 1, 3, none⟩) (.inl rfl) _).setCell (p := ⟨w.heap.size + 1, 4, none⟩) (.inl rfl) _
  have q6 : _ = some (Obj.cells #[.slice A2 sp.length c2, .slice B4 mm.length d4, .int .u64 tr, .int .u64 xo, .bool od] 74 (0, 0)) := q5.trans (by simp)
  refine bodyPost_ret (results_cell_row rfl _ _ (w.heap.size + 1) _ _ _ _ rfl q6 Tryz.underlying74 rfl infoAck2) rfl ?_
  refine ⟨⟨A2, c2, B4, d4, sp, mm, tr, xo, od⟩, rfl, rfl, rfl, rfl, rfl, rfl, ⟨⟨R5.out.chg hC (fun b off e hn => by have := N3.out b off e hn; omega), M5.out.chg hC (fun b off e hn => by have := N5.out b off e hn; omega), H.out.us, H.out.um, H.out.ut, H.out.ux⟩, (fun b off e hn => by have := N3.out b off e hn; omega), (fun b off e hn => by have := N5.out b off e hn; omega)⟩, B5.out.trans (hC.below B5.out.size (fun k hk e => by omega))⟩

end Go.Proofs.YtpfmhkkglaghgaaGreat

namespace Go.Proofs.YtpfmhkkglaghgaaGreat
set_option linter.unusedSimpArgs false
set_option linter.unusedVariables false
set_option linter.unnecessarySimpa false
open Go.RowKit

def fillFrom (W : World) (g : Nat) : Nat → List Value → World
  | _, [] => W
  | k, v :: r => fillFrom (W.setCell ⟨g, k, none⟩ v) g (k + 1) r
theorem fill_chg (g : Nat) : ∀ (vs : List Value) (W : World) (k : Nat), Chg (fun j => j = g) W (fillFrom W g k vs) := by
  intro vs
  induction vs with
  | nil => intro W k; exact Chg.refl _ _
  | cons v r ih =>
    intro W k
    exact ((Chg.refl (fun j => j = g) W).setCell (p := ⟨g, k, none⟩) (.inl rfl) v).trans ((ih _ _).mono fun _ _ h => .inl h)
theorem fill_list (g : Nat) (t : TypeId) : ∀ (vs : List Value) (W : World) (k : Nat) (l : List Value), W.heap[g]? = some (.cells l.toArray t) → k + vs.length ≤ l.length →
    (fillFrom W g k vs).heap[g]? = some (.cells (l.take k ++ vs ++ l.drop (k + vs.length)).toArray t) := by
  intro vs
  induction vs with
  | nil => intro W k l h hl; simpa [fillFrom] using h
  | cons v r ih =>
    intro W k l h hl
    simp only [List.length_cons] at hl
    have h1 := heap_setCell_same W g k _ _ v h
    rw [show l.toArray.setIfInBounds k v = (l.set k v).toArray by simp] at h1
    have h2 := ih (W.setCell ⟨g, k, none⟩ v) (k + 1) (l.set k v) h1 (by simp; omega)
    show (fillFrom (W.setCell ⟨g, k, none⟩ v) g (k + 1) r).heap[g]? = _
    rw [h2]
    congr 3
    have e1 : (l.set k v).take (k + 1) = l.take k ++ [v] := by
      apply List.ext_getElem
      · simp; omega
      · intro i h3 h4
        simp only [List.length_take, List.length_set] at h3
        rw [List.getElem_take, List.getElem_set, List.getElem_append]
        by_cases hik : k = i
        · subst hik; simp; intro h5; omega
        · have : i < k := by omega
          simp [hik, this]
          intro h5
          omega
    have e2 : (l.set k v).drop (k + 1 + r.length) = l.drop (k + (r.length + 1)) := by
      rw [List.drop_set_of_lt (by omega)]
      congr 1
      omega
    rw [e1, e2]
    simp
/-- The whole row. -/
theorem fill_all {W : World} {g : Nat} {t : TypeId} {cs : Array Value} (vs : List Value) (h : W.heap[g]? = some (.cells cs t)) (hl : vs.length = cs.size) : (fillFrom W g 0 vs).heap[g]? = some (.cells vs.toArray t) := by
  have := fill_list g t vs W 0 cs.toList (by simpa using h) (by simp; omega)
  rw [this]
  congr 2
  simp [hl]

end Go.Proofs.YtpfmhkkglaghgaaGreat

namespace Go.Proofs.YtpfmhkkglaghgaaGreat
set_option linter.unusedSimpArgs false
set_option linter.unusedVariables false
set_option linter.unnecessarySimpa false
open Go.RowKit

theorem GuaC.c {w : World} {F E : Nat → Prop} {b qb : Nat} {g : GS} {a : Ak} (h : GuaC w F E b g qb a) (i : Nat) {v : Value} (hv : (guaRow qb g a)[i]? = some v) : w.cell? ⟨b, i, none⟩ = some v := (cell_of_row w b i _ _ _ h.t).trans hv
theorem GuaC.c6 {w : World} {F E : Nat → Prop} {b qb : Nat} {g : GS} {a : Ak} (h : GuaC w F E b g qb a) {o : Bool} (ho : g.over = o) : w.cell? ⟨b, 6, none⟩ = some (.int .u32 (ovN o)) := by subst ho; exact h.c 6 rfl
theorem GuaC.fz {w : World} {F E : Nat → Prop} {b qb : Nat} {g : GS} {a : Ak} (h : GuaC w F E b g qb a) (i : Nat) : w.frozen? ⟨b, i, none⟩ = false := frozen_of_row w b i _ _ h.t

set_option maxHeartbeats 1000000 in
theorem gua_new (most every : Int) (w : World) (he : isU64 every) :
    Calls Tryz.prog 25 #[.int .i64 most, .int .u64 every] w fun e w' => ∃ b, e = .returned (.pointer (some ⟨b, 0, none⟩)) ∧ GuaP w' (fun k => w.heap.size ≤ k) (fun _ => False) b (GS.new most every) ∧ Below w.heap.size w w' := by
  have C1 := Lib.hid (bud_new most every w he)
  have HE := Lib.hid he
  clear he
  go_enter Tryz.func25, Tryz.ntmps25
  go_wp2_with fail
  refine C1.out.mono ?_
  rintro e w1 ⟨rfl, hB, hb⟩
  have HB := Lib.hid hB
  have Hb := Lib.hid hb
  have hl := hB.lt.1
  clear hB hb C1
  go_wp2
  go_ret
  have eb := box_below w1 (.cells (guaRow w.heap.size (GS.new most every) ⟨none, 0, none, 0, [], [], 0, 0, false⟩) 117)
  refine ⟨w1.heap.size, rfl, ⟨GS.Good.new HE.out, w.heap.size, ⟨none, 0, none, 0, [], [], 0, 0, false⟩, ⟨heap_alloc_new w1 _, ((HB.out.below eb).sub (fun k _ hk => ⟨by show w.heap.size ≤ k; omega, by omega⟩)), AkE.nil _ _ _ rfl rfl rfl rfl rfl rfl ⟨by decide, by decide⟩ ⟨by decide, by decide⟩, ⟨rfl, rfl, rfl, rfl, rfl⟩, AckD.Good.zero, by show w.heap.size ≤ _; exact Hb.out.size, fun k hk => hk.elim⟩⟩, Hb.out.trans (eb.mono Hb.out.size)⟩

def ctsRow (g : GS) : Array Value := #[.int .u64 g.mal, .int .u64 g.drp, .int .u64 g.tak, .int .u64 g.cha, .int .u64 g.lat]
/-- What an evidence's cells hold. -/
def evRow (ev : Ev) (a : Ak) : Array Value := #[.int .u64 ev.at_, .int .u64 ev.pn, .int .u64 ev.used, .int .i64 ev.why, .slice a.A a.sp.length a.c, .slice a.B a.mm.length a.d, .int .u64 a.tr, .int .u64 a.xo, .bool a.od]
theorem setCell_id' {w : World} {g i : Nat} {v : Value} {cs : Array Value} {t : TypeId} (h : w.heap[g]? = some (.cells cs t)) (hv : cs[i]? = some v) : w.setCell ⟨g, i, none⟩ v = w := setCell_id h hv

end Go.Proofs.YtpfmhkkglaghgaaGreat

namespace Go.Proofs.YtpfmhkkglaghgaaGreat
set_option linter.unusedSimpArgs false
set_option linter.unusedVariables false
set_option linter.unnecessarySimpa false
open Go.RowKit

set_option maxHeartbeats 4000000 in
set_option maxRecDepth 100000 in
theorem gua_rec (w : World) (b : Nat) (x0 x1 x2 x3 x4 x5 x6 x7 x8 x9 x10 x11 x12 x13 x14 x15 x16 x17 x18 : Value) (n p u y k q : Nat) (now pn used why : Int) (a : Ak)
    (hb : w.heap[b]? = some (.cells #[x0, x1, x2, x3, x4, x5, x6, x7, x8, x9, x10, x11, x12, x13, x14, x15, x16, x17, x18] 117 (0, 0)))
    (hn : w.cell? ⟨n, 0, none⟩ = some (.int .u64 now)) (hp : w.cell? ⟨p, 0, none⟩ = some (.int .u64 pn)) (hu : w.cell? ⟨u, 0, none⟩ = some (.int .u64 used)) (hy : w.cell? ⟨y, 0, none⟩ = some (.int .i64 why))
    (hk : w.heap[k]? = some (.cells a.cells 74 (0, 0))) (hq : w.cell? ⟨q, 0, none⟩ = some (.pointer (some ⟨b, 0, none⟩)))
    (ha : AkR w a) (l1 : a.sp.length ≤ 32) (l2 : a.mm.length ≤ 32) (dn : n ≠ b) (dp : p ≠ b) (du : u ≠ b) (dy : y ≠ b) (dk : k ≠ b) (dq : q ≠ b) :
    Calls Tryz.prog 58 #[.pointer (some ⟨n, 0, none⟩), .pointer (some ⟨p, 0, none⟩), .pointer (some ⟨u, 0, none⟩), .pointer (some ⟨y, 0, none⟩), .pointer (some ⟨k, 0, none⟩), .pointer (some ⟨q, 0, none⟩)] w fun e w' => e = .returned (.tuple #[]) ∧
      ∃ a' : Ak, a'.sp = a.sp ∧ a'.mm = a.mm ∧ a'.tr = a.tr ∧ a'.xo = a.xo ∧ a'.od = a.od ∧ AkE w' (fun k => w.heap.size ≤ k) a' ∧ Chg (fun j => j = b) w w' ∧
        w'.heap[b]? = some (.cells #[x0, x1, x2, x3, x4, x5, x6, x7, x8, x9, .int .u64 now, .int .u64 pn, .int .u64 used, .int .i64 why, .slice a'.A a'.sp.length a'.c, .slice a'.B a'.mm.length a'.d, .int .u64 a'.tr, .int .u64 a'.xo, .bool a'.od] 117 (0, 0)) := by
  have HB := Lib.hid hb
  have hbs := lt_of_block hb
  have C1 := Lib.hid (gua_copied w.drew a (ha.below (Below.refl _ _).drew) l1 l2)
  have hks := lt_of_block hk
  have hk' : w.heap[k]? = some (.cells #[.slice a.A a.sp.length a.c, .slice a.B a.mm.length a.d, .int .u64 a.tr, .int .u64 a.xo, .bool a.od] 74 (0, 0)) := hk
  have k0 := cell_of_row w k 0 _ _ _ hk'
  have k1 := cell_of_row w k 1 _ _ _ hk'
  have k2 := cell_of_row w k 2 _ _ _ hk'
  have k3 := cell_of_row w k 3 _ _ _ hk'
  have k4 := cell_of_row w k 4 _ _ _ hk'
  have M0 := mixF_cell (F := fun j => j = b) hn dn
  have M1 := mixF_cell (F := fun j => j = b) hp dp
  have M2 := mixF_cell (F := fun j => j = b) hu du
  have M3 := mixF_cell (F := fun j => j = b) hy dy
  have M4 := mixF_cell (F := fun j => j = b) hq dq
  have N0 := mixF_cell (F := fun j => j = b) k0 dk
  have N1 := mixF_cell (F := fun j => j = b) k1 dk
  have N2 := mixF_cell (F := fun j => j = b) k2 dk
  have N3 := mixF_cell (F := fun j => j = b) k3 dk
  have N4 := mixF_cell (F := fun j => j = b) k4 dk
  simp only [List.getElem_toArray, List.getElem_cons_zero, List.getElem_cons_succ] at N0 N1 N2 N3 N4
  clear ha hb hk hk' k0 k1 k2 k3 k4 hn hp hu hy hq
  go_enter Tryz.func58, Tryz.ntmps58
  go_wp2
  refine wp_region_chg (fun j => j = b) (by kernel_rfl) (by kernel_rfl) ?_
  repeat (refine wpMix_seg 1 _ _ rfl ?_; simp only [List.take_succ_cons, List.take_zero, List.drop_succ_cons, List.drop_zero]; go_big_quiet_step (fail); refine wpQuiet_nil ?_)
  refine wpMix_bar rfl (by rfl) ?_
  go_wp2_with fail
  refine C1.out.mono ?_
  rintro e w1 ⟨a', rfl, e1, e2, e3, e4, e5, hA, hb1⟩
  have HA := Lib.hid hA
  have E1 := Lib.hid (And.intro e1 (And.intro e2 (And.intro e3 (And.intro e4 e5))))
  have hb1' : Below w.heap.size w w1 := (Below.refl w.heap.size w).drew.trans hb1
  have HB1 := Lib.hid hb1'
  have zr := (hb1'.block _ hbs).trans HB.out
  clear C1 e1 e2 e3 e4 e5 hA hb1 hb1' M0 M1 M2 M3 M4 N0 N1 N2 N3 N4
  obtain ⟨A, c, B, d, sp, mm, tr, xo, od⟩ := a'
  unfold Ak.val
  simp only [Ak.cells]
  go_wp2
  refine ⟨chg_mixF (chg_below HB1.out), ?_⟩
  repeat (refine wpMix_seg 1 _ _ rfl ?_; simp only [List.take_succ_cons, List.take_zero, List.drop_succ_cons, List.drop_zero]; go_big_quiet_step (fail); refine wpQuiet_nil ?_)
  have f0 := fill_list b 117 [.int .u64 now, .int .u64 pn, .int .u64 used, .int .i64 why, .slice A sp.length c, .slice B mm.length d, .int .u64 tr, .int .u64 xo, .bool od] w1 10 [x0, x1, x2, x3, x4, x5, x6, x7, x8, x9, x10, x11, x12, x13, x14, x15, x16, x17, x18] zr (by simp)
  have f1 := fill_chg b [.int .u64 now, .int .u64 pn, .int .u64 used, .int .i64 why, .slice A sp.length c, .slice B mm.length d, .int .u64 tr, .int .u64 xo, .bool od] w1 10
  simp only [fillFrom] at f0 f1
  have F0 := Lib.hid f0
  have F1 := Lib.hid f1
  have y0 := cell_of_row w1 b 0 _ _ _ zr
  have fy0 := frozen_of_row w1 b 0 _ _ zr
  have y1 := cell_of_row w1 b 1 _ _ _ zr
  have fy1 := frozen_of_row w1 b 1 _ _ zr
  have y2 := cell_of_row w1 b 2 _ _ _ zr
  have fy2 := frozen_of_row w1 b 2 _ _ zr
  have y3 := cell_of_row w1 b 3 _ _ _ zr
  have fy3 := frozen_of_row w1 b 3 _ _ zr
  have y4 := cell_of_row w1 b 4 _ _ _ zr
  have fy4 := frozen_of_row w1 b 4 _ _ zr
  have y5 := cell_of_row w1 b 5 _ _ _ zr
  have fy5 := frozen_of_row w1 b 5 _ _ zr
  have y6 := cell_of_row w1 b 6 _ _ _ zr
  have fy6 := frozen_of_row w1 b 6 _ _ zr
  have y7 := cell_of_row w1 b 7 _ _ _ zr
  have fy7 := frozen_of_row w1 b 7 _ _ zr
  have y8 := cell_of_row w1 b 8 _ _ _ zr
  have fy8 := frozen_of_row w1 b 8 _ _ zr
  have y9 := cell_of_row w1 b 9 _ _ _ zr
  have fy9 := frozen_of_row w1 b 9 _ _ zr
  have y10 := cell_of_row w1 b 10 _ _ _ zr
  have fy10 := frozen_of_row w1 b 10 _ _ zr
  have y11 := cell_of_row w1 b 11 _ _ _ zr
  have fy11 := frozen_of_row w1 b 11 _ _ zr
  have y12 := cell_of_row w1 b 12 _ _ _ zr
  have fy12 := frozen_of_row w1 b 12 _ _ zr
  have y13 := cell_of_row w1 b 13 _ _ _ zr
  have fy13 := frozen_of_row w1 b 13 _ _ zr
  have y14 := cell_of_row w1 b 14 _ _ _ zr
  have fy14 := frozen_of_row w1 b 14 _ _ zr
  have y15 := cell_of_row w1 b 15 _ _ _ zr
  have fy15 := frozen_of_row w1 b 15 _ _ zr
  have y16 := cell_of_row w1 b 16 _ _ _ zr
  have fy16 := frozen_of_row w1 b 16 _ _ zr
  have y17 := cell_of_row w1 b 17 _ _ _ zr
  have fy17 := frozen_of_row w1 b 17 _ _ zr
  have y18 := cell_of_row w1 b 18 _ _ _ zr
  have fy18 := frozen_of_row w1 b 18 _ _ zr
  clear f0 f1 zr y0 y1 y2 y3 y4 y5 y6 y7 y8 y9 fy0 fy1 fy2 fy3 fy4 fy5 fy6 fy7 fy8 fy9
  refine wpMix_bar rfl (by rfl) ?_
  go_wp2
  refine ⟨chg_mixF ((chg_below HB1.out).step F1.out (fun _ _ h => h)), ?_⟩
  repeat (refine wpMix_seg 1 _ _ rfl ?_; simp only [List.take_succ_cons, List.take_zero, List.drop_succ_cons, List.drop_zero]; go_big_quiet_step (fail); refine wpQuiet_nil ?_)
  refine wpMix_nil ?_
  go_wp2
  go_end0
  obtain ⟨e1, e2, e3, e4, e5⟩ := E1.out
  refine ⟨rfl, ⟨A, c, B, d, sp, mm, tr, xo, od⟩, e1, e2, e3, e4, e5, ?_, (chg_below HB1.out).step F1.out (fun _ _ h => h), F0.out⟩
  exact HA.out.chg F1.out (fun k _ hk e => by have : k = b := e; simp at hk; omega) (fun k _ hk => by simpa using hk)

set_option maxHeartbeats 4000000 in
set_option maxRecDepth 100000 in
/-- The end is marked; Once calls what keeps the evidence. -/
theorem gua_once (w : World) (F E : Nat → Prop) (b qb : Nat) (g : GS) (a0 : Ak) (hG : GuaC w F E b g qb a0) (gd : g.Good) (hov : g.over = false) (n p u y k q : Nat) (now pn used why : Int) (a : Ak) (d : AckD)
    (hn : w.cell? ⟨n, 0, none⟩ = some (.int .u64 now)) (hp : w.cell? ⟨p, 0, none⟩ = some (.int .u64 pn)) (hu : w.cell? ⟨u, 0, none⟩ = some (.int .u64 used)) (hy : w.cell? ⟨y, 0, none⟩ = some (.int .i64 why))
    (hk : w.heap[k]? = some (.cells a.cells 74 (0, 0))) (hq : w.cell? ⟨q, 0, none⟩ = some (.pointer (some ⟨b, 0, none⟩)))
    (ha : AkR w a) (is : a.is d) (hd : d.Good) (dn : n ≠ b) (dp : p ≠ b) (du : u ≠ b) (dy : y ≠ b) (dk : k ≠ b) (dq : q ≠ b)
    (n1 : ∀ g off, a.A = some ⟨g, off, none⟩ → 0 < a.sp.length → g ≠ b) (n2 : ∀ g off, a.B = some ⟨g, off, none⟩ → 0 < a.mm.length → g ≠ b) :
    Calls Tryz.prog 57 #[.pointer (some ⟨b, 7, none⟩), .func (.func 58) #[] #[.pointer (some ⟨n, 0, none⟩), .pointer (some ⟨p, 0, none⟩), .pointer (some ⟨u, 0, none⟩), .pointer (some ⟨y, 0, none⟩), .pointer (some ⟨k, 0, none⟩), .pointer (some ⟨q, 0, none⟩)]] (w.drew.setCell ⟨b, 6, none⟩ (.int .u32 1)) fun e w' => e = .returned (.tuple #[]) ∧
      GuaP w' (fun k => F k ∧ k < w.heap.size) (fun k => w.heap.size ≤ k) b (g.ended ⟨now, pn, used, why, d⟩) ∧ Chg (fun j => j = b) w w' := by
  have r0 : w.drew.heap[b]? = some (.cells #[.pointer (some ⟨qb, 0, none⟩), .int .u64 g.mal, .int .u64 g.drp, .int .u64 g.tak, .int .u64 g.cha, .int .u64 g.lat, .int .u32 0, .int .u32 0, .int .i32 0, .int .u32 0,
    .int .u64 g.ev.at_, .int .u64 g.ev.pn, .int .u64 g.ev.used, .int .i64 g.ev.why, .slice a0.A a0.sp.length a0.c, .slice a0.B a0.mm.length a0.d, .int .u64 a0.tr, .int .u64 a0.xo, .bool a0.od] 117 (0, 0)) := by
    have := hG.t
    unfold guaRow at this
    rw [hov] at this
    exact this
  have r1 := heap_setCell_same w.drew b 6 _ _ (.int .u32 1) r0
  have C1 : Chg (fun j => j = b) w (w.drew.setCell ⟨b, 6, none⟩ (.int .u32 1)) := (Chg.refl (fun j => j = b) w).drew.setCell (p := ⟨b, 6, none⟩) (.inl rfl) _
  generalize w.drew.setCell ⟨b, 6, none⟩ (.int .u32 1) = w1 at *
  have r2 := heap_setCell_same w1 b 8 _ _ (.int .i32 1) r1
  have C2 : Chg (fun j => j = b) w (w1.setCell ⟨b, 8, none⟩ (.int .i32 1)) := C1.setCell (p := ⟨b, 8, none⟩) (.inl rfl) _
  simp at r1 r2
  have hrec := gua_rec (w1.setCell ⟨b, 8, none⟩ (.int .i32 1)) b _ _ _ _ _ _ _ _ _ _ _ _ _ _ _ _ _ _ _ n p u y k q now pn used why a r2 (C2.cell hn dn) (C2.cell hp dp) (C2.cell hu du) (C2.cell hy dy) (C2.blk hk dk) (C2.cell hq dq)
    ⟨ha.rs.chg C2 n1, ha.rm.chg C2 n2, ha.us, ha.um, ha.ut, ha.ux⟩ (by rw [is.1]; exact hd.ls) (by rw [is.2.1]; exact hd.lm) dn dp du dy dk dq
  refine (once_take b 7 _ w1 _ ((cell_of_row w1 b 7 _ _ _ r1).trans rfl) ((cell_of_row w1 b 8 _ _ _ r1).trans rfl) (frozen_of_row w1 b 7 _ _ r1) (frozen_of_row w1 b 8 _ _ r1) hrec ?_).mono ?_
  · rintro w' ⟨a', -, -, -, -, -, -, -, h3⟩
    exact ⟨(cell_of_row w' b 7 _ _ _ h3).trans rfl, (cell_of_row w' b 8 _ _ _ h3).trans rfl, frozen_of_row w' b 7 _ _ h3, frozen_of_row w' b 8 _ _ h3⟩
  · rintro e w' ⟨rfl, w3, ⟨a', e1, e2, e3, e4, e5, hA, C3, r3⟩, rfl⟩
    have r4 := heap_setCell_same w3.drew b 7 _ _ (.int .u32 1) r3
    have r5 := heap_setCell_same _ b 8 _ _ (.int .i32 0) r4
    simp at r5
    have C4 : Chg (fun j => j = b) w3 ((w3.drew.setCell ⟨b, 7, none⟩ (.int .u32 1)).setCell ⟨b, 8, none⟩ (.int .i32 0)) := ((Chg.refl (fun j => j = b) w3).drew.setCell (p := ⟨b, 7, none⟩) (.inl rfl) _).setCell (p := ⟨b, 8, none⟩) (.inl rfl) _
    have C5 : Chg (fun j => j = b) w ((w3.drew.setCell ⟨b, 7, none⟩ (.int .u32 1)).setCell ⟨b, 8, none⟩ (.int .i32 0)) := (C2.step C3 (fun _ _ h => h)).step C4 (fun _ _ h => h)
    have hbs := lt_of_block hG.t
    have hsz : w.heap.size ≤ (w1.setCell ⟨b, 8, none⟩ (.int .i32 1)).heap.size := C2.size
    refine ⟨rfl, ⟨gd.ended _, qb, a', ⟨r5, ?_, ?_, ?_, hd, ⟨hG.fb, hbs⟩, fun k h1 h2 => by have := h2.2; omega⟩⟩, C5⟩
    · exact hG.bud.chg C5 (fun k _ hk e => hk.2 e) (fun k hk h => ⟨⟨h.1, hk⟩, h.2⟩)
    · exact hA.chg C4 (fun k _ hk e => by have : k = b := e; omega) (fun k _ hk => by show _ ≤ k; omega)
    · exact ⟨e1.trans is.1, e2.trans is.2.1, e3.trans is.2.2.1, e4.trans is.2.2.2.1, e5.trans is.2.2.2.2⟩

end Go.Proofs.YtpfmhkkglaghgaaGreat

namespace Go.Proofs.YtpfmhkkglaghgaaGreat
set_option linter.unusedSimpArgs false
set_option linter.unusedVariables false
set_option linter.unnecessarySimpa false
open Go.RowKit

theorem ackP_err {b : List Int} {e : Int} (h : ackP b = .error e) : e ≠ 0 := by
  unfold ackP at h
  split at h
  · injection h with h; omega
  · split at h
    · injection h with h; omega
    · split at h
      · rename_i e' hs
        injection h with h
        rcases spansP_err hs with h' | h' <;> omega
      · split at h
        · rename_i e' hs
          injection h with h
          rcases spansP_err hs with h' | h' <;> omega
        · unfold ackTail at h
          split at h
          · rename_i e' hs
            injection h with h
            have := wordP_err hs
            omega
          · split at h
            · rename_i e' hs
              injection h with h
              have := wordP_err hs
              omega
            · split at h
              · injection h with h; omega
              · split at h
                · injection h with h; omega
                · split at h
                  · injection h with h; omega
                  · split at h
                    · injection h with h; omega
                    · cases h
theorem ackP_good {b : List Int} {d : AckD} (h : ackP b = .ok d) (hb : ∀ x ∈ b, 0 ≤ x ∧ x ≤ 255) : d.Good := by
  unfold ackP at h
  split at h
  · cases h
  · rename_i k r
    split at h
    · cases h
    · have hr : ∀ x ∈ r, 0 ≤ x ∧ x ≤ 255 := fun x hx => hb x (List.mem_cons_of_mem _ hx)
      split at h
      · cases h
      · rename_i sp r1 h1
        obtain ⟨g1, n1, -, l1, j1, e1⟩ := spansP_ok hr h1
        split at h
        · cases h
        · rename_i mm r2 h2
          obtain ⟨g2, n2, -, l2, j2, e2⟩ := spansP_ok (by rw [e1]; exact U8b_drop hr _) h2
          have hr2 : ∀ x ∈ r2, 0 ≤ x ∧ x ≤ 255 := by rw [e2, e1]; exact U8b_drop (U8b_drop hr _) _
          unfold ackTail at h
          split at h
          · cases h
          · rename_i tr h3
            split at h
            · cases h
            · rename_i xo h4
              split at h
              · cases h
              · split at h
                · cases h
                · split at h
                  · cases h
                  · split at h
                    · cases h
                    · injection h with h
                      subst h
                      exact ⟨gd_u2 g1 n1, gd_u2 g2 n2, wordP_ok h3 hr2, wordP_ok h4 (U8b_drop hr2 _), by simp only; omega, by simp only; omega⟩

structure TkB (w : World) (b : Nat) (now : Int) (W : World) : Prop where
  q0 : W.heap[w.heap.size]? = some (.cells #[.pointer (some ⟨b, 0, none⟩)] 67 (0, 0))
  q1 : W.heap[w.heap.size + 1]? = some (.cells #[.int .u64 now] 27 (0, 0))
  q2 : W.heap[w.heap.size + 2]? = some (.cells #[.int .i64 0, .int .i64 0, .int .u64 0, .bool false] 43 (0, 0))
  q3 : W.heap[w.heap.size + 3]? = some (.cells #[.slice none 0 0, .slice none 0 0, .int .u64 0, .int .u64 0, .bool false] 74 (0, 0))
theorem TkB.chg {w W W' : World} {b : Nat} {now : Int} {G : Nat → Prop} (h : TkB w b now W) (hc : Chg G W W') (hG : ∀ k, G k → k < w.heap.size ∨ w.heap.size + 4 ≤ k) : TkB w b now W' :=
  ⟨hc.blk h.q0 (fun e => by have := hG _ e; omega), hc.blk h.q1 (fun e => by have := hG _ e; omega), hc.blk h.q2 (fun e => by have := hG _ e; omega), hc.blk h.q3 (fun e => by have := hG _ e; omega)⟩
theorem TkB.start (w : World) (b : Nat) (now : Int) : TkB w b now ((((w.alloc (.cells #[.pointer (some ⟨b, 0, none⟩)] 67)).alloc (.cells #[.int .u64 now] 27)).alloc (.cells #[.int .i64 0, .int .i64 0, .int .u64 0, .bool false] 43)).alloc (.cells #[.slice none 0 0, .slice none 0 0, .int .u64 0, .int .u64 0, .bool false] 74)) ∧
    Below w.heap.size w ((((w.alloc (.cells #[.pointer (some ⟨b, 0, none⟩)] 67)).alloc (.cells #[.int .u64 now] 27)).alloc (.cells #[.int .i64 0, .int .i64 0, .int .u64 0, .bool false] 43)).alloc (.cells #[.slice none 0 0, .slice none 0 0, .int .u64 0, .int .u64 0, .bool false] 74)) ∧
    ((((w.alloc (.cells #[.pointer (some ⟨b, 0, none⟩)] 67)).alloc (.cells #[.int .u64 now] 27)).alloc (.cells #[.int .i64 0, .int .i64 0, .int .u64 0, .bool false] 43)).alloc (.cells #[.slice none 0 0, .slice none 0 0, .int .u64 0, .int .u64 0, .bool false] 74)).heap.size = w.heap.size + 4 := by
  have n1 := heap_alloc_new w (.cells #[.pointer (some ⟨b, 0, none⟩)] 67)
  have b1 := box_below w (.cells #[.pointer (some ⟨b, 0, none⟩)] 67)
  generalize hw1 : w.alloc (.cells #[.pointer (some ⟨b, 0, none⟩)] 67) = w1 at *
  have s1 : w1.heap.size = w.heap.size + 1 := by rw [← hw1]; simp
  have n2 := heap_alloc_new w1 (.cells #[.int .u64 now] 27)
  have b2 := box_below w1 (.cells #[.int .u64 now] 27)
  generalize hw2 : w1.alloc (.cells #[.int .u64 now] 27) = w2 at *
  have s2 : w2.heap.size = w.heap.size + 2 := by rw [← hw2]; simp [s1]
  have n3 := heap_alloc_new w2 (.cells #[.int .i64 0, .int .i64 0, .int .u64 0, .bool false] 43)
  have b3 := box_below w2 (.cells #[.int .i64 0, .int .i64 0, .int .u64 0, .bool false] 43)
  generalize hw3 : w2.alloc (.cells #[.int .i64 0, .int .i64 0, .int .u64 0, .bool false] 43) = w3 at *
  have s3 : w3.heap.size = w.heap.size + 3 := by rw [← hw3]; simp [s2]
  have n4 := heap_alloc_new w3 (.cells #[.slice none 0 0, .slice none 0 0, .int .u64 0, .int .u64 0, .bool false] 74)
  have b4 := box_below w3 (.cells #[.slice none 0 0, .slice none 0 0, .int .u64 0, .int .u64 0, .bool false] 74)
  rw [s1] at n2
  rw [s2] at n3
  rw [s3] at n4
  exact ⟨⟨(b4.block _ (by omega)).trans ((b3.block _ (by omega)).trans ((b2.block _ (by omega)).trans n1)), (b4.block _ (by omega)).trans ((b3.block _ (by omega)).trans n2), (b4.block _ (by omega)).trans n3, n4⟩,
    b1.trans ((b2.mono (by omega)).trans ((b3.mono (by omega)).trans (b4.mono (by omega)))), by simp [s3]⟩

/-- The parts of Take's walk. -/
structure TkM (w : World) (T F0 E0 F E : Nat → Prop) (p b qb : Nat) (now : Int) (s : LS) (g : GS) (a0 : Ak) (W : World) : Prop where
  led : LedP W T p s
  gua : GuaC W F E b g qb a0
  good : g.Good
  tb : TkB w b now W
  chg : Chg (fun k => T k ∨ F0 k) w W
  sz : w.heap.size + 4 ≤ W.heap.size
  tT : ∀ k, T k → k < w.heap.size ∧ ¬ F k ∧ ¬ E k
  gF : ∀ k, F k → Grow F0 w k ∧ (k < w.heap.size ∨ w.heap.size + 4 ≤ k)
  gE : ∀ k, E k → Grow E0 w k ∧ (k < w.heap.size ∨ w.heap.size + 4 ≤ k)
theorem TkM.below {w W W' : World} {T F0 E0 F E : Nat → Prop} {p b qb : Nat} {now : Int} {s : LS} {g : GS} {a0 : Ak} (h : TkM w T F0 E0 F E p b qb now s g a0 W) (q : Below W.heap.size W W') : TkM w T F0 E0 F E p b qb now s g a0 W' :=
  ⟨h.led.below q, h.gua.below q, h.good, h.tb.chg (chg_below q (F := fun _ => False)) (fun _ h => h.elim), h.chg.thenBelow q h.chg.size, Nat.le_trans h.sz q.size, h.tT, h.gF, h.gE⟩
/-- What turns new blocks alone. -/
theorem TkM.own {w W W' : World} {T F0 E0 F E : Nat → Prop} {p b qb : Nat} {now : Int} {s : LS} {g : GS} {a0 : Ak} (h : TkM w T F0 E0 F E p b qb now s g a0 W) {G : Nat → Prop} (q : Chg G W W') (hG : ∀ k, G k → w.heap.size + 4 ≤ k ∧ ¬ F k ∧ ¬ E k) : TkM w T F0 E0 F E p b qb now s g a0 W' :=
  ⟨h.led.chg q (fun k _ hk hg => by have := (h.tT k hk).1; have := (hG k hg).1; omega) (fun _ _ h => h), h.gua.chg q (fun k _ hk hg => hk.elim (hG k hg).2.1 (hG k hg).2.2) (fun _ _ h => h) (fun _ _ h => h) h.gua.dj, h.good, h.tb.chg q (fun k hk => .inr (hG k hk).1),
    h.chg.trans (q.mono fun k _ hk => .inr (by have := (hG k hk).1; omega)), Nat.le_trans h.sz q.size, h.tT, h.gF, h.gE⟩
/-- A count has been stored. -/
theorem TkM.set {w W : World} {T F0 E0 F E : Nat → Prop} {p b qb : Nat} {now : Int} {s : LS} {g g' : GS} {a0 : Ak} (h : TkM w T F0 E0 F E p b qb now s g a0 W) (hb : F0 b) (i : Nat) (v : Value) (hr : guaRow qb g' a0 = (guaRow qb g a0).setIfInBounds i v) (h1 : g'.b = g.b) (h2 : g'.ev = g.ev) (hg : g'.Good) :
    TkM w T F0 E0 F E p b qb now s g' a0 (W.setCell ⟨b, i, none⟩ v) := by
  have hC : Chg (fun j => j = b) W (W.setCell ⟨b, i, none⟩ v) := (Chg.refl (fun j => j = b) W).setCell (p := ⟨b, i, none⟩) (.inl rfl) _
  refine ⟨h.led.chg hC (fun k _ hk e => (h.tT k hk).2.1 (by rw [show k = b from e]; exact h.gua.fb)) (fun _ _ h => h), h.gua.set i v hr h1 h2, hg, h.tb.chg hC (fun k e => by rw [show k = b from e]; exact (h.gF b h.gua.fb).2), h.chg.setCell (p := ⟨b, i, none⟩) (.inl (.inr hb)) _, by simpa using h.sz, h.tT, h.gF, h.gE⟩
/-- The ledger has turned. -/
theorem TkM.used {w W W' : World} {T F0 E0 F E : Nat → Prop} {p b qb : Nat} {now : Int} {s s' : LS} {g : GS} {a0 : Ak} (h : TkM w T F0 E0 F E p b qb now s g a0 W) (hl : LedP W' T p s') (hc : Chg T W W') : TkM w T F0 E0 F E p b qb now s' g a0 W' :=
  ⟨hl, h.gua.chg hc (fun k _ hk ht => hk.elim (h.tT k ht).2.1 (h.tT k ht).2.2) (fun _ _ h => h) (fun _ _ h => h) h.gua.dj, h.good, h.tb.chg hc (fun k hk => .inl (h.tT k hk).1), h.chg.trans (hc.mono fun k _ hk => .inl (.inl hk)), Nat.le_trans h.sz hc.size, h.tT, h.gF, h.gE⟩

/-- What Take answers. -/
def GTakeVal (w : World) (T F E : Nat → Prop) (p b : Nat) (o : GOut) (e : Ending) (w' : World) : Prop := ∃ a : Ak, e = .returned (.tuple #[o.v.val, a.val]) ∧ a.is o.a ∧ AkE w' (fun k => w.heap.size ≤ k) a ∧ LedP w' T p o.s ∧
  (∃ F' E', GuaP w' F' E' b o.g ∧ (∀ k, F' k → Grow F w k) ∧ (∀ k, E' k → Grow E w k)) ∧ Chg (fun k => T k ∨ F k) w w'
theorem gtake_done {w W : World} {T F0 E0 F E : Nat → Prop} {p b qb : Nat} {now : Int} {s : LS} {g : GS} {a0 : Ak} (h : TkM w T F0 E0 F E p b qb now s g a0 W) (x0 x1 x2 x3 : Value) (a : Ak) (ha : AkE W (fun k => w.heap.size + 4 ≤ k) a) :
    (fillFrom (fillFrom W (w.heap.size + 2) 0 [x0, x1, x2, x3]) (w.heap.size + 3) 0 [.slice a.A a.sp.length a.c, .slice a.B a.mm.length a.d, .int .u64 a.tr, .int .u64 a.xo, .bool a.od]).heap[w.heap.size + 2]? = some (.cells #[x0, x1, x2, x3] 43 (0, 0)) ∧
    (fillFrom (fillFrom W (w.heap.size + 2) 0 [x0, x1, x2, x3]) (w.heap.size + 3) 0 [.slice a.A a.sp.length a.c, .slice a.B a.mm.length a.d, .int .u64 a.tr, .int .u64 a.xo, .bool a.od]).heap[w.heap.size + 3]? = some (.cells #[.slice a.A a.sp.length a.c, .slice a.B a.mm.length a.d, .int .u64 a.tr, .int .u64 a.xo, .bool a.od] 74 (0, 0)) ∧
    (∀ (v : Vd) (d : AckD), #[x0, x1, x2, x3] = #[.int .i64 v.kind, .int .i64 v.why, .int .u64 v.pn, .bool v.ch] → a.is d → GTakeVal w T F0 E0 p b ⟨g, s, v, d⟩ (.returned (.tuple #[.agg #[x0, x1, x2, x3], .agg #[.slice a.A a.sp.length a.c, .slice a.B a.mm.length a.d, .int .u64 a.tr, .int .u64 a.xo, .bool a.od]])) (fillFrom (fillFrom W (w.heap.size + 2) 0 [x0, x1, x2, x3]) (w.heap.size + 3) 0 [.slice a.A a.sp.length a.c, .slice a.B a.mm.length a.d, .int .u64 a.tr, .int .u64 a.xo, .bool a.od])) := by
  have f1 := fill_all [x0, x1, x2, x3] h.tb.q2 rfl
  have c1 := fill_chg (w.heap.size + 2) [x0, x1, x2, x3] W 0
  generalize fillFrom W (w.heap.size + 2) 0 [x0, x1, x2, x3] = W1 at *
  have q3 := c1.blk h.tb.q3 (by omega)
  have f2 := fill_all [.slice a.A a.sp.length a.c, .slice a.B a.mm.length a.d, .int .u64 a.tr, .int .u64 a.xo, .bool a.od] q3 rfl
  have c2 := fill_chg (w.heap.size + 3) [.slice a.A a.sp.length a.c, .slice a.B a.mm.length a.d, .int .u64 a.tr, .int .u64 a.xo, .bool a.od] W1 0
  generalize fillFrom W1 (w.heap.size + 3) 0 [.slice a.A a.sp.length a.c, .slice a.B a.mm.length a.d, .int .u64 a.tr, .int .u64 a.xo, .bool a.od] = W2 at *
  refine ⟨c2.blk f1 (by omega), f2, fun v d hv hd => ?_⟩
  have c3 : Chg (fun j => j = w.heap.size + 2 ∨ j = w.heap.size + 3) W W2 := (c1.mono fun _ _ h => .inl h).step (c2.mono fun _ _ h => .inr h) (fun _ _ h => h)
  have hsz := h.sz
  refine ⟨a, ?_, hd, ?_, ?_, ⟨F, E, ⟨h.good, qb, a0, ?_⟩, fun k hk => (h.gF k hk).1, fun k hk => (h.gE k hk).1⟩, ?_⟩
  · rw [hv]; rfl
  · exact ha.chg c3 (fun k _ hk e => by rcases e with e | e <;> omega) (fun k _ hk => by show _ ≤ k; omega)
  · exact h.led.chg c3 (fun k _ hk e => by have := (h.tT k hk).1; rcases e with e | e <;> omega) (fun _ _ h => h)
  · exact h.gua.chg c3 (fun k _ hk e => by
      rcases hk with hk | hk
      · have := (h.gF k hk).2; rcases e with e | e <;> omega
      · have := (h.gE k hk).2; rcases e with e | e <;> omega) (fun _ _ h => h) (fun _ _ h => h) h.gua.dj
  · exact h.chg.trans (c3.mono fun k _ e => .inr (by rcases e with e | e <;> omega))

end Go.Proofs.YtpfmhkkglaghgaaGreat
