/-
  Walks of package queue: Acked.
-/
import Derived.Test.YtilgekmpkoohaaaQue2
import Derived.Deep.RegionHeld3
import Derived.Deep.RegionWith
import Derived.Deep.RegionLaw
import Derived.Deep.DeepCutAuto
namespace Go.Proofs.Ytilgekmpkoohaaa
set_option linter.unusedSimpArgs false
set_option linter.unusedVariables false
set_option linter.unnecessarySimpa false
open Go.RowKit
attribute [local go_sem ↓] run_min_int run_max_int

/-- On the way: the rows of the object as they stand, a span in a box. -/
structure AckSt (w : World) (F : Nat → Prop) (q : Nat) (s : QS) (h : Nat) (sp : Sp) (A : Option Addr) (c : Nat) (L1 : List Sp) (A1 : Option Addr) (c1 : Nat) (L2 : List Sp) (A2 : Option Addr) (c2 : Nat) (W : World) : Prop where
  t : W.heap[q]? = some (.cells #[.int .i64 s.room, .int .u64 s.base, .int .u64 s.fresh, .slice A (s.b.length - s.base) c, .slice A1 L1.length c1, .slice A2 L2.length c2] 63 (0, 0))
  x : W.heap[h]? = some (.cells #[.int .u64 sp.1, .int .u64 sp.2] 36 (0, 0))
  o : W.ownsRow 0 5 1 (.slice A (s.b.length - s.base) c) (s.b.length - s.base) (U8 (s.b.drop s.base))
  r1 : Rd W 2 A1 L1.length c1 (Ss L1)
  r2 : Rd W 2 A2 L2.length c2 (Ss L2)
  ch : Chg F w W
  hx : w.heap.size ≤ h
  hq : q < w.heap.size
  fq : F q
  fo : ∀ g, (Value.slice A (s.b.length - s.base) c).ownBlock = some g → F g ∧ g ≠ q ∧ g < w.heap.size
  f1 : ∀ b off, A1 = some ⟨b, off, none⟩ → 0 < L1.length → Grow F w b ∧ b ≠ q ∧ (Value.slice A (s.b.length - s.base) c).ownBlock ≠ some b
  f2 : ∀ b off, A2 = some ⟨b, off, none⟩ → 0 < L2.length → Grow F w b ∧ b ≠ q ∧ (Value.slice A (s.b.length - s.base) c).ownBlock ≠ some b
theorem AckSt.of {w : World} {F : Nat → Prop} {q : Nat} {s : QS} {sp : Sp} {A A1 A2 : Option Addr} {c c1 c2 : Nat} {La : List Sp} (h : QueC w F q s A c La A1 c1 A2 c2) :
    AckSt w F q s w.heap.size sp A c La A1 c1 (rowB s.ow) A2 c2 (w.alloc (.cells #[.int .u64 sp.1, .int .u64 sp.2] 36)) := by
  have b := box_below w (.cells #[.int .u64 sp.1, .int .u64 sp.2] 36)
  have h1 := h.below b
  exact ⟨h1.t, heap_alloc_new w _, h1.o, h1.r1, h1.r2, chg_below b, Nat.le_refl _, lt_of_block h.t, h.fq, fun g hg => ⟨(h.fo g hg).1, (h.fo g hg).2, (h.o.lt g hg).2⟩, fun b off e hn => ⟨.inl (h.f1 b off e hn).1, (h.f1 b off e hn).2⟩, fun b off e hn => ⟨.inl (h.f2 b off e hn).1, (h.f2 b off e hn).2⟩⟩
theorem AckSt.below {w W W' : World} {F : Nat → Prop} {q h : Nat} {s : QS} {sp : Sp} {A A1 A2 : Option Addr} {c c1 c2 : Nat} {L1 L2 : List Sp} (H : AckSt w F q s h sp A c L1 A1 c1 L2 A2 c2 W) (b : Below W.heap.size W W') : AckSt w F q s h sp A c L1 A1 c1 L2 A2 c2 W' :=
  ⟨(b.block _ (lt_of_block H.t)).trans H.t, (b.block _ (lt_of_block H.x)).trans H.x, own_chg H.o (chg_below b (F := fun _ => False)) (fun _ _ h => h), H.r1.below b, H.r2.below b, H.ch.thenBelow b H.ch.size, H.hx, H.hq, H.fq, H.fo, H.f1, H.f2⟩
theorem AckSt.new_ {w W : World} {F : Nat → Prop} {q h : Nat} {s : QS} {sp : Sp} {A A1 A2 A' : Option Addr} {c c1 c2 n c' : Nat} {L1 L2 : List Sp} {xs : List Value} {w1 : World} (H : AckSt w F q s h sp A c L1 A1 c1 L2 A2 c2 W) (hr : RdN w1 W.heap.size A' n c' xs) :
    ∀ b off, A' = some ⟨b, off, none⟩ → 0 < n → Grow F w b ∧ b ≠ q ∧ (Value.slice A (s.b.length - s.base) c).ownBlock ≠ some b := fun b off e hn => by
  have h1 := hr.nw b off e hn
  have h2 := H.ch.size
  have h3 := H.hq
  exact ⟨.inr (by omega), by omega, fun e' => by have := (H.fo b e').2.2; omega⟩
/-- What is owed turned. -/
theorem AckSt.set5 {w W w1 : World} {F : Nat → Prop} {q h : Nat} {s : QS} {sp : Sp} {A A1 A2 A' : Option Addr} {c c1 c2 c' : Nat} {L1 L2 L' : List Sp} (H : AckSt w F q s h sp A c L1 A1 c1 L2 A2 c2 W) (b : Below W.heap.size W w1) (hr : RdN w1 W.heap.size A' L'.length c' (Ss L')) :
    AckSt w F q s h sp A c L1 A1 c1 L' A' c' (w1.setCell ⟨q, 5, none⟩ (.slice A' L'.length c')) := by
  have h1 := H.below b
  have hC : Chg (fun j => j = q) w1 (w1.setCell ⟨q, 5, none⟩ (.slice A' L'.length c')) := (Chg.refl (fun j => j = q) w1).setCell (p := ⟨q, 5, none⟩) (.inl rfl) _
  have hn := H.new_ hr
  have hhq : h ≠ q := by have := H.hx; have := H.hq; omega
  refine ⟨by simpa using heap_setCell_same w1 q 5 _ _ (.slice A' L'.length c') h1.t, hC.blk h1.x hhq, own_chg h1.o hC (fun k hk e => (h1.fo k hk).2.1 e), h1.r1.chg hC (fun b off e hn e' => (h1.f1 b off e hn).2.1 e'), hr.rd.chg hC (fun b off e hb e' => (hn b off e hb).2.1 e'), h1.ch.setCell (p := ⟨q, 5, none⟩) (.inl H.fq) _, H.hx, H.hq, H.fq, H.fo, H.f1, hn⟩
theorem AckSt.set4 {w W w1 : World} {F : Nat → Prop} {q h : Nat} {s : QS} {sp : Sp} {A A1 A2 A' : Option Addr} {c c1 c2 c' : Nat} {L1 L2 L' : List Sp} (H : AckSt w F q s h sp A c L1 A1 c1 L2 A2 c2 W) (b : Below W.heap.size W w1) (hr : RdN w1 W.heap.size A' L'.length c' (Ss L')) :
    AckSt w F q s h sp A c L' A' c' L2 A2 c2 (w1.setCell ⟨q, 4, none⟩ (.slice A' L'.length c')) := by
  have h1 := H.below b
  have hC : Chg (fun j => j = q) w1 (w1.setCell ⟨q, 4, none⟩ (.slice A' L'.length c')) := (Chg.refl (fun j => j = q) w1).setCell (p := ⟨q, 4, none⟩) (.inl rfl) _
  have hn := H.new_ hr
  have hhq : h ≠ q := by have := H.hx; have := H.hq; omega
  refine ⟨by simpa using heap_setCell_same w1 q 4 _ _ (.slice A' L'.length c') h1.t, hC.blk h1.x hhq, own_chg h1.o hC (fun k hk e => (h1.fo k hk).2.1 e), hr.rd.chg hC (fun b off e hb e' => (hn b off e hb).2.1 e'), h1.r2.chg hC (fun b off e hn e' => (h1.f2 b off e hn).2.1 e'), h1.ch.setCell (p := ⟨q, 4, none⟩) (.inl H.fq) _, H.hx, H.hq, H.fq, H.fo, hn, H.f2⟩

theorem AckSt.done {w W : World} {F : Nat → Prop} {q h : Nat} {s t : QS} {sp : Sp} {A A1 A2 : Option Addr} {c c1 c2 : Nat} {L1 L2 : List Sp} (H : AckSt w F q s h sp A c L1 A1 c1 L2 A2 c2 W) (e1 : t.b = s.b) (e2 : t.base = s.base) (e3 : t.room = s.room) (e4 : t.fresh = s.fresh) (e5 : L2 = rowB t.ow) (ak : t.AkRow L1) : QueC W (Grow F w) q t A c L1 A1 c1 A2 c2 := by
  subst e5
  refine ⟨by rw [e1, e2, e3, e4]; exact H.t, by rw [e1, e2]; exact H.o, H.r1, H.r2, ak, .inl H.fq, ?_, ?_, ?_⟩
  · rw [e1, e2]; exact fun g hg => ⟨.inl (H.fo g hg).1, (H.fo g hg).2.1⟩
  · rw [e1, e2]; exact H.f1
  · rw [e1, e2]; exact H.f2
theorem cut_run2 {P : Program} {t : TypeId} {i : TypeInfo} {size : Nat} (ht : P.underlying t = some (.slice (P.elem t))) (hi : P.info? (P.elem t) = some i) (hsz : i.size = size) (A : Option Addr) (n c k : Nat) (hk : k ≤ n) (hs : ∀ a, A = some a → a.spot = none) :
    ∃ A', (∀ (kl : IntKind) (w : World), (Instr.slice t (.slice A n c) (some (.int kl (k : Int))) none none).run P w = .ok (.slice A' (n - k) (c - k)) w) ∧
      (∀ w xs, Rd w size A n c xs → Rd w size A' (n - k) (c - k) (xs.drop (k * size))) ∧ (∀ b off, A' = some ⟨b, off, none⟩ → ∃ off', A = some ⟨b, off', none⟩) := by
  refine ⟨_, fun kl w => ?_, fun w xs h => h.cut hk, fun b off e => ?_⟩
  · rw [run_slice_l w t A n c ht kl (k : Int) (by omega) (by omega)]
    simp [sizeOf, typeInfo, hi, hsz, sliced]
  · split at e
    · exact ⟨off, e⟩
    · cases A with
      | none => simp at e
      | some a =>
        have h1 := hs a rfl
        obtain ⟨b', o', p'⟩ := a
        simp only at h1
        subst h1
        simp only [Option.map_some, Option.some.injEq, Addr.add] at e
        split at e <;> (simp only [Addr.mk.injEq] at e; exact ⟨o', by rw [e.1]⟩)
/-- The body is cut; the base and the row are still the old. -/
structure AckSt9 (w : World) (F : Nat → Prop) (q : Nat) (s : QS) (nb : Nat) (A : Option Addr) (c : Nat) (L1 : List Sp) (A1 : Option Addr) (c1 : Nat) (L2 : List Sp) (A2 : Option Addr) (c2 : Nat) (W : World) : Prop where
  t : W.heap[q]? = some (.cells #[.int .i64 s.room, .int .u64 s.base, .int .u64 s.fresh, .slice A (s.b.length - nb) c, .slice A1 L1.length c1, .slice A2 L2.length c2] 63 (0, 0))
  o : W.ownsRow 0 5 1 (.slice A (s.b.length - nb) c) (s.b.length - nb) (U8 (s.b.drop nb))
  r1 : Rd W 2 A1 L1.length c1 (Ss L1)
  r2 : Rd W 2 A2 L2.length c2 (Ss L2)
  ch : Chg F w W
  hq : q < w.heap.size
  fq : F q
  fo : ∀ g, (Value.slice A (s.b.length - nb) c).ownBlock = some g → Grow F w g ∧ g ≠ q
  f1 : ∀ b off, A1 = some ⟨b, off, none⟩ → 0 < L1.length → Grow F w b ∧ b ≠ q ∧ (Value.slice A (s.b.length - nb) c).ownBlock ≠ some b
  f2 : ∀ b off, A2 = some ⟨b, off, none⟩ → 0 < L2.length → Grow F w b ∧ b ≠ q ∧ (Value.slice A (s.b.length - nb) c).ownBlock ≠ some b
theorem AckSt.set3 {w W w1 : World} {F : Nat → Prop} {q h : Nat} {s : QS} {sp : Sp} {A A' A1 A2 : Option Addr} {c c' c1 c2 nb : Nat} {L1 L2 : List Sp} (H : AckSt w F q s h sp A c L1 A1 c1 L2 A2 c2 W) (b : Below W.heap.size W w1)
    (ho : w1.ownsRow 0 5 1 (.slice A' (s.b.length - nb) c') (s.b.length - nb) (U8 (s.b.drop nb))) (hn : ∀ g, (Value.slice A' (s.b.length - nb) c').ownBlock = some g → W.heap.size ≤ g) :
    AckSt9 w F q s nb A' c' L1 A1 c1 L2 A2 c2 (w1.setCell ⟨q, 3, none⟩ (.slice A' (s.b.length - nb) c')) := by
  have h1 := H.below b
  have h2 := H.ch.size
  have h3 := H.hq
  have hC : Chg (fun j => j = q) w1 (w1.setCell ⟨q, 3, none⟩ (.slice A' (s.b.length - nb) c')) := (Chg.refl (fun j => j = q) w1).setCell (p := ⟨q, 3, none⟩) (.inl rfl) _
  refine ⟨by simpa using heap_setCell_same w1 q 3 _ _ (.slice A' (s.b.length - nb) c') h1.t, own_chg ho hC (fun k hk e => by have := hn k hk; omega), h1.r1.chg hC (fun b off e hn e' => (h1.f1 b off e hn).2.1 e'), h1.r2.chg hC (fun b off e hn e' => (h1.f2 b off e hn).2.1 e'), h1.ch.setCell (p := ⟨q, 3, none⟩) (.inl H.fq) _, H.hq, H.fq, ?_, ?_, ?_⟩
  · intro g hg; have := hn g hg; exact ⟨.inr (by omega), by omega⟩
  · intro b off e hL; exact ⟨(H.f1 b off e hL).1, (H.f1 b off e hL).2.1, fun e' => by have := hn b e'; have := H.r1.lt (by omega) hL b off e; omega⟩
  · intro b off e hL; exact ⟨(H.f2 b off e hL).1, (H.f2 b off e hL).2.1, fun e' => by have := hn b e'; have := H.r2.lt (by omega) hL b off e; omega⟩
theorem Ss_tail {L : List Sp} : (Ss L).drop (1 * 2) = Ss L.tail := by cases L <;> simp [Ss]
theorem AckSt9.done {w W W' : World} {F : Nat → Prop} {q : Nat} {s t : QS} {A A1 A2 A' : Option Addr} {c c1 c2 c' nb : Nat} {L1 L2 : List Sp} (H : AckSt9 w F q s nb A c L1 A1 c1 L2 A2 c2 W) (hC : Chg (fun j => j = q) W W')
    (ht : W'.heap[q]? = some (.cells #[.int .i64 s.room, .int .u64 nb, .int .u64 s.fresh, .slice A (s.b.length - nb) c, .slice A' (L1.length - 1) c', .slice A2 L2.length c2] 63 (0, 0)))
    (hcut : ∀ w xs, Rd w 2 A1 L1.length c1 xs → Rd w 2 A' (L1.length - 1) c' (xs.drop (1 * 2))) (hA : ∀ b off, A' = some ⟨b, off, none⟩ → ∃ off', A1 = some ⟨b, off', none⟩)
    (e1 : t.b = s.b) (e2 : t.base = nb) (e3 : t.room = s.room) (e4 : t.fresh = s.fresh) (e5 : L2 = rowB t.ow) (ak : t.AkRow L1.tail) : QueC W' (Grow F w) q t A c L1.tail A' c' A2 c2 ∧ Chg F w W' := by
  subst e5
  have r1 := hcut W _ H.r1
  rw [Ss_tail] at r1
  have f1 : ∀ b off, A' = some ⟨b, off, none⟩ → 0 < L1.length - 1 → Grow F w b ∧ b ≠ q ∧ (Value.slice A (s.b.length - nb) c).ownBlock ≠ some b := fun b off e hn => by
    obtain ⟨o', e'⟩ := hA b off e
    exact H.f1 b o' e' (by omega)
  refine ⟨⟨by rw [e1, e2, e3, e4, List.length_tail]; exact ht, by rw [e1, e2]; exact own_chg H.o hC (fun k hk e => (H.fo k hk).2 e), by rw [List.length_tail]; exact r1.chg hC (fun b off e hn e' => (f1 b off e hn).2.1 e'), H.r2.chg hC (fun b off e hn e' => (H.f2 b off e hn).2.1 e'), ak, .inl H.fq, ?_, ?_, ?_⟩, H.ch.trans (hC.mono fun k _ e => by subst e; exact .inl H.fq)⟩
  · rw [e1, e2]; exact H.fo
  · rw [e1, e2, List.length_tail]; exact f1
  · rw [e1, e2]; exact H.f2

theorem AckSt9.fin {w W W' : World} {F : Nat → Prop} {q : Nat} {s t : QS} {A A1 A2 A' : Option Addr} {c c1 c2 c' nb : Nat} {L1 L2 : List Sp} (H : AckSt9 w F q s nb A c L1 A1 c1 L2 A2 c2 W) (hg : t.Good) (hf : t.Few)
    (hW : W' = (W.drew.setCell ⟨q, 1, none⟩ (.int .u64 nb)).setCell ⟨q, 4, none⟩ (.slice A' (L1.length - 1) c') ∨ W' = (W.drew.setCell ⟨q, 4, none⟩ (.slice A' (L1.length - 1) c')).setCell ⟨q, 1, none⟩ (.int .u64 nb))
    (hcut : ∀ w xs, Rd w 2 A1 L1.length c1 xs → Rd w 2 A' (L1.length - 1) c' (xs.drop (1 * 2))) (hA : ∀ b off, A' = some ⟨b, off, none⟩ → ∃ off', A1 = some ⟨b, off', none⟩)
    (e1 : t.b = s.b) (e2 : t.base = nb) (e3 : t.room = s.room) (e4 : t.fresh = s.fresh) (e5 : L2 = rowB t.ow) (ak : t.AkRow L1.tail) : QueP W' (Grow F w) q t ∧ Chg F w W' := by
  have hd : W.drew.heap[q]? = _ := H.t
  rcases hW with rfl | rfl
  · obtain ⟨h1, h2⟩ := H.done ((((Chg.refl (fun j => j = q) W).drew).setCell (p := ⟨q, 1, none⟩) (.inl rfl) (.int .u64 nb)).setCell (p := ⟨q, 4, none⟩) (.inl rfl) (.slice A' (L1.length - 1) c'))
      (by simpa using heap_setCell_same _ q 4 _ _ (.slice A' (L1.length - 1) c') (heap_setCell_same _ q 1 _ _ (.int .u64 nb) hd)) hcut hA e1 e2 e3 e4 e5 ak
    exact ⟨⟨hg, hf, _, _, _, _, _, _, _, h1⟩, h2⟩
  · obtain ⟨h1, h2⟩ := H.done ((((Chg.refl (fun j => j = q) W).drew).setCell (p := ⟨q, 4, none⟩) (.inl rfl) (.slice A' (L1.length - 1) c')).setCell (p := ⟨q, 1, none⟩) (.inl rfl) (.int .u64 nb))
      (by simpa using heap_setCell_same _ q 1 _ _ (.int .u64 nb) (heap_setCell_same _ q 4 _ _ (.slice A' (L1.length - 1) c') hd)) hcut hA e1 e2 e3 e4 e5 ak
    exact ⟨⟨hg, hf, _, _, _, _, _, _, _, h1⟩, h2⟩

set_option maxHeartbeats 8000000 in
set_option maxRecDepth 100000 in
theorem que_acked (w : World) (F : Nat → Prop) (q : Nat) (s : QS) (off n : Int) (h : QueP w F q s) (ho : isU64 off) (hn : isU64 n) :
    Calls Try.prog 19 #[.pointer (some ⟨q, 0, none⟩), .int .u64 off, .int .u64 n] w fun e w' => e = .returned (.bool (s.acked off n).2) ∧ QueP w' (Grow F w) q (s.acked off n).1 ∧ Chg F w w' := by
  have hf : s.b.length ≤ 1000000 := h.few
  obtain ⟨o0, o1⟩ := ho
  obtain ⟨n0, n1⟩ := hn
  have U1 : Hid (isU64 off) := ⟨o0, o1⟩
  have U2 : Hid (isU64 n) := ⟨n0, n1⟩
  have H := Lib.hid h
  have hfr := h.good.fr
  clear h
  by_cases hw : QS.within off n s.fresh
  · have HA := Lib.hid (decide_eq_true hw)
    have HW := Lib.hid hw
    obtain ⟨w1', w2', w3'⟩ := hw
    have HS := Lib.hid (show s.acked off n = ({ s with ak := paint true off.toNat (off + n).toNat s.ak, ow := paint false off.toNat (off + n).toNat s.ow }, true) from if_pos HW.out)
    obtain ⟨A, c, La, A1, c1, A2, c2, hC⟩ := H.out.ex
    have hlo := H.out.good.lo
    have hrow := rowB_spec s.ow (by rw [hlo]; exact hf)
    have CUT := Lib.hid (fun W (R : Rd W 2 A2 (rowB s.ow).length c2 (Ss (rowB s.ow))) => cut_yes A2 _ c2 (rowB s.ow) off (off + n - 1) W R hrow.1.good ⟨by show off ≤ off + n - 1; omega, by show off + n - 1 ≤ maxPn; unfold maxPn; omega⟩ o0 (rowB_u2 (by rw [hlo]; exact hf)) (by have := hrow.2.2; omega))
    rw [QS.sent_row H.out.good H.out.few (show QS.within off n s.b.length from ⟨w1', by omega, by omega⟩) o0] at CUT
    obtain ⟨ua, la⟩ := hC.ak.u2 H.out.few
    obtain ⟨isp, gd3, mem3⟩ := QS.acked_mem H.out.good H.out.few HW.out o0 hC.ak
    obtain ⟨ga, -⟩ := add_parts La (off, off + n - 1) hC.ak.gd isp
    have lal := addP_le La (off, off + n - 1)
    have fpl := fromP_len (addP La (off, off + n - 1)) s.base
    have ADD := Lib.hid (fun W (R : Rd W 2 A1 La.length c1 (Ss La)) => add_yes A1 _ c1 La off (off + n - 1) W R hC.ak.gd.good isp o0 ua (by omega))
    have S0 : Hid (AckSt w F q s w.heap.size (off, off + n - 1) A c La A1 c1 (rowB s.ow) A2 c2 (w.alloc (.cells #[.int .u64 off, .int .u64 (off + n - 1)] 36))) := AckSt.of hC
    have hub : U2s (addP La (off, off + n - 1)) := by
      have key : ∀ m, Mem m (addP La (off, off + n - 1)) → isU64 m := fun m hm => by
        rcases ((add_parts La (off, off + n - 1) hC.ak.gd isp).2 m).1 hm with h1 | ⟨h1, h2⟩
        · obtain ⟨t, ht, t1, t2⟩ := h1
          have := ua t ht
          exact ⟨by have := this.1.1; omega, by have := this.2.2; omega⟩
        · simp only at h1 h2
          exact ⟨by omega, by omega⟩
      exact fun z hz => ⟨key _ (Mem_lo ga hz).1, key _ (Mem_lo ga hz).2⟩
    have FROM := Lib.hid (fun (A' : Option Addr) (c' : Nat) W (R : Rd W 2 A' (addP La (off, off + n - 1)).length c' (Ss (addP La (off, off + n - 1)))) => from_yes A' _ c' (addP La (off, off + n - 1)) s.base W R hub ga.good (by omega) (by have := s.base_le H.out.good; omega) (by omega))
    have GD3 := Lib.hid gd3
    have MEM3 := Lib.hid mem3
    have HC := Lib.hid hC
    have HB := Lib.hid (s.base_le H.out.good)
    clear hC hlo hrow ua la isp gd3 mem3 ga lal fpl hub
    generalize hL3 : fromP (addP La (off, off + n - 1)) s.base = L3 at *
    generalize addP La (off, off + n - 1) = L2 at *
    clear hL3
    rw [HS.out]
    have t0 := cell_of_row w q 0 _ _ _ HC.out.t
    have t1 := cell_of_row w q 1 _ _ _ HC.out.t
    have t2 := cell_of_row w q 2 _ _ _ HC.out.t
    have t3 := cell_of_row w q 3 _ _ _ HC.out.t
    have t4 := cell_of_row w q 4 _ _ _ HC.out.t
    have t5 := cell_of_row w q 5 _ _ _ HC.out.t
    have hq := lt_of_block HC.out.t
    go_enter Try.func19, Try.ntmps19
    go_wp2_with fail
    refine (ahead_any off n s.fresh _ U1.out U2.out (by omega)).mono ?_
    rw [HA.out]
    rintro e v2 ⟨rfl, rfl⟩
    go_upto_region 4 with fail
    generalize hW : (w.alloc (.cells #[.int .u64 off, .int .u64 (off + n - 1)] 36)) = w1 at *
    clear hW t0 t1 t2 t3 t4 t5
    have t0 := cell_of_row w1 q 0 _ _ _ S0.out.t
    have ft0 := frozen_of_row w1 q 0 _ _ S0.out.t
    have t1 := cell_of_row w1 q 1 _ _ _ S0.out.t
    have ft1 := frozen_of_row w1 q 1 _ _ S0.out.t
    have t2 := cell_of_row w1 q 2 _ _ _ S0.out.t
    have ft2 := frozen_of_row w1 q 2 _ _ S0.out.t
    have t3 := cell_of_row w1 q 3 _ _ _ S0.out.t
    have ft3 := frozen_of_row w1 q 3 _ _ S0.out.t
    have t4 := cell_of_row w1 q 4 _ _ _ S0.out.t
    have ft4 := frozen_of_row w1 q 4 _ _ S0.out.t
    have t5 := cell_of_row w1 q 5 _ _ _ S0.out.t
    have ft5 := frozen_of_row w1 q 5 _ _ S0.out.t
    have x0 := cell_of_row w1 w.heap.size 0 _ _ _ S0.out.x
    have fx0 := frozen_of_row w1 w.heap.size 0 _ _ S0.out.x
    have x1 := cell_of_row w1 w.heap.size 1 _ _ _ S0.out.x
    have fx1 := frozen_of_row w1 w.heap.size 1 _ _ S0.out.x
    have CUT1 := Lib.hid (CUT.out w1.drew (S0.out.below (Below.refl _ _).drew).r2)
    go_cut [7] (fun s7 wx => ∃ (A' : Option Addr) (c' : Nat), s7 = .pointer (some ⟨w.heap.size, 0, none⟩) ∧ Hid (AckSt w F q s w.heap.size (off, off + n - 1) A c La A1 c1 (rowB (paint false off.toNat (off + n).toNat s.ow)) A' c' wx))
    case first =>
      go_region_with ((go_at_call 30; refine CUT1.out.mono ?_; rintro e w2 ⟨A', c', rfl, hr, b⟩; have B2 : Hid (Below w1.heap.size w1 w2) := ((Below.refl _ _).drew).trans b; have R2 : Hid (RdN w2 w1.heap.size A' _ c' _) := hr; have S2 := Lib.hid (S0.out.below B2.out); clear hr b; have y5 := cell_of_row w2 q 5 _ _ _ S2.out.t; have fy5 := frozen_of_row w2 q 5 _ _ S2.out.t))
      all_goals (go_wp2_with fail; go_meet; exact ⟨A', c', rfl, Lib.hid (S0.out.set5 B2.out R2.out)⟩)
    case rest =>
    obtain ⟨A5, c5, rfl, S5⟩ := hcut
    clear CUT CUT1 S0 t0 t1 t2 t3 t4 t5 ft0 ft1 ft2 ft3 ft4 ft5 x0 x1 fx0 fx1
    generalize wc = w5 at *
    have t0 := cell_of_row w5 q 0 _ _ _ S5.out.t
    have ft0 := frozen_of_row w5 q 0 _ _ S5.out.t
    have t1 := cell_of_row w5 q 1 _ _ _ S5.out.t
    have ft1 := frozen_of_row w5 q 1 _ _ S5.out.t
    have t2 := cell_of_row w5 q 2 _ _ _ S5.out.t
    have ft2 := frozen_of_row w5 q 2 _ _ S5.out.t
    have t3 := cell_of_row w5 q 3 _ _ _ S5.out.t
    have ft3 := frozen_of_row w5 q 3 _ _ S5.out.t
    have t4 := cell_of_row w5 q 4 _ _ _ S5.out.t
    have ft4 := frozen_of_row w5 q 4 _ _ S5.out.t
    have t5 := cell_of_row w5 q 5 _ _ _ S5.out.t
    have ft5 := frozen_of_row w5 q 5 _ _ S5.out.t
    have x0 := cell_of_row w5 w.heap.size 0 _ _ _ S5.out.x
    have fx0 := frozen_of_row w5 w.heap.size 0 _ _ S5.out.x
    have x1 := cell_of_row w5 w.heap.size 1 _ _ _ S5.out.x
    have fx1 := frozen_of_row w5 w.heap.size 1 _ _ S5.out.x
    have ADD1 := Lib.hid (ADD.out w5.drew (S5.out.below (Below.refl _ _).drew).r1)
    go_upto_region 5 with fail
    go_cut [7] (fun s7 wx => ∃ (A' : Option Addr) (c' : Nat), s7 = .pointer (some ⟨w.heap.size, 0, none⟩) ∧ Hid (AckSt w F q s w.heap.size (off, off + n - 1) A c L2 A' c' (rowB (paint false off.toNat (off + n).toNat s.ow)) A5 c5 wx))
    case first =>
      go_region_with ((go_at_call 31; refine ADD1.out.mono ?_; rintro e w2 ⟨A', c', rfl, hr, b⟩; have B2 : Hid (Below w5.heap.size w5 w2) := ((Below.refl _ _).drew).trans b; have R2 : Hid (RdN w2 w5.heap.size A' _ c' _) := hr; have S2 := Lib.hid (S5.out.below B2.out); clear hr b; have y5 := cell_of_row w2 q 4 _ _ _ S2.out.t; have fy5 := frozen_of_row w2 q 4 _ _ S2.out.t))
      all_goals (go_wp2_with fail; go_meet; exact ⟨A', c', rfl, Lib.hid (S5.out.set4 B2.out R2.out)⟩)
    case rest =>
    obtain ⟨A6, c6, rfl, S6⟩ := hcut
    clear ADD ADD1 S5 t0 t1 t2 t3 t4 t5 ft0 ft1 ft2 ft3 ft4 ft5 x0 x1 fx0 fx1
    generalize wc = w6 at *
    have t0 := cell_of_row w6 q 0 _ _ _ S6.out.t
    have ft0 := frozen_of_row w6 q 0 _ _ S6.out.t
    have t1 := cell_of_row w6 q 1 _ _ _ S6.out.t
    have ft1 := frozen_of_row w6 q 1 _ _ S6.out.t
    have t2 := cell_of_row w6 q 2 _ _ _ S6.out.t
    have ft2 := frozen_of_row w6 q 2 _ _ S6.out.t
    have t3 := cell_of_row w6 q 3 _ _ _ S6.out.t
    have ft3 := frozen_of_row w6 q 3 _ _ S6.out.t
    have t4 := cell_of_row w6 q 4 _ _ _ S6.out.t
    have ft4 := frozen_of_row w6 q 4 _ _ S6.out.t
    have t5 := cell_of_row w6 q 5 _ _ _ S6.out.t
    have ft5 := frozen_of_row w6 q 5 _ _ S6.out.t
    have FROM1 := Lib.hid (FROM.out A6 c6 w6.drew (S6.out.below (Below.refl _ _).drew).r1)
    go_upto_region 6 with fail
    go_cut [] (fun wx => ∃ (A' : Option Addr) (c' : Nat), Hid (AckSt w F q s w.heap.size (off, off + n - 1) A c L3 A' c' (rowB (paint false off.toNat (off + n).toNat s.ow)) A5 c5 wx))
    case first =>
      go_region_with ((go_at_call 32; refine FROM1.out.mono ?_; rintro e w2 ⟨A', c', rfl, hr, b⟩; have B2 : Hid (Below w6.heap.size w6 w2) := ((Below.refl _ _).drew).trans b; have R2 : Hid (RdN w2 w6.heap.size A' _ c' _) := hr; have S2 := Lib.hid (S6.out.below B2.out); clear hr b; have y5 := cell_of_row w2 q 4 _ _ _ S2.out.t; have fy5 := frozen_of_row w2 q 4 _ _ S2.out.t))
      all_goals (go_wp2_with fail; go_meet; exact ⟨A', c', Lib.hid (S6.out.set4 B2.out R2.out)⟩)
    case rest =>
    obtain ⟨A7, c7, S7⟩ := hcut
    clear FROM FROM1 S6 t0 t1 t2 t3 t4 t5 ft0 ft1 ft2 ft3 ft4 ft5
    generalize wc = w7 at *
    have t0 := cell_of_row w7 q 0 _ _ _ S7.out.t
    have ft0 := frozen_of_row w7 q 0 _ _ S7.out.t
    have t1 := cell_of_row w7 q 1 _ _ _ S7.out.t
    have ft1 := frozen_of_row w7 q 1 _ _ S7.out.t
    have t2 := cell_of_row w7 q 2 _ _ _ S7.out.t
    have ft2 := frozen_of_row w7 q 2 _ _ S7.out.t
    have t3 := cell_of_row w7 q 3 _ _ _ S7.out.t
    have ft3 := frozen_of_row w7 q 3 _ _ S7.out.t
    have t4 := cell_of_row w7 q 4 _ _ _ S7.out.t
    have ft4 := frozen_of_row w7 q 4 _ _ S7.out.t
    have t5 := cell_of_row w7 q 5 _ _ _ S7.out.t
    have ft5 := frozen_of_row w7 q 5 _ _ S7.out.t
    have hu3 : U2s L3 := by
      have key : ∀ m, Mem m L3 → isU64 m := fun m hm => by
        obtain ⟨i, _, h1, rfl, -⟩ := (MEM3.out m).1 hm
        exact ⟨by omega, by omega⟩
      exact fun z hz => ⟨key _ (Mem_lo GD3.out hz).1, key _ (Mem_lo GD3.out hz).2⟩
    rcases Nat.eq_zero_or_pos L3.length with hL | hL
    · obtain rfl : L3 = [] := List.eq_nil_of_length_eq_zero hL
      have OFF := Lib.hid (QS.acked_off H.out.good H.out.few HW.out o0 GD3.out MEM3.out (fun h => absurd h (by simp)))
      have GA := Lib.hid (H.out.good.acked (off := off) (n := n) o0)
      clear hL hu3
      rw [HS.out] at OFF GA
      go_upto_region 7 with fail
      refine wp_region_qt (by kernel_rfl) (by kernel_rfl) ?_
      repeat (go_big_quiet_step (fail))
      refine wpQuiet_nil ?_
      intro w8 q8
      have S8 := Lib.hid (S7.out.below q8.below)
      clear t0 t1 t2 t3 t4 t5 ft0 ft1 ft2 ft3 ft4 ft5
      go_wp2_with fail
      go_ret
      exact ⟨rfl, ⟨GA.out.1, H.out.few, _, _, _, _, _, _, _, S8.out.done rfl OFF.out.1 rfl rfl rfl OFF.out.2⟩, S8.out.ch⟩
    · obtain ⟨b7, o7, x, y, rfl, He, k0, k1, u1, u2, u3, u4⟩ := S7.out.r1.sp hu3 hL
      simp only [Nat.zero_mul, Nat.add_zero] at k0 k1
      have hLb : decide ((L3.length : Int) > 0) = true := decide_eq_true (by omega)
      have hLb' : decide (0 < (L3.length : Int)) = true := decide_eq_true (by omega)
      have hi0' : (0 : Int) < (L3.length : Int) := by omega
      have GA := Lib.hid (H.out.good.acked (off := off) (n := n) o0)
      rw [HS.out] at GA
      by_cases hx : x = s.base
      · have hxb : decide (x = (s.base : Int)) = true := decide_eq_true hx
        have hxb' : (x == (s.base : Int)) = true := by simpa using hx
        have ON := Lib.hid (QS.acked_on H.out.good H.out.few HW.out o0 GD3.out MEM3.out hL (by rw [He.out]; exact hx))
        rw [HS.out, He.out] at ON
        have HL := Lib.hid hL
        obtain ⟨on1, on2, on3, on4⟩ := ON.out
        have ON2 := Lib.hid on2
        have hbl := HB.out
        clear ON on2 hu3
        simp only at on1 on3 on4
        generalize hnb : QS.base { room := s.room, b := s.b, ak := paint true off.toNat (off + n).toNat s.ak, ow := paint false off.toNat (off + n).toNat s.ow, fresh := s.fresh } = nb at on1
        have HNB := Lib.hid hnb
        clear hnb
        obtain ⟨k, hk⟩ : ∃ k : Nat, (k : Int) = y + 1 - s.base := ⟨(y + 1 - s.base).toNat, by omega⟩
        have hkl : k ≤ s.b.length - s.base := by omega
        have hkn : s.b.length - s.base - k = s.b.length - nb := by omega
        have hkb : s.base + k = nb := by omega
        obtain ⟨iB, hiB, bz0, bz1, bz2⟩ := info_parts infoByte
        obtain ⟨i0, hi0, hz0, hz1, hz2⟩ := info_parts infoSpan
        obtain ⟨AB, hrunB, hcutB⟩ := cut_run (P := Try.prog) (t := 38) Try.underlying38 hiB bz1 A (s.b.length - s.base) c k hkl
        obtain ⟨AS, hrunS, hcutS, hAS⟩ := cut_run2 (P := Try.prog) (t := 32) Try.underlying32 hi0 hz1 (some ⟨b7, o7, none⟩) L3.length c7 1 (by omega) (fun a e => by cases e; rfl)
        rw [hkn, hk] at hrunB
        have HCB : Hid (∀ w, Rd w 1 A (s.b.length - s.base) c (U8 (s.b.drop s.base)) → Rd w 1 AB (s.b.length - nb) (c - k) (U8 (s.b.drop nb))) := fun w h => by
          have := hcutB w _ h
          rw [hkn, Nat.mul_one] at this
          have e : (U8 (List.drop s.base s.b)).drop k = U8 (s.b.drop nb) := by rw [← hkb, U8, U8, ← List.map_drop, List.drop_drop]
          rwa [e] at this
        have HCS := Lib.hid hcutS
        have HAS := Lib.hid hAS
        have HNB1 := Lib.hid on1
        have u5 : y + 1 < 18446744073709551616 := by omega
        have u6 : 0 ≤ y + 1 := by omega
        have u7 : 0 ≤ y + 1 - (s.base : Int) := by omega
        have hwB : IntKind.u64.wrap (y + 1 - (s.base : Int)) = y + 1 - (s.base : Int) := IntWalk.u64_in _ (by omega)
        have u8 : y + 1 - (s.base : Int) < 18446744073709551616 := by omega
        clear hcutB hcutS hAS hkn hkb on1
        go_upto_region 7 with fail
        refine wp_region_qt (by kernel_rfl) (by kernel_rfl) ?_
        repeat (go_big_quiet_step (fail))
        refine wpQuiet_nil ?_
        intro w8 q8
        have S8 := Lib.hid (S7.out.below q8.below)
        clear t0 t1 t2 t3 t4 t5 ft0 ft1 ft2 ft3 ft4 ft5
        have k0' := q8.cell k0
        have k1' := q8.cell k1
        clear k0 k1 q8
        have t0 := cell_of_row w8 q 0 _ _ _ S8.out.t
        have ft0 := frozen_of_row w8 q 0 _ _ S8.out.t
        have t1 := cell_of_row w8 q 1 _ _ _ S8.out.t
        have ft1 := frozen_of_row w8 q 1 _ _ S8.out.t
        have t2 := cell_of_row w8 q 2 _ _ _ S8.out.t
        have ft2 := frozen_of_row w8 q 2 _ _ S8.out.t
        have t3 := cell_of_row w8 q 3 _ _ _ S8.out.t
        have ft3 := frozen_of_row w8 q 3 _ _ S8.out.t
        have t4 := cell_of_row w8 q 4 _ _ _ S8.out.t
        have ft4 := frozen_of_row w8 q 4 _ _ S8.out.t
        have t5 := cell_of_row w8 q 5 _ _ _ S8.out.t
        have ft5 := frozen_of_row w8 q 5 _ _ S8.out.t
        go_upto_region 9 with fail
        go_cut [8] (fun s8 wx => ∃ (A' : Option Addr) (c' : Nat), s8 = .int .u64 (y + 1) ∧ Hid (AckSt9 w F q s nb A' c' L3 (some ⟨b7, o7, none⟩) c7 (rowB (paint false off.toNat (off + n).toNat s.ow)) A5 c5 wx))
        case first =>
          go_region_law
            ((refine step_append_rd _ (by rfl) (.const (.slice none 0 0)) (.tmp 102) 38 (by rfl) 0 5 iB _ 1 1 Try.underlying38 hiB bz0 bz1 bz2 rfl (by decide) (.slice none 0 0) 0 [] (by rfl) (World.ownsRow_nil _ _ _ _)
                  AB (s.b.length - nb) (c - k) (U8 (s.b.drop nb)) (by rfl) (HCB.out _ (Rd.of_own (S8.out.below (Below.refl _ _).drew).o)) (U8_one _) (by unfold maxLen; omega) (by omega) (Nat.zero_le _) ?_; intro v5 w5 ho5 hg5 hv5
              rw [Nat.zero_add, List.nil_append] at ho5
              obtain ⟨A9, c9, ev9, hA9⟩ := own_slice ho5
              subst ev9
              have HV9 := Lib.hid hv5
              have HO9 := Lib.hid ho5
              have B9 : Hid (Below w8.heap.size w8 w5) := ((Below.refl _ _).drew).grown hg5 (Nat.le_refl _) (fun g hg => by simp [Value.ownBlock] at hg)
              have S9 := Lib.hid (S8.out.below B9.out)
              clear ho5 hg5 hv5 hA9
              have y5 := cell_of_row w5 q 3 _ _ _ S9.out.t
              have fy5 := frozen_of_row w5 q 3 _ _ S9.out.t))
          all_goals (go_wp2_with fail; go_meet; exact ⟨_, _, rfl, Lib.hid (S8.out.set3 B9.out HO9.out (fun g hg => by rcases HV9.out with e | e <;> rw [hg] at e <;> simp [Value.ownBlock] at e; omega))⟩)
        case rest =>
        obtain ⟨A9, c9, rfl, S9⟩ := hcut
        clear S8 t0 t1 t2 t3 t4 t5 ft0 ft1 ft2 ft3 ft4 ft5 k0' k1'
        generalize wc = w9 at *
        have t0 := cell_of_row w9 q 0 _ _ _ S9.out.t
        have ft0 := frozen_of_row w9 q 0 _ _ S9.out.t
        have t1 := cell_of_row w9 q 1 _ _ _ S9.out.t
        have ft1 := frozen_of_row w9 q 1 _ _ S9.out.t
        have t2 := cell_of_row w9 q 2 _ _ _ S9.out.t
        have ft2 := frozen_of_row w9 q 2 _ _ S9.out.t
        have t3 := cell_of_row w9 q 3 _ _ _ S9.out.t
        have ft3 := frozen_of_row w9 q 3 _ _ S9.out.t
        have t4 := cell_of_row w9 q 4 _ _ _ S9.out.t
        have ft4 := frozen_of_row w9 q 4 _ _ S9.out.t
        have t5 := cell_of_row w9 q 5 _ _ _ S9.out.t
        have ft5 := frozen_of_row w9 q 5 _ _ S9.out.t
        have hrunS' : ∀ (kl : IntKind) (w : World), (Instr.slice 32 (.slice (some ⟨b7, o7, none⟩) L3.length c7) (some (.int kl 1)) none none).run Try.prog w = .ok (.slice AS (L3.length - 1) (c7 - 1)) w := by simpa using hrunS
        clear hrunS
        go_upto_region 10 with fail
        go_region
        all_goals (go_wp2_with fail; go_ret)
        all_goals rw [← HNB1.out]
        all_goals refine ⟨rfl, ?_⟩
        all_goals first
          | exact S9.out.fin GA.out.1 H.out.few (.inl rfl) HCS.out HAS.out rfl HNB.out rfl rfl rfl ON2.out
          | exact S9.out.fin GA.out.1 H.out.few (.inr rfl) HCS.out HAS.out rfl HNB.out rfl rfl rfl ON2.out
      · have hxb : decide (x = (s.base : Int)) = false := decide_eq_false hx
        have hxb' : (x == (s.base : Int)) = false := by simpa using hx
        have OFF := Lib.hid (QS.acked_off H.out.good H.out.few HW.out o0 GD3.out MEM3.out (fun h => by rw [He.out]; exact hx))
        rw [HS.out] at OFF
        have HL := Lib.hid hL
        clear hu3 hx
        go_upto_region 7 with fail
        refine wp_region_qt (by kernel_rfl) (by kernel_rfl) ?_
        repeat (go_big_quiet_step (fail))
        refine wpQuiet_nil ?_
        intro w8 q8
        have S8 := Lib.hid (S7.out.below q8.below)
        clear t0 t1 t2 t3 t4 t5 ft0 ft1 ft2 ft3 ft4 ft5
        go_wp2_with fail
        go_ret
        exact ⟨rfl, ⟨GA.out.1, H.out.few, _, _, _, _, _, _, _, S8.out.done rfl OFF.out.1 rfl rfl rfl OFF.out.2⟩, S8.out.ch⟩
  · have HA := Lib.hid (decide_eq_false hw)
    have HS := Lib.hid (show s.acked off n = (s, false) from if_neg hw)
    obtain ⟨A, c, La, A1, c1, A2, c2, hC⟩ := H.out.ex
    have HC := Lib.hid hC
    clear hC hw
    rw [HS.out]
    have t0 := cell_of_row w q 0 _ _ _ HC.out.t
    have t1 := cell_of_row w q 1 _ _ _ HC.out.t
    have t2 := cell_of_row w q 2 _ _ _ HC.out.t
    have t3 := cell_of_row w q 3 _ _ _ HC.out.t
    have t4 := cell_of_row w q 4 _ _ _ HC.out.t
    have t5 := cell_of_row w q 5 _ _ _ HC.out.t
    go_enter Try.func19, Try.ntmps19
    go_wp2_with fail
    refine (ahead_any off n s.fresh _ U1.out U2.out (by omega)).mono ?_
    rw [HA.out]
    rintro e v2 ⟨rfl, rfl⟩
    go_wp2_with fail
    go_ret
    exact ⟨rfl, H.out.sub (fun k _ h => .inl h), Chg.refl _ _⟩

end Go.Proofs.Ytilgekmpkoohaaa
