/-
  Part of the proof of EngineRanges.
-/
import Derived.Test.YtpkbimmhimgamaaPAL
import Derived.Test.YtpkbimmhimgamaaPAM
import Derived.Test.YtpkbimmhimgamaaPAP
import Derived.Test.YtpkbimmhimgamaaPAQ
import Derived.Test.YtpkbimmhimgamaaPAR
import Derived.Test.YtpkbimmhimgamaaPAE
import Derived.Test.YtpkbimmhimgamaaPAB
import Derived.Deep.RegionHeld3
namespace Go.Proofs.Ytpkbimmhimgamaa
set_option linter.unusedSimpArgs false
set_option linter.unusedVariables false
set_option linter.unnecessarySimpa false
open Go.RowKit
/-- Where an engine lies: its words' source, its queue, its ledger, its guard; of each block what it belongs to (1 the engine, 2 the source, 3 the queue, 4 the ledger, 5 the guard, 6 what is only read). -/
structure Ft where
  sb : Nat
  q : Nat
  p : Nat
  g : Nat
  A : Option Addr
  c : Nat
  tag : Nat → Nat
def Ft.mut (f : Ft) (k : Nat) : Prop := 1 ≤ f.tag k ∧ f.tag k ≤ 5
structure ES.Good (s : ES) : Prop where
  c : s.c.Ok
  now : isU64 s.now
  st : 1 ≤ s.st ∧ s.st ≤ 4
  ws : ∀ x ∈ s.ws, isU64 x
  wl : s.ws.length ≤ 17592186044000
  k : s.k < 1000000000
  r : s.r.Good
  pc : 0 ≤ s.pc ∧ s.pc ≤ 60
  pf : isU64 s.pf
  w : s.w.Good
  re : isU64 s.re
  rc : isU64 s.rc
  tk : isU64 s.tk
  ta : isU64 s.ta
  tr : isU64 s.tr
  tm : isU64 s.tm
  lg : isU64 s.lg
  told : 0 ≤ s.told ∧ s.told ≤ 1000000000
  owed : 0 ≤ s.owed ∧ s.owed ≤ 1000000000
  lim : s.l.limit = s.c.lim
  ring : (s.l.ring : Int) = s.c.ring
def engRow (f : Ft) (s : ES) : Array Value := #[.int .i64 s.c.bits, .int .u64 s.c.one, .int .i64 s.c.ring, .int .u64 s.c.lim, .int .i64 s.c.room, .int .u64 s.c.mss, .int .u64 s.c.ini, .int .u64 s.c.lea, .int .u64 s.c.mo, .int .i64 s.c.algo, .int .u64 s.c.fst, .int .u64 s.c.gr, .int .u64 s.c.cap, .int .u64 s.c.bur, .int .u64 s.c.slo, .int .i64 s.c.chal, .int .u64 s.c.evy, .int .u64 s.now, .int .i64 s.st, .pointer (some ⟨f.sb, 0, none⟩), .pointer (some ⟨f.q, 0, none⟩), .pointer (some ⟨f.p, 0, none⟩), .pointer (some ⟨f.g, 0, none⟩), .bool s.r.has, .int .u64 s.r.lt, .int .u64 s.r.sm, .int .u64 s.r.vr, .int .u64 s.r.ls, .int .i64 s.pc, .int .u64 s.pf, .int .u64 s.w.cw, .int .u64 s.w.th, .int .u64 s.w.ac, .int .u64 s.w.pk, .int .u64 s.w.ep, .int .u64 s.w.kk, .int .u64 s.w.fr, .int .u64 s.re, .int .u64 s.rc, .int .u64 s.tk, .int .u64 s.ta, .int .u64 s.tr, .int .u64 s.tm, .int .u64 s.lg, .int .u64 s.told, .int .u64 s.owed, .bool s.pb]
structure EngC (W : World) (f : Ft) (b : Nat) (s : ES) : Prop where
  t : W.heap[b]? = some (.cells (engRow f s) 62 (0, 0))
  tb : f.tag b = 1
  src : SrcC W f.sb f.A f.c s.ws s.k
  ts : f.tag f.sb = 2
  tA : ∀ g off, f.A = some ⟨g, off, none⟩ → 0 < s.ws.length → f.tag g = 6
  q : QueP W (fun k => f.tag k = 3) f.q s.q
  l : LedP W (fun k => f.tag k = 4) f.p s.l
  g : GuaP W (fun k => f.tag k = 5) (fun k => f.tag k = 6) f.g s.g
  lt : ∀ k, f.tag k ≠ 0 → k < W.heap.size
  good : s.Good
theorem EngC.c {W : World} {f : Ft} {b : Nat} {s : ES} (h : EngC W f b s) (i : Nat) {v : Value} (hv : (engRow f s)[i]? = some v) : W.cell? ⟨b, i, none⟩ = some v := (cell_of_row W b i _ _ _ h.t).trans hv
theorem EngC.fz {W : World} {f : Ft} {b : Nat} {s : ES} (h : EngC W f b s) (i : Nat) : W.frozen? ⟨b, i, none⟩ = false := frozen_of_row W b i _ _ h.t
theorem SrcC.chg {w w' : World} {g c k : Nat} {A : Option Addr} {ws : List Int} {G : Nat → Prop} (h : SrcC w g A c ws k) (hc : Chg G w w') (h1 : ¬ G g) (h2 : ∀ b off, A = some ⟨b, off, none⟩ → 0 < ws.length → ¬ G b) : SrcC w' g A c ws k :=
  ⟨hc.blk h.t h1, h.r.chg hc h2, h.a⟩
/-- Blocks of others turn. -/
theorem EngC.chg {W W' : World} {f : Ft} {b : Nat} {s : ES} {G : Nat → Prop} (h : EngC W f b s) (hc : Chg G W W') (hG : ∀ k, k < W.heap.size → f.tag k ≠ 0 → ¬ G k) : EngC W' f b s := by
  have hn : ∀ k, f.tag k ≠ 0 → ¬ G k := fun k hk => hG k (h.lt k hk) hk
  refine ⟨hc.blk h.t (hn b (by have := h.tb; omega)), h.tb, h.src.chg hc (hn _ (by have := h.ts; omega)) (fun g off e h0 => hn g (by have := h.tA g off e h0; omega)), h.ts, h.tA, h.q.chg hc (fun k _ hk => hn k (by omega)) (fun _ _ h => h), h.l.chg hc (fun k _ hk => hn k (by omega)) (fun _ _ h => h),
    h.g.chg hc (fun k _ hk => hn k (by omega)) (fun _ _ h => h) (fun _ _ h => h) (fun k h6 h5 => by omega), fun k hk => Nat.lt_of_lt_of_le (h.lt k hk) hc.size, h.good⟩
theorem EngC.below {W W' : World} {f : Ft} {b : Nat} {s : ES} (h : EngC W f b s) (q : Below W.heap.size W W') : EngC W' f b s :=
  h.chg (chg_below q (F := fun _ => False)) (fun _ _ _ h => h)
theorem EngC.qt {W W' : World} {f : Ft} {b : Nat} {s : ES} (h : EngC W f b s) (q : Qt W W') : EngC W' f b s := h.below q.below
theorem EngC.mix {W : World} {f : Ft} {b : Nat} {s : ES} (h : EngC W f b s) (u : World) : EngC (Go.Proofs.Ytpkbimmhimgamaa.mix W u) f b s := h.below (mix_below W u)
/-- One of the engine's own cells is stored. -/
theorem EngC.row {W : World} {f : Ft} {b : Nat} {s s' : ES} (h : EngC W f b s) {W' : World} (hc : Chg (fun j => j = b) W W') (ht : W'.heap[b]? = some (.cells (engRow f s') 62 (0, 0))) (h1 : s'.ws = s.ws) (h2 : s'.k = s.k) (h3 : s'.q = s.q) (h4 : s'.l = s.l) (h5 : s'.g = s.g) (hg : s'.Good) : EngC W' f b s' := by
  have hb := h.tb
  have e : ∀ k, f.tag k ≠ 1 → k ≠ b := fun k hk e => by subst e; exact hk hb
  refine ⟨ht, hb, ?_, h.ts, by rw [h1]; exact h.tA, ?_, ?_, ?_, fun k hk => Nat.lt_of_lt_of_le (h.lt k hk) hc.size, hg⟩
  · rw [h1, h2]
    exact h.src.chg hc (e _ (by have := h.ts; omega)) (fun g off e' h0 => e g (by have := h.tA g off e' h0; omega))
  · rw [h3]
    exact h.q.chg hc (fun k _ hk => e k (by omega)) (fun _ _ h => h)
  · rw [h4]
    exact h.l.chg hc (fun k _ hk => e k (by omega)) (fun _ _ h => h)
  · rw [h5]
    exact h.g.chg hc (fun k _ hk => e k (by omega)) (fun _ _ h => h) (fun _ _ h => h) (fun k h6 h5 => by omega)
theorem EngC.set {W : World} {f : Ft} {b : Nat} {s : ES} (h : EngC W f b s) (s' : ES) (i : Nat) (v : Value) (hr : engRow f s' = (engRow f s).setIfInBounds i v) (h1 : s'.ws = s.ws) (h2 : s'.k = s.k) (h3 : s'.q = s.q) (h4 : s'.l = s.l) (h5 : s'.g = s.g) (hg : s'.Good) : EngC (W.setCell ⟨b, i, none⟩ v) f b s' := by
  refine h.row ((Chg.refl (fun j => j = b) W).setCell (p := ⟨b, i, none⟩) (.inl rfl) v) ?_ h1 h2 h3 h4 h5 hg
  rw [hr]
  exact heap_setCell_same W b i _ _ v h.t
/-- An engine on its way: from the world w, where it lay by f, to W, where it stands at s. -/
def EngTo (w : World) (f : Ft) (b : Nat) (W : World) (s : ES) : Prop := ∃ f', EngC W f' b s ∧ (∀ k, k < w.heap.size → f'.tag k = f.tag k) ∧ Chg f.mut w W
theorem EngTo.refl {w : World} {f : Ft} {b : Nat} {s : ES} (h : EngC w f b s) : EngTo w f b w s := ⟨f, h, fun _ _ => rfl, Chg.refl _ _⟩
theorem mut_of {w W : World} {f f' : Ft} (hl : ∀ k, f'.tag k ≠ 0 → k < W.heap.size) (ht : ∀ k, k < w.heap.size → f'.tag k = f.tag k) {k : Nat} (hk : f'.mut k) : f.mut k ∨ w.heap.size ≤ k := by
  rcases Nat.lt_or_ge k w.heap.size with h | h
  · have := ht k h
    unfold Ft.mut at *
    rw [this] at hk
    exact .inl hk
  · exact .inr h
theorem EngTo.trans {w W W2 : World} {f f' : Ft} {b : Nat} {s : ES} (hl : ∀ k, f'.tag k ≠ 0 → k < W.heap.size) (ht : ∀ k, k < w.heap.size → f'.tag k = f.tag k) (hc : Chg f.mut w W) (h : EngTo W f' b W2 s) : EngTo w f b W2 s := by
  obtain ⟨f2, c2, t2, g2⟩ := h
  exact ⟨f2, c2, fun k hk => (t2 k (Nat.lt_of_lt_of_le hk hc.size)).trans (ht k hk), hc.trans (g2.mono fun k _ hk => mut_of hl ht hk)⟩
theorem EngTo.below {w W W' : World} {f : Ft} {b : Nat} {s : ES} (h : EngTo w f b W s) (q : Below W.heap.size W W') : EngTo w f b W' s := by
  obtain ⟨f', c, t, g⟩ := h
  exact ⟨f', c.below q, t, g.thenBelow q g.size⟩
/-- The engine's own step from W on. -/
theorem EngTo.step {w W W' : World} {f f' : Ft} {b : Nat} {s s' : ES} (h : EngC W f' b s) (ht : ∀ k, k < w.heap.size → f'.tag k = f.tag k) (hc : Chg f.mut w W) (h2 : EngTo W f' b W' s') : EngTo w f b W' s' := h2.trans h.lt ht hc
theorem EngTo.row {W W' : World} {f : Ft} {b : Nat} {s s' : ES} (h : EngC W f b s) (hc : Chg (fun j => j = b) W W') (h2 : EngC W' f b s') : EngTo W f b W' s' :=
  ⟨f, h2, fun _ _ => rfl, hc.mono fun k _ e => (by subst e; exact ⟨by rw [h.tb]; omega, by rw [h.tb]; omega⟩)⟩
def retag (f : Ft) (w w' : World) (n : Nat) : Ft := { f with tag := fun k => if k < w.heap.size then f.tag k else if k < w'.heap.size then n else 0 }
/-- The ledger steps. -/
theorem EngC.led {W W' : World} {f : Ft} {b : Nat} {s : ES} (h : EngC W f b s) {l' : LS} (hl : LedP W' (Grow (fun k => f.tag k = 4) W) f.p l') (hc : Chg (fun k => f.tag k = 4) W W') (h1 : l'.limit = s.l.limit) (h2 : l'.ring = s.l.ring) : EngTo W f b W' { s with l := l' } := by
  have hz := hc.size
  have old : ∀ {n k : Nat}, f.tag k = n → n ≠ 0 → (retag f W W' 4).tag k = n := fun {n k} hk hn => by
    have := h.lt k (by omega)
    simp [retag, this, hk]
  refine ⟨retag f W W' 4, ⟨hc.blk h.t (by have := h.tb; omega), old h.tb (by omega), h.src.chg hc (by have := h.ts; omega) (fun g off e h0 => by have := h.tA g off e h0; omega), old h.ts (by omega), fun g off e h0 => old (h.tA g off e h0) (by omega), h.q.chg hc (fun k _ hk => by omega) (fun k _ hk => old hk (by omega)),
    hl.chg (Chg.refl (fun _ => False) W') (fun _ _ _ h => h) (fun k hk hg => ?_), h.g.chg hc (fun k _ hk => by omega) (fun k _ hk => old hk (by omega)) (fun k _ hk => old hk (by omega)) (fun k h6 h5 => by omega), fun k hk => ?_, ?_⟩, fun k hk => by simp [retag, hk], hc.mono fun k _ hk => ⟨by omega, by omega⟩⟩
  · rcases hg with hg | hg
    · exact old hg (by omega)
    · simp [retag, Nat.not_lt.2 hg, hk]
  · simp only [retag] at hk
    split at hk
    · omega
    · split at hk
      · assumption
      · exact absurd rfl hk
  · obtain ⟨g1, g2, g3, g4, g5, g6, g7, g8, g9, g10, g11, g12, g13, g14, g15, g16, g17, g18, g19, g20, g21⟩ := h.good
    exact ⟨g1, g2, g3, g4, g5, g6, g7, g8, g9, g10, g11, g12, g13, g14, g15, g16, g17, g18, g19, h1.trans g20, by show (l'.ring : Int) = _; rw [h2]; exact g21⟩
/-- The queue steps. -/
theorem EngC.que {W W' : World} {f : Ft} {b : Nat} {s : ES} (h : EngC W f b s) {q' : QS} (hl : QueP W' (Grow (fun k => f.tag k = 3) W) f.q q') (hc : Chg (fun k => f.tag k = 3) W W') : EngTo W f b W' { s with q := q' } := by
  have hz := hc.size
  have old : ∀ {n k : Nat}, f.tag k = n → n ≠ 0 → (retag f W W' 3).tag k = n := fun {n k} hk hn => by
    have := h.lt k (by omega)
    simp [retag, this, hk]
  refine ⟨retag f W W' 3, ⟨hc.blk h.t (by have := h.tb; omega), old h.tb (by omega), h.src.chg hc (by have := h.ts; omega) (fun g off e h0 => by have := h.tA g off e h0; omega), old h.ts (by omega), fun g off e h0 => old (h.tA g off e h0) (by omega),
    hl.chg (Chg.refl (fun _ => False) W') (fun _ _ _ h => h) (fun k hk hg => ?_), h.l.chg hc (fun k _ hk => by omega) (fun k _ hk => old hk (by omega)), h.g.chg hc (fun k _ hk => by omega) (fun k _ hk => old hk (by omega)) (fun k _ hk => old hk (by omega)) (fun k h6 h5 => by omega), fun k hk => ?_, ?_⟩, fun k hk => by simp [retag, hk], hc.mono fun k _ hk => ⟨by omega, by omega⟩⟩
  · rcases hg with hg | hg
    · exact old hg (by omega)
    · simp [retag, Nat.not_lt.2 hg, hk]
  · simp only [retag] at hk
    split at hk
    · omega
    · split at hk
      · assumption
      · exact absurd rfl hk
  · obtain ⟨g1, g2, g3, g4, g5, g6, g7, g8, g9, g10, g11, g12, g13, g14, g15, g16, g17, g18, g19, g20, g21⟩ := h.good
    exact ⟨g1, g2, g3, g4, g5, g6, g7, g8, g9, g10, g11, g12, g13, g14, g15, g16, g17, g18, g19, g20, g21⟩
/-- The source steps. -/
theorem EngC.srcS {W W' : World} {f : Ft} {b : Nat} {s : ES} (h : EngC W f b s) (q : Qt (W.setCell ⟨f.sb, 1, none⟩ (.int .i64 ((s.k + 1 : Nat) : Int))) W') (hk : s.k + 1 < 1000000000) : EngTo W f b W' { s with k := s.k + 1 } := by
  have hs := h.ts
  have c0 := (Chg.refl (fun j => j = f.sb) W).setCell (p := ⟨f.sb, 1, none⟩) (.inl rfl) (.int .i64 ((s.k + 1 : Nat) : Int))
  have hc : Chg (fun j => j = f.sb) W W' := c0.thenBelow q.below c0.size
  have e : ∀ k, f.tag k ≠ 2 → k ≠ f.sb := fun k hk e => by subst e; exact hk hs
  refine ⟨f, ⟨hc.blk h.t (e b (by have := h.tb; omega)), h.tb, ⟨?_, h.src.r.chg hc (fun g off e' h0 => h.src.a g off e' h0), h.src.a⟩, hs, h.tA, h.q.chg hc (fun k _ hk => e k (by omega)) (fun _ _ h => h), h.l.chg hc (fun k _ hk => e k (by omega)) (fun _ _ h => h), h.g.chg hc (fun k _ hk => e k (by omega)) (fun _ _ h => h) (fun _ _ h => h) (fun k h6 h5 => by omega), fun k hk => Nat.lt_of_lt_of_le (h.lt k hk) hc.size, ?_⟩, fun _ _ => rfl, hc.mono fun k _ e => (by subst e; exact ⟨by omega, by omega⟩)⟩
  · have h1 := heap_setCell_same W f.sb 1 _ _ (.int .i64 ((s.k + 1 : Nat) : Int)) h.src.t
    have h2 := q.below.block _ (lt_of_block h1)
    rw [h1] at h2
    simpa using h2
  · obtain ⟨g1, g2, g3, g4, g5, g6, g7, g8, g9, g10, g11, g12, g13, g14, g15, g16, g17, g18, g19, g20, g21⟩ := h.good
    exact ⟨g1, g2, g3, g4, g5, hk, g7, g8, g9, g10, g11, g12, g13, g14, g15, g16, g17, g18, g19, g20, g21⟩
end Go.Proofs.Ytpkbimmhimgamaa
namespace Go.Proofs.Ytpkbimmhimgamaa
set_option linter.unusedSimpArgs false
set_option linter.unusedVariables false
set_option linter.unnecessarySimpa false
open Go.RowKit
theorem ES.Good.sm {s : ES} (g : s.Good) : isU64 s.smooth := by
  have h := g.c.u
  unfold ES.smooth
  split
  · exact g.r.sm
  · exact h.2.2.2.2.2.2.1
theorem eng_smooth (w : World) (f : Ft) (b : Nat) (s : ES) (h : EngC w f b s) :
    Calls Try.prog 23 #[.pointer (some ⟨b, 0, none⟩)] w fun e w' => e = .returned (.int .u64 s.smooth) ∧ Qt w w' := by
  have e23 : w.cell? ⟨b, 23, none⟩ = some (.bool s.r.has) := h.c 23 rfl
  have e25 : w.cell? ⟨b, 25, none⟩ = some (.int .u64 s.r.sm) := h.c 25 rfl
  have e10 : w.cell? ⟨b, 10, none⟩ = some (.int .u64 s.c.fst) := h.c 10 rfl
  have HS : Hid (s.smooth = if s.r.has then s.r.sm else s.c.fst) := Lib.hid rfl
  clear h
  generalize s.smooth = x at *
  generalize s.r.has = hs at *
  cases hs
  · go_enter Try.func23, Try.ntmps23
    go_wp2
    go_ret
    exact ⟨by rw [HS.out]; rfl, Qt.refl _⟩
  · go_enter Try.func23, Try.ntmps23
    go_wp2
    go_ret
    exact ⟨by rw [HS.out]; rfl, Qt.refl _⟩
theorem eng_over (w : World) (f : Ft) (b : Nat) (s : ES) (h : EngC w f b s) :
    Calls Try.prog 29 #[.pointer (some ⟨b, 0, none⟩)] w fun e w' => e = .returned (.bool (decide s.over)) ∧ Qt w w' := by
  have e18 : w.cell? ⟨b, 18, none⟩ = some (.int .i64 s.st) := h.c 18 rfl
  clear h
  unfold ES.over
  by_cases h3 : s.st = 3
  · have d1 : (s.st == 3) = true := by simp [h3]
    have HD : Hid (decide (s.st = 3 ∨ s.st = 4) = true) := Lib.hid (by simp [h3])
    clear h3
    go_enter Try.func29, Try.ntmps29
    go_wp2
    go_ret
    exact ⟨congrArg (fun x => Ending.returned (.bool x)) HD.out.symm, Qt.refl _⟩
  · have d1 : (s.st == 3) = false := by simp [h3]
    have HD : Hid (decide (s.st = 3 ∨ s.st = 4) = (s.st == 4)) := Lib.hid (by simp [h3]; rfl)
    clear h3
    go_enter Try.func29, Try.ntmps29
    go_wp2
    go_ret
    exact ⟨congrArg (fun x => Ending.returned (.bool x)) HD.out.symm, Qt.refl _⟩
set_option maxHeartbeats 1000000 in
theorem eng_rate (w : World) (f : Ft) (b : Nat) (s : ES) (h : EngC w f b s) :
    Calls Try.prog 16 #[.pointer (some ⟨b, 0, none⟩)] w fun e w' => e = .returned (.int .u64 s.rate) ∧ Below w.heap.size w w' := by
  have m30 : ∀ u, (Go.Proofs.Ytpkbimmhimgamaa.mix w u).cell? ⟨b, 30, none⟩ = some (.int .u64 s.w.cw) := mixc (h.c 30 rfl)
  have m14 : ∀ u, (Go.Proofs.Ytpkbimmhimgamaa.mix w u).cell? ⟨b, 14, none⟩ = some (.int .u64 s.c.slo) := mixc (h.c 14 rfl)
  have K1 := Lib.hid (fun u => eng_smooth _ f b s (h.mix u))
  have K2 := Lib.hid (fun w => pc_rate s.w.cw s.smooth s.c.slo w h.good.w.cw h.good.sm)
  have HR : Hid (s.rate = rateS s.w.cw s.smooth s.c.slo) := Lib.hid rfl
  rw [← HR.out] at K2
  clear HR h
  generalize s.rate = y at *
  generalize s.smooth = x at *
  go_enter Try.func16, Try.ntmps16
  go_wp2
  refine wp_region_below (by kernel_rfl) (by kernel_rfl) ?_
  repeat (first | go_big_quiet_step ((first | (go_at_call 23; with_reducible exact Calls.mix_qt (K1.out _)) | (go_at_call 36; with_reducible first | exact Calls.mix_qt (K2.out _) | exact Calls.mix_of (K2.out _)))) | quiet_step ((first | (go_at_call 23; with_reducible exact Calls.mix_qt (K1.out _)) | (go_at_call 36; with_reducible first | exact Calls.mix_qt (K2.out _) | exact Calls.mix_of (K2.out _)))))
  refine wpQuiet_nil ?_
  intro w1 q
  go_wp2
  go_ret
  exact ⟨rfl, q⟩
theorem que_baseQ (w : World) (F : Nat → Prop) (q : Nat) (s : QS) (h : QueP w F q s) :
    Calls Try.prog 27 #[.pointer (some ⟨q, 0, none⟩)] w fun e w' => e = .returned (.int .u64 s.base) ∧ Qt w w' :=
  (que_base w F q s h).mono fun e w' he => ⟨he.1, he.2 ▸ Qt.refl _⟩
set_option maxHeartbeats 1000000 in
theorem eng_deadline (w : World) (f : Ft) (b : Nat) (s : ES) (h : EngC w f b s) :
    Calls Try.prog 31 #[.pointer (some ⟨b, 0, none⟩)] w fun e w' => e = .returned (.int .u64 s.dead) ∧ Below w.heap.size w w' := by
  have u := h.good.c.u
  have m28 : ∀ u, (Go.Proofs.Ytpkbimmhimgamaa.mix w u).cell? ⟨b, 28, none⟩ = some (.int .i64 s.pc) := mixc (h.c 28 rfl)
  have m29 : ∀ u, (Go.Proofs.Ytpkbimmhimgamaa.mix w u).cell? ⟨b, 29, none⟩ = some (.int .u64 s.pf) := mixc (h.c 29 rfl)
  have m21 : ∀ u, (Go.Proofs.Ytpkbimmhimgamaa.mix w u).cell? ⟨b, 21, none⟩ = some (.pointer (some ⟨f.p, 0, none⟩)) := mixc (h.c 21 rfl)
  have m23 : ∀ u, (Go.Proofs.Ytpkbimmhimgamaa.mix w u).cell? ⟨b, 23, none⟩ = some (.bool s.r.has) := mixc (h.c 23 rfl)
  have m24 : ∀ u, (Go.Proofs.Ytpkbimmhimgamaa.mix w u).cell? ⟨b, 24, none⟩ = some (.int .u64 s.r.lt) := mixc (h.c 24 rfl)
  have m25 : ∀ u, (Go.Proofs.Ytpkbimmhimgamaa.mix w u).cell? ⟨b, 25, none⟩ = some (.int .u64 s.r.sm) := mixc (h.c 25 rfl)
  have m26 : ∀ u, (Go.Proofs.Ytpkbimmhimgamaa.mix w u).cell? ⟨b, 26, none⟩ = some (.int .u64 s.r.vr) := mixc (h.c 26 rfl)
  have m27 : ∀ u, (Go.Proofs.Ytpkbimmhimgamaa.mix w u).cell? ⟨b, 27, none⟩ = some (.int .u64 s.r.ls) := mixc (h.c 27 rfl)
  have m10 : ∀ u, (Go.Proofs.Ytpkbimmhimgamaa.mix w u).cell? ⟨b, 10, none⟩ = some (.int .u64 s.c.fst) := mixc (h.c 10 rfl)
  have m11 : ∀ u, (Go.Proofs.Ytpkbimmhimgamaa.mix w u).cell? ⟨b, 11, none⟩ = some (.int .u64 s.c.gr) := mixc (h.c 11 rfl)
  have m12 : ∀ u, (Go.Proofs.Ytpkbimmhimgamaa.mix w u).cell? ⟨b, 12, none⟩ = some (.int .u64 s.c.cap) := mixc (h.c 12 rfl)
  have ht : isU64 s.tmo := by
    have h1 := h.good.r.sm
    have h2 := mulS_u (a := 4) ⟨by omega, by omega⟩ h.good.r.vr
    have h3 := mulS_u (a := 2) ⟨by omega, by omega⟩ u.2.2.2.2.2.2.1
    unfold ES.tmo timeS
    split
    · exact u64_sadd h1 (max_u h2 u.2.2.2.2.2.2.2.1)
    · exact u64_sadd u.2.2.2.2.2.2.1 (max_u h3 u.2.2.2.2.2.2.2.1)
  have K1 := Lib.hid (fun v => led_flight _ _ f.p s.l (h.mix v).l)
  have K2 := Lib.hid (fun w => rtt_timeout s.r.has s.r.lt s.r.sm s.r.vr s.r.ls s.c.fst s.c.gr w h.good.r.sm h.good.r.vr u.2.2.2.2.2.2.1 u.2.2.2.2.2.2.2.1)
  have K3 := Lib.hid (fun w => pb_deadline s.pc s.pf s.tmo s.c.cap (decide (0 < s.l.flight)) w h.good.pf (by have := h.good.pc; omega) ht u.2.2.2.2.2.2.2.2.1)
  have HR : Hid (s.dead = deadS s.pc s.pf (decide (0 < s.l.flight)) s.tmo s.c.cap) := Lib.hid rfl
  have HT : Hid (s.tmo = timeS s.r.has s.r.sm s.r.vr s.c.fst s.c.gr) := Lib.hid rfl
  rw [← HR.out] at K3
  rw [← HT.out] at K2
  clear HR HT h ht u
  generalize s.dead = y at *
  generalize s.tmo = x at *
  generalize s.l.flight = z at *
  dsimp only [rtv, pbv] at K2 K3
  go_enter Try.func31, Try.ntmps31
  go_wp2
  refine wp_region_below (by kernel_rfl) (by kernel_rfl) ?_
  repeat (first | go_big_quiet_step ((first | (go_at_call 22; with_reducible first | exact Calls.mix_qt (K1.out _) | exact Calls.mix_of (K1.out _)) | (go_at_call 54; with_reducible first | exact Calls.mix_qt (K2.out _) | exact Calls.mix_of (K2.out _)) | (go_at_call 53; with_reducible first | exact Calls.mix_qt (K3.out _) | exact Calls.mix_of (K3.out _)))) | quiet_step ((first | (go_at_call 22; with_reducible first | exact Calls.mix_qt (K1.out _) | exact Calls.mix_of (K1.out _)) | (go_at_call 54; with_reducible first | exact Calls.mix_qt (K2.out _) | exact Calls.mix_of (K2.out _)) | (go_at_call 53; with_reducible first | exact Calls.mix_qt (K3.out _) | exact Calls.mix_of (K3.out _)))))
  refine wpQuiet_nil ?_
  intro w1 q
  go_wp2
  go_ret
  exact ⟨rfl, q⟩
end Go.Proofs.Ytpkbimmhimgamaa
namespace Go.Proofs.Ytpkbimmhimgamaa
set_option linter.unusedSimpArgs false
set_option linter.unusedVariables false
set_option linter.unnecessarySimpa false
open Go.RowKit
theorem min_u {x y : Int} (hx : isU64 x) (hy : isU64 y) : isU64 (min x y) := by
  unfold isU64 at *
  omega
theorem rate_u {s : ES} (g : s.Good) : isU64 s.rate := by
  have h := g.c.u
  have h1 := downS_u (a := s.w.cw) (b := 1250000) (d := max s.smooth 1) g.w.cw ⟨by omega, by omega⟩ (max_u g.sm ⟨by omega, by omega⟩)
  have h2 := h.2.2.2.2.2.2.2.2.2.2.1
  unfold ES.rate rateS
  unfold isU64 at *
  omega
theorem ES.Good.paced {s : ES} (g : s.Good) : s.paced.Good := by
  have h := g.c.u
  obtain ⟨g1, g2, g3, g4, g5, g6, g7, g8, g9, g10, g11, g12, g13, g14, g15, g16, g17, g18, g19, g20, g21⟩ := g
  exact ⟨g1, g2, g3, g4, g5, g6, g7, g8, g9, g10, g11, g12, fillT_u g13 g14 g15 h.2.2.2.2.2.2.2.2.2.1 g2, max_u g14 g2, min_u (rate_u ⟨g1, g2, g3, g4, g5, g6, g7, g8, g9, g10, g11, g12, g13, g14, g15, g16, g17, g18, g19, g20, g21⟩) ⟨by omega, by omega⟩, g16, g17, g18, g19, g20, g21⟩
theorem LedP.grow {w w' : World} {F : Nat → Prop} {p : Nat} {l : LS} (h : LedP w' F p l) : LedP w' (Grow F w) p l := h.chg (Chg.refl (fun _ => False) w') (fun _ _ _ h => h) (fun _ _ h => .inl h)
end Go.Proofs.Ytpkbimmhimgamaa
namespace Go.Proofs.Ytpkbimmhimgamaa
set_option linter.unusedSimpArgs false
set_option linter.unusedVariables false
set_option linter.unnecessarySimpa false
open Go.RowKit
namespace LS
def NoFly (s : LS) : Prop := ∀ x ∈ s.all, x.state ≠ 1
theorem ahead_all {l : List Snt} (h : ∀ x ∈ l, x.state ≠ 1) : ahead l = l.length := by
  induction l with
  | nil => rfl
  | cons x l ih =>
    simp only [ahead, if_neg (h x (by simp)), List.length_cons]
    rw [ih (fun y hy => h y (List.mem_cons_of_mem _ hy))]
theorem NoFly.least {s : LS} (h : s.NoFly) : s.least = s.all.length := by
  have e : ahead s.kept = s.kept.length := ahead_all (fun x hx => h x (List.mem_of_mem_drop hx))
  have := s.kept_len
  have := s.low_le
  simp only [LS.least, e, low] at *
  omega
theorem NoFly.room {s : LS} (h : s.NoFly) : s.room = s.ring := by
  unfold LS.room
  rw [h.least]
  omega
theorem NoFly.new (ring limit : Int) : (new ring limit).NoFly := fun x hx => by simp [LS.new] at hx

end LS
end Go.Proofs.Ytpkbimmhimgamaa
namespace Go.Proofs.Ytpkbimmhimgamaa
set_option linter.unusedSimpArgs false
set_option linter.unusedVariables false
set_option linter.unnecessarySimpa false
open Go.RowKit
end Go.Proofs.Ytpkbimmhimgamaa
namespace Go.Proofs.Ytpkbimmhimgamaa
set_option linter.unusedSimpArgs false
set_option linter.unusedVariables false
set_option linter.unnecessarySimpa false
open Go.RowKit
end Go.Proofs.Ytpkbimmhimgamaa
namespace Go.Proofs.Ytpkbimmhimgamaa
set_option linter.unusedSimpArgs false
set_option linter.unusedVariables false
set_option linter.unnecessarySimpa false
open Go.RowKit
end Go.Proofs.Ytpkbimmhimgamaa
namespace Go.Proofs.Ytpkbimmhimgamaa
set_option linter.unusedSimpArgs false
set_option linter.unusedVariables false
set_option linter.unnecessarySimpa false
open Go.RowKit
theorem EngTo.keeps {w W : World} {f : Ft} {b : Nat} {s : ES} (h : EngTo w f b W s) (hl : ∀ k, f.tag k ≠ 0 → k < w.heap.size) {g : Nat} (hg : f.tag g = 0) : ¬ f.mut g := fun hm => by
  unfold Ft.mut at hm
  omega
end Go.Proofs.Ytpkbimmhimgamaa
namespace Go.Proofs.Ytpkbimmhimgamaa
set_option linter.unusedSimpArgs false
set_option linter.unusedVariables false
set_option linter.unnecessarySimpa false
open Go.RowKit
theorem fill_row {W : World} {g : Nat} {T : TypeId} : ∀ (vs : List Value) (i : Nat) (cs : Array Value) (W : World), W.heap[g]? = some (.cells cs T (0, 0)) → (putAll g i vs W).heap[g]? = some (.cells (setAll cs i vs) T (0, 0)) ∧ Chg (fun j => j = g) W (putAll g i vs W) := by
  intro vs
  induction vs with
  | nil => intro i cs W h; exact ⟨h, Chg.refl _ _⟩
  | cons v vs ih =>
    intro i cs W h
    have h2 := heap_setCell_same W g i _ _ v h
    obtain ⟨a, b⟩ := ih (i + 1) _ _ h2
    exact ⟨a, ((Chg.refl (fun j => j = g) W).setCell (p := ⟨g, i, none⟩) (.inl rfl) v).trans (b.mono fun k _ e => .inl e)⟩
/-- A struct of the engine is stored whole. -/
theorem EngC.fill {W : World} {f : Ft} {b : Nat} {s : ES} (h : EngC W f b s) (s' : ES) (i : Nat) (vs : List Value) (hr : engRow f s' = setAll (engRow f s) i vs) (h1 : s'.ws = s.ws) (h2 : s'.k = s.k) (h3 : s'.q = s.q) (h4 : s'.l = s.l) (h5 : s'.g = s.g) (hg : s'.Good) : EngC (putAll b i vs W) f b s' := by
  obtain ⟨a, c⟩ := fill_row (W := W) vs i _ W h.t
  rw [← hr] at a
  exact h.row c a h1 h2 h3 h4 h5 hg
theorem EngC.fillTo {W : World} {f : Ft} {b : Nat} {s : ES} (h : EngC W f b s) (s' : ES) (i : Nat) (vs : List Value) (hc : EngC (putAll b i vs W) f b s') : EngTo W f b (putAll b i vs W) s' :=
  .row h (fill_row (W := W) vs i _ W h.t).2 hc
theorem EngTo.then {w W W' : World} {f : Ft} {b : Nat} {s1 s2 : ES} (T : EngTo w f b W s1) (n : ∀ f', EngC W f' b s1 → EngTo W f' b W' s2) : EngTo w f b W' s2 := by
  obtain ⟨f1, c1, t1, d1⟩ := T
  exact EngTo.trans c1.lt t1 d1 (n f1 c1)
theorem EngTo.of_set {w : World} {f : Ft} {b : Nat} {s s' : ES} (h : EngC w f b s) {i : Nat} {v : Value} (h2 : EngC (w.setCell ⟨b, i, none⟩ v) f b s') : EngTo w f b (w.setCell ⟨b, i, none⟩ v) s' :=
  .row h ((Chg.refl (fun j => j = b) w).setCell (p := ⟨b, i, none⟩) (.inl rfl) v) h2
theorem run_loadVar_part {P : Program} (w : World) (g off : Nat) (t ty : TypeId) (row vs : Array Value) (fr : Nat × Nat) (d : TypeDesc) (hg : w.heap[g]? = some (.cells row t fr)) (hv : ∀ j, j < vs.size → row[off + j]? = vs[j]?)
    (hd : (match d with | .struct _ | .array _ _ => true | _ => false) = true) (hu : P.underlying ty = some d) (hi : (P.info? ty).map (·.size) = some vs.size) : (loadVar ty ⟨g, off, none⟩).run P w = .ok (.agg vs) w := by
  have hl : (loadCells ⟨g, off, none⟩ vs.toList.length).run P w = .ok vs.toList.toArray w :=
    run_loadCells_list (P := P) w ⟨g, off, none⟩ vs.toList (fun j v hv' => by
      rw [add_addr, cell_of_row w g (off + j) row t fr hg]
      have hj : j < vs.size := by
        have := (List.getElem?_eq_some_iff.1 hv').1
        simpa using this
      rw [hv j hj]
      simpa using hv')
  cases hq : P.info? ty with
  | none => simp [hq] at hi
  | some i =>
    have hs : i.size = vs.size := by simpa [hq] using hi
    have hagg : (isAgg ty).run P w = .ok true w := by
      unfold isAgg
      rw [Sem.run_bind, run_underlying hu w]
      cases d <;> simp_all
    simp only [Array.length_toList, Array.toArray_toList] at hl
    simp [loadVar, Sem.run_bind, hagg, sizeOf, typeInfo, hq, hs, hl]
def Cfg.arr (c : Cfg) : Array Value := #[.int .i64 c.bits, .int .u64 c.one, .int .i64 c.ring, .int .u64 c.lim, .int .i64 c.room, .int .u64 c.mss, .int .u64 c.ini, .int .u64 c.lea, .int .u64 c.mo, .int .i64 c.algo, .int .u64 c.fst, .int .u64 c.gr, .int .u64 c.cap, .int .u64 c.bur, .int .u64 c.slo, .int .i64 c.chal, .int .u64 c.evy]
theorem row_cfg (f : Ft) (s : ES) : ∀ j, j < s.c.arr.size → (engRow f s)[0 + j]? = s.c.arr[j]? := by
  intro j hj
  have hj' : j < 17 := hj
  rcases (by omega : j = 0 ∨ j = 1 ∨ j = 2 ∨ j = 3 ∨ j = 4 ∨ j = 5 ∨ j = 6 ∨ j = 7 ∨ j = 8 ∨ j = 9 ∨ j = 10 ∨ j = 11 ∨ j = 12 ∨ j = 13 ∨ j = 14 ∨ j = 15 ∨ j = 16) with rfl | rfl | rfl | rfl | rfl | rfl | rfl | rfl | rfl | rfl | rfl | rfl | rfl | rfl | rfl | rfl | rfl <;> rfl
/-- The configuration is loaded whole. -/
theorem EngC.cfg {W : World} {f : Ft} {b : Nat} {s : ES} (h : EngC W f b s) : (loadVar 24 ⟨b, 0, none⟩).run Try.prog W = .ok (.agg s.c.arr) W :=
  run_loadVar_part W b 0 _ _ (engRow f s) s.c.arr (0, 0) _ h.t (row_cfg f s) rfl Try.underlying24 infoCfg
theorem EngC.cfgM {W : World} {f : Ft} {b : Nat} {s : ES} (h : EngC W f b s) : ∀ w, (∃ u, w = Go.Proofs.Ytpkbimmhimgamaa.mix W u) → (loadVar 24 ⟨b, 0, none⟩).run Try.prog w = .ok (.agg s.c.arr) w := by
  rintro _ ⟨u, rfl⟩
  exact (h.mix u).cfg
theorem eng_write (w : World) (f : Ft) (b : Nat) (s : ES) (l : List Int) (A : Option Addr) (c : Nat) (h : EngC w f b s) (hr : Rd w 1 A l.length c (U8 l)) (hb : ∀ x ∈ l, 0 ≤ x ∧ x ≤ 255) (hl : s.q.b.length + l.length ≤ 1000000) :
    Calls Try.prog 18 #[.pointer (some ⟨b, 0, none⟩), .slice A l.length c] w fun e w' => e = .returned (.tuple #[.int .i64 (s.write l).2.1, .int .i64 (s.write l).2.2]) ∧ EngTo w f b w' (s.write l).1 := by
  have K := Lib.hid (que_write w _ f.q s.q l A c h.q hr hb hl)
  have HW : Hid (s.write l = if s.st ≠ 1 then (s, 0, 9) else ({ s with q := (s.q.write l).1 }, (s.q.write l).2, if (s.q.write l).2 < l.length then 7 else 0)) := Lib.hid rfl
  have H := Lib.hid h
  have e18 : w.cell? ⟨b, 18, none⟩ = some (.int .i64 s.st) := h.c 18 rfl
  have e20 : w.cell? ⟨b, 20, none⟩ = some (.pointer (some ⟨f.q, 0, none⟩)) := h.c 20 rfl
  clear h hr hb hl
  by_cases h1 : s.st = 1
  · rw [if_neg (by simp [h1])] at HW
    have d1 : (s.st != 1) = false := by simp [h1]
    generalize (s.q.write l).1 = q' at *
    generalize (s.q.write l).2 = n at *
    clear h1
    by_cases h2 : n < l.length
    · rw [if_pos h2] at HW
      have d2 : decide (n < (l.length : Int)) = true := decide_eq_true h2
      go_enter Try.func18, Try.ntmps18
      go_wp2_with fail
      refine K.out.mono ?_
      rintro e w1 ⟨rfl, hq, hc⟩
      have T := Lib.hid (H.out.que hq hc)
      clear hq hc
      go_wp2
      go_ret2
      exact ⟨by rw [HW.out]; rfl, by rw [HW.out]; exact T.out⟩
    · rw [if_neg h2] at HW
      have d2 : decide (n < (l.length : Int)) = false := decide_eq_false h2
      go_enter Try.func18, Try.ntmps18
      go_wp2_with fail
      refine K.out.mono ?_
      rintro e w1 ⟨rfl, hq, hc⟩
      have T := Lib.hid (H.out.que hq hc)
      clear hq hc
      go_wp2
      go_ret2
      exact ⟨by rw [HW.out]; rfl, by rw [HW.out]; exact T.out⟩
  · rw [if_pos h1] at HW
    have d1 : (s.st != 1) = true := by simp [h1]
    clear h1 K
    go_enter Try.func18, Try.ntmps18
    go_wp2
    go_ret2
    exact ⟨by rw [HW.out]; rfl, by rw [HW.out]; exact EngTo.refl H.out⟩
theorem ES.Good.stat {s : ES} (g : s.Good) (n : Int) (hn : 1 ≤ n ∧ n ≤ 4) : ({ s with st := n } : ES).Good := by
  obtain ⟨g1, g2, g3, g4, g5, g6, g7, g8, g9, g10, g11, g12, g13, g14, g15, g16, g17, g18, g19, g20, g21⟩ := g
  exact ⟨g1, g2, hn, g4, g5, g6, g7, g8, g9, g10, g11, g12, g13, g14, g15, g16, g17, g18, g19, g20, g21⟩
end Go.Proofs.Ytpkbimmhimgamaa
namespace Go.Proofs.Ytpkbimmhimgamaa
set_option linter.unusedSimpArgs false
set_option linter.unusedVariables false
set_option linter.unnecessarySimpa false
open Go.RowKit
end Go.Proofs.Ytpkbimmhimgamaa
namespace Go.Proofs.Ytpkbimmhimgamaa
set_option linter.unusedSimpArgs false
set_option linter.unusedVariables false
set_option linter.unnecessarySimpa false
open Go.RowKit
theorem word_of (s : ES) : wordOf s.ws s.k = s.word := by
  unfold wordOf ES.word
  by_cases h : s.k < s.ws.length
  · rw [if_pos h, dif_pos h, List.getD_eq_getElem?_getD, List.getElem?_eq_getElem h]
    rfl
  · rw [if_neg h, dif_neg h]
theorem EngC.srcC {W W' : World} {f : Ft} {b : Nat} {s : ES} (h : EngC W f b s) (q : Qt (W.setCell ⟨f.sb, 1, none⟩ (.int .i64 ((s.k + 1 : Nat) : Int))) W') (hk : s.k + 1 < 1000000000) : EngC W' f b s.drawn ∧ Chg (fun j => j = f.sb) W W' := by
  have hs := h.ts
  have c0 := (Chg.refl (fun j => j = f.sb) W).setCell (p := ⟨f.sb, 1, none⟩) (.inl rfl) (.int .i64 ((s.k + 1 : Nat) : Int))
  have hc : Chg (fun j => j = f.sb) W W' := c0.thenBelow q.below c0.size
  obtain ⟨f', c, t, _⟩ := h.srcS q hk
  have e : ∀ k, f.tag k ≠ 2 → k ≠ f.sb := fun k hk e => by subst e; exact hk hs
  have h1 := heap_setCell_same W f.sb 1 _ _ (.int .i64 ((s.k + 1 : Nat) : Int)) h.src.t
  have h2 := q.below.block _ (lt_of_block h1)
  rw [h1] at h2
  exact ⟨⟨hc.blk h.t (e b (by have := h.tb; omega)), h.tb, ⟨by rw [h2]; simp [ES.drawn], h.src.r.chg hc (fun g off e' h0 => h.src.a g off e' h0), h.src.a⟩, hs, h.tA, h.q.chg hc (fun k _ hk => e k (by omega)) (fun _ _ h => h), h.l.chg hc (fun k _ hk => e k (by omega)) (fun _ _ h => h), h.g.chg hc (fun k _ hk => e k (by omega)) (fun _ _ h => h) (fun _ _ h => h) (fun k h6 h5 => by omega), fun k hk => Nat.lt_of_lt_of_le (h.lt k hk) hc.size, c.good⟩, hc⟩
theorem eng_nextC (W : World) (f : Ft) (b : Nat) (s : ES) (h : EngC W f b s) (hk : s.k + 1 < 1000000000) :
    Calls Try.prog 64 #[.pointer (some ⟨f.sb, 0, none⟩)] W fun e w' => e = .returned (.int .u64 s.word) ∧ EngC w' f b s.drawn ∧ Chg (fun j => j = f.sb) W w' :=
  (src_next f.sb 0 f.A f.c s.k s.ws W (cell_of_row _ _ 0 _ _ _ h.src.t) (cell_of_row _ _ 1 _ _ _ h.src.t) (frozen_of_row _ _ 1 _ _ h.src.t) h.src.r h.src.a (by omega)).mono fun e w' he => ⟨he.1.trans (by rw [word_of]), h.srcC he.2 hk⟩
theorem u64_wr (x : Int) : isU64 (IntKind.u64.wrap x) := by
  have e : IntKind.u64.wrap x = x % 18446744073709551616 := by simp [IntKind.wrap, IntKind.bits, IntKind.signed]
  rw [e]
  unfold isU64
  omega
theorem mixW_u (x : Int) : isU64 (mixW x) := by
  unfold mixW drD
  exact u64_wr _
theorem ES.word_u (s : ES) (g : s.Good) : isU64 s.word := by
  unfold ES.word
  split
  · exact g.ws _ (List.getElem_mem _)
  · exact mixW_u _
theorem wpMix_off {P : Program} {ops : Array Oper} {C : World → Prop} {Q : Act → World → Prop} {w : World} {o : Oper} {rest : List Oper} {a : Act} (hw : Region.wanted o (yielded ops a.tmps) = false) (h : wpQuiet P ops C (fun a' => wpMix P ops C Q rest a' w) [o] a) : wpMix P ops C Q (o :: rest) a w := by
  refine wpMix_skip hw ?_
  simpa only [wpQuiet, hw, Bool.false_eq_true, if_false] using h
def regE10 (n : Nat) : Code → Option Code
  | .region i o b => if i = n then some (.region i o b) else none
  | .seq a b => match regE10 n a with
    | some c => some c
    | none => regE10 n b
  | .block _ c => regE10 n c
  | .scope c => regE10 n c
  | .cond _ a b => match regE10 n a with
    | some c => some c
    | none => regE10 n b
  | _ => none
end Go.Proofs.Ytpkbimmhimgamaa
namespace Go.Proofs.Ytpkbimmhimgamaa
set_option linter.unusedSimpArgs false
set_option linter.unusedVariables false
set_option linter.unnecessarySimpa false
open Go.RowKit
end Go.Proofs.Ytpkbimmhimgamaa
namespace Go.Proofs.Ytpkbimmhimgamaa
set_option linter.unusedSimpArgs false
set_option linter.unusedVariables false
set_option linter.unnecessarySimpa false
open Go.RowKit
section
variable {P : Program} {md : Region.Mode}
end
end Go.Proofs.Ytpkbimmhimgamaa
namespace Go.Proofs.Ytpkbimmhimgamaa
set_option linter.unusedSimpArgs false
set_option linter.unusedVariables false
set_option linter.unnecessarySimpa false
open Go.RowKit
theorem ES.Good.cc {s : ES} (g : s.Good) {v : Wn} {re rc : Int} (gv : v.Good) (h1 : isU64 re) (h2 : isU64 rc) : ({ s with w := v, re := re, rc := rc } : ES).Good := by
  obtain ⟨g1, g2, g3, g4, g5, g6, g7, g8, g9, g10, g11, g12, g13, g14, g15, g16, g17, g18, g19, g20, g21⟩ := g
  exact ⟨g1, g2, g3, g4, g5, g6, g7, g8, g9, gv, h1, h2, g13, g14, g15, g16, g17, g18, g19, g20, g21⟩
theorem ES.Good.pr {s : ES} (g : s.Good) {pc pf : Int} (h1 : 0 ≤ pc ∧ pc ≤ 60) (h2 : isU64 pf) (b : Bool) : ({ s with pc := pc, pf := pf, pb := b } : ES).Good := by
  obtain ⟨g1, g2, g3, g4, g5, g6, g7, g8, g9, g10, g11, g12, g13, g14, g15, g16, g17, g18, g19, g20, g21⟩ := g
  exact ⟨g1, g2, g3, g4, g5, g6, g7, h1, h2, g10, g11, g12, g13, g14, g15, g16, g17, g18, g19, g20, g21⟩
theorem EngC.prTo {W : World} {f : Ft} {b : Nat} {s : ES} (h : EngC W f b s) (pc pf : Int) (h1 : 0 ≤ pc ∧ pc ≤ 60) (h2 : isU64 pf) : EngTo W f b (putAll b 28 [.int .i64 pc, .int .u64 pf] W) { s with pc := pc, pf := pf } :=
  h.fillTo _ 28 _ (h.fill { s with pc := pc, pf := pf } 28 _ (by simp only [engRow, setAll, Nat.reduceAdd, List.setIfInBounds_toArray, List.set_cons_succ, List.set_cons_zero]) rfl rfl rfl rfl rfl (h.good.pr h1 h2 s.pb))
theorem ES.Good.tick {s : ES} (g : s.Good) {now : Int} (hn : isU64 now) : (s.tick now).Good := by
  obtain ⟨g1, g2, g3, g4, g5, g6, g7, g8, g9, g10, g11, g12, g13, g14, g15, g16, g17, g18, g19, g20, g21⟩ := g
  exact ⟨g1, max_u g2 hn, g3, g4, g5, g6, g7, g8, g9, g10, g11, g12, g13, g14, g15, g16, g17, g18, g19, g20, g21⟩
theorem EngC.ticked {W : World} {f : Ft} {b : Nat} {s : ES} (h : EngC W f b s) {now : Int} (hn : isU64 now) : EngC (W.setCell ⟨b, 17, none⟩ (.int .u64 (max s.now now))) f b (s.tick now) :=
  h.set (s.tick now) 17 _ rfl rfl rfl rfl rfl rfl (h.good.tick hn)
/-- What the walk of 'e.cc, _ = control.Loss(..)' needs. -/
structure CcW (W : World) (f : Ft) (b : Nat) (s : ES) (C : Array Value) : Prop where
  c : EngC W f b s
  hC : s.c.val = .agg C
  ld : ∀ w, (∃ u, w = Go.Proofs.Ytpkbimmhimgamaa.mix W u) → (loadVar 24 ⟨b, 0, none⟩).run Try.prog w = .ok (.agg C) w
theorem CcW.of {W : World} {f : Ft} {b : Nat} {s : ES} (h : EngC W f b s) : ∃ C, CcW W f b s C := ⟨s.c.arr, h, rfl, h.cfgM⟩
end Go.Proofs.Ytpkbimmhimgamaa
namespace Go.Proofs.Ytpkbimmhimgamaa
set_option linter.unusedSimpArgs false
set_option linter.unusedVariables false
set_option linter.unnecessarySimpa false
open Go.RowKit
theorem ES.Good.lay {s : ES} (g : s.Good) (b : Bool) : ({ s with pb := b } : ES).Good := by
  obtain ⟨g1, g2, g3, g4, g5, g6, g7, g8, g9, g10, g11, g12, g13, g14, g15, g16, g17, g18, g19, g20, g21⟩ := g
  exact ⟨g1, g2, g3, g4, g5, g6, g7, g8, g9, g10, g11, g12, g13, g14, g15, g16, g17, g18, g19, g20, g21⟩
theorem EngC.laid {W : World} {f : Ft} {b : Nat} {s : ES} (h : EngC W f b s) (x : Bool) : EngTo W f b (W.setCell ⟨b, 46, none⟩ (.bool x)) { s with pb := x } :=
  .of_set h (h.set { s with pb := x } 46 _ rfl rfl rfl rfl rfl rfl (h.good.lay x))
end Go.Proofs.Ytpkbimmhimgamaa
