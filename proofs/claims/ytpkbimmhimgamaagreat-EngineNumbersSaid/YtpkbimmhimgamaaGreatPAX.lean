/-
  Part of the proof of EngineNumbers.
-/
import Derived.Test.YtpkbimmhimgamaaGreatPAM
import Derived.Test.YtpkbimmhimgamaaGreatPAO
import Derived.Test.YtpkbimmhimgamaaGreatPAT
import Derived.Test.YtpkbimmhimgamaaGreatPAV
import Derived.Test.YtpkbimmhimgamaaGreatPAW
import Derived.Test.YtpkbimmhimgamaaGreatPAF
namespace Go.Proofs.YtpkbimmhimgamaaGreat
set_option linter.unusedSimpArgs false
set_option linter.unusedVariables false
set_option linter.unnecessarySimpa false
open Go.RowKit
/-- Where an engine lies: its words' source, its queue, its ledger, its guard; of each block what it belongs to (1 the engine, 2 the source, 3 the queue, 4 the ledger, 5 the guard, 6 what is only read). -/
structure Ft where
  sb : Nat
  q : Nat
  p : Nat
  g : Nat
  A : Option Addr
  c : Nat
  tag : Nat → Nat
def Ft.mut (f : Ft) (k : Nat) : Prop := 1 ≤ f.tag k ∧ f.tag k ≤ 5
structure ES.Good (s : ES) : Prop where
  c : s.c.Ok
  now : isU64 s.now
  st : 1 ≤ s.st ∧ s.st ≤ 4
  ws : ∀ x ∈ s.ws, isU64 x
  wl : s.ws.length ≤ 17592186044000
  k : s.k < 1000000000
  r : s.r.Good
  pc : 0 ≤ s.pc ∧ s.pc ≤ 60
  pf : isU64 s.pf
  w : s.w.Good
  re : isU64 s.re
  rc : isU64 s.rc
  tk : isU64 s.tk
  ta : isU64 s.ta
  tr : isU64 s.tr
  tm : isU64 s.tm
  lg : isU64 s.lg
  told : 0 ≤ s.told ∧ s.told ≤ 1000000000
  owed : 0 ≤ s.owed ∧ s.owed ≤ 1000000000
  lim : s.l.limit = s.c.lim
  ring : (s.l.ring : Int) = s.c.ring
def engRow (f : Ft) (s : ES) : Array Value := #[.int .i64 s.c.bits, .int .u64 s.c.one, .int .i64 s.c.ring, .int .u64 s.c.lim, .int .i64 s.c.room, .int .u64 s.c.mss, .int .u64 s.c.ini, .int .u64 s.c.lea, .int .u64 s.c.mo, .int .i64 s.c.algo, .int .u64 s.c.fst, .int .u64 s.c.gr, .int .u64 s.c.cap, .int .u64 s.c.bur, .int .u64 s.c.slo, .int .i64 s.c.chal, .int .u64 s.c.evy, .int .u64 s.now, .int .i64 s.st, .pointer (some ⟨f.sb, 0, none⟩), .pointer (some ⟨f.q, 0, none⟩), .pointer (some ⟨f.p, 0, none⟩), .pointer (some ⟨f.g, 0, none⟩), .bool s.r.has, .int .u64 s.r.lt, .int .u64 s.r.sm, .int .u64 s.r.vr, .int .u64 s.r.ls, .int .i64 s.pc, .int .u64 s.pf, .int .u64 s.w.cw, .int .u64 s.w.th, .int .u64 s.w.ac, .int .u64 s.w.pk, .int .u64 s.w.ep, .int .u64 s.w.kk, .int .u64 s.w.fr, .int .u64 s.re, .int .u64 s.rc, .int .u64 s.tk, .int .u64 s.ta, .int .u64 s.tr, .int .u64 s.tm, .int .u64 s.lg, .int .u64 s.told, .int .u64 s.owed, .bool s.pb]
structure EngC (W : World) (f : Ft) (b : Nat) (s : ES) : Prop where
  t : W.heap[b]? = some (.cells (engRow f s) 121 (0, 0))
  tb : f.tag b = 1
  src : SrcC W f.sb f.A f.c s.ws s.k
  ts : f.tag f.sb = 2
  tA : ∀ g off, f.A = some ⟨g, off, none⟩ → 0 < s.ws.length → f.tag g = 6
  q : QueP W (fun k => f.tag k = 3) f.q s.q
  l : LedP W (fun k => f.tag k = 4) f.p s.l
  g : GuaP W (fun k => f.tag k = 5) (fun k => f.tag k = 6) f.g s.g
  lt : ∀ k, f.tag k ≠ 0 → k < W.heap.size
  good : s.Good
theorem EngC.c {W : World} {f : Ft} {b : Nat} {s : ES} (h : EngC W f b s) (i : Nat) {v : Value} (hv : (engRow f s)[i]? = some v) : W.cell? ⟨b, i, none⟩ = some v := (cell_of_row W b i _ _ _ h.t).trans hv
theorem EngC.fz {W : World} {f : Ft} {b : Nat} {s : ES} (h : EngC W f b s) (i : Nat) : W.frozen? ⟨b, i, none⟩ = false := frozen_of_row W b i _ _ h.t
theorem SrcC.chg {w w' : World} {g c k : Nat} {A : Option Addr} {ws : List Int} {G : Nat → Prop} (h : SrcC w g A c ws k) (hc : Chg G w w') (h1 : ¬ G g) (h2 : ∀ b off, A = some ⟨b, off, none⟩ → 0 < ws.length → ¬ G b) : SrcC w' g A c ws k :=
  ⟨hc.blk h.t h1, h.r.chg hc h2, h.a⟩
/-- Blocks of others turn. -/
theorem EngC.chg {W W' : World} {f : Ft} {b : Nat} {s : ES} {G : Nat → Prop} (h : EngC W f b s) (hc : Chg G W W') (hG : ∀ k, k < W.heap.size → f.tag k ≠ 0 → ¬ G k) : EngC W' f b s := by
  have hn : ∀ k, f.tag k ≠ 0 → ¬ G k := fun k hk => hG k (h.lt k hk) hk
  refine ⟨hc.blk h.t (hn b (by have := h.tb; omega)), h.tb, h.src.chg hc (hn _ (by have := h.ts; omega)) (fun g off e h0 => hn g (by have := h.tA g off e h0; omega)), h.ts, h.tA, h.q.chg hc (fun k _ hk => hn k (by omega)) (fun _ _ h => h), h.l.chg hc (fun k _ hk => hn k (by omega)) (fun _ _ h => h),
    h.g.chg hc (fun k _ hk => hn k (by omega)) (fun _ _ h => h) (fun _ _ h => h) (fun k h6 h5 => by omega), fun k hk => Nat.lt_of_lt_of_le (h.lt k hk) hc.size, h.good⟩
theorem EngC.below {W W' : World} {f : Ft} {b : Nat} {s : ES} (h : EngC W f b s) (q : Below W.heap.size W W') : EngC W' f b s :=
  h.chg (chg_below q (F := fun _ => False)) (fun _ _ _ h => h)
theorem EngC.qt {W W' : World} {f : Ft} {b : Nat} {s : ES} (h : EngC W f b s) (q : Qt W W') : EngC W' f b s := h.below q.below
theorem EngC.mix {W : World} {f : Ft} {b : Nat} {s : ES} (h : EngC W f b s) (u : World) : EngC (Go.Proofs.YtpkbimmhimgamaaGreat.mix W u) f b s := h.below (mix_below W u)
/-- One of the engine's own cells is stored. -/
theorem EngC.row {W : World} {f : Ft} {b : Nat} {s s' : ES} (h : EngC W f b s) {W' : World} (hc : Chg (fun j => j = b) W W') (ht : W'.heap[b]? = some (.cells (engRow f s') 121 (0, 0))) (h1 : s'.ws = s.ws) (h2 : s'.k = s.k) (h3 : s'.q = s.q) (h4 : s'.l = s.l) (h5 : s'.g = s.g) (hg : s'.Good) : EngC W' f b s' := by
  have hb := h.tb
  have e : ∀ k, f.tag k ≠ 1 → k ≠ b := fun k hk e => by subst e; exact hk hb
  refine ⟨ht, hb, ?_, h.ts, by rw [h1]; exact h.tA, ?_, ?_, ?_, fun k hk => Nat.lt_of_lt_of_le (h.lt k hk) hc.size, hg⟩
  · rw [h1, h2]
    exact h.src.chg hc (e _ (by have := h.ts; omega)) (fun g off e' h0 => e g (by have := h.tA g off e' h0; omega))
  · rw [h3]
    exact h.q.chg hc (fun k _ hk => e k (by omega)) (fun _ _ h => h)
  · rw [h4]
    exact h.l.chg hc (fun k _ hk => e k (by omega)) (fun _ _ h => h)
  · rw [h5]
    exact h.g.chg hc (fun k _ hk => e k (by omega)) (fun _ _ h => h) (fun _ _ h => h) (fun k h6 h5 => by omega)
theorem EngC.set {W : World} {f : Ft} {b : Nat} {s : ES} (h : EngC W f b s) (s' : ES) (i : Nat) (v : Value) (hr : engRow f s' = (engRow f s).setIfInBounds i v) (h1 : s'.ws = s.ws) (h2 : s'.k = s.k) (h3 : s'.q = s.q) (h4 : s'.l = s.l) (h5 : s'.g = s.g) (hg : s'.Good) : EngC (W.setCell ⟨b, i, none⟩ v) f b s' := by
  refine h.row ((Chg.refl (fun j => j = b) W).setCell (p := ⟨b, i, none⟩) (.inl rfl) v) ?_ h1 h2 h3 h4 h5 hg
  rw [hr]
  exact heap_setCell_same W b i _ _ v h.t
/-- An engine on its way: from the world w, where it lay by f, to W, where it stands at s. -/
def EngTo (w : World) (f : Ft) (b : Nat) (W : World) (s : ES) : Prop := ∃ f', EngC W f' b s ∧ (∀ k, k < w.heap.size → f'.tag k = f.tag k) ∧ Chg f.mut w W
theorem EngTo.refl {w : World} {f : Ft} {b : Nat} {s : ES} (h : EngC w f b s) : EngTo w f b w s := ⟨f, h, fun _ _ => rfl, Chg.refl _ _⟩
theorem mut_of {w W : World} {f f' : Ft} (hl : ∀ k, f'.tag k ≠ 0 → k < W.heap.size) (ht : ∀ k, k < w.heap.size → f'.tag k = f.tag k) {k : Nat} (hk : f'.mut k) : f.mut k ∨ w.heap.size ≤ k := by
  rcases Nat.lt_or_ge k w.heap.size with h | h
  · have := ht k h
    unfold Ft.mut at *
    rw [this] at hk
    exact .inl hk
  · exact .inr h
theorem EngTo.trans {w W W2 : World} {f f' : Ft} {b : Nat} {s : ES} (hl : ∀ k, f'.tag k ≠ 0 → k < W.heap.size) (ht : ∀ k, k < w.heap.size → f'.tag k = f.tag k) (hc : Chg f.mut w W) (h : EngTo W f' b W2 s) : EngTo w f b W2 s := by
  obtain ⟨f2, c2, t2, g2⟩ := h
  exact ⟨f2, c2, fun k hk => (t2 k (Nat.lt_of_lt_of_le hk hc.size)).trans (ht k hk), hc.trans (g2.mono fun k _ hk => mut_of hl ht hk)⟩
theorem EngTo.below {w W W' : World} {f : Ft} {b : Nat} {s : ES} (h : EngTo w f b W s) (q : Below W.heap.size W W') : EngTo w f b W' s := by
  obtain ⟨f', c, t, g⟩ := h
  exact ⟨f', c.below q, t, g.thenBelow q g.size⟩
/-- The engine's own step from W on. -/
theorem EngTo.step {w W W' : World} {f f' : Ft} {b : Nat} {s s' : ES} (h : EngC W f' b s) (ht : ∀ k, k < w.heap.size → f'.tag k = f.tag k) (hc : Chg f.mut w W) (h2 : EngTo W f' b W' s') : EngTo w f b W' s' := h2.trans h.lt ht hc
theorem EngTo.row {W W' : World} {f : Ft} {b : Nat} {s s' : ES} (h : EngC W f b s) (hc : Chg (fun j => j = b) W W') (h2 : EngC W' f b s') : EngTo W f b W' s' :=
  ⟨f, h2, fun _ _ => rfl, hc.mono fun k _ e => (by subst e; exact ⟨by rw [h.tb]; omega, by rw [h.tb]; omega⟩)⟩
def retag (f : Ft) (w w' : World) (n : Nat) : Ft := { f with tag := fun k => if k < w.heap.size then f.tag k else if k < w'.heap.size then n else 0 }
/-- The ledger steps. -/
theorem EngC.led {W W' : World} {f : Ft} {b : Nat} {s : ES} (h : EngC W f b s) {l' : LS} (hl : LedP W' (Grow (fun k => f.tag k = 4) W) f.p l') (hc : Chg (fun k => f.tag k = 4) W W') (h1 : l'.limit = s.l.limit) (h2 : l'.ring = s.l.ring) : EngTo W f b W' { s with l := l' } := by
  have hz := hc.size
  have old : ∀ {n k : Nat}, f.tag k = n → n ≠ 0 → (retag f W W' 4).tag k = n := fun {n k} hk hn => by
    have := h.lt k (by omega)
    simp [retag, this, hk]
  refine ⟨retag f W W' 4, ⟨hc.blk h.t (by have := h.tb; omega), old h.tb (by omega), h.src.chg hc (by have := h.ts; omega) (fun g off e h0 => by have := h.tA g off e h0; omega), old h.ts (by omega), fun g off e h0 => old (h.tA g off e h0) (by omega), h.q.chg hc (fun k _ hk => by omega) (fun k _ hk => old hk (by omega)),
    hl.chg (Chg.refl (fun _ => False) W') (fun _ _ _ h => h) (fun k hk hg => ?_), h.g.chg hc (fun k _ hk => by omega) (fun k _ hk => old hk (by omega)) (fun k _ hk => old hk (by omega)) (fun k h6 h5 => by omega), fun k hk => ?_, ?_⟩, fun k hk => by simp [retag, hk], hc.mono fun k _ hk => ⟨by omega, by omega⟩⟩
  · rcases hg with hg | hg
    · exact old hg (by omega)
    · simp [retag, Nat.not_lt.2 hg, hk]
  · simp only [retag] at hk
    split at hk
    · omega
    · split at hk
      · assumption
      · exact absurd rfl hk
  · obtain ⟨g1, g2, g3, g4, g5, g6, g7, g8, g9, g10, g11, g12, g13, g14, g15, g16, g17, g18, g19, g20, g21⟩ := h.good
    exact ⟨g1, g2, g3, g4, g5, g6, g7, g8, g9, g10, g11, g12, g13, g14, g15, g16, g17, g18, g19, h1.trans g20, by show (l'.ring : Int) = _; rw [h2]; exact g21⟩
/-- The queue steps. -/
theorem EngC.que {W W' : World} {f : Ft} {b : Nat} {s : ES} (h : EngC W f b s) {q' : QS} (hl : QueP W' (Grow (fun k => f.tag k = 3) W) f.q q') (hc : Chg (fun k => f.tag k = 3) W W') : EngTo W f b W' { s with q := q' } := by
  have hz := hc.size
  have old : ∀ {n k : Nat}, f.tag k = n → n ≠ 0 → (retag f W W' 3).tag k = n := fun {n k} hk hn => by
    have := h.lt k (by omega)
    simp [retag, this, hk]
  refine ⟨retag f W W' 3, ⟨hc.blk h.t (by have := h.tb; omega), old h.tb (by omega), h.src.chg hc (by have := h.ts; omega) (fun g off e h0 => by have := h.tA g off e h0; omega), old h.ts (by omega), fun g off e h0 => old (h.tA g off e h0) (by omega),
    hl.chg (Chg.refl (fun _ => False) W') (fun _ _ _ h => h) (fun k hk hg => ?_), h.l.chg hc (fun k _ hk => by omega) (fun k _ hk => old hk (by omega)), h.g.chg hc (fun k _ hk => by omega) (fun k _ hk => old hk (by omega)) (fun k _ hk => old hk (by omega)) (fun k h6 h5 => by omega), fun k hk => ?_, ?_⟩, fun k hk => by simp [retag, hk], hc.mono fun k _ hk => ⟨by omega, by omega⟩⟩
  · rcases hg with hg | hg
    · exact old hg (by omega)
    · simp [retag, Nat.not_lt.2 hg, hk]
  · simp only [retag] at hk
    split at hk
    · omega
    · split at hk
      · assumption
      · exact absurd rfl hk
  · obtain ⟨g1, g2, g3, g4, g5, g6, g7, g8, g9, g10, g11, g12, g13, g14, g15, g16, g17, g18, g19, g20, g21⟩ := h.good
    exact ⟨g1, g2, g3, g4, g5, g6, g7, g8, g9, g10, g11, g12, g13, g14, g15, g16, g17, g18, g19, g20, g21⟩
/-- The source steps. -/
theorem EngC.srcS {W W' : World} {f : Ft} {b : Nat} {s : ES} (h : EngC W f b s) (q : Qt (W.setCell ⟨f.sb, 1, none⟩ (.int .i64 ((s.k + 1 : Nat) : Int))) W') (hk : s.k + 1 < 1000000000) : EngTo W f b W' { s with k := s.k + 1 } := by
  have hs := h.ts
  have c0 := (Chg.refl (fun j => j = f.sb) W).setCell (p := ⟨f.sb, 1, none⟩) (.inl rfl) (.int .i64 ((s.k + 1 : Nat) : Int))
  have hc : Chg (fun j => j = f.sb) W W' := c0.thenBelow q.below c0.size
  have e : ∀ k, f.tag k ≠ 2 → k ≠ f.sb := fun k hk e => by subst e; exact hk hs
  refine ⟨f, ⟨hc.blk h.t (e b (by have := h.tb; omega)), h.tb, ⟨?_, h.src.r.chg hc (fun g off e' h0 => h.src.a g off e' h0), h.src.a⟩, hs, h.tA, h.q.chg hc (fun k _ hk => e k (by omega)) (fun _ _ h => h), h.l.chg hc (fun k _ hk => e k (by omega)) (fun _ _ h => h), h.g.chg hc (fun k _ hk => e k (by omega)) (fun _ _ h => h) (fun _ _ h => h) (fun k h6 h5 => by omega), fun k hk => Nat.lt_of_lt_of_le (h.lt k hk) hc.size, ?_⟩, fun _ _ => rfl, hc.mono fun k _ e => (by subst e; exact ⟨by omega, by omega⟩)⟩
  · have h1 := heap_setCell_same W f.sb 1 _ _ (.int .i64 ((s.k + 1 : Nat) : Int)) h.src.t
    have h2 := q.below.block _ (lt_of_block h1)
    rw [h1] at h2
    simpa using h2
  · obtain ⟨g1, g2, g3, g4, g5, g6, g7, g8, g9, g10, g11, g12, g13, g14, g15, g16, g17, g18, g19, g20, g21⟩ := h.good
    exact ⟨g1, g2, g3, g4, g5, hk, g7, g8, g9, g10, g11, g12, g13, g14, g15, g16, g17, g18, g19, g20, g21⟩
end Go.Proofs.YtpkbimmhimgamaaGreat
namespace Go.Proofs.YtpkbimmhimgamaaGreat
set_option linter.unusedSimpArgs false
set_option linter.unusedVariables false
set_option linter.unnecessarySimpa false
open Go.RowKit
theorem fly_pos {l : List Snt} {x : Snt} (hx : x ∈ l) (h1 : x.state = 1) (hf : ∀ y ∈ l, y.state = 1 → 1 ≤ y.len ∧ y.len ≤ 1500) : 0 < LS.fly l := by
  induction l with
  | nil => simp at hx
  | cons y l ih =>
    simp only [LS.fly]
    have hn := LS.fly_nonneg (l := l) (fun z hz => hf z (List.mem_cons_of_mem _ hz))
    have h2 := hf y List.mem_cons_self
    rcases List.mem_cons.1 hx with rfl | h
    · have := h2 h1
      rw [if_pos h1]
      omega
    · have := ih h (fun z hz => hf z (List.mem_cons_of_mem _ hz))
      split
      · rename_i h3
        have := h2 h3
        omega
      · omega
theorem fly_ahead {l : List Snt} (h : 0 < LS.fly l) : LS.ahead l < l.length := by
  induction l with
  | nil => simp [LS.fly] at h
  | cons y l ih =>
    simp only [LS.fly, LS.ahead] at *
    by_cases h1 : y.state = 1
    · simp [h1]
    · rw [if_neg h1] at h ⊢
      have := ih (by omega)
      simp
      omega
theorem fly_none {l : List Snt} (hf : ∀ y ∈ l, y.state = 1 → 1 ≤ y.len ∧ y.len ≤ 1500) (h : ¬ 0 < LS.fly l) : LS.ahead l = l.length := by
  apply Nat.le_antisymm (LS.ahead_le l)
  apply Nat.le_of_not_lt
  intro h2
  exact h (fly_pos (List.getElem_mem h2) (LS.ahead_at h2) hf)
theorem ahead_set {l : List Snt} {y : Snt} (h : LS.ahead l < l.length) (hy : y.state ≠ 1) : LS.ahead l + 1 ≤ LS.ahead (l.set (LS.ahead l) y) := by
  induction l with
  | nil => simp at h
  | cons x l ih =>
    by_cases h1 : x.state = 1
    · simp [LS.ahead, h1, hy]
    · simp only [LS.ahead, if_neg h1, List.set_cons_succ, List.length_cons] at *
      have := ih (by omega)
      omega
theorem ahead_ge {l : List Snt} {k : Nat} (hk : k ≤ l.length) (h : ∀ i (hi : i < l.length), i < k → l[i].state ≠ 1) : k ≤ LS.ahead l := by
  apply Nat.le_of_not_lt
  intro h2
  exact h _ (by omega) h2 (LS.ahead_at (by omega))
theorem least_grow (l : LS) (y : Snt) : l.least ≤ ({ l with all := l.all ++ [y] } : LS).least := by
  have hl := l.least_le
  generalize hm : ({ l with all := l.all ++ [y] } : LS) = m
  have h1 : m.all = l.all ++ [y] := by rw [← hm]
  have h2 : m.low = l.all.length + 1 - l.ring := by rw [← hm]; simp [LS.low]
  rcases Nat.lt_or_ge l.least m.low with h | h
  · exact Nat.le_trans (Nat.le_of_lt h) m.low_least
  · have h3 : m.kept.length = l.all.length + 1 - m.low := by simp [LS.kept, h1]
    have := ahead_ge (l := m.kept) (k := l.least - m.low) (by omega) (fun i hi hlt => by
      rw [LS.kept_get]
      have h4 : m.all[m.low + i]'(by simp [LS.kept] at hi; omega) = l.all[m.low + i]'(by omega) := by
        simp only [h1]
        rw [List.getElem_append_left (by omega)]
      rw [h4]
      have h5 : l.low ≤ m.low := by simp only [LS.low] at h2 ⊢; omega
      have h6 := LS.ahead_lt (l := l.kept) (i := m.low + i - l.low) (by unfold LS.least at hlt; omega) (by simp [LS.kept]; omega)
      rw [LS.kept_get] at h6
      simpa [show l.low + (m.low + i - l.low) = m.low + i by omega] using h6)
    have h7 : m.least = m.low + LS.ahead m.kept := rfl
    omega
theorem give_room (l : LS) (y : Snt) : l.room - 1 ≤ ({ l with all := l.all ++ [y] } : LS).room := by
  have := least_grow l y
  simp only [LS.room, List.length_append, List.length_cons, List.length_nil] at *
  omega
theorem settle_least {l : LS} (g : l.Good) (h : 0 < l.flight) : (l.settle l.least 3).1 = l.put l.least { l.at' l.least with state := 3 } ∧ l.has l.least ∧ (l.at' l.least).state = 1 ∧ l.at' l.least ∈ l.all ∧ 1 ≤ (l.put l.least { l.at' l.least with state := 3 }).room := by
  have ha := fly_ahead h
  have hk : l.kept.length = l.all.length - l.low := by simp [LS.kept]
  have hh : l.has l.least := ⟨by have := l.low_least; omega, by unfold LS.least; omega⟩
  have e1 : ((l.least : Int)).toNat - l.low = LS.ahead l.kept := by unfold LS.least; omega
  obtain ⟨hk2, e2⟩ := LS.kept_at l hh
  have h1 : (l.at' l.least).state = 1 := by rw [← e2]; simp only [e1]; exact LS.ahead_at ha
  have hm : l.maySettle l.least 3 := ⟨hh, .inr ⟨rfl, h1⟩⟩
  refine ⟨by simp [LS.settle, hm], hh, h1, by rw [LS.at'_eq hh]; exact List.getElem_mem _, ?_⟩
  generalize hy : ({ l.at' l.least with state := 3 } : Snt) = y
  have hy3 : y.state ≠ 1 := by rw [← hy]; exact (show (3 : Int) ≠ 1 by decide)
  have hp := LS.put_kept l hh y
  rw [e1] at hp
  have h3 := ahead_set ha hy3
  have h4 : (l.put l.least y).least = l.low + LS.ahead (l.put l.least y).kept := by simp [LS.least, LS.low, LS.put]
  rw [← hp] at h3
  have h5 := l.room_ge
  have h6 : (l.put l.least y).all.length = l.all.length := by simp [LS.put]
  have h7 : (l.put l.least y).ring = l.ring := rfl
  simp only [LS.room, h4, h6, h7] at h5 ⊢
  have h8 : l.least = l.low + LS.ahead l.kept := rfl
  omega
theorem firstOf_ex {l : List Bool} {i : Nat} (h : l.getD i false = true) : QS.firstOf l < l.length := by
  have h1 := getD_len h
  rcases Nat.lt_or_ge i (QS.firstOf l) with h2 | h2
  · have := QS.firstOf_lt h2
    rw [h] at this
    exact absurd this (by decide)
  · omega
theorem run_more {l : List Bool} (h : QS.firstOf l < l.length) : QS.firstOf l < QS.runTo l (QS.firstOf l) := by
  have h1 := QS.runTo_le (Nat.le_of_lt h)
  rcases Nat.lt_or_ge (QS.firstOf l) (QS.runTo l (QS.firstOf l)) with h2 | h2
  · exact h2
  · have e : QS.runTo l (QS.firstOf l) = QS.firstOf l := by omega
    have h3 := QS.runTo_at (Nat.le_of_lt h)
    rw [e, QS.firstOf_at h] at h3
    exact absurd h3 (by decide)
theorem next_in {q : QS} (g : q.Good) {most : Int} {a z : Nat} (h : q.next most = some (a, z)) : a < z ∧ z ≤ q.b.length ∧ ((z - a : Nat) : Int) ≤ most ∧ a ≤ q.fresh := by
  have he := QS.ends_in g
  have hlo := g.lo
  have hr := QS.firstOf_le q.ow
  rw [QS.next_eq] at h
  by_cases h1 : most < 1
  · simp [h1] at h
  · by_cases h2 : q.ends.2 = q.ends.1
    · simp [h1, h2] at h
    · simp only [if_neg h1, if_neg h2, Option.some.injEq, Prod.mk.injEq] at h
      obtain ⟨rfl, rfl⟩ := h
      refine ⟨by omega, by omega, by omega, ?_⟩
      unfold QS.ends
      split
      · exact Nat.le_refl _
      · exact Nat.le_of_lt (g.ob _ (QS.firstOf_at (by omega))).1
theorem next_some {q : QS} (g : q.Good) {most : Int} (hm : 1 ≤ most) (h : (∃ i, q.ow.getD i false = true) ∨ q.fresh < q.b.length) : ∃ a z, q.next most = some (a, z) := by
  have he := QS.ends_in g
  rw [QS.next_eq, if_neg (by omega)]
  have hne : q.ends.2 ≠ q.ends.1 := by
    unfold QS.ends
    split
    · rename_i h1
      rcases h with ⟨i, h⟩ | h
      · have := firstOf_ex h
        omega
      · simp only
        omega
    · rename_i h1
      have := QS.firstOf_le q.ow
      have := run_more (l := q.ow) (by omega)
      simp only
      omega
  rw [if_neg hne]
  exact ⟨_, _, rfl⟩
namespace ES
/-- An engine to which nothing is acknowledged. -/
structure Nm (s : ES) : Prop where
  st : s.st = 1
  owed : s.owed = 0
  has : s.r.has = false
  tm : s.tm = 18446744073709551615
  ak : ∀ i, s.q.ak.getD i false = false
  cov : ∀ x ∈ s.l.all, x.state = 1 → 0 ≤ x.off ∧ x.off + x.len ≤ s.q.fresh
  tr : s.c.slo ≤ s.tr
  cw : s.c.lea ≤ s.w.cw
  pf : s.pf ≤ s.now
  ta : s.ta ≤ s.now
def J (s : ES) : Prop := s.q.fresh = 0 ∨ (∃ i, s.q.ow.getD i false = true) ∨ 0 < s.l.flight
/-- The next poll gives a number. -/
structure Ready (s : ES) : Prop where
  p : (∃ i, s.q.ow.getD i false = true) ∨ s.q.fresh < s.q.b.length
  w : s.pb = true ∨ s.l.flight + s.c.mss ≤ s.w.cw
  r : 1 ≤ s.l.room
  t : fullS s.c.mss ≤ fillT s.tk s.ta s.tr s.c.bur s.now
theorem Nm.over {s : ES} (h : s.Nm) : ¬ s.over := by unfold ES.over; have := h.st; omega
theorem nm_skip {s : ES} (h : s.Nm) (lg : s.l.Good) (hlim : s.l.limit = s.c.lim) (hr : 1 ≤ s.l.room) (hl : s.next ≤ s.c.lim) :
    s.skipped.Nm ∧ 1 ≤ s.skipped.l.room ∧ s.skipped.next ≤ s.c.lim ∧ s.next ≤ s.skipped.next ∧ s.skipped.q = s.q ∧ s.skipped.now = s.now ∧ s.skipped.c = s.c ∧ s.skipped.l.ring = s.l.ring ∧ s.skipped.l.limit = s.l.limit ∧ ∀ x ∈ s.skipped.l.all, x.state = 1 → 1 ≤ x.len ∧ x.len ≤ 1500 := by
  have hd : s.drawn.Nm := by
    obtain ⟨h1, h2, h3, h4, h5, h6, h7, h8, h9, h10⟩ := h
    exact ⟨h1, h2, h3, h4, h5, h6, h7, h8, h9, h10⟩
  unfold skipped
  split
  · rename_i hc
    have e : s.l.skip.1 = { s.l with all := s.l.all ++ [{ LS.skipped with pn := s.l.all.length }] } := by
      unfold LS.skip LS.give
      rw [if_neg (by rw [hlim]; have := hc.2.2; unfold ES.next at this; omega), if_neg (by omega)]
    have hgd := lg.skip.fly
    have hg := give_room s.l { LS.skipped with pn := s.l.all.length }
    rw [e] at hgd ⊢
    refine ⟨?_, by have := hc.2.1; exact Int.le_trans (by omega) hg, ?_, ?_, rfl, rfl, rfl, rfl, rfl, hgd⟩
    · obtain ⟨h1, h2, h3, h4, h5, h6, h7, h8, h9, h10⟩ := hd
      refine ⟨h1, h2, h3, h4, h5, fun x hx hs => ?_, h7, h8, h9, h10⟩
      rcases List.mem_append.1 hx with hx | hx
      · exact h6 x hx hs
      · simp only [List.mem_singleton] at hx
        subst hx
        exact absurd hs (show ¬ (4 : Int) = 1 by decide)
    · have := hc.2.2
      unfold ES.next at *
      simp
      omega
    · unfold ES.next
      simp
      omega
  · exact ⟨hd, hr, hl, Int.le_refl _, rfl, rfl, rfl, rfl, rfl, lg.fly⟩
theorem nm_sendP {s : ES} (h : s.Nm) (hrg : (s.l.ring : Int) = s.c.ring) (hlm : s.l.limit = s.c.lim) (r4 : 4 ≤ s.l.ring) (hfl : ∀ x ∈ s.l.all, x.state = 1 → 1 ≤ x.len ∧ x.len ≤ 1500) (qg : s.q.Good) (hf : s.q.b.length ≤ 1000000) (hr : 1 ≤ s.l.room) (hl : s.next ≤ s.c.lim) {a z : Nat} (ha : a < z) (hz : z ≤ s.q.b.length) (hm : ((z - a : Nat) : Int) ≤ 1500) (hfr : a ≤ s.q.fresh) :
    (s.sendP a z).Nm ∧ (s.sendP a z).J ∧ (s.sendP a z).next = s.next + 1 ∧ (s.sendP a z).now = s.now ∧ (s.sendP a z).c = s.c := by
  have hw : QS.within (a : Int) ((z - a : Nat) : Int) s.q.b.length ∧ (a : Int) ≤ s.q.fresh := ⟨⟨by omega, by omega, by omega⟩, by omega⟩
  have e : (s.l.send (s.snt a z)).1 = { s.l with all := s.l.all ++ [{ s.snt a z with state := 1, used := false, pn := s.l.all.length }] } := by
    unfold LS.send
    rw [if_neg (by simp only [snt]; omega)]
    unfold LS.give
    rw [if_neg (by rw [hlm]; unfold ES.next at hl; omega), if_neg (by omega)]
  have eq : (s.q.sent a ((z - a : Nat) : Int)).1 = { s.q with ow := paint false (a : Int).toNat ((a : Int) + ((z - a : Nat) : Int)).toNat s.q.ow, fresh := max s.q.fresh ((a : Int) + ((z - a : Nat) : Int)).toNat } := by
    unfold QS.sent
    rw [if_pos hw]
  have ez : ((a : Int) + ((z - a : Nat) : Int)).toNat = z := by omega
  rw [ez] at eq
  unfold sendP
  simp only [e, eq]
  refine ⟨?_, .inr (.inr ?_), by simp [ES.next], rfl, rfl⟩
  · obtain ⟨h1, h2, h3, h4, h5, h6, h7, h8, h9, h10⟩ := h
    refine ⟨h1, h2, h3, h4, h5, fun x hx hs => ?_, h7, h8, Int.le_refl _, h10⟩
    simp only at hx ⊢
    rcases List.mem_append.1 hx with hx | hx
    · have := h6 x hx hs
      omega
    · simp only [List.mem_singleton] at hx
      subst hx
      simp only [snt]
      omega
  · show 0 < LS.flight _
    unfold LS.flight
    refine fly_pos (x := { s.snt a z with state := 1, used := false, pn := s.l.all.length }) ?_ rfl ?_
    · unfold LS.kept
      rw [List.drop_append_of_le_length (by simp [LS.low]; omega)]
      simp
    · intro y hy hs
      have hy := List.mem_of_mem_drop hy
      rcases List.mem_append.1 hy with hy | hy
      · exact hfl y hy hs
      · simp only [List.mem_singleton] at hy
        subst hy
        simp only [snt]
        omega
theorem poll_eq {s : ES} (h : s.Nm) (now : Int) : s.poll now = match s.q.next s.c.mss with
  | none => (s.tick now, none, 10, 0)
  | some (a, z) =>
    if s.pb = false ∧ s.w.cw < s.l.flight + (z - a : Nat) then (s.tick now, none, 7, 0) else
    if s.c.lim < s.next then ({ s.tick now with st := 3 }, none, 8, 0) else
    if s.l.room < 1 then (s.tick now, none, 7, 0) else
    if fillT s.tk s.ta s.tr s.c.bur (max s.now now) < fullS (z - a : Nat) then (s.tick now, none, 7, 0) else
    ((({ s.tick now with tk := takeT s.tk s.ta s.tr s.c.bur (max s.now now) (z - a : Nat), ta := max s.ta (max s.now now) } : ES).skipped).sendP a z, some ((({ s.tick now with tk := takeT s.tk s.ta s.tr s.c.bur (max s.now now) (z - a : Nat), ta := max s.ta (max s.now now) } : ES).skipped).datOf a z), 0, 0) := by
  have h1 : ¬ (s.tick now).over := h.over
  have h2 : ¬ 0 < (s.tick now).owed := by show ¬ 0 < s.owed; rw [h.owed]; omega
  unfold poll
  simp only [if_neg h1, if_neg h2]
  rfl
theorem mulS_mono {a b k : Int} (hk : 0 ≤ k) (h : a ≤ b) : mulS a k ≤ mulS b k := by
  have := Int.mul_le_mul_of_nonneg_right h hk
  unfold mulS
  omega
theorem nm_poll {s : ES} (h : s.Nm) (g : s.Good) (lg : s.l.Good) (qg : s.q.Good) (hf : s.q.b.length ≤ 1000000) {now : Int} (hn : s.now ≤ now) :
    ((s.poll now).2.2.1 = 8 ∧ (s.poll now).1 = { s.tick now with st := 3 } ∧ s.c.lim < s.next) ∨
    ((s.poll now).2.2.1 = 0 ∧ (s.poll now).1.Nm ∧ (s.poll now).1.J ∧ s.next + 1 ≤ (s.poll now).1.next ∧ (s.poll now).1.now = now ∧ (s.poll now).1.c = s.c) ∨
    ((s.poll now).2.2.1 ≠ 0 ∧ (s.poll now).2.2.1 ≠ 8 ∧ (s.poll now).1 = s.tick now ∧ ¬ (s.tick now).Ready) := by
  have en : max s.now now = now := by omega
  have c := g.c
  have hm := c.mss
  rw [poll_eq h now]
  cases hq : s.q.next s.c.mss with
  | none =>
    refine .inr (.inr ⟨by simp, by simp, rfl, fun r => ?_⟩)
    obtain ⟨a, z, e⟩ := next_some qg hm.1 r.p
    rw [hq] at e
    exact absurd e (by simp)
  | some p =>
    obtain ⟨a, z⟩ := p
    obtain ⟨n1, n2, n3, n4⟩ := next_in qg hq
    simp only
    split
    · rename_i h1
      refine .inr (.inr ⟨by simp, by simp, rfl, fun r => ?_⟩)
      rcases r.w with e | e
      · have e : s.pb = true := e
        rw [h1.1] at e
        exact absurd e (by decide)
      · have e : s.l.flight + s.c.mss ≤ s.w.cw := e
        have := h1.2
        omega
    · split
      · exact .inl ⟨rfl, rfl, by assumption⟩
      · split
        · refine .inr (.inr ⟨by simp, by simp, rfl, fun r => ?_⟩)
          have := r.r
          have e : (s.tick now).l = s.l := rfl
          rw [e] at this
          omega
        · split
          · rename_i h4
            refine .inr (.inr ⟨by simp, by simp, rfl, fun r => ?_⟩)
            have e : fullS s.c.mss ≤ fillT s.tk s.ta s.tr s.c.bur (max s.now now) := r.t
            have : fullS ((z - a : Nat) : Int) ≤ fullS s.c.mss := mulS_mono (by omega) n3
            omega
          · rename_i h1 h2 h3 h4
            refine .inr (.inl ?_)
            obtain ⟨k1, k2, k3, k4, k5, k6, k7, k8, k9, k10⟩ := h
            have hN : ({ s.tick now with tk := takeT s.tk s.ta s.tr s.c.bur (max s.now now) (z - a : Nat), ta := max s.ta (max s.now now) } : ES).Nm := ⟨k1, k2, k3, k4, k5, k6, k7, k8, by show s.pf ≤ max s.now now; omega, by show max s.ta (max s.now now) ≤ max s.now now; omega⟩
            obtain ⟨u, hu⟩ : ∃ u : ES, u = { s.tick now with tk := takeT s.tk s.ta s.tr s.c.bur (max s.now now) (z - a : Nat), ta := max s.ta (max s.now now) } := ⟨_, rfl⟩
            have u1 : u.q = s.q := by rw [hu]; rfl
            have u2 : u.l = s.l := by rw [hu]; rfl
            have u3 : u.c = s.c := by rw [hu]; rfl
            have u4 : u.now = now := by rw [hu]; exact en
            have u5 : u.next = s.next := by unfold ES.next; rw [u2]
            rw [← hu] at hN ⊢
            clear hu
            have hD := nm_skip hN (by rw [u2]; exact lg) (by rw [u2, u3]; exact g.lim) (by rw [u2]; omega) (by rw [u5, u3]; omega)
            obtain ⟨d1, d2, d3, d4, d5, d6, d7, d8, d9, d10⟩ := hD
            obtain ⟨e1, e2, e3, e4, e5⟩ := nm_sendP d1 (by rw [d8, d7, u2, u3]; exact g.ring) (by rw [d9, d7, u2, u3]; exact g.lim) (by rw [d8, u2]; exact lg.ring4) d10 (by rw [d5, u1]; exact qg) (by rw [d5, u1]; exact hf) d2 (by rw [d7]; exact d3) n1 (by rw [d5, u1]; exact n2) (by omega) (by rw [d5, u1]; exact n4)
            exact ⟨rfl, e1, e2, by rw [e3]; omega, by rw [e4, d6, u4], by rw [e5, d7, u3]⟩
theorem nm_write {s : ES} (h : s.Nm) (hj : s.J) (qg : s.q.Good) (l : List Int) (hl : 1 ≤ l.length) :
    (s.write l).1.Nm ∧ (s.write l).1.J ∧ (s.Ready → (s.write l).1.Ready) ∧ 1 ≤ (s.write l).1.q.b.length ∧ (s.write l).1.l = s.l ∧ (s.write l).1.now = s.now ∧ (s.write l).1.c = s.c := by
  have e : (s.write l).1 = { s with q := (s.q.write l).1 } := by
    unfold write
    rw [if_neg (by rw [h.st]; decide)]
  rw [e]
  have h1 : (s.q.write l).1.fresh = s.q.fresh := rfl
  have h2 : ∀ i, s.q.ow.getD i false = true → (s.q.write l).1.ow.getD i false = true := fun i hi => by
    show (s.q.ow ++ List.replicate _ false).getD i false = true
    rw [getD_append_false]
    exact hi
  have h3 : s.q.b.length ≤ (s.q.write l).1.b.length := by simp [QS.write]
  refine ⟨⟨h.st, h.owed, h.has, h.tm, fun i => ?_, h.cov, h.tr, h.cw, h.pf, h.ta⟩, ?_, fun r => ⟨?_, r.w, r.r, r.t⟩, ?_, rfl, rfl, rfl⟩
  · show (s.q.ak ++ List.replicate _ false).getD i false = false
    rw [getD_append_false]
    exact h.ak i
  · rcases hj with hj | ⟨i, hi⟩ | hj
    · exact .inl hj
    · exact .inr (.inl ⟨i, h2 i hi⟩)
    · exact .inr (.inr hj)
  · rcases r.p with ⟨i, hi⟩ | hp
    · exact .inl ⟨i, h2 i hi⟩
    · exact .inr (by show (s.q.write l).1.fresh < (s.q.write l).1.b.length; omega)
  · rcases Nat.eq_zero_or_pos s.q.b.length with h0 | h0
    · have := qg.room1
      simp [QS.write, h0]
      omega
    · show 1 ≤ (s.q.write l).1.b.length
      omega
theorem fill_enough {tk ta tr bur mss slo now : Int} (h0 : 0 ≤ tk) (h1 : slo ≤ tr) (h2 : 1 ≤ slo) (h3 : mss ≤ bur) (hm : 1 ≤ mss ∧ mss ≤ 1500) (ht : ta + mss * 1000000 / slo + 1 ≤ now) : fullS mss ≤ fillT tk ta tr bur now := by
  have e := Int.mul_ediv_add_emod (mss * 1000000) slo
  have e2 := Int.emod_lt_of_pos (mss * 1000000) (show 0 < slo by omega)
  have e3 := Int.ediv_nonneg (show 0 ≤ mss * 1000000 by omega) (show 0 ≤ slo by omega)
  generalize mss * 1000000 / slo = q at *
  have a1 : slo * (q + 1) ≤ tr * (now - ta) := by
    have := Int.mul_le_mul h1 (show q + 1 ≤ now - ta by omega) (by omega) (by omega)
    exact this
  have a2 : slo * (q + 1) = slo * q + slo := by rw [Int.mul_add, Int.mul_one]
  have a3 : ssub now ta = now - ta := by unfold ssub; rw [if_neg (by omega)]
  unfold fillT fullS
  rw [a3]
  generalize hy : tr * (now - ta) = y at *
  generalize hM : mulS tr (now - ta) = M
  have hM2 : mss * 1000000 ≤ M ∨ M = 18446744073709551615 := by
    rw [← hM]
    unfold mulS
    omega
  unfold mulS sadd
  omega
theorem nm_tick {s : ES} (h : s.Nm) (hj : s.J) (g : s.Good) (lg : s.l.Good) (qg : s.q.Good) (hb : 1 ≤ s.q.b.length) {now : Int} (hn : now = s.now + s.c.cap + 1 + s.c.mss * 1000000 / s.c.slo) (hs : now ≤ 1000000000000000000) :
    (s.onTick now).Nm ∧ (s.onTick now).J ∧ (s.onTick now).Ready ∧ (s.onTick now).now = now ∧ (s.onTick now).next = s.next ∧ (s.onTick now).c = s.c := by
  have c := g.c
  have hcap := c.cap
  have hgr := c.gr
  have hsl := c.slo
  have hm := c.mss
  have hbur := c.bur
  have hlea := c.lea
  have hta := h.ta
  have hpf := h.pf
  have hq0 : 0 ≤ s.c.mss * 1000000 / s.c.slo := Int.ediv_nonneg (by omega) (by omega)
  have hnow := g.now
  have en : max s.now now = now := by omega
  have et : s.tick now = { s with now := now } := by unfold tick; rw [en]
  have hF : fullS s.c.mss ≤ fillT s.tk s.ta s.tr s.c.bur now := fill_enough g.tk.1 h.tr hsl.1 hbur.1 hm (by omega)
  have eo : s.onTick now = if due now (s.tick now).dead then (s.tick now).fired else s.tick now := by
    have d1 : due (s.tick now).now s.tm = false := by unfold due; rw [h.tm]; simp
    unfold onTick
    rw [if_neg h.over, d1, if_neg (by decide)]
    rw [et]
  rw [eo, et]
  by_cases hfl : 0 < s.l.flight
  · have hd : due now ({ s with now := now } : ES).dead = true := by
      have e : ({ s with now := now } : ES).dead = sadd s.pf (backS s.tmo s.pc s.c.cap) := by
        show deadS s.pc s.pf (decide (0 < s.l.flight)) s.tmo s.c.cap = _
        unfold deadS
        rw [decide_eq_true hfl]
        rfl
      rw [e]
      have : sadd s.pf (backS s.tmo s.pc s.c.cap) ≤ s.now + s.c.cap := by unfold sadd backS; omega
      unfold due
      simp only [Bool.and_eq_true, decide_eq_true_eq]
      constructor <;> omega
    rw [hd, if_pos rfl]
    obtain ⟨x1, hh, x2, x3, x4⟩ := settle_least lg hfl
    have hx := h.cov _ x3 x2
    have hx2 := lg.fly _ x3 x2
    have eg : (s.l.get s.l.least).1 = s.l.at' s.l.least := by unfold LS.get; rw [if_pos hh]
    have hfr := qg.fr
    have hlo := qg.lo
    generalize hX : s.l.at' s.l.least = X at *
    have ew : (s.q.lost X.off X.len).1 = { s.q with ow := owe s.q.ak X.off.toNat (X.off + X.len).toNat s.q.ow } := by
      unfold QS.lost
      rw [if_pos ⟨by omega, by omega, by omega⟩]
    have eow : (owe s.q.ak X.off.toNat (X.off + X.len).toNat s.q.ow).getD X.off.toNat false = true := by
      rw [owe_get _ _ _ _ _ (by omega), if_pos ⟨Nat.le_refl _, by omega, h.ak _⟩]
    have hV : ∃ v : ES, ({ s with now := now } : ES).fired = v.paced ∧ v.c = s.c ∧ v.now = now ∧ v.st = s.st ∧ v.owed = s.owed ∧ v.r = s.r ∧ v.tm = s.tm ∧ v.l = (s.l.settle s.l.least 3).1 ∧ v.q = (s.q.lost (s.l.get s.l.least).1.off (s.l.get s.l.least).1.len).1 ∧ v.tk = s.tk ∧ v.ta = s.ta ∧ v.tr = s.tr ∧ v.pf = now ∧ v.pb = true ∧ s.c.lea ≤ v.w.cw := by
      unfold fired
      simp only
      refine ⟨_, rfl, ?_⟩
      split
      · exact ⟨rfl, rfl, rfl, rfl, rfl, rfl, rfl, rfl, rfl, rfl, rfl, rfl, rfl, Int.le_refl _⟩
      · exact ⟨rfl, rfl, rfl, rfl, rfl, rfl, rfl, rfl, rfl, rfl, rfl, rfl, rfl, h.cw⟩
    obtain ⟨v, e0, e1, e2, e3, e4, e5, e6, e7, e8, e9, e10, e11, e12, e13, e14⟩ := hV
    rw [x1] at e7
    rw [eg, ew] at e8
    rw [e0]
    have f1 : v.paced.tk = fillT s.tk s.ta s.tr s.c.bur now := by show fillT v.tk v.ta v.tr v.c.bur v.now = _; rw [e9, e10, e11, e1, e2]
    have f2 : v.paced.ta = now := by show max v.ta v.now = _; rw [e10, e2]; omega
    have hov : ∃ i, v.paced.q.ow.getD i false = true := ⟨X.off.toNat, by show v.q.ow.getD _ false = true; rw [e8]; exact eow⟩
    refine ⟨⟨e3.trans h.st, e4.trans h.owed, by show v.r.has = false; rw [e5]; exact h.has, e6.trans h.tm, fun i => ?_, fun x hx hs => ?_, ?_, by show v.c.lea ≤ v.w.cw; rw [e1]; exact e14, by show v.pf ≤ v.now; rw [e12, e2]; exact Int.le_refl _, by rw [f2]; show now ≤ v.now; rw [e2]; exact Int.le_refl _⟩, .inr (.inl hov), ⟨.inl hov, .inl e13, by show 1 ≤ v.l.room; rw [e7]; exact x4, ?_⟩, e2, ?_, e1⟩
    · show v.q.ak.getD i false = false
      rw [e8]
      exact h.ak i
    · have hx : x ∈ v.l.all := hx
      rw [e7] at hx
      rcases List.mem_or_eq_of_mem_set hx with hx | rfl
      · have := h.cov x hx hs
        show _ ∧ _ ≤ (v.q.fresh : Int)
        rw [e8]
        exact this
      · exact absurd hs (show ¬ (3 : Int) = 1 by decide)
    · show v.c.slo ≤ min v.rate 4294967296
      rw [e1]
      have : s.c.slo ≤ v.rate := by
        unfold rate rateS
        rw [e1]
        omega
      omega
    · have f3 : v.paced.now = now := e2
      have f4 : v.paced.c = s.c := e1
      rw [f1, f2, f3, f4]
      have hz : ssub now now = 0 := by unfold ssub; split <;> omega
      have htk : fillT s.tk s.ta s.tr s.c.bur now ≤ fullS s.c.bur ∧ fillT s.tk s.ta s.tr s.c.bur now ≤ 18446744073709551615 := by
        unfold fillT sadd
        omega
      generalize fillT s.tk s.ta s.tr s.c.bur now = T at *
      unfold fillT
      rw [hz]
      unfold mulS sadd
      rw [Int.mul_zero]
      omega
    · unfold ES.next
      show (v.l.all.length : Int) = _
      rw [e7]
      simp [LS.put]
  · have hd : due now ({ s with now := now } : ES).dead = false := by
      have e : ({ s with now := now } : ES).dead = 18446744073709551615 := by
        show deadS s.pc s.pf (decide (0 < s.l.flight)) s.tmo s.c.cap = _
        unfold deadS
        rw [decide_eq_false hfl]
        rfl
      rw [e]
      unfold due
      simp
    rw [hd, if_neg (by decide)]
    have hz := LS.fly_nonneg lg.keptFly
    have hal := fly_none lg.keptFly hfl
    have hk : s.l.kept.length = s.l.all.length - s.l.low := by simp [LS.kept]
    have hll := s.l.low_le
    obtain ⟨k1, k2, k3, k4, k5, k6, k7, k8, k9, k10⟩ := h
    refine ⟨⟨k1, k2, k3, k4, k5, k6, k7, k8, by show s.pf ≤ now; omega, by show s.ta ≤ now; omega⟩, hj, ⟨?_, .inr ?_, ?_, hF⟩, rfl, rfl, rfl⟩
    · rcases hj with hj | hj | hj
      · exact .inr (by show s.q.fresh < s.q.b.length; omega)
      · exact .inl hj
      · exact absurd hj hfl
    · show s.l.flight + s.c.mss ≤ s.w.cw
      unfold LS.flight at *
      omega
    · show 1 ≤ s.l.room
      have := lg.ring4
      unfold LS.room LS.least
      omega
end ES
end Go.Proofs.YtpkbimmhimgamaaGreat
