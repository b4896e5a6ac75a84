/-
  Part of the proof of EngineNumbers.
-/
import Derived.Test.YtpkbimmhimgamaaGreatPAA
import Derived.Test.YtpkbimmhimgamaaGreatPAC
import Derived.Test.YtpkbimmhimgamaaGreatPAD
import Derived.Laws.BytesArg
import Derived.Laws.ResultCell
import Derived.StillTailTactics
import Derived.Test.YtpkbimmhimgamaaGreatPAB
import Derived.Deep.RegionLaw
import Derived.OneCell
import Derived.Deep.DeepCutAuto
import Derived.Laws.Closers25b
namespace Go.Proofs.YtpkbimmhimgamaaGreat
set_option linter.unusedSimpArgs false
set_option linter.unusedVariables false
set_option linter.unnecessarySimpa false
open Go.RowKit
theorem infoU64 : (Tryz.prog.info? 24).map (fun i => (i.zero, i.size, i.bytes)) = some (some (.int .u64 0), 1, 8) := by kernel_rfl

end Go.Proofs.YtpkbimmhimgamaaGreat
namespace Go.Proofs.YtpkbimmhimgamaaGreat
set_option linter.unusedSimpArgs false
set_option linter.unusedVariables false
set_option linter.unnecessarySimpa false
open Go.RowKit
def U8 (l : List Int) : List Value := l.map (Value.int .u8)
@[simp] theorem U8_length (l : List Int) : (U8 l).length = l.length := by simp [U8]
theorem U8_append (a b : List Int) : U8 (a ++ b) = U8 a ++ U8 b := by simp [U8]
theorem U8_one (l : List Int) : ∀ u ∈ U8 l, u.oneCell' = true := by
  intro u hu
  obtain ⟨x, _, rfl⟩ := List.mem_map.1 hu
  rfl
theorem infoByte : (Tryz.prog.info? 5).map (fun i => (i.zero, i.size, i.bytes)) = some (some (.int .u8 0), 1, 1) := by kernel_rfl
theorem infoSpan : (Tryz.prog.info? 209).map (fun i => (i.zero, i.size, i.bytes)) = some (some (.agg #[.int .u64 0, .int .u64 0]), 2, 16) := by kernel_rfl
theorem take_run {P : Program} {t : TypeId} {i : TypeInfo} {size : Nat} (ht : P.underlying t = some (.slice (P.elem t))) (hi : P.info? (P.elem t) = some i) (hsz : i.size = size) (A : Option Addr) (n c k : Nat) (hk : k ≤ c) :
    ∀ (kh : IntKind) (w : World), (Instr.slice t (.slice A n c) none (some (.int kh (k : Int))) none).run P w = .ok (.slice A k c) w := by
  intro kh w
  rw [run_slice_h w t A n c ht kh (k : Int) (by omega) (by omega)]
  cases A <;> simp [sizeOf, typeInfo, hi, hsz, sliced, Addr.add]
theorem Rd.take {w : World} {size : Nat} {A : Option Addr} {n c k : Nat} {xs : List Value} (h : Rd w size A n c xs) (hk : k ≤ n) : Rd w size A k c (xs.take (k * size)) := by
  have hl := h.len
  have hm : k * size ≤ n * size := Nat.mul_le_mul_right _ hk
  refine ⟨by rw [List.length_take]; omega, by have := h.cap; omega, h.max, fun hn => ?_⟩
  obtain ⟨b, off, e, hc⟩ := h.on_ (by omega)
  refine ⟨b, off, e, fun j u hu => hc j u ?_⟩
  rw [List.getElem?_take] at hu
  split at hu
  · exact hu
  · cases hu
theorem own_base2 {w : World} {base size : Nat} {e : TypeId} {n c : Nat} {A : Option Addr} {xs : List Value} (h : w.ownsRow base e size (.slice A n c) n xs) : ∀ b off, A = some ⟨b, off, none⟩ → 0 < n → base ≤ b := by
  intro b off ea hn
  obtain ⟨A', c', e', h'⟩ := own_slice h
  injection e' with e1 e2 e3
  obtain ⟨g, e4, h4⟩ := h' hn
  rw [ea, e4] at e1
  injection e1 with e1
  injection e1 with e1 e5
  omega
theorem piece_run {P : Program} {t : TypeId} {i : TypeInfo} {size : Nat} (ht : P.underlying t = some (.slice (P.elem t))) (hi : P.info? (P.elem t) = some i) (hsz : i.size = size) (A : Option Addr) (n c lo hi' : Nat) (h1 : lo ≤ hi') (h2 : hi' ≤ n) (h3 : n ≤ c) :
    ∃ A', (∀ (kl kh : IntKind) (w : World), (Instr.slice t (.slice A n c) (some (.int kl (lo : Int))) (some (.int kh (hi' : Int))) none).run P w = .ok (.slice A' (hi' - lo) (c - lo)) w) ∧
      (∀ w xs, Rd w size A n c xs → Rd w size A' (hi' - lo) (c - lo) ((xs.drop (lo * size)).take ((hi' - lo) * size))) := by
  refine ⟨_, fun kl kh w => ?_, fun w xs h => (h.cut (k := lo) (by omega)).take (by omega)⟩
  rw [run_slice_lh w t A n c ht kl kh (lo : Int) (hi' : Int) (by omega) (by omega) (by omega)]
  simp [sizeOf, typeInfo, hi, hsz, sliced]
theorem Rd.u8 {w : World} {A : Option Addr} {n c : Nat} {l : List Int} {k : Nat} (h : Rd w 1 A n c (U8 l)) (hk : k < n) (hl : k < l.length) :
    ∃ b off, A = some ⟨b, off, none⟩ ∧ w.cell? ⟨b, off + k, none⟩ = some (.int .u8 l[k]) := by
  obtain ⟨b, off, u, e, hx, hc⟩ := h.at_ hk
  have : (U8 l)[k]? = some (.int .u8 l[k]) := by simp [U8, hl]
  rw [this] at hx
  exact ⟨b, off, e, by rw [hc]; exact hx.symm⟩
/-- A string of the bytes of a row. -/
theorem conv_row {P : Program} {src dst e : TypeId} (hs : P.underlying src = some (.slice e)) (he : P.underlying e = some (.int .u8)) (hd : P.underlying dst = some .string) {w : World} {A : Option Addr} {c : Nat} {l : List Int} (h : Rd w 1 A l.length c (U8 l)) :
    (convert src dst (.slice A l.length c)).run P w = .ok (.string (strOfNums l)) w := by
  rcases Nat.eq_zero_or_pos l.length with h0 | h0
  · obtain rfl : l = [] := List.eq_nil_of_length_eq_zero h0
    cases A with
    | none => rw [run_convert_bytes_nil w src e hs he _ _ dst hd]; rfl
    | some a =>
      obtain ⟨b, off, el⟩ := a
      rw [run_convert_bytes_string w src dst e _ _ c hs he hd, run_bytesToString w _ _ c [] (by simpa using run_loadCells_list (P := P) w ⟨b, off, el⟩ [] (fun j v hj => by simp at hj))]
      rfl
  · obtain ⟨b, off, rfl, hk⟩ := h.on_ h0
    exact run_convert_bytes_arg w src e hs he b off _ c l rfl (fun i hi => hk i _ (by simp [U8, hi])) dst hd
theorem cut_run2 {P : Program} {t : TypeId} {i : TypeInfo} {size : Nat} (ht : P.underlying t = some (.slice (P.elem t))) (hi : P.info? (P.elem t) = some i) (hsz : i.size = size) (A : Option Addr) (n c k : Nat) (hk : k ≤ n) (hs : ∀ a, A = some a → a.spot = none) :
    ∃ A', (∀ (kl : IntKind) (w : World), (Instr.slice t (.slice A n c) (some (.int kl (k : Int))) none none).run P w = .ok (.slice A' (n - k) (c - k)) w) ∧
      (∀ w xs, Rd w size A n c xs → Rd w size A' (n - k) (c - k) (xs.drop (k * size))) ∧ (∀ b off, A' = some ⟨b, off, none⟩ → ∃ off', A = some ⟨b, off', none⟩) := by
  refine ⟨_, fun kl w => ?_, fun w xs h => h.cut hk, fun b off e => ?_⟩
  · rw [run_slice_l w t A n c ht kl (k : Int) (by omega) (by omega)]
    simp [sizeOf, typeInfo, hi, hsz, sliced]
  · split at e
    · exact ⟨off, e⟩
    · cases A with
      | none => simp at e
      | some a =>
        have h1 := hs a rfl
        obtain ⟨b', o', p'⟩ := a
        simp only at h1
        subst h1
        simp only [Option.map_some, Option.some.injEq, Addr.add] at e
        split at e <;> (simp only [Addr.mk.injEq] at e; exact ⟨o', by rw [e.1]⟩)
theorem results_cell_tmp_row {P : Program} {fn : Func} {p u : Tmp} {ty : TypeId} (h : fn.results = #[.cell p ty, .tmp u]) (tmps : Array Value) (w : World) (g : Nat) (t : TypeId) (cs : Array Value) (fr : Nat × Nat) (d : TypeDesc)
    (hp : tmps.getD p undef = .pointer (some ⟨g, 0, none⟩)) (hg : w.heap[g]? = some (.cells cs t fr))
    (hu : P.underlying ty = some d) (hd : (match d with | .struct _ | .array _ _ => true | _ => false) = true) (hi : (P.info? ty).map (·.size) = some cs.size) :
    (results fn tmps).run P w = .ok (.tuple #[.agg cs, tmps.getD u undef]) w := by
  rw [results_cell_tmp h, hp]
  simp [asAddr, run_loadVar_row w g t ty cs fr d hg hu hd hi]

end Go.Proofs.YtpkbimmhimgamaaGreat
namespace Go.Proofs.YtpkbimmhimgamaaGreat
set_option linter.unusedSimpArgs false
set_option linter.unusedVariables false
set_option linter.unnecessarySimpa false
open Go.RowKit
attribute [local go_sem ↓] run_min_int run_max_int
theorem U2s.lo {l : List Sp} (h : U2s l) : ∀ s ∈ l, 0 ≤ s.1 := fun s hs => (h s hs).1.1

end Go.Proofs.YtpkbimmhimgamaaGreat
namespace Go.Proofs.YtpkbimmhimgamaaGreat
set_option linter.unusedSimpArgs false
set_option linter.unusedVariables false
set_option linter.unnecessarySimpa false
open Go.RowKit
/-! One row within another. -/
def InB (s : Sp) (b : List Sp) : Prop := ∃ t ∈ b, t.1 ≤ s.1 ∧ s.2 ≤ t.2
def InsideP (a b : List Sp) : Prop := ∀ s ∈ a, InB s b
instance (s : Sp) (b : List Sp) : Decidable (InB s b) := by unfold InB; infer_instance
instance (a b : List Sp) : Decidable (InsideP a b) := by unfold InsideP; infer_instance
def InTo (a b : List Sp) (i : Nat) : Prop := ∀ j, (h : j < a.length) → j < i → InB a[j] b
theorem InTo.zero (a b : List Sp) : InTo a b 0 := fun j _ h => absurd h (by omega)
theorem InTo.step {a b : List Sp} {i : Nat} (h : InTo a b i) (hi : i < a.length) (h1 : InB a[i] b) : InTo a b (i + 1) := by
  intro j hj hji
  by_cases e : j = i
  · subst e; exact h1
  · exact h j hj (by omega)
theorem InTo.all {a b : List Sp} (h : InTo a b a.length) : decide (InsideP a b) = true := by
  rw [decide_eq_true_eq]
  intro s hs
  obtain ⟨i, hi, rfl⟩ := List.getElem_of_mem hs
  exact h i hi hi
/-- The first k of b lie below all of a from i on. -/
def Low (a b : List Sp) (i k : Nat) : Prop := ∀ j, (hj : j < b.length) → j < k → ∀ i', (hi : i' < a.length) → i ≤ i' → b[j].2 < a[i'].1
theorem Low.zero (a b : List Sp) (i : Nat) : Low a b i 0 := fun j _ h => absurd h (by omega)
theorem Low.step {a b : List Sp} {i k : Nat} (ha : Gd a) (h : Low a b i k) (hi : i < a.length) (hk : k < b.length) (h1 : b[k].2 < a[i].1) : Low a b i (k + 1) := by
  intro j hj hjk i' hi' hii
  by_cases e : j = k
  · subst e
    by_cases e2 : i' = i
    · subst e2; exact h1
    · have h2 := List.pairwise_iff_getElem.1 ha.2 i i' hi hi' (by omega)
      have h3 := (ha.1 _ (List.getElem_mem hi)).1
      omega
  · exact h j hj (by omega) i' hi' hii
end Go.Proofs.YtpkbimmhimgamaaGreat
namespace Go.Proofs.YtpkbimmhimgamaaGreat
set_option linter.unusedSimpArgs false
set_option linter.unusedVariables false
set_option linter.unnecessarySimpa false
open Go.RowKit
attribute [local go_sem ↓] run_min_int run_max_int
structure LedR (w : World) (F : Nat → Prop) (b : Nat) (s : LS) : Prop where
  good : s.Good
  ex : ∃ A c, w.heap[b]? = some (.cells #[.int .i64 s.ring, .int .u64 s.limit, .slice A s.all.length c] 232 (0, 0)) ∧
    w.ownsRow 0 91 8 (.slice A s.all.length c) s.all.length (Sns s.all) ∧ F b ∧ ∀ g, (Value.slice A s.all.length c).ownBlock = some g → F g ∧ g ≠ b

theorem LedR.qt {w w' : World} {F : Nat → Prop} {b : Nat} {s : LS} (h : LedR w F b s) (q : Qt w w') : LedR w' F b s := by
  obtain ⟨g, A, c, h1, h2, h3⟩ := h
  exact ⟨g, A, c, q.blk h1, q.own h2, h3⟩
theorem LedR.chg {w w' : World} {F G H : Nat → Prop} {b : Nat} {s : LS} (h : LedR w F b s) (q : Chg G w w') (hd : ∀ k, k < w.heap.size → F k → ¬ G k) (hs : ∀ k, k < w.heap.size → F k → H k) : LedR w' H b s := by
  obtain ⟨g, A, c, h1, h2, h3, h4⟩ := h
  have hb := (Array.getElem?_eq_some_iff.1 h1).1
  exact ⟨g, A, c, q.blk h1 (hd _ hb h3), own_chg h2 q (fun k hk => hd k (h2.lt k hk).2 (h4 k hk).1), hs b hb h3, fun k hk => ⟨hs k (h2.lt k hk).2 (h4 k hk).1, (h4 k hk).2⟩⟩
theorem LedR.below {w w' : World} {F : Nat → Prop} {b : Nat} {s : LS} (h : LedR w F b s) (q : Below w.heap.size w w') : LedR w' F b s :=
  h.chg (chg_below q (F := fun _ => False)) (fun _ _ _ h => h) (fun _ _ h => h)
theorem LedR.dn {w : World} {F : Nat → Prop} {b : Nat} {s : LS} (h : LedR w F b s) {k : Nat} : LedR (w.drewN k) F b s := h.qt ⟨k, rfl⟩
theorem LedR.cells {w : World} {F : Nat → Prop} {b : Nat} {s : LS} (h : LedR w F b s) : ∃ A c,
    Hid (w.heap[b]? = some (.cells #[.int .i64 s.ring, .int .u64 s.limit, .slice A s.all.length c] 232 (0, 0))) ∧
    w.cell? ⟨b, 0, none⟩ = some (.int .i64 s.ring) ∧ w.cell? ⟨b, 1, none⟩ = some (.int .u64 s.limit) ∧ w.cell? ⟨b, 2, none⟩ = some (.slice A s.all.length c) ∧
    w.ownsRow 0 91 8 (.slice A s.all.length c) s.all.length (Sns s.all) ∧ F b ∧ ∀ g, (Value.slice A s.all.length c).ownBlock = some g → F g ∧ g ≠ b := by
  obtain ⟨g, A, c, h1, h2, h3⟩ := h
  exact ⟨A, c, h1, cell_of_row w b 0 _ _ _ h1, cell_of_row w b 1 _ _ _ h1, cell_of_row w b 2 _ _ _ h1, h2, h3⟩

end Go.Proofs.YtpkbimmhimgamaaGreat
namespace Go.Proofs.YtpkbimmhimgamaaGreat
set_option linter.unusedSimpArgs false
set_option linter.unusedVariables false
set_option linter.unnecessarySimpa false
open Go.RowKit
/-- A reference's ledger whose row lies in block g. -/
structure LedRAt (w : World) (F : Nat → Prop) (b g c : Nat) (s : LS) : Prop where
  blk : w.heap[b]? = some (.cells #[.int .i64 s.ring, .int .u64 s.limit, .slice (some ⟨g, 0, none⟩) s.all.length c] 232 (0, 0))
  own : w.ownsRow 0 91 8 (.slice (some ⟨g, 0, none⟩) s.all.length c) s.all.length (Sns s.all)
  fb : F b
  fg : F g
  ne : g ≠ b
theorem LedR.open_ {w : World} {F : Nat → Prop} {b : Nat} {s : LS} (h : LedR w F b s) (hn : 0 < s.all.length) : ∃ g c, LedRAt w F b g c s := by
  obtain ⟨gd, A, c, h1, h2, h3, h4⟩ := h
  obtain ⟨A', c', e, hA⟩ := own_slice h2
  injection e with e1 _ e3
  subst e1
  subst e3
  obtain ⟨g, rfl, _⟩ := hA hn
  exact ⟨g, c, h1, h2, h3, (h4 g rfl).1, (h4 g rfl).2⟩
theorem LedRAt.shut {w : World} {F : Nat → Prop} {b g c : Nat} {s : LS} (h : LedRAt w F b g c s) (gd : s.Good) : LedR w F b s :=
  ⟨gd, _, c, h.blk, h.own, h.fb, fun k hk => by simp only [Value.ownBlock, Option.some.injEq] at hk; subst hk; exact ⟨h.fg, h.ne⟩⟩
theorem LedRAt.below {w w' : World} {F : Nat → Prop} {b g c : Nat} {s : LS} (h : LedRAt w F b g c s) (q : Below w.heap.size w w') : LedRAt w' F b g c s :=
  ⟨(q.block b (lt_of_block h.blk)).trans h.blk, own_chg h.own (chg_below q (F := fun _ => False)) (fun _ _ h => h), h.fb, h.fg, h.ne⟩
theorem LedRAt.put {w : World} {F : Nat → Prop} {b g c : Nat} {s : LS} (h : LedRAt w F b g c s) {pn : Int} (hp : s.has pn) {j : Nat} (hj : j < 8) {u : Value} {y : Snt} (hy : y.vals = (s.at' pn).vals.set j u) :
    LedRAt (w.setCell ⟨g, pn.toNat * 8 + j, none⟩ u) F b g c (s.put pn y) := by
  have hk := (LS.has_lt hp).1
  have e := LS.at'_eq hp
  have ha : (s.put pn y).all.length = s.all.length := by simp [LS.put]
  refine ⟨?_, ?_, h.fb, h.fg, h.ne⟩
  · rw [ha, heap_setCell_other _ _ _ _ (Ne.symm h.ne)]
    exact h.blk
  · rw [ha]
    have := (h.own.stored (pn.toNat * 8 + j) u).1
    rwa [show (Sns s.all).set (pn.toNat * 8 + j) u = Sns (s.all.set pn.toNat y) from flat_set _ 8 vals_len _ _ _ _ _ hk hj (by rw [← e]; exact hy)] at this
theorem LedRAt.cells {w : World} {F : Nat → Prop} {b g c : Nat} {s : LS} (h : LedRAt w F b g c s) {pn : Int} (hp : s.has pn) :
    w.cell? ⟨g, pn.toNat * 8, none⟩ = some (.int .u64 (s.at' pn).pn) ∧ w.cell? ⟨g, pn.toNat * 8 + 1, none⟩ = some (.int .u64 (s.at' pn).off) ∧
      w.cell? ⟨g, pn.toNat * 8 + 2, none⟩ = some (.int .u64 (s.at' pn).len) ∧ w.cell? ⟨g, pn.toNat * 8 + 3, none⟩ = some (.int .u64 (s.at' pn).nonce) ∧
      w.cell? ⟨g, pn.toNat * 8 + 4, none⟩ = some (.int .u64 (s.at' pn).at_) ∧ w.cell? ⟨g, pn.toNat * 8 + 5, none⟩ = some (.bool (s.at' pn).coin) ∧
      w.cell? ⟨g, pn.toNat * 8 + 6, none⟩ = some (.bool (s.at' pn).used) ∧ w.cell? ⟨g, pn.toNat * 8 + 7, none⟩ = some (.int .i64 (s.at' pn).state) := by
  have hk := (LS.has_lt hp).1
  have e := LS.at'_eq hp
  obtain ⟨bb, off, ea, d⟩ := (Rd.of_own h.own).snt hk
  injection ea with ea
  injection ea with e1 e2 _
  subst e1
  subst e2
  rw [e]
  simpa using d

end Go.Proofs.YtpkbimmhimgamaaGreat
namespace Go.Proofs.YtpkbimmhimgamaaGreat
set_option linter.unusedSimpArgs false
set_option linter.unusedVariables false
set_option linter.unnecessarySimpa false
open Go.RowKit
end Go.Proofs.YtpkbimmhimgamaaGreat
namespace Go.Proofs.YtpkbimmhimgamaaGreat
set_option linter.unusedSimpArgs false
set_option linter.unusedVariables false
set_option linter.unnecessarySimpa false
open Go.RowKit
end Go.Proofs.YtpkbimmhimgamaaGreat
namespace Go.Proofs.YtpkbimmhimgamaaGreat
set_option linter.unusedSimpArgs false
set_option linter.unusedVariables false
set_option linter.unnecessarySimpa false
open Go.RowKit
end Go.Proofs.YtpkbimmhimgamaaGreat
namespace Go.Proofs.YtpkbimmhimgamaaGreat
set_option linter.unusedSimpArgs false
set_option linter.unusedVariables false
set_option linter.unnecessarySimpa false
open Go.RowKit
theorem LedP.lt {w : World} {F : Nat → Prop} {b : Nat} {s : LS} (h : LedP w F b s) : b < w.heap.size := by
  obtain ⟨_, A, c, h1, _⟩ := h
  exact lt_of_block h1
theorem LedR.lt {w : World} {F : Nat → Prop} {b : Nat} {s : LS} (h : LedR w F b s) : b < w.heap.size := by
  obtain ⟨_, A, c, h1, _⟩ := h
  exact lt_of_block h1
theorem LedP.sub {w : World} {F G : Nat → Prop} {b : Nat} {s : LS} (h : LedP w F b s) (hs : ∀ k, k < w.heap.size → F k → G k) : LedP w G b s :=
  h.chg (Chg.refl (fun _ => False) w) (fun _ _ _ h => h) hs
theorem LedR.sub {w : World} {F G : Nat → Prop} {b : Nat} {s : LS} (h : LedR w F b s) (hs : ∀ k, k < w.heap.size → F k → G k) : LedR w G b s :=
  h.chg (Chg.refl (fun _ => False) w) (fun _ _ _ h => h) hs

/-- Both, in blocks of their own. -/
structure Pair (w : World) (G H : Nat → Prop) (p r : Nat) (s t : LS) : Prop where
  p : LedP w G p s
  r : LedR w H r t
  dj : ∀ k, G k → ¬ H k
theorem Pair.below {w w' : World} {G H : Nat → Prop} {p r : Nat} {s t : LS} (h : Pair w G H p r s t) (b : Below w.heap.size w w') : Pair w' G H p r s t :=
  ⟨h.p.below b, h.r.below b, h.dj⟩
theorem Pair.qt {w w' : World} {G H : Nat → Prop} {p r : Nat} {s t : LS} (h : Pair w G H p r s t) (b : Qt w w') : Pair w' G H p r s t := h.below b.below
/-- What else turns blocks of a third kind alone. -/
theorem Pair.chg {w w' : World} {F G H : Nat → Prop} {p r : Nat} {s t : LS} (h : Pair w G H p r s t) (b : Chg F w w') (h1 : ∀ k, G k → ¬ F k) (h2 : ∀ k, H k → ¬ F k) : Pair w' G H p r s t :=
  ⟨h.p.chg b (fun k _ => h1 k) (fun _ _ h => h), h.r.chg b (fun k _ => h2 k) (fun _ _ h => h), h.dj⟩
theorem Pair.movP {w w' : World} {G G' H : Nat → Prop} {p r : Nat} {s s' t : LS} (h : Pair w G H p r s t) (hP : LedP w' G' p s') (hG : ∀ k, G' k → Grow G w k) (hC : Chg G w w') :
    Pair w' G' (fun k => H k ∧ k < w.heap.size) p r s' t :=
  ⟨hP, h.r.chg hC (fun k _ hk hg => h.dj k hg hk) (fun k hk hh => ⟨hh, hk⟩), fun k hk hh => (hG k hk).elim (fun hg => h.dj k hg hh.1) (fun hs => by have := hh.2; omega)⟩
theorem Pair.movR {w w' : World} {G H H' : Nat → Prop} {p r : Nat} {s t t' : LS} (h : Pair w G H p r s t) (hR : LedR w' H' r t') (hH : ∀ k, H' k → Grow H w k) (hC : Chg H w w') :
    Pair w' (fun k => G k ∧ k < w.heap.size) H' p r s t' :=
  ⟨h.p.chg hC (fun k _ hk hg => h.dj k hk hg) (fun k hk hh => ⟨hh, hk⟩), hR, fun k hk hh => (hH k hh).elim (fun hg => h.dj k hk.1 hg) (fun hs => by have := hk.2; omega)⟩

def Two (w : World) (F : Nat → Prop) (p r : Nat) (s : LS) : Prop := ∃ G H, Pair w G H p r s s ∧ ∀ k, G k ∨ H k → F k ∧ k < w.heap.size
theorem Pair.shut {w : World} {F G H : Nat → Prop} {p r : Nat} {s : LS} (h : Pair w G H p r s s) (hF : ∀ k, k < w.heap.size → G k ∨ H k → F k) : Two w F p r s :=
  ⟨fun k => G k ∧ k < w.heap.size, fun k => H k ∧ k < w.heap.size, ⟨h.p.sub fun k hk hg => ⟨hg, hk⟩, h.r.sub fun k hk hg => ⟨hg, hk⟩, fun k hk hh => h.dj k hk.1 hh.1⟩,
   fun k hk => hk.elim (fun h => ⟨hF k h.2 (.inl h.1), h.2⟩) (fun h => ⟨hF k h.2 (.inr h.1), h.2⟩)⟩
theorem Two.below {w w' : World} {F : Nat → Prop} {p r : Nat} {s : LS} (h : Two w F p r s) (b : Below w.heap.size w w') : Two w' F p r s := by
  obtain ⟨G, H, hp, hF⟩ := h
  exact ⟨G, H, hp.below b, fun k hk => ⟨(hF k hk).1, Nat.lt_of_lt_of_le (hF k hk).2 b.size⟩⟩
theorem Two.chg {w w' : World} {F F' : Nat → Prop} {p r : Nat} {s : LS} (h : Two w F p r s) (b : Chg F' w w') (hd : ∀ k, k < w.heap.size → F k → ¬ F' k) : Two w' F p r s := by
  obtain ⟨G, H, hp, hF⟩ := h
  exact ⟨G, H, hp.chg b (fun k hk => hd k (hF k (.inl hk)).2 (hF k (.inl hk)).1) (fun k hk => hd k (hF k (.inr hk)).2 (hF k (.inr hk)).1), fun k hk => ⟨(hF k hk).1, Nat.lt_of_lt_of_le (hF k hk).2 b.size⟩⟩
theorem Two.sub {w : World} {F F' : Nat → Prop} {p r : Nat} {s : LS} (h : Two w F p r s) (hs : ∀ k, k < w.heap.size → F k → F' k) : Two w F' p r s := by
  obtain ⟨G, H, hp, hF⟩ := h
  exact ⟨G, H, hp, fun k hk => ⟨hs k (hF k hk).2 (hF k hk).1, (hF k hk).2⟩⟩
theorem Two.good {w : World} {F : Nat → Prop} {p r : Nat} {s : LS} (h : Two w F p r s) : s.Good := by
  obtain ⟨G, H, hp, -⟩ := h
  exact hp.p.good

end Go.Proofs.YtpkbimmhimgamaaGreat
namespace Go.Proofs.YtpkbimmhimgamaaGreat
set_option linter.unusedSimpArgs false
set_option linter.unusedVariables false
set_option linter.unnecessarySimpa false
open Go.RowKit
/-- An acknowledgment: where its two lists lie, what they hold, the other fields. -/
structure Ak where
  A : Option Addr
  c : Nat
  B : Option Addr
  d : Nat
  sp : List Sp
  mm : List Sp
  tr : Int
  xo : Int
  od : Bool
def Ak.cells (a : Ak) : Array Value := #[.slice a.A a.sp.length a.c, .slice a.B a.mm.length a.d, .int .u64 a.tr, .int .u64 a.xo, .bool a.od]
def Ak.val (a : Ak) : Value := .agg a.cells
structure AkR (w : World) (a : Ak) : Prop where
  rs : Rd w 2 a.A a.sp.length a.c (Ss a.sp)
  rm : Rd w 2 a.B a.mm.length a.d (Ss a.mm)
  us : U2s a.sp
  um : U2s a.mm
  ut : isU64 a.tr
  ux : isU64 a.xo
theorem AkR.below {w w' : World} {a : Ak} (h : AkR w a) (b : Below w.heap.size w w') : AkR w' a := ⟨h.rs.below b, h.rm.below b, h.us, h.um, h.ut, h.ux⟩
structure AkBox (w : World) (a : Ak) (g : Nat) (wr : World) : Prop where
  r : AkR wr a
  t : wr.heap[g]? = some (.cells a.cells 152 (0, 0))
  bel : Below w.heap.size w wr
theorem AkBox.below {w wr wr' : World} {a : Ak} {g : Nat} (h : AkBox w a g wr) (b : Below wr.heap.size wr wr') : AkBox w a g wr' :=
  ⟨h.r.below b, (b.block _ (lt_of_block h.t)).trans h.t, h.bel.trans (b.mono h.bel.size)⟩
theorem AkBox.of {w w1 : World} {a : Ak} (h : AkR w1 a) (b : Below w.heap.size w w1) : AkBox w a w1.heap.size (w1.alloc (.cells a.cells 152)) := by
  have eb := box_below w1 (.cells a.cells 152)
  exact ⟨h.below eb, heap_alloc_new w1 _, b.trans (eb.mono b.size)⟩

def MayP (sp mk : List Sp) : Prop := (1 ≤ sp.length ∧ sp.length ≤ 32 ∧ mk.length ≤ 32) ∧ Good sp ∧ Good mk ∧ InsideP mk sp
instance (sp mk : List Sp) : Decidable (MayP sp mk) := by unfold MayP; exact inferInstance
def mayB (sp mk : List Sp) : Bool := decide (MayP sp mk)
end Go.Proofs.YtpkbimmhimgamaaGreat
namespace Go.Proofs.YtpkbimmhimgamaaGreat
set_option linter.unusedSimpArgs false
set_option linter.unusedVariables false
set_option linter.unnecessarySimpa false
open Go.RowKit
namespace LS
/-- States are states, times are small. -/
def Small (s : LS) : Prop := ∀ x ∈ s.all, (1 ≤ x.state ∧ x.state ≤ 4) ∧ x.at_ < 5000
def Next (raw : Bool) (s s' : LS) : Prop := s'.ring = s.ring ∧ s'.limit = s.limit ∧ s.all.length ≤ s'.all.length ∧ s'.all.length ≤ s.all.length + 1 ∧ (raw = false → s.Small → s'.Small)
theorem Next.refl (raw : Bool) (s : LS) : Next raw s s := ⟨rfl, rfl, Nat.le_refl _, Nat.le_succ _, fun _ h => h⟩
theorem Small.at' {s : LS} (h : s.Small) {pn : Int} (hp : s.has pn) : (1 ≤ (s.at' pn).state ∧ (s.at' pn).state ≤ 4) ∧ (s.at' pn).at_ < 5000 := by
  rw [at'_eq hp]
  exact h _ (List.getElem_mem _)
end LS
theorem three_boxes (w : World) (o1 o2 o3 : Obj) (n : Nat) : ((((w.alloc o1).alloc o2).alloc o3).drewN n).heap[w.heap.size]? = some o1 ∧ ((((w.alloc o1).alloc o2).alloc o3).drewN n).heap[w.heap.size + 1]? = some o2 ∧
    ((((w.alloc o1).alloc o2).alloc o3).drewN n).heap[w.heap.size + 1 + 1]? = some o3 ∧ Below w.heap.size w ((((w.alloc o1).alloc o2).alloc o3).drewN n) := by
  have e1 := heap_alloc_new w o1
  have e2 := heap_alloc_new (w.alloc o1) o2
  have e3 := heap_alloc_new ((w.alloc o1).alloc o2) o3
  have s1 : (w.alloc o1).heap.size = w.heap.size + 1 := by simp
  have s2 : ((w.alloc o1).alloc o2).heap.size = w.heap.size + 2 := by simp
  rw [s1] at e2
  rw [s2] at e3
  refine ⟨?_, ?_, e3, ?_⟩
  · exact (Below.heap_alloc _ _ _ (by omega)).trans ((Below.heap_alloc _ _ _ (by omega)).trans e1)
  · exact (Below.heap_alloc _ _ _ (by omega)).trans e2
  · exact below_drewN (((Below.refl _ _).alloc (Nat.le_refl _) _ |>.alloc (by omega) _).alloc (by omega) _) _

end Go.Proofs.YtpkbimmhimgamaaGreat
namespace Go.Proofs.YtpkbimmhimgamaaGreat
set_option linter.unusedSimpArgs false
set_option linter.unusedVariables false
set_option linter.unnecessarySimpa false
open Go.RowKit
structure Dd where
  kind : Int
  a : Int
  b : Int
def Dd.vals (d : Dd) : List Value := [.int .i64 d.kind, .int .u64 d.a, .int .u64 d.b]
def Dd.ok (d : Dd) : Prop := isU64 d.a ∧ isU64 d.b
/-- The blocks behind w's, but one. -/
def But (w : World) (g : Nat) : Nat → Prop := fun j => w.heap.size ≤ j ∧ j ≠ g

end Go.Proofs.YtpkbimmhimgamaaGreat
namespace Go.Proofs.YtpkbimmhimgamaaGreat
set_option linter.unusedSimpArgs false
set_option linter.unusedVariables false
set_option linter.unnecessarySimpa false
open Go.RowKit
end Go.Proofs.YtpkbimmhimgamaaGreat
namespace Go.Proofs.YtpkbimmhimgamaaGreat
set_option linter.unusedSimpArgs false
set_option linter.unusedVariables false
set_option linter.unnecessarySimpa false
open Go.RowKit
def aSt : Nat → LS
  | 0 => LS.new 4 9
  | k + 1 => ((aSt k).send ⟨0, k, 5, 0, 0, false, false, 0⟩).1
def a5 : LS := ((aSt 4).send ⟨0, 0, 5, 0, 0, false, false, 0⟩).1
def a6 : LS := (a5.settle 0 2).1
def a7 : LS := a6.skip.1
def a8 : LS := (a7.use 1).1
def a9 : LS := (a8.use 1).1
def a10 : LS := (a9.use 4).1
end Go.Proofs.YtpkbimmhimgamaaGreat
namespace Go.Proofs.YtpkbimmhimgamaaGreat
set_option linter.unusedSimpArgs false
set_option linter.unusedVariables false
set_option linter.unnecessarySimpa false
open Go.RowKit
structure TellRel (w : World) (p r g k : Nat) (s : LS) (wr : World) : Prop where
  two : Two wr (But w g) p r s
  t : wr.heap[g]? = some (.cells #[.pointer (some ⟨p, 0, none⟩), .pointer (some ⟨r, 0, none⟩)] 101 (0, 0))
  bel : Below w.heap.size w wr
  len : s.all.length ≤ k
theorem TellRel.below {w wr wr' : World} {p r g k : Nat} {s : LS} (h : TellRel w p r g k s wr) (b : Below wr.heap.size wr wr') : TellRel w p r g k s wr' :=
  ⟨h.two.below b, (b.block _ (lt_of_block h.t)).trans h.t, h.bel.trans (b.mono h.bel.size), h.len⟩
theorem TellRel.did {w wr wr' : World} {p r g k : Nat} {s s' : LS} (h : TellRel w p r g k s wr) (hT : Two wr' (Grow (But w g) wr) p r s') (hC : Chg (But w g) wr wr') {raw : Bool} (hn : LS.Next raw s s') : TellRel w p r g (k + 1) s' wr' := by
  have hg := lt_of_block h.t
  refine ⟨hT.sub (fun j _ hj => ?_), hC.blk h.t (fun e => e.2 rfl), h.bel.trans (hC.below h.bel.size (fun j hj e => by have := e.1; omega)), by have := hn.2.2.2.1; have := h.len; omega⟩
  rcases hj with hj | hj
  · exact hj
  · have := h.bel.size
    exact ⟨by omega, by omega⟩

end Go.Proofs.YtpkbimmhimgamaaGreat
