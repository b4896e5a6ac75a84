/-
  Part of the proof of EngineRanges.
-/
import Derived.Test.YtpkbimmhimgamaaPAA
import Derived.Test.YtpkbimmhimgamaaPAC
import Derived.Test.YtpkbimmhimgamaaPAD
import Derived.Laws.BytesArg
import Derived.Laws.ResultCell
import Derived.StillTailTactics
import Derived.Test.YtpkbimmhimgamaaPAB
import Derived.Deep.RegionLaw
import Derived.OneCell
import Derived.Deep.DeepCutAuto
import Derived.Laws.Closers25b
import Derived.Test.YtpkbimmhimgamaaBit
import Derived.Lib.ItoaNum
import Derived.Laws.Bits64b
namespace Go.Proofs.Ytpkbimmhimgamaa
set_option linter.unusedSimpArgs false
set_option linter.unusedVariables false
set_option linter.unnecessarySimpa false
open Go.RowKit
theorem infoU64 : (Try.prog.info? 22).map (fun i => (i.zero, i.size, i.bytes)) = some (some (.int .u64 0), 1, 8) := by kernel_rfl

end Go.Proofs.Ytpkbimmhimgamaa
namespace Go.Proofs.Ytpkbimmhimgamaa
set_option linter.unusedSimpArgs false
set_option linter.unusedVariables false
set_option linter.unnecessarySimpa false
open Go.RowKit
def U8 (l : List Int) : List Value := l.map (Value.int .u8)
@[simp] theorem U8_length (l : List Int) : (U8 l).length = l.length := by simp [U8]
theorem U8_append (a b : List Int) : U8 (a ++ b) = U8 a ++ U8 b := by simp [U8]
theorem U8_one (l : List Int) : ∀ u ∈ U8 l, u.oneCell' = true := by
  intro u hu
  obtain ⟨x, _, rfl⟩ := List.mem_map.1 hu
  rfl
theorem infoByte : (Try.prog.info? 5).map (fun i => (i.zero, i.size, i.bytes)) = some (some (.int .u8 0), 1, 1) := by kernel_rfl
theorem infoSpan : (Try.prog.info? 142).map (fun i => (i.zero, i.size, i.bytes)) = some (some (.agg #[.int .u64 0, .int .u64 0]), 2, 16) := by kernel_rfl
theorem take_run {P : Program} {t : TypeId} {i : TypeInfo} {size : Nat} (ht : P.underlying t = some (.slice (P.elem t))) (hi : P.info? (P.elem t) = some i) (hsz : i.size = size) (A : Option Addr) (n c k : Nat) (hk : k ≤ c) :
    ∀ (kh : IntKind) (w : World), (Instr.slice t (.slice A n c) none (some (.int kh (k : Int))) none).run P w = .ok (.slice A k c) w := by
  intro kh w
  rw [run_slice_h w t A n c ht kh (k : Int) (by omega) (by omega)]
  cases A <;> simp [sizeOf, typeInfo, hi, hsz, sliced, Addr.add]
theorem Rd.take {w : World} {size : Nat} {A : Option Addr} {n c k : Nat} {xs : List Value} (h : Rd w size A n c xs) (hk : k ≤ n) : Rd w size A k c (xs.take (k * size)) := by
  have hl := h.len
  have hm : k * size ≤ n * size := Nat.mul_le_mul_right _ hk
  refine ⟨by rw [List.length_take]; omega, by have := h.cap; omega, h.max, fun hn => ?_⟩
  obtain ⟨b, off, e, hc⟩ := h.on_ (by omega)
  refine ⟨b, off, e, fun j u hu => hc j u ?_⟩
  rw [List.getElem?_take] at hu
  split at hu
  · exact hu
  · cases hu
theorem own_base2 {w : World} {base size : Nat} {e : TypeId} {n c : Nat} {A : Option Addr} {xs : List Value} (h : w.ownsRow base e size (.slice A n c) n xs) : ∀ b off, A = some ⟨b, off, none⟩ → 0 < n → base ≤ b := by
  intro b off ea hn
  obtain ⟨A', c', e', h'⟩ := own_slice h
  injection e' with e1 e2 e3
  obtain ⟨g, e4, h4⟩ := h' hn
  rw [ea, e4] at e1
  injection e1 with e1
  injection e1 with e1 e5
  omega
theorem piece_run {P : Program} {t : TypeId} {i : TypeInfo} {size : Nat} (ht : P.underlying t = some (.slice (P.elem t))) (hi : P.info? (P.elem t) = some i) (hsz : i.size = size) (A : Option Addr) (n c lo hi' : Nat) (h1 : lo ≤ hi') (h2 : hi' ≤ n) (h3 : n ≤ c) :
    ∃ A', (∀ (kl kh : IntKind) (w : World), (Instr.slice t (.slice A n c) (some (.int kl (lo : Int))) (some (.int kh (hi' : Int))) none).run P w = .ok (.slice A' (hi' - lo) (c - lo)) w) ∧
      (∀ w xs, Rd w size A n c xs → Rd w size A' (hi' - lo) (c - lo) ((xs.drop (lo * size)).take ((hi' - lo) * size))) := by
  refine ⟨_, fun kl kh w => ?_, fun w xs h => (h.cut (k := lo) (by omega)).take (by omega)⟩
  rw [run_slice_lh w t A n c ht kl kh (lo : Int) (hi' : Int) (by omega) (by omega) (by omega)]
  simp [sizeOf, typeInfo, hi, hsz, sliced]
theorem Rd.u8 {w : World} {A : Option Addr} {n c : Nat} {l : List Int} {k : Nat} (h : Rd w 1 A n c (U8 l)) (hk : k < n) (hl : k < l.length) :
    ∃ b off, A = some ⟨b, off, none⟩ ∧ w.cell? ⟨b, off + k, none⟩ = some (.int .u8 l[k]) := by
  obtain ⟨b, off, u, e, hx, hc⟩ := h.at_ hk
  have : (U8 l)[k]? = some (.int .u8 l[k]) := by simp [U8, hl]
  rw [this] at hx
  exact ⟨b, off, e, by rw [hc]; exact hx.symm⟩
/-- A string of the bytes of a row. -/
theorem conv_row {P : Program} {src dst e : TypeId} (hs : P.underlying src = some (.slice e)) (he : P.underlying e = some (.int .u8)) (hd : P.underlying dst = some .string) {w : World} {A : Option Addr} {c : Nat} {l : List Int} (h : Rd w 1 A l.length c (U8 l)) :
    (convert src dst (.slice A l.length c)).run P w = .ok (.string (strOfNums l)) w := by
  rcases Nat.eq_zero_or_pos l.length with h0 | h0
  · obtain rfl : l = [] := List.eq_nil_of_length_eq_zero h0
    cases A with
    | none => rw [run_convert_bytes_nil w src e hs he _ _ dst hd]; rfl
    | some a =>
      obtain ⟨b, off, el⟩ := a
      rw [run_convert_bytes_string w src dst e _ _ c hs he hd, run_bytesToString w _ _ c [] (by simpa using run_loadCells_list (P := P) w ⟨b, off, el⟩ [] (fun j v hj => by simp at hj))]
      rfl
  · obtain ⟨b, off, rfl, hk⟩ := h.on_ h0
    exact run_convert_bytes_arg w src e hs he b off _ c l rfl (fun i hi => hk i _ (by simp [U8, hi])) dst hd
theorem cut_run2 {P : Program} {t : TypeId} {i : TypeInfo} {size : Nat} (ht : P.underlying t = some (.slice (P.elem t))) (hi : P.info? (P.elem t) = some i) (hsz : i.size = size) (A : Option Addr) (n c k : Nat) (hk : k ≤ n) (hs : ∀ a, A = some a → a.spot = none) :
    ∃ A', (∀ (kl : IntKind) (w : World), (Instr.slice t (.slice A n c) (some (.int kl (k : Int))) none none).run P w = .ok (.slice A' (n - k) (c - k)) w) ∧
      (∀ w xs, Rd w size A n c xs → Rd w size A' (n - k) (c - k) (xs.drop (k * size))) ∧ (∀ b off, A' = some ⟨b, off, none⟩ → ∃ off', A = some ⟨b, off', none⟩) := by
  refine ⟨_, fun kl w => ?_, fun w xs h => h.cut hk, fun b off e => ?_⟩
  · rw [run_slice_l w t A n c ht kl (k : Int) (by omega) (by omega)]
    simp [sizeOf, typeInfo, hi, hsz, sliced]
  · split at e
    · exact ⟨off, e⟩
    · cases A with
      | none => simp at e
      | some a =>
        have h1 := hs a rfl
        obtain ⟨b', o', p'⟩ := a
        simp only at h1
        subst h1
        simp only [Option.map_some, Option.some.injEq, Addr.add] at e
        split at e <;> (simp only [Addr.mk.injEq] at e; exact ⟨o', by rw [e.1]⟩)
theorem results_cell_tmp_row {P : Program} {fn : Func} {p u : Tmp} {ty : TypeId} (h : fn.results = #[.cell p ty, .tmp u]) (tmps : Array Value) (w : World) (g : Nat) (t : TypeId) (cs : Array Value) (fr : Nat × Nat) (d : TypeDesc)
    (hp : tmps.getD p undef = .pointer (some ⟨g, 0, none⟩)) (hg : w.heap[g]? = some (.cells cs t fr))
    (hu : P.underlying ty = some d) (hd : (match d with | .struct _ | .array _ _ => true | _ => false) = true) (hi : (P.info? ty).map (·.size) = some cs.size) :
    (results fn tmps).run P w = .ok (.tuple #[.agg cs, tmps.getD u undef]) w := by
  rw [results_cell_tmp h, hp]
  simp [asAddr, run_loadVar_row w g t ty cs fr d hg hu hd hi]

end Go.Proofs.Ytpkbimmhimgamaa
namespace Go.Proofs.Ytpkbimmhimgamaa
set_option linter.unusedSimpArgs false
set_option linter.unusedVariables false
set_option linter.unnecessarySimpa false
open Go.RowKit
attribute [local go_sem ↓] run_min_int run_max_int
theorem U2s.lo {l : List Sp} (h : U2s l) : ∀ s ∈ l, 0 ≤ s.1 := fun s hs => (h s hs).1.1

end Go.Proofs.Ytpkbimmhimgamaa
namespace Go.Proofs.Ytpkbimmhimgamaa
set_option linter.unusedSimpArgs false
set_option linter.unusedVariables false
set_option linter.unnecessarySimpa false
open Go.RowKit
/-! One row within another. -/
def InB (s : Sp) (b : List Sp) : Prop := ∃ t ∈ b, t.1 ≤ s.1 ∧ s.2 ≤ t.2
def InsideP (a b : List Sp) : Prop := ∀ s ∈ a, InB s b
instance (s : Sp) (b : List Sp) : Decidable (InB s b) := by unfold InB; infer_instance
instance (a b : List Sp) : Decidable (InsideP a b) := by unfold InsideP; infer_instance
def InTo (a b : List Sp) (i : Nat) : Prop := ∀ j, (h : j < a.length) → j < i → InB a[j] b
theorem InTo.zero (a b : List Sp) : InTo a b 0 := fun j _ h => absurd h (by omega)
theorem InTo.step {a b : List Sp} {i : Nat} (h : InTo a b i) (hi : i < a.length) (h1 : InB a[i] b) : InTo a b (i + 1) := by
  intro j hj hji
  by_cases e : j = i
  · subst e; exact h1
  · exact h j hj (by omega)
theorem InTo.all {a b : List Sp} (h : InTo a b a.length) : decide (InsideP a b) = true := by
  rw [decide_eq_true_eq]
  intro s hs
  obtain ⟨i, hi, rfl⟩ := List.getElem_of_mem hs
  exact h i hi hi
/-- The first k of b lie below all of a from i on. -/
def Low (a b : List Sp) (i k : Nat) : Prop := ∀ j, (hj : j < b.length) → j < k → ∀ i', (hi : i' < a.length) → i ≤ i' → b[j].2 < a[i'].1
theorem Low.zero (a b : List Sp) (i : Nat) : Low a b i 0 := fun j _ h => absurd h (by omega)
theorem Low.step {a b : List Sp} {i k : Nat} (ha : Gd a) (h : Low a b i k) (hi : i < a.length) (hk : k < b.length) (h1 : b[k].2 < a[i].1) : Low a b i (k + 1) := by
  intro j hj hjk i' hi' hii
  by_cases e : j = k
  · subst e
    by_cases e2 : i' = i
    · subst e2; exact h1
    · have h2 := List.pairwise_iff_getElem.1 ha.2 i i' hi hi' (by omega)
      have h3 := (ha.1 _ (List.getElem_mem hi)).1
      omega
  · exact h j hj (by omega) i' hi' hii
end Go.Proofs.Ytpkbimmhimgamaa
namespace Go.Proofs.Ytpkbimmhimgamaa
set_option linter.unusedSimpArgs false
set_option linter.unusedVariables false
set_option linter.unnecessarySimpa false
open Go.RowKit
end Go.Proofs.Ytpkbimmhimgamaa
namespace Go.Proofs.Ytpkbimmhimgamaa
set_option linter.unusedSimpArgs false
set_option linter.unusedVariables false
set_option linter.unnecessarySimpa false
open Go.RowKit
end Go.Proofs.Ytpkbimmhimgamaa
namespace Go.Proofs.Ytpkbimmhimgamaa
set_option linter.unusedSimpArgs false
set_option linter.unusedVariables false
set_option linter.unnecessarySimpa false
open Go.RowKit
end Go.Proofs.Ytpkbimmhimgamaa
namespace Go.Proofs.Ytpkbimmhimgamaa
set_option linter.unusedSimpArgs false
set_option linter.unusedVariables false
set_option linter.unnecessarySimpa false
open Go.RowKit
end Go.Proofs.Ytpkbimmhimgamaa
namespace Go.Proofs.Ytpkbimmhimgamaa
set_option linter.unusedSimpArgs false
set_option linter.unusedVariables false
set_option linter.unnecessarySimpa false
open Go.RowKit
end Go.Proofs.Ytpkbimmhimgamaa
namespace Go.Proofs.Ytpkbimmhimgamaa
set_option linter.unusedSimpArgs false
set_option linter.unusedVariables false
set_option linter.unnecessarySimpa false
open Go.RowKit
theorem LedP.lt {w : World} {F : Nat → Prop} {b : Nat} {s : LS} (h : LedP w F b s) : b < w.heap.size := by
  obtain ⟨_, A, c, h1, _⟩ := h
  exact lt_of_block h1
theorem LedP.sub {w : World} {F G : Nat → Prop} {b : Nat} {s : LS} (h : LedP w F b s) (hs : ∀ k, k < w.heap.size → F k → G k) : LedP w G b s :=
  h.chg (Chg.refl (fun _ => False) w) (fun _ _ _ h => h) hs
end Go.Proofs.Ytpkbimmhimgamaa
namespace Go.Proofs.Ytpkbimmhimgamaa
set_option linter.unusedSimpArgs false
set_option linter.unusedVariables false
set_option linter.unnecessarySimpa false
open Go.RowKit
/-- An acknowledgment: where its two lists lie, what they hold, the other fields. -/
structure Ak where
  A : Option Addr
  c : Nat
  B : Option Addr
  d : Nat
  sp : List Sp
  mm : List Sp
  tr : Int
  xo : Int
  od : Bool
def Ak.cells (a : Ak) : Array Value := #[.slice a.A a.sp.length a.c, .slice a.B a.mm.length a.d, .int .u64 a.tr, .int .u64 a.xo, .bool a.od]
def Ak.val (a : Ak) : Value := .agg a.cells
structure AkR (w : World) (a : Ak) : Prop where
  rs : Rd w 2 a.A a.sp.length a.c (Ss a.sp)
  rm : Rd w 2 a.B a.mm.length a.d (Ss a.mm)
  us : U2s a.sp
  um : U2s a.mm
  ut : isU64 a.tr
  ux : isU64 a.xo
theorem AkR.below {w w' : World} {a : Ak} (h : AkR w a) (b : Below w.heap.size w w') : AkR w' a := ⟨h.rs.below b, h.rm.below b, h.us, h.um, h.ut, h.ux⟩
structure AkBox (w : World) (a : Ak) (g : Nat) (wr : World) : Prop where
  r : AkR wr a
  t : wr.heap[g]? = some (.cells a.cells 106 (0, 0))
  bel : Below w.heap.size w wr
theorem AkBox.below {w wr wr' : World} {a : Ak} {g : Nat} (h : AkBox w a g wr) (b : Below wr.heap.size wr wr') : AkBox w a g wr' :=
  ⟨h.r.below b, (b.block _ (lt_of_block h.t)).trans h.t, h.bel.trans (b.mono h.bel.size)⟩
theorem AkBox.of {w w1 : World} {a : Ak} (h : AkR w1 a) (b : Below w.heap.size w w1) : AkBox w a w1.heap.size (w1.alloc (.cells a.cells 106)) := by
  have eb := box_below w1 (.cells a.cells 106)
  exact ⟨h.below eb, heap_alloc_new w1 _, b.trans (eb.mono b.size)⟩

def MayP (sp mk : List Sp) : Prop := (1 ≤ sp.length ∧ sp.length ≤ 32 ∧ mk.length ≤ 32) ∧ Good sp ∧ Good mk ∧ InsideP mk sp
instance (sp mk : List Sp) : Decidable (MayP sp mk) := by unfold MayP; exact inferInstance
def mayB (sp mk : List Sp) : Bool := decide (MayP sp mk)
end Go.Proofs.Ytpkbimmhimgamaa
namespace Go.Proofs.Ytpkbimmhimgamaa
set_option linter.unusedSimpArgs false
set_option linter.unusedVariables false
set_option linter.unnecessarySimpa false
open Go.RowKit
namespace LS
/-- States are states, times are small. -/
def Small (s : LS) : Prop := ∀ x ∈ s.all, (1 ≤ x.state ∧ x.state ≤ 4) ∧ x.at_ < 5000
def Next (raw : Bool) (s s' : LS) : Prop := s'.ring = s.ring ∧ s'.limit = s.limit ∧ s.all.length ≤ s'.all.length ∧ s'.all.length ≤ s.all.length + 1 ∧ (raw = false → s.Small → s'.Small)
theorem Next.refl (raw : Bool) (s : LS) : Next raw s s := ⟨rfl, rfl, Nat.le_refl _, Nat.le_succ _, fun _ h => h⟩
theorem Small.at' {s : LS} (h : s.Small) {pn : Int} (hp : s.has pn) : (1 ≤ (s.at' pn).state ∧ (s.at' pn).state ≤ 4) ∧ (s.at' pn).at_ < 5000 := by
  rw [at'_eq hp]
  exact h _ (List.getElem_mem _)
end LS
end Go.Proofs.Ytpkbimmhimgamaa
namespace Go.Proofs.Ytpkbimmhimgamaa
set_option linter.unusedSimpArgs false
set_option linter.unusedVariables false
set_option linter.unnecessarySimpa false
open Go.RowKit
structure Dd where
  kind : Int
  a : Int
  b : Int
def Dd.vals (d : Dd) : List Value := [.int .i64 d.kind, .int .u64 d.a, .int .u64 d.b]
def Dd.ok (d : Dd) : Prop := isU64 d.a ∧ isU64 d.b
end Go.Proofs.Ytpkbimmhimgamaa
namespace Go.Proofs.Ytpkbimmhimgamaa
set_option linter.unusedSimpArgs false
set_option linter.unusedVariables false
set_option linter.unnecessarySimpa false
open Go.RowKit
end Go.Proofs.Ytpkbimmhimgamaa
namespace Go.Proofs.Ytpkbimmhimgamaa
set_option linter.unusedSimpArgs false
set_option linter.unusedVariables false
set_option linter.unnecessarySimpa false
open Go.RowKit
def aSt : Nat → LS
  | 0 => LS.new 4 9
  | k + 1 => ((aSt k).send ⟨0, k, 5, 0, 0, false, false, 0⟩).1
def a5 : LS := ((aSt 4).send ⟨0, 0, 5, 0, 0, false, false, 0⟩).1
def a6 : LS := (a5.settle 0 2).1
def a7 : LS := a6.skip.1
def a8 : LS := (a7.use 1).1
def a9 : LS := (a8.use 1).1
def a10 : LS := (a9.use 4).1
end Go.Proofs.Ytpkbimmhimgamaa
namespace Go.Proofs.Ytpkbimmhimgamaa
set_option linter.unusedSimpArgs false
set_option linter.unusedVariables false
set_option linter.unnecessarySimpa false
open Go.RowKit
end Go.Proofs.Ytpkbimmhimgamaa
namespace Go.Proofs.Ytpkbimmhimgamaa
set_option linter.unusedSimpArgs false
set_option linter.unusedVariables false
set_option linter.unnecessarySimpa false
open Go.RowKit
def Ak.named (a : Ak) (x : Snt) : Bool := !decide (x.state = 4) && !x.used && decide (x.nonce = a.tr) && hasP a.sp x.pn
def Ak.look1 (a : Ak) (l : List Snt) : Int × Int := match l with
  | [] => (0, 3)
  | x :: r => if a.named x = true then (x.pn, 0) else a.look1 r
def Ak.lo (a : Ak) : Int := (a.sp.headD (0, 0)).1
def Ak.look (a : Ak) (s : LS) : Int × Int := if mayB a.sp a.mm = false then (0, 1) else if a.lo < s.low then (0, 2) else a.look1 s.kept
structure LookRel (w : World) (a : Ak) (g : Nat) (A : Option Addr) (c : Nat) (l : List Snt) (k : Nat) (r : Int × Int) (wr : World) : Prop where
  p : AkBox w a g wr
  all : Rd wr 8 A l.length c (Sns l)
  res : r = a.look1 (l.drop k)
theorem LookRel.below {w wr wr' : World} {a : Ak} {g c k : Nat} {A : Option Addr} {l : List Snt} {r : Int × Int} (h : LookRel w a g A c l k r wr) (b : Below wr.heap.size wr wr') : LookRel w a g A c l k r wr' :=
  ⟨h.p.below b, h.all.below b, h.res⟩

end Go.Proofs.Ytpkbimmhimgamaa
namespace Go.Proofs.Ytpkbimmhimgamaa
set_option linter.unusedSimpArgs false
set_option linter.unusedVariables false
set_option linter.unnecessarySimpa false
open Go.RowKit
end Go.Proofs.Ytpkbimmhimgamaa
namespace Go.Proofs.Ytpkbimmhimgamaa
set_option linter.unusedSimpArgs false
set_option linter.unusedVariables false
set_option linter.unnecessarySimpa false
open Go.RowKit
theorem Ak.look1_spec (a : Ak) (l : List Snt) : (a.look1 l = (0, 3) ∧ ∀ x ∈ l, a.named x = false) ∨
    ∃ i, ∃ h : i < l.length, a.named l[i] = true ∧ (∀ j, (hj : j < i) → a.named (l[j]'(Nat.lt_trans hj h)) = false) ∧ a.look1 l = (l[i].pn, 0) := by
  induction l with
  | nil => exact .inl ⟨rfl, fun x hx => by cases hx⟩
  | cons x r ih =>
    by_cases hx : a.named x = true
    · exact .inr ⟨0, by simp, hx, fun j hj => absurd hj (by omega), by simp [Ak.look1, hx]⟩
    · rcases ih with ⟨h1, h2⟩ | ⟨i, h, h1, h2, h3⟩
      · refine .inl ⟨by simp [Ak.look1, hx, h1], fun y hy => ?_⟩
        rcases List.mem_cons.1 hy with rfl | hy
        · simpa using hx
        · exact h2 y hy
      · refine .inr ⟨i + 1, by simpa using h, by simpa using h1, fun j hj => ?_, by simp [Ak.look1, hx, h3]⟩
        cases j with
        | zero => simpa using hx
        | succ j => simpa using h2 j (by omega)

theorem Ak.look_low_ne (a : Ak) {s : LS} (h : (a.look s).2 = 0) : ¬ a.lo < s.low := by
  unfold Ak.look at h
  split at h
  · cases h
  · split at h
    · cases h
    · assumption

/-- What is named is there. -/
theorem Ak.look_there (a : Ak) {s : LS} (g : s.Good) (h : (a.look s).2 = 0) :
    s.has (a.look s).1 ∧ a.named (s.at' (a.look s).1) = true ∧ ∀ x ∈ s.kept, x.pn < (a.look s).1 → a.named x = false := by
  unfold Ak.look at h ⊢
  split at h
  · cases h
  · rename_i h1
    split at h
    · cases h
    · rename_i h2
      rw [if_neg h1, if_neg h2]
      rcases a.look1_spec s.kept with ⟨h3, -⟩ | ⟨i, hi, h3, h4, h5⟩
      · rw [h3] at h; cases h
      · rw [h5]
        have e := g.keptPn hi
        have hl : s.low + i < s.all.length := by simp [LS.kept] at hi; omega
        have hh : s.has s.kept[i].pn := by rw [e]; exact ⟨by omega, by omega⟩
        refine ⟨hh, ?_, fun x hx hlt => ?_⟩
        · rw [LS.at'_eq hh]
          have : s.kept[i].pn.toNat = s.low + i := by omega
          rw [LS.kept_get] at h3
          simpa only [this] using h3
        · obtain ⟨j, hj, rfl⟩ := List.mem_iff_getElem.1 hx
          have := g.keptPn hj
          exact h4 j (by omega)

theorem Ak.named_parts {a : Ak} {x : Snt} (h : a.named x = true) : x.state ≠ 4 ∧ x.used = false ∧ x.nonce = a.tr ∧ hasP a.sp x.pn = true := by
  simp [Ak.named] at h
  exact ⟨h.1.1.1, h.1.1.2, h.1.2, h.2⟩
theorem Ak.look_mayUse (a : Ak) {s : LS} (g : s.Good) (h : (a.look s).2 = 0) : s.mayUse (a.look s).1 := by
  obtain ⟨h1, h2, -⟩ := a.look_there g h
  obtain ⟨h3, h4, -⟩ := a.named_parts h2
  exact ⟨h1, h3, h4⟩

/-- No number below q is named. -/
def Ak.none (a : Ak) (s : LS) (q : Int) : Prop := ∀ x ∈ s.kept, x.pn < q → a.named x = false
structure Ak.Once (a : Ak) (s0 s : LS) (k : Nat) (q : Int) : Prop where
  len : s.all.length = s0.all.length
  ring : s.ring = s0.ring
  lo : (s.low : Int) + k ≤ q
  hi : q ≤ s.all.length
  no : a.none s q
  low : 0 < k → ¬ a.lo < s.low
theorem Ak.Once.zero (a : Ak) {s : LS} (g : s.Good) : a.Once s s 0 s.low := by
  refine ⟨rfl, rfl, by simp, by have := s.low_le; omega, fun x hx h => ?_, fun h => absurd h (by omega)⟩
  obtain ⟨j, hj, rfl⟩ := List.mem_iff_getElem.1 hx
  have := g.keptPn hj
  omega
theorem Ak.Once.step {a : Ak} {s0 s : LS} {k : Nat} {q : Int} (o : a.Once s0 s k q) (g : s.Good) (h : (a.look s).2 = 0) :
    q ≤ (a.look s).1 ∧ (s.use (a.look s).1).2 = true ∧ a.Once s0 (s.use (a.look s).1).1 (k + 1) ((a.look s).1 + 1) := by
  obtain ⟨h1, h2, h3⟩ := a.look_there g h
  have hm := a.look_mayUse g h
  have hlow := a.look_low_ne h
  generalize (a.look s).1 = p at *
  obtain ⟨b1, b2, b3⟩ := LS.has_lt h1
  obtain ⟨hk, e⟩ := s.kept_at h1
  have hq : q ≤ p := by
    apply Int.not_lt.1
    intro hlt
    have := o.no _ (List.getElem_mem hk) (by rw [e, (g.at' h1).2.1]; exact hlt)
    rw [e, h2] at this
    cases this
  have ol := o.lo
  unfold LS.use
  rw [if_pos hm]
  refine ⟨hq, rfl, ?_⟩
  have el : (s.put p { s.at' p with used := true }).low = s.low := by simp [LS.put, LS.low]
  have en : (s.put p { s.at' p with used := true }).all.length = s.all.length := by simp [LS.put]
  refine ⟨en.trans o.len, o.ring, ?_, ?_, ?_, fun _ => ?_⟩
  · show (((s.put p { s.at' p with used := true }).low : Int)) + ((k + 1 : Nat) : Int) ≤ p + 1
    rw [el]; push_cast; omega
  · show p + 1 ≤ ((s.put p { s.at' p with used := true }).all.length : Int)
    rw [en]; omega
  · intro x hx hlt
    rw [LS.put_kept s h1] at hx
    obtain ⟨j, hj, rfl⟩ := List.mem_iff_getElem.1 hx
    rw [List.getElem_set] at hlt ⊢
    simp only [List.length_set] at hj
    split
    · simp [Ak.named]
    · rename_i hne
      rw [if_neg hne] at hlt
      have := g.keptPn hj
      exact h3 _ (List.getElem_mem hj) (by omega)
  · show ¬ a.lo < ((s.put p { s.at' p with used := true }).low : Int)
    rw [el]; exact hlow
theorem Ak.Once.few {a : Ak} {s0 s : LS} {k : Nat} {q : Int} (o : a.Once s0 s k q) : k ≤ s0.ring := by
  have h1 := o.lo
  have h2 := o.hi
  have h3 := o.ring
  have h4 : s.low = s.all.length - s.ring := rfl
  omega

end Go.Proofs.Ytpkbimmhimgamaa
namespace Go.Proofs.Ytpkbimmhimgamaa
set_option linter.unusedSimpArgs false
set_option linter.unusedVariables false
set_option linter.unnecessarySimpa false
open Go.RowKit
theorem Ak.look1_congr {a b : Ak} (h1 : a.sp = b.sp) (h3 : a.tr = b.tr) (l : List Snt) : a.look1 l = b.look1 l := by
  induction l with
  | nil => rfl
  | cons x r ih => simp [Ak.look1, Ak.named, h1, h3, ih]
theorem Ak.look_congr {a b : Ak} (h1 : a.sp = b.sp) (h2 : a.mm = b.mm) (h3 : a.tr = b.tr) (s : LS) : a.look s = b.look s := by
  simp [Ak.look, Ak.lo, h1, h2, Ak.look1_congr h1 h3]

end Go.Proofs.Ytpkbimmhimgamaa
namespace Go.Proofs.Ytpkbimmhimgamaa
set_option linter.unusedSimpArgs false
set_option linter.unusedVariables false
set_option linter.unnecessarySimpa false
open Go.RowKit
theorem Rd.lit_at (w : World) (size : Nat) (cs : Array Value) (t : TypeId) (n : Nat) (xs : List Value) (g : Nat) (hg : g = w.heap.size) (hx : cs.toList = xs) (hs : xs.length = n * size) (hn : n ≤ maxLen) :
    Rd (w.alloc (.cells cs t)) size (some ⟨g, 0, none⟩) n n xs := by
  subst hg
  exact Rd.lit w size cs t n xs hx hs hn

end Go.Proofs.Ytpkbimmhimgamaa
namespace Go.Proofs.Ytpkbimmhimgamaa
set_option linter.unusedSimpArgs false
set_option linter.unusedVariables false
set_option linter.unnecessarySimpa false
open Go.RowKit
structure W4 where
  a : Int
  b : Int
  c : Int
  d : Int
def W4.cells (k : W4) : Array Value := #[.int .u16 k.a, .int .u16 k.b, .int .u16 k.c, .int .u16 k.d]
def W4.val (k : W4) : Value := .agg k.cells
structure W4.ok (k : W4) : Prop where
  a : 0 ≤ k.a ∧ k.a ≤ 65535
  b : 0 ≤ k.b ∧ k.b ≤ 65535
  c : 0 ≤ k.c ∧ k.c ≤ 65535
  d : 0 ≤ k.d ∧ k.d ≤ 65535

end Go.Proofs.Ytpkbimmhimgamaa
namespace Go.Proofs.Ytpkbimmhimgamaa
set_option linter.unusedSimpArgs false
set_option linter.unusedVariables false
set_option linter.unnecessarySimpa false
open Go.RowKit
/-- What is asked may be: one span or two, none marked. -/
structure Asked (a : Ak) : Prop where
  good : Good a.sp
  one : 1 ≤ a.sp.length
  two : a.sp.length ≤ 2
  mm : a.mm = []
theorem Asked.may {a : Ak} (h : Asked a) : MayP a.sp a.mm := by
  have := h.one
  have := h.two
  rw [h.mm]
  exact ⟨⟨by omega, by omega, by simp⟩, h.good, (fun i hi => by simp at hi), (fun s hs => by cases hs)⟩
end Go.Proofs.Ytpkbimmhimgamaa
namespace Go.Proofs.Ytpkbimmhimgamaa
set_option linter.unusedSimpArgs false
set_option linter.unusedVariables false
set_option linter.unnecessarySimpa false
open Go.RowKit
end Go.Proofs.Ytpkbimmhimgamaa
namespace Go.Proofs.Ytpkbimmhimgamaa
set_option linter.unusedSimpArgs false
set_option linter.unusedVariables false
set_option linter.unnecessarySimpa false
open Go.RowKit
def ssub (a b : Int) : Int := if a < b then 0 else a - b
def sadd (a b : Int) : Int := min (a + b) 18446744073709551615

namespace Loss
def cand (largest : Int) (x : Snt) : Prop := x.state = 1 ∧ x.pn < largest
instance (largest : Int) (x : Snt) : Decidable (cand largest x) := by unfold cand; infer_instance
def gone (largest now window : Int) (x : Snt) : Prop := 3 ≤ largest - x.pn ∨ window ≤ ssub now x.at_
instance (largest now window : Int) (x : Snt) : Decidable (gone largest now window x) := by unfold gone; infer_instance
def lost (largest now window : Int) : List Snt → List Int
  | [] => []
  | x :: l => if cand largest x ∧ gone largest now window x then x.pn :: lost largest now window l else lost largest now window l
def next (largest now window : Int) : List Snt → Int
  | [] => 18446744073709551615
  | x :: l => if cand largest x ∧ ¬ gone largest now window x then min (sadd x.at_ window) (next largest now window l) else next largest now window l
end Loss
end Go.Proofs.Ytpkbimmhimgamaa
namespace Go.Proofs.Ytpkbimmhimgamaa
set_option linter.unusedSimpArgs false
set_option linter.unusedVariables false
set_option linter.unnecessarySimpa false
open Go.RowKit
end Go.Proofs.Ytpkbimmhimgamaa
namespace Go.Proofs.Ytpkbimmhimgamaa
set_option linter.unusedSimpArgs false
set_option linter.unusedVariables false
set_option linter.unnecessarySimpa false
open Go.RowKit
attribute [local go_sem ↓] run_min_int run_max_int
theorem clk_after (t d : Int) (w : World) (ht : isU64 t) (hd : isU64 d) :
    Calls Try.prog 76 #[.int .u64 t, .int .u64 d] w fun e w' => e = .returned (.int .u64 (sadd t d)) ∧ Qt w w' := by
  go_enter Try.func76, Try.ntmps76
  go_wp2_with fail
  refine (sat_add t d w ht hd).mono ?_
  rintro e w1 ⟨rfl, n, rfl⟩
  go_wp2
  go_ret
  exact ⟨rfl, ⟨n, rfl⟩⟩
theorem clk_since (t d : Int) (w : World) (ht : isU64 t) (hd : isU64 d) :
    Calls Try.prog 80 #[.int .u64 t, .int .u64 d] w fun e w' => e = .returned (.int .u64 (ssub t d)) ∧ Qt w w' := by
  go_enter Try.func80, Try.ntmps80
  go_wp2_with fail
  refine (satSub_any t d (ssub t d) w ht hd rfl).mono ?_
  rintro e w1 ⟨rfl, n, rfl⟩
  go_wp2
  go_ret
  exact ⟨rfl, ⟨n, rfl⟩⟩
theorem clk_first (A : Option Addr) (c : Nat) (x y : Int) (w : World) (h : Rd w 1 A 2 c (Us [x, y])) (hx : isU64 x) (hy : isU64 y) :
    Calls Try.prog 30 #[.slice A 2 c] w fun e w' => e = .returned (.int .u64 (min x y)) ∧ Qt w w' := by
  obtain ⟨x0, x1⟩ := hx
  obtain ⟨y0, y1⟩ := hy
  obtain ⟨b, o, rfl, c0⟩ := h.u64 (k := 0) (by omega)
  obtain ⟨b', o', e, c1⟩ := h.u64 (k := 1) (by omega)
  injection e with e
  injection e with e1 e2 _
  subst e1
  subst e2
  simp at c0 c1
  have HM := Lib.hid (show min (min 18446744073709551615 x) y = min x y by omega)
  have hm : min 18446744073709551615 x = x := by omega
  clear h
  go_enter Try.func30, Try.ntmps30
  go_wp2
  go_loop [3, 8] (fun m i => (i = .int .i64 0 ∧ m = .int .u64 18446744073709551615) ∨ (i = .int .i64 1 ∧ m = .int .u64 x) ∨ (i = .int .i64 2 ∧ m = .int .u64 (min x y))) (fun _ i => 2 - (intOf i).toNat)
  case atStart => exact .inl ⟨rfl, rfl⟩
  case round =>
    rcases hrel with ⟨rfl, rfl⟩ | ⟨rfl, rfl⟩ | ⟨rfl, rfl⟩
    · go_wp2
      go_round
      case rel => exact .inr (.inl ⟨rfl, rfl⟩)
      case measure => simp [intOf]
    · go_wp2
      go_round
      case rel => exact .inr (.inr ⟨rfl, rfl⟩)
      case measure => simp [intOf]
    · go_wp2
      go_ret
      exact ⟨rfl, Qt.refl _⟩
theorem u64_sadd {a b : Int} (ha : isU64 a) (hb : isU64 b) : isU64 (sadd a b) := by
  unfold isU64 sadd at *
  omega
theorem u64_ssub {a b : Int} (ha : isU64 a) (hb : isU64 b) : isU64 (ssub a b) := by
  unfold isU64 ssub at *
  split <;> omega


end Go.Proofs.Ytpkbimmhimgamaa
namespace Go.Proofs.Ytpkbimmhimgamaa
set_option linter.unusedSimpArgs false
set_option linter.unusedVariables false
namespace Dv
/-- Where the search for a digit stands: u = q * a + r, q not less than the digit. -/
structure At (u u1 a b : Nat) (q r : Nat) : Prop where
  eq : u = q * a + r
  ge : (u * 4294967296 + u1) / (a * 4294967296 + b) ≤ q
  le : q ≤ 4294967297
structure In (u u1 a b : Nat) : Prop where
  ha : 2147483648 ≤ a ∧ a < 4294967296
  hb : b < 4294967296
  hu : u1 < 4294967296
  lt : u < a * 4294967296 + b
theorem mulE (q a b : Nat) : q * (a * 4294967296 + b) = q * a * 4294967296 + q * b := by rw [Nat.mul_add, Nat.mul_assoc]
theorem In.digit {u u1 a b : Nat} (h : In u u1 a b) : (u * 4294967296 + u1) / (a * 4294967296 + b) < 4294967296 := by
  have h1 := h.lt; have h2 := h.hu
  rw [Nat.div_lt_iff_lt_mul (by have := h.ha; omega)]
  omega
theorem At.first {u u1 a b : Nat} (h : In u u1 a b) : At u u1 a b (u / a) (u % a) ∧ u % a < 4294967296 := by
  have ha := h.ha; have hb := h.hb; have hu1 := h.hu; have hlt := h.lt
  have hm := Nat.mod_lt u (show 0 < a by omega)
  refine ⟨⟨by rw [Nat.mul_comm]; exact (Nat.div_add_mod u a).symm, ?_, ?_⟩, Nat.lt_trans hm ha.2⟩
  · rw [Nat.le_div_iff_mul_le (by omega)]
    have h1 := Nat.div_mul_le_self (u * 4294967296 + u1) (a * 4294967296 + b)
    rw [mulE] at h1
    generalize (u * 4294967296 + u1) / (a * 4294967296 + b) = D at *
    generalize D * a = X at *
    generalize D * b = Y at *
    omega
  · have h3 : u < 4294967298 * a := by omega
    have := (Nat.div_lt_iff_lt_mul (show 0 < a by omega)).2 h3
    omega
/-- q * b against r: the same as q times the divisor against what is divided. -/
theorem At.cmp {u u1 a b q r : Nat} (h : At u u1 a b q r) : r * 4294967296 + u1 < q * b ↔ u * 4294967296 + u1 < q * (a * 4294967296 + b) := by
  rw [mulE, h.eq, Nat.add_mul]
  omega
theorem At.step {u u1 a b q r : Nat} (h : At u u1 a b q r) (hi : In u u1 a b) (hc : 4294967296 ≤ q ∨ 4294967296 * r + u1 < q * b) : 1 ≤ q ∧ At u u1 a b (q - 1) (r + a) := by
  have hd := hi.digit
  have hgt : (u * 4294967296 + u1) / (a * 4294967296 + b) < q := by
    rcases hc with hc | hc
    · omega
    · rw [Nat.div_lt_iff_lt_mul (by have := hi.ha; omega)]
      exact h.cmp.1 (by omega)
  have hle := h.le
  generalize hDD : (u * 4294967296 + u1) / (a * 4294967296 + b) = D at hd hgt
  have h1 : 1 ≤ q := by omega
  have hgq : D ≤ q - 1 := by omega
  have hlq : q - 1 ≤ 4294967297 := by omega
  refine ⟨h1, ⟨?_, by rw [hDD]; exact hgq, hlq⟩⟩
  have : q = (q - 1) + 1 := by omega
  rw [h.eq]
  conv => lhs; rw [this, Nat.add_mul]
  omega
theorem At.last {u u1 a b q r : Nat} (h : At u u1 a b q r) (hi : In u u1 a b) (hq : q ≤ 4294967296) (hc : 4294967296 ≤ r ∨ (q < 4294967296 ∧ ¬ 4294967296 * r + u1 < q * b)) : q = (u * 4294967296 + u1) / (a * 4294967296 + b) := by
  have hb := hi.hb
  have hle : ¬ r * 4294967296 + u1 < q * b := by
    rcases hc with hc | hc
    · have h1 : q * b ≤ 4294967296 * 4294967296 := Nat.mul_le_mul hq (by omega)
      have h2 : 4294967296 * 4294967296 ≤ r * 4294967296 := Nat.mul_le_mul_right _ hc
      omega
    · omega
  have h3 := mt h.cmp.2 hle
  refine Nat.le_antisymm ?_ h.ge
  rw [Nat.le_div_iff_mul_le (by have := hi.ha; omega)]
  omega
/-- The two digits. -/
theorem whole (B X y S U u1 u0 : Nat) (hy : 0 < y) (hS : 0 < S) (hX : X * S = (U * B + u1) * B + u0) :
    (U * B + u1) / (y * S) * B + ((U * B + u1) % (y * S) * B + u0) / (y * S) = X / y ∧ (((U * B + u1) % (y * S) * B + u0) % (y * S)) / S = X % y := by
  have hY : 0 < y * S := Nat.mul_pos hy hS
  have e1 := Nat.div_add_mod (U * B + u1) (y * S)
  generalize (U * B + u1) / (y * S) = q1 at *
  generalize (U * B + u1) % (y * S) = r1 at *
  have e2 := Nat.div_add_mod (r1 * B + u0) (y * S)
  have hr := Nat.mod_lt (r1 * B + u0) hY
  generalize (r1 * B + u0) / (y * S) = q0 at *
  generalize (r1 * B + u0) % (y * S) = r at *
  have e3 : X * S = (y * S) * (q1 * B + q0) + r := by
    rw [hX, ← e1, Nat.mul_add, ← Nat.mul_assoc, Nat.add_mul, Nat.add_assoc, ← e2, Nat.add_assoc]
  have d1 : X * S / (y * S) = q1 * B + q0 := by
    rw [e3, Nat.mul_add_div hY, Nat.div_eq_of_lt hr, Nat.add_zero]
  have d2 : X * S % (y * S) = r := by
    rw [e3, Nat.mul_add_mod, Nat.mod_eq_of_lt hr]
  rw [Nat.mul_div_mul_right X y hS] at d1
  rw [Nat.mul_mod_mul_right] at d2
  exact ⟨d1.symm, (congrArg (· / S) d2.symm).trans (Nat.mul_div_cancel _ hS)⟩
theorem pw (x s : Nat) : ((x : Int) * 2 ^ s) = ((x * 2 ^ s : Nat) : Int) := by rw [Int.natCast_mul, Int.natCast_pow]; rfl
theorem dw (x s : Nat) : ((x : Int) / 2 ^ s) = ((x / 2 ^ s : Nat) : Int) := by rw [Int.natCast_ediv, Int.natCast_pow]; rfl
theorem wrapT (x : Nat) : IntKind.u64.wrap (x : Int) = ((x % 18446744073709551616 : Nat) : Int) := by rw [IntKind.wrap_u64]; omega
theorem wrapS (x : Nat) (h : x < 18446744073709551616) : IntKind.u64.wrap (x : Int) = (x : Int) := by rw [wrapT, Nat.mod_eq_of_lt h]
theorem mask (x : Nat) (h : x < 18446744073709551616) : bits .and .u64 (x : Int) 4294967295 = ((x % 4294967296 : Nat) : Int) := by
  have h1 := bits_and_u64_nat x 4294967295 h (by omega)
  have e : x &&& 4294967295 = x % 4294967296 := Nat.and_two_pow_sub_one_eq_mod x 32
  rw [e] at h1
  exact h1
/-- What the function makes of its arguments ahead of the first digit. -/
structure Set (hi lo y s a b u u1 u0 Y H Lw T : Nat) : Prop where
  s63 : s ≤ 63
  sL : (64 : Int) - (Lib.bitLen y : Int) = s
  hY : y * 2 ^ s = Y ∧ Y = a * 4294967296 + b ∧ Y < 18446744073709551616
  inn : In u u1 a b
  l0 : u0 < 4294967296
  hX : (hi * 18446744073709551616 + lo) * 2 ^ s = (u * 4294967296 + u1) * 4294967296 + u0
  u64 : u < 18446744073709551616
  wY : IntKind.u64.wrap ((y : Int) * 2 ^ s) = (Y : Int)
  wa : (Y : Int) / 4294967296 = (a : Int)
  wb : bits .and .u64 (Y : Int) 4294967295 = (b : Int)
  wH : IntKind.u64.wrap ((hi : Int) * 2 ^ s) = (H : Int)
  wL : (lo : Int) / 2 ^ (64 - s) = (Lw : Int)
  wu : bits .or .u64 (H : Int) (Lw : Int) = (u : Int)
  wT : IntKind.u64.wrap ((lo : Int) * 2 ^ s) = (T : Int)
  w1 : (T : Int) / 4294967296 = (u1 : Int)
  w0 : bits .and .u64 (T : Int) 4294967295 = (u0 : Int)
theorem setup (hi lo y : Nat) (hh : hi < y) (hl : lo < 18446744073709551616) (hy : y < 18446744073709551616) : ∃ s a b u u1 u0 Y H Lw T, Set hi lo y s a b u u1 u0 Y H Lw T := by
  obtain ⟨b1, b2, b3⟩ := Lib.bitLenAux_bounds 64 y (by simpa using hy) (by omega)
  have b4 : Lib.bitLen y ≤ 64 := Lib.bitLen_le y 64 (Nat.le_refl _) (by simpa using hy)
  have b0 : Lib.bitLen y = Lib.bitLenAux 64 y := rfl
  rw [← b0] at b1 b2 b3
  obtain ⟨s, hs⟩ : ∃ s, s = 64 - Lib.bitLen y := ⟨_, rfl⟩
  have e1 : 2 ^ Lib.bitLen y * 2 ^ s = 18446744073709551616 := by rw [← Nat.pow_add, show Lib.bitLen y + s = 64 by omega]
  have e2 : 2 ^ (Lib.bitLen y - 1) * 2 ^ s = 9223372036854775808 := by rw [← Nat.pow_add, show Lib.bitLen y - 1 + s = 63 by omega]
  have eL : Lib.bitLen y = 64 - s := by omega
  have hp : 0 < 2 ^ s := Nat.two_pow_pos s
  have y1 : y * 2 ^ s < 18446744073709551616 := by rw [← e1]; exact (Nat.mul_lt_mul_right hp).2 b3
  have y2 : 9223372036854775808 ≤ y * 2 ^ s := by rw [← e2]; exact Nat.mul_le_mul_right _ b2
  have h1 : (hi + 1) * 2 ^ s ≤ y * 2 ^ s := Nat.mul_le_mul_right _ hh
  rw [Nat.add_mul, Nat.one_mul] at h1
  have l1 : lo / 2 ^ (64 - s) < 2 ^ s := by
    rw [Nat.div_lt_iff_lt_mul (Nat.two_pow_pos _), ← eL, Nat.mul_comm, e1]; exact hl
  have l2 : lo * 2 ^ s / 18446744073709551616 = lo / 2 ^ (64 - s) := by
    rw [← e1, eL, Nat.mul_div_mul_right _ _ hp]
  have l3 := Nat.div_add_mod (lo * 2 ^ s) 18446744073709551616
  rw [l2] at l3
  have or1 := bits_or_u64_nat (hi * 2 ^ s) (lo / 2 ^ (64 - s)) (by omega) (by omega)
  have or2 : hi * 2 ^ s ||| lo / 2 ^ (64 - s) = hi * 2 ^ s + lo / 2 ^ (64 - s) := by
    have := Nat.shiftLeft_add_eq_or_of_lt l1 hi
    rw [Nat.shiftLeft_eq] at this
    exact this.symm
  rw [or2] at or1
  have hX : (hi * 18446744073709551616 + lo) * 2 ^ s = hi * 2 ^ s * 18446744073709551616 + lo * 2 ^ s := by
    rw [Nat.add_mul, Nat.mul_right_comm]
  have wy := pw y s
  have wh := pw hi s
  have wl := pw lo s
  have dl := dw lo (64 - s)
  have hT : lo * 2 ^ s % 18446744073709551616 < 18446744073709551616 := Nat.mod_lt _ (by omega)
  have wT := wrapT (lo * 2 ^ s)
  generalize lo * 2 ^ s % 18446744073709551616 = T at *
  generalize lo * 2 ^ s = LS at *
  generalize lo / 2 ^ (64 - s) = Lw at *
  generalize hi * 2 ^ s = H at *
  generalize hYY : y * 2 ^ s = Y at *
  have hfin : H * 18446744073709551616 + LS = ((H + Lw) * 4294967296 + T / 4294967296) * 4294967296 + T % 4294967296 := by
    clear hX h1 or1 or2 wT wl wh wy dl
    omega
  refine ⟨s, Y / 4294967296, Y % 4294967296, H + Lw, T / 4294967296, T % 4294967296, Y, H, Lw, T, ⟨by omega, by omega, ⟨hYY, by omega, y1⟩, ⟨by omega, by omega, by omega, by omega⟩, by omega, hX.trans hfin, by omega, by rw [wy]; exact wrapS Y y1, by omega, mask Y y1, by rw [wh]; exact wrapS H (by omega), dl, or1, by rw [wl]; exact wT, by omega, mask T hT⟩⟩
end Dv
end Go.Proofs.Ytpkbimmhimgamaa
