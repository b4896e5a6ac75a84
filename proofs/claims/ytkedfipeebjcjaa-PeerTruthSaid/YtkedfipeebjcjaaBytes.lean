/-
  Two lists of numbers compared. · Rows of bytes; parts of slices; a string of bytes.
-/
import Derived.Test.YtkedfipeebjcjaaBase
import Derived.Test.YtkedfipeebjcjaaSpan
import Derived.Test.YtkedfipeebjcjaaSeq
import Derived.Test.YtkedfipeebjcjaaObj
import Derived.Laws.BytesArg
import Derived.Laws.ResultCell
namespace Go.Proofs.Ytkedfipeebjcjaa
set_option linter.unusedSimpArgs false
set_option linter.unusedVariables false
set_option linter.unnecessarySimpa false
open Go.RowKit

theorem infoU64 : (Try.prog.info? 26).map (fun i => (i.zero, i.size, i.bytes)) = some (some (.int .u64 0), 1, 8) := by kernel_rfl

theorem infoBool : (Try.prog.info? 4).map (fun i => (i.zero, i.size, i.bytes)) = some (some (.bool false), 1, 1) := by kernel_rfl

end Go.Proofs.Ytkedfipeebjcjaa

namespace Go.Proofs.Ytkedfipeebjcjaa
set_option linter.unusedSimpArgs false
set_option linter.unusedVariables false
set_option linter.unnecessarySimpa false
open Go.RowKit

def U8 (l : List Int) : List Value := l.map (Value.int .u8)
@[simp] theorem U8_length (l : List Int) : (U8 l).length = l.length := by simp [U8]
theorem U8_append (a b : List Int) : U8 (a ++ b) = U8 a ++ U8 b := by simp [U8]
theorem U8_one (l : List Int) : ∀ u ∈ U8 l, u.oneCell' = true := by
  intro u hu
  obtain ⟨x, _, rfl⟩ := List.mem_map.1 hu
  rfl
theorem infoByte : (Try.prog.info? 5).map (fun i => (i.zero, i.size, i.bytes)) = some (some (.int .u8 0), 1, 1) := by kernel_rfl
theorem Ss_one' (l : List Sp) : ∀ u ∈ Ss l, u.oneCell' = true := by
  intro u hu
  obtain ⟨x, _, hx⟩ := List.mem_flatMap.1 hu
  simp at hx
  rcases hx with rfl | rfl <;> rfl
theorem infoSpan : (Try.prog.info? 68).map (fun i => (i.zero, i.size, i.bytes)) = some (some (.agg #[.int .u64 0, .int .u64 0]), 2, 16) := by kernel_rfl
theorem take_run {P : Program} {t : TypeId} {i : TypeInfo} {size : Nat} (ht : P.underlying t = some (.slice (P.elem t))) (hi : P.info? (P.elem t) = some i) (hsz : i.size = size) (A : Option Addr) (n c k : Nat) (hk : k ≤ c) :
    ∀ (kh : IntKind) (w : World), (Instr.slice t (.slice A n c) none (some (.int kh (k : Int))) none).run P w = .ok (.slice A k c) w := by
  intro kh w
  rw [run_slice_h w t A n c ht kh (k : Int) (by omega) (by omega)]
  cases A <;> simp [sizeOf, typeInfo, hi, hsz, sliced, Addr.add]
theorem Rd.take {w : World} {size : Nat} {A : Option Addr} {n c k : Nat} {xs : List Value} (h : Rd w size A n c xs) (hk : k ≤ n) : Rd w size A k c (xs.take (k * size)) := by
  have hl := h.len
  have hm : k * size ≤ n * size := Nat.mul_le_mul_right _ hk
  refine ⟨by rw [List.length_take]; omega, by have := h.cap; omega, h.max, fun hn => ?_⟩
  obtain ⟨b, off, e, hc⟩ := h.on_ (by omega)
  refine ⟨b, off, e, fun j u hu => hc j u ?_⟩
  rw [List.getElem?_take] at hu
  split at hu
  · exact hu
  · cases hu
theorem own_base2 {w : World} {base size : Nat} {e : TypeId} {n c : Nat} {A : Option Addr} {xs : List Value} (h : w.ownsRow base e size (.slice A n c) n xs) : ∀ b off, A = some ⟨b, off, none⟩ → 0 < n → base ≤ b := by
  intro b off ea hn
  obtain ⟨A', c', e', h'⟩ := own_slice h
  injection e' with e1 e2 e3
  obtain ⟨g, e4, h4⟩ := h' hn
  rw [ea, e4] at e1
  injection e1 with e1
  injection e1 with e1 e5
  omega
theorem piece_run {P : Program} {t : TypeId} {i : TypeInfo} {size : Nat} (ht : P.underlying t = some (.slice (P.elem t))) (hi : P.info? (P.elem t) = some i) (hsz : i.size = size) (A : Option Addr) (n c lo hi' : Nat) (h1 : lo ≤ hi') (h2 : hi' ≤ n) (h3 : n ≤ c) :
    ∃ A', (∀ (kl kh : IntKind) (w : World), (Instr.slice t (.slice A n c) (some (.int kl (lo : Int))) (some (.int kh (hi' : Int))) none).run P w = .ok (.slice A' (hi' - lo) (c - lo)) w) ∧
      (∀ w xs, Rd w size A n c xs → Rd w size A' (hi' - lo) (c - lo) ((xs.drop (lo * size)).take ((hi' - lo) * size))) := by
  refine ⟨_, fun kl kh w => ?_, fun w xs h => (h.cut (k := lo) (by omega)).take (by omega)⟩
  rw [run_slice_lh w t A n c ht kl kh (lo : Int) (hi' : Int) (by omega) (by omega) (by omega)]
  simp [sizeOf, typeInfo, hi, hsz, sliced]
theorem Rd.u8 {w : World} {A : Option Addr} {n c : Nat} {l : List Int} {k : Nat} (h : Rd w 1 A n c (U8 l)) (hk : k < n) (hl : k < l.length) :
    ∃ b off, A = some ⟨b, off, none⟩ ∧ w.cell? ⟨b, off + k, none⟩ = some (.int .u8 l[k]) := by
  obtain ⟨b, off, u, e, hx, hc⟩ := h.at_ hk
  have : (U8 l)[k]? = some (.int .u8 l[k]) := by simp [U8, hl]
  rw [this] at hx
  exact ⟨b, off, e, by rw [hc]; exact hx.symm⟩
/-- A string of the bytes of a row. -/
theorem conv_row {P : Program} {src dst e : TypeId} (hs : P.underlying src = some (.slice e)) (he : P.underlying e = some (.int .u8)) (hd : P.underlying dst = some .string) {w : World} {A : Option Addr} {c : Nat} {l : List Int} (h : Rd w 1 A l.length c (U8 l)) :
    (convert src dst (.slice A l.length c)).run P w = .ok (.string (strOfNums l)) w := by
  rcases Nat.eq_zero_or_pos l.length with h0 | h0
  · obtain rfl : l = [] := List.eq_nil_of_length_eq_zero h0
    cases A with
    | none => rw [run_convert_bytes_nil w src e hs he _ _ dst hd]; rfl
    | some a =>
      obtain ⟨b, off, el⟩ := a
      rw [run_convert_bytes_string w src dst e _ _ c hs he hd, run_bytesToString w _ _ c [] (by simpa using run_loadCells_list (P := P) w ⟨b, off, el⟩ [] (fun j v hj => by simp at hj))]
      rfl
  · obtain ⟨b, off, rfl, hk⟩ := h.on_ h0
    exact run_convert_bytes_arg w src e hs he b off _ c l rfl (fun i hi => hk i _ (by simp [U8, hi])) dst hd
theorem conv_mix {P : Program} {src dst e : TypeId} (hs : P.underlying src = some (.slice e)) (he : P.underlying e = some (.int .u8)) (hd : P.underlying dst = some .string) {F : Nat → Prop} {w : World} {A : Option Addr} {c : Nat} {l : List Int} (h : Rd w 1 A l.length c (U8 l)) (hF : ∀ b off, A = some ⟨b, off, none⟩ → 0 < l.length → ¬ F b) :
    ∀ u, (convert src dst (.slice A l.length c)).run P (mixF F w u) = .ok (.string (strOfNums l)) (mixF F w u) :=
  fun u => conv_row hs he hd (h.chg (mixF_chg F w u) hF)
theorem cut_run2 {P : Program} {t : TypeId} {i : TypeInfo} {size : Nat} (ht : P.underlying t = some (.slice (P.elem t))) (hi : P.info? (P.elem t) = some i) (hsz : i.size = size) (A : Option Addr) (n c k : Nat) (hk : k ≤ n) (hs : ∀ a, A = some a → a.spot = none) :
    ∃ A', (∀ (kl : IntKind) (w : World), (Instr.slice t (.slice A n c) (some (.int kl (k : Int))) none none).run P w = .ok (.slice A' (n - k) (c - k)) w) ∧
      (∀ w xs, Rd w size A n c xs → Rd w size A' (n - k) (c - k) (xs.drop (k * size))) ∧ (∀ b off, A' = some ⟨b, off, none⟩ → ∃ off', A = some ⟨b, off', none⟩) := by
  refine ⟨_, fun kl w => ?_, fun w xs h => h.cut hk, fun b off e => ?_⟩
  · rw [run_slice_l w t A n c ht kl (k : Int) (by omega) (by omega)]
    simp [sizeOf, typeInfo, hi, hsz, sliced]
  · split at e
    · exact ⟨off, e⟩
    · cases A with
      | none => simp at e
      | some a =>
        have h1 := hs a rfl
        obtain ⟨b', o', p'⟩ := a
        simp only at h1
        subst h1
        simp only [Option.map_some, Option.some.injEq, Addr.add] at e
        split at e <;> (simp only [Addr.mk.injEq] at e; exact ⟨o', by rw [e.1]⟩)
theorem results_cell_tmp_row {P : Program} {fn : Func} {p u : Tmp} {ty : TypeId} (h : fn.results = #[.cell p ty, .tmp u]) (tmps : Array Value) (w : World) (g : Nat) (t : TypeId) (cs : Array Value) (fr : Nat × Nat) (d : TypeDesc)
    (hp : tmps.getD p undef = .pointer (some ⟨g, 0, none⟩)) (hg : w.heap[g]? = some (.cells cs t fr))
    (hu : P.underlying ty = some d) (hd : (match d with | .struct _ | .array _ _ => true | _ => false) = true) (hi : (P.info? ty).map (·.size) = some cs.size) :
    (results fn tmps).run P w = .ok (.tuple #[.agg cs, tmps.getD u undef]) w := by
  rw [results_cell_tmp h, hp]
  simp [asAddr, run_loadVar_row w g t ty cs fr d hg hu hd hi]

end Go.Proofs.Ytkedfipeebjcjaa
