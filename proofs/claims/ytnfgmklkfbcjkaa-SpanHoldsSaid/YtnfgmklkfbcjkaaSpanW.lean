/-
  Lists of 16-bit numbers.
-/
import Derived.Test.YtnfgmklkfbcjkaaBase
namespace Go.Proofs.Ytnfgmklkfbcjkaa
set_option linter.unusedSimpArgs false
set_option linter.unusedVariables false
set_option linter.unnecessarySimpa false
open Go.RowKit

def W16 (l : List Int) : List Value := l.map (Value.int .u16)
@[simp] theorem W16_length (l : List Int) : (W16 l).length = l.length := by simp [W16]
theorem Rd.u16 {w : World} {A : Option Addr} {n c : Nat} {l : List Int} {k : Nat} (h : Rd w 1 A n c (W16 l)) (hw : ∀ x ∈ l, 0 ≤ x ∧ x ≤ 65535) (hk : k < n) :
    ∃ b off x, A = some ⟨b, off, none⟩ ∧ Hid (l.getD k 0 = x) ∧ w.cell? ⟨b, off + k, none⟩ = some (.int .u16 x) ∧ 0 ≤ x ∧ x ≤ 65535 := by
  obtain ⟨b, off, u, e, hx, hc⟩ := h.at_ hk
  have hl : k < l.length := by have := h.len; simp at this; omega
  have hm := hw _ (List.getElem_mem hl)
  refine ⟨b, off, l[k], e, Lib.hid (by simp [hl]), ?_, hm.1, hm.2⟩
  rw [hc, ← hx]
  simp [W16, hl]
theorem Rd.u16at {w : World} {b off n c : Nat} {l : List Int} {k : Nat} (h : Rd w 1 (some ⟨b, off, none⟩) n c (W16 l)) (hw : ∀ x ∈ l, 0 ≤ x ∧ x ≤ 65535) (hk : k < n) :
    ∃ x, Hid (l.getD k 0 = x) ∧ w.cell? ⟨b, off + k, none⟩ = some (.int .u16 x) ∧ 0 ≤ x ∧ x ≤ 65535 := by
  obtain ⟨b', off', x, e, h1, h2, h3⟩ := h.u16 hw hk
  injection e with e
  injection e with e1 e2
  subst e1
  subst e2
  exact ⟨x, h1, h2, h3⟩

end Go.Proofs.Ytnfgmklkfbcjkaa
