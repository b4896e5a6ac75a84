/-
  The game, purely: what the moves are answered, without the ledger and the guard. · The game, purely: in how many draws a guess is right, and so many marks are hidden. · The game, purely: in how many draws so many marks are hidden.
-/
import Derived.Test.YtpfmhkkglaghgaaGreatGam4
import Derived.Test.YtpfmhkkglaghgaaGreatGuQ
import Derived.Test.YtpfmhkkglaghgaaGreatGam5
namespace Go.Proofs.YtpfmhkkglaghgaaGreat
set_option linter.unusedSimpArgs false
set_option linter.unusedVariables false
set_option linter.unnecessarySimpa false
open Go.RowKit

def xorIf (c : Nat → Bool) (f : Nat → Nat) : Nat → Nat
  | 0 => 0
  | i + 1 => if c i then xorIf c f i ^^^ f i else xorIf c f i
def odIf (z : Bool) (c : Nat → Bool) : Nat → Bool
  | 0 => z
  | i + 1 => if c i then !odIf z c i else odIf z c i
theorem xorIf_lt {c : Nat → Bool} {f : Nat → Nat} {B : Nat} (h : ∀ i, f i < 2 ^ B) (n : Nat) : xorIf c f n < 2 ^ B := by
  induction n with
  | zero => exact Nat.pow_pos (by decide)
  | succ n ih => unfold xorIf; split; exact Nat.xor_lt_two_pow ih (h n); exact ih
theorem xorIf_congr {c d : Nat → Bool} {f e : Nat → Nat} (n : Nat) (h : ∀ i, i < n → c i = d i ∧ (c i = true → f i = e i)) : xorIf c f n = xorIf d e n := by
  induction n with
  | zero => rfl
  | succ n ih =>
    obtain ⟨h1, h2⟩ := h n (by omega)
    unfold xorIf
    rw [ih (fun i hi => h i (by omega)), ← h1]
    split
    · rename_i hc; rw [h2 hc]
    · rfl
theorem odIf_congr {z : Bool} {c d : Nat → Bool} (n : Nat) (h : ∀ i, i < n → c i = d i) : odIf z c n = odIf z d n := by
  induction n with
  | zero => rfl
  | succ n ih => unfold odIf; rw [ih (fun i hi => h i (by omega)), h n (by omega)]
theorem xorTo_if (g : Gm) (k : Nat) (m : Mv) (n : Nat) : xorTo g k m n = xorIf (fun i => (m.claim &&& g.came).testBit i) (nonN g.b k) n := by
  induction n with
  | zero => rfl
  | succ n ih => unfold xorTo xorIf; rw [ih]
theorem odTo_if (g : Gm) (k : Nat) (m : Mv) (n : Nat) : odTo g k m n = odIf m.flip (fun i => (m.claim &&& g.came).testBit i && (coinN g.b k i && !g.marked.testBit i && !m.mark.testBit i)) n := by
  induction n with
  | zero => rfl
  | succ n ih => unfold odTo odIf; rw [ih]

/-- The ledger's numbers, some of them used. -/
def sl (g : Gm) (k u i : Nat) : Snt := { sntN g k i with used := u.testBit i }
def slN (g : Gm) (k u n : Nat) : List Snt := (List.range n).map (sl g k u)
theorem slN_succ (g : Gm) (k u n : Nat) : slN g k u (n + 1) = slN g k u n ++ [sl g k u n] := by simp [slN, List.range_succ]
structure GmS (g : Gm) (k u : Nat) (s : LS) : Prop where
  ring : s.ring = 4
  all : s.all = slN g k u g.n
theorem slN_len (g : Gm) (k u n : Nat) : (slN g k u n).length = n := by simp [slN]
theorem GmS.low {g : Gm} {k u : Nat} {s : LS} (h : GmS g k u s) (hg : g.ok) : s.low = 0 ∧ s.kept = slN g k u g.n ∧ s.all.length = g.n := by
  have n4 := hg.n4
  have e : s.all.length = g.n := by rw [h.all, slN_len]
  have l : s.low = 0 := by unfold LS.low; rw [h.ring, e]; omega
  exact ⟨l, by unfold LS.kept; rw [l, List.drop_zero, h.all], e⟩
theorem GmS.use {g : Gm} {k u : Nat} {s : LS} (h : GmS g k u s) (hg : g.ok) {i : Nat} (hi : i < g.n) (hu : u.testBit i = false) : GmS g k (u ||| 2 ^ i) (s.use i).1 := by
  obtain ⟨l, kp, e⟩ := h.low hg
  have hh : s.has i := ⟨by rw [l]; omega, by rw [e]; omega⟩
  have ha : s.at' i = sl g k u i := by
    unfold LS.at'
    rw [h.all, Int.toNat_natCast]
    simp [slN, hi]
  have hm : s.mayUse i := ⟨hh, by rw [ha]; show ((1 : Int)) ≠ 4; decide, by rw [ha]; exact hu⟩
  unfold LS.use
  rw [if_pos hm]
  refine ⟨h.ring, ?_⟩
  show s.all.set ((i : Int)).toNat { s.at' i with used := true } = _
  rw [h.all, ha, Int.toNat_natCast]
  apply List.ext_getElem
  · simp [slN_len]
  · intro j h1 h2
    rw [List.getElem_set]
    simp only [slN, List.getElem_map, List.getElem_range]
    split
    · rename_i hij
      subst hij
      simp [sl, Nat.testBit_or, Nat.testBit_two_pow]
    · rename_i hij
      simp [sl, Nat.testBit_or, Nat.testBit_two_pow, hij]

theorem find_congr {α : Type} {p q : α → Bool} : ∀ {l : List α}, (∀ x ∈ l, p x = q x) → l.find? p = l.find? q := by
  intro l
  induction l with
  | nil => intro _; rfl
  | cons x r ih =>
    intro h
    rw [List.find?_cons, List.find?_cons, h x (by simp), ih (fun y hy => h y (by simp [hy]))]
theorem look1_find (a : Ak) (l : List Snt) : a.look1 l = match l.find? a.named with | some x => (x.pn, 0) | none => (0, 3) := by
  induction l with
  | nil => rfl
  | cons x r ih =>
    rw [List.find?_cons]
    unfold Ak.look1
    cases h : a.named x with
    | true => simp
    | false => simp [ih]
/-- The first claimed one of that nonce that is not used. -/
def lookN (g : Gm) (k : Nat) (m : Mv) (v : Int) (u : Nat) : Option Nat := (List.range g.n).find? (fun i => m.claim.testBit i && !u.testBit i && decide (nonN g.b k i = trigN g k m v))
def okX (g : Gm) (k : Nat) (m : Mv) (v : Int) : Bool := decide (xorIf (fun i => m.claim.testBit i) (nonN g.b k) g.n = xorTo g k m g.n ^^^ guessX g m v)
def okO (g : Gm) (k : Nat) (m : Mv) : Bool := decide (odIf false (fun i => m.claim.testBit i && (coinN g.b k i && !m.mark.testBit i)) g.n = odTo g k m g.n)
def playS (g : Gm) (k : Nat) : List Mv → Int → Nat → List (Vd × Mv)
  | [], _, _ => []
  | m :: ms, v, u =>
    if m.claim = 0 then playS g k ms v u
    else match lookN g k m v u with
      | none => (⟨1, 3, 0, false⟩, m) :: playS g k ms (foldV v 1) u
      | some i => if (okX g k m v && okO g k m) = true then (⟨2, 0, i, false⟩, m) :: playS g k ms (foldV v 2) (u ||| 2 ^ i) else [(⟨3, if okX g k m v = true then 7 else 6, 0, false⟩, m)]

theorem pow_lt_u64 {b x : Nat} (h : b ≤ 6) (hx : x < 2 ^ b) : isU64 (x : Int) := by
  have := Nat.pow_le_pow_right (n := 2) (by decide) (j := 6) h
  have e : (2 : Nat) ^ 6 = 64 := by decide
  unfold isU64
  omega
theorem trigN_lt (g : Gm) (k : Nat) (m : Mv) (v : Int) : trigN g k m v < 2 ^ g.b := by
  unfold trigN lowN
  split
  · exact nonN_lt _ _ _
  · exact Nat.mod_lt _ (Nat.pow_pos (by decide))
theorem guessX_lt (g : Gm) (m : Mv) (v : Int) : guessX g m v < 2 ^ g.b := by
  unfold guessX lowN
  split
  · exact Nat.mod_lt _ (Nat.pow_pos (by decide))
  · exact Nat.pow_pos (by decide)
theorem xorTo_ltb (g : Gm) (k : Nat) (m : Mv) (n : Nat) : xorTo g k m n < 2 ^ g.b := by
  rw [xorTo_if]; exact xorIf_lt (fun i => nonN_lt _ _ _) n
theorem frameD_get {g : Gm} {m : Mv} (k : Nat) (v : Int) (hg : g.ok) (hm : m.ok g.n) (h0 : m.claim ≠ 0) : ackP (putAckP (frameD g k m v)) = .ok (frameD g k m v) := by
  have F := frameD_ok k v hg hm h0
  have M : MayP (frameD g k m v).sp (frameD g k m v).mm := of_decide_eq_true F.may
  exact ackP_put _ F.g1 F.g2 F.p1 F.p2 M.1.1 F.l1 F.l2 (by rw [insideB_eq]; exact decide_eq_true M.2.2.2) (pow_lt_u64 hg.b6 (trigN_lt g k m v)) (pow_lt_u64 hg.b6 (Nat.xor_lt_two_pow (xorTo_ltb g k m g.n) (guessX_lt g m v)))
theorem row_has {s n i : Nat} (hs : s < 16) (hn : n ≤ 4) (hi : i < n) : hasP (rowS s n) (i : Nat) = s.testBit i := by
  rw [rowS_mem s hs n (by omega) i (by omega), decide_eq_true hi, Bool.true_and]
theorem row_lt {s n : Nat} (hs : s < 16) (hn : n ≤ 4) : ∀ x ∈ rowS s n, 0 ≤ x.1 ∧ x.2 < n := by
  intro x hx
  obtain ⟨h1, h2, -, -⟩ := rowS_ok hs hn
  have h3 := h2 x hx
  obtain ⟨i, hi, rfl⟩ := List.getElem_of_mem hx
  have h4 := (h1 i hi).1.1
  refine ⟨h3.1, ?_⟩
  have h5 : hasP (rowS s n) ((rowS s n)[i].2.toNat : Nat) = true := (hasP_iff _ _).2 ⟨_, hx, by omega, by omega⟩
  rw [rowS_mem s hs n (by omega) _ (by omega), Bool.and_eq_true, decide_eq_true_eq] at h5
  omega
theorem Mv.ok.lt {g : Gm} {m : Mv} (hm : m.ok g.n) (hg : g.ok) : m.claim < 16 ∧ m.mark < 16 := by
  have p16 : 2 ^ g.n ≤ 16 := Nat.pow_le_pow_right (n := 2) (by decide) (j := 4) hg.n4
  have h1 := Nat.lt_of_lt_of_le hm.claim p16
  exact ⟨h1, Nat.lt_of_le_of_lt (Nat.le_of_testBit hm.mark) h1⟩
theorem lookS {g : Gm} {m : Mv} {k u : Nat} {s : LS} (v : Int) (hg : g.ok) (hm : m.ok g.n) (h0 : m.claim ≠ 0) (h : GmS g k u s) :
    (frameD g k m v).ak.look s = match lookN g k m v u with | some i => ((i : Nat), 0) | none => (0, 3) := by
  have F := frameD_ok k v hg hm h0
  obtain ⟨l, kp, e⟩ := h.low hg
  have hlo : ¬ (frameD g k m v).ak.lo < s.low := by
    rw [l]
    have : 0 ≤ (frameD g k m v).ak.lo := by
      show 0 ≤ ((rowS m.claim g.n).headD (0, 0)).1
      cases hr : rowS m.claim g.n with
      | nil => exact Int.le_refl _
      | cons x r => exact ((row_lt (hm.lt hg).1 hg.n4) x (by rw [hr]; simp)).1
    omega
  rw [Ak.look_go F.may hlo, kp, look1_find]
  unfold slN lookN
  rw [List.find?_map]
  have e2 : (List.range g.n).find? ((frameD g k m v).ak.named ∘ sl g k u) = (List.range g.n).find? (fun i => m.claim.testBit i && !u.testBit i && decide (nonN g.b k i = trigN g k m v)) := find_congr (fun i hi => by
    have hi := List.mem_range.1 hi
    have hh : hasP (rowS m.claim g.n) (i : Nat) = m.claim.testBit i := row_has (hm.lt hg).1 hg.n4 hi
    show (!decide ((1 : Int) = 4) && !u.testBit i && decide (((nonN g.b k i : Nat) : Int) = ((trigN g k m v : Nat) : Int)) && hasP (rowS m.claim g.n) (i : Nat)) = _
    rw [hh, show decide ((1 : Int) = 4) = false from by decide]
    have e3 : decide (((nonN g.b k i : Nat) : Int) = ((trigN g k m v : Nat) : Int)) = decide (nonN g.b k i = trigN g k m v) := by
      by_cases hx : nonN g.b k i = trigN g k m v
      · rw [decide_eq_true hx, decide_eq_true (by omega)]
      · rw [decide_eq_false hx, decide_eq_false (by omega)]
    rw [e3]
    cases m.claim.testBit i <;> cases u.testBit i <;> simp)
  rw [e2]
  cases (List.range g.n).find? (fun i => m.claim.testBit i && !u.testBit i && decide (nonN g.b k i = trigN g k m v)) <;> rfl
theorem sumX_sl (g : Gm) (k u : Nat) (sp : List Sp) (n : Nat) : LS.sumX sp (slN g k u n) = ((xorIf (fun i => hasP sp (i : Nat)) (nonN g.b k) n : Nat) : Int) := by
  unfold LS.sumX LS.sumN
  congr 1
  induction n with
  | zero => rfl
  | succ n ih =>
    rw [slN_succ, foldIf_snoc, ih]
    have e : LS.non (sl g k u n) = nonN g.b k n := Int.toNat_natCast _
    rw [e]
    rfl
theorem sumO_sl (g : Gm) (k u : Nat) (sp mm : List Sp) (n : Nat) : LS.sumO sp mm (slN g k u n) = odIf false (fun i => hasP sp (i : Nat) && (coinN g.b k i && !hasP mm (i : Nat))) n := by
  unfold LS.sumO
  induction n with
  | zero => rfl
  | succ n ih =>
    rw [slN_succ, foldIf_snoc, ih]
    have e : LS.odd mm (sl g k u n) = (coinN g.b k n && !hasP mm (n : Nat)) := rfl
    have e2 : (sl g k u n).pn = ((n : Nat) : Int) := rfl
    rw [e, e2]
    show _ = if (hasP sp (n : Nat) && (coinN g.b k n && !hasP mm (n : Nat))) = true then _ else _
    cases hasP sp (n : Nat) <;> cases (coinN g.b k n && !hasP mm (n : Nat)) <;> simp
theorem checkS {g : Gm} {m : Mv} {k u : Nat} {s : LS} (v : Int) (hg : g.ok) (hm : m.ok g.n) (h0 : m.claim ≠ 0) (h : GmS g k u s) :
    (frameD g k m v).ak.check s = if (okX g k m v && okO g k m) = true then (0, 0) else (if okX g k m v = true then 7 else 6, 0) := by
  have F := frameD_ok k v hg hm h0
  have M : MayP (frameD g k m v).sp (frameD g k m v).mm := of_decide_eq_true F.may
  obtain ⟨l, kp, e⟩ := h.low hg
  have rl := row_lt (hm.lt hg).1 hg.n4
  have hlo : ¬ (frameD g k m v).ak.lo < s.low := by
    rw [l]
    have : 0 ≤ (frameD g k m v).ak.lo := by
      show 0 ≤ ((rowS m.claim g.n).headD (0, 0)).1
      cases hr : rowS m.claim g.n with
      | nil => exact Int.le_refl _
      | cons x r => exact (rl x (by rw [hr]; simp)).1
    omega
  have ns : ∀ x ∈ s.kept, x.state = 1 := fun x hx => by
    rw [kp] at hx
    obtain ⟨i, -, rfl⟩ := List.mem_map.1 hx
    rfl
  have so : s.SumOk (frameD g k m v).sp (frameD g k m v).mm := ⟨M.2.1, M.2.2.1, fun c hc => by
      have := rl c hc
      rw [l, e]
      exact ⟨this.1, this.2⟩, fun x hx _ => by rw [ns x hx]; decide⟩
  rw [Ak.check_go F.may hlo]
  show aheadsP _ _ (aheadP _ (rowS m.claim g.n)) = _
  rw [aheadP_none' (fun c hc => by have := (rl c hc).2; rw [e]; omega)]
  show skipsP _ _ (skipP _ s.kept) = _
  rw [skipP_none' (fun x hx => by rw [ns x hx]; simp)]
  show sumsP _ _ = _
  have eS : s.sum (rowS m.claim g.n) (rowS m.mark g.n) = (((xorIf (fun i => m.claim.testBit i) (nonN g.b k) g.n : Nat) : Int), odIf false (fun i => m.claim.testBit i && (coinN g.b k i && !m.mark.testBit i)) g.n, true) := by
    have so' : s.SumOk (rowS m.claim g.n) (rowS m.mark g.n) := so
    rw [LS.sum_yes so', kp, sumX_sl, sumO_sl]
    rw [xorIf_congr (d := fun i => m.claim.testBit i) (e := nonN g.b k) g.n (fun i hi => ⟨row_has (hm.lt hg).1 hg.n4 hi, fun _ => rfl⟩)]
    rw [odIf_congr (d := fun i => m.claim.testBit i && (coinN g.b k i && !m.mark.testBit i)) g.n (fun i hi => by simp only [row_has (hm.lt hg).1 hg.n4 hi, row_has (hm.lt hg).2 hg.n4 hi])]
  unfold sumsP
  show (if (s.sum (rowS m.claim g.n) (rowS m.mark g.n)).1 ≠ ((xorTo g k m g.n ^^^ guessX g m v : Nat) : Int) then ((6 : Int), (0 : Int)) else if (s.sum (rowS m.claim g.n) (rowS m.mark g.n)).2.1 ≠ odTo g k m g.n then (7, 0) else (0, 0)) = _
  rw [eS]
  unfold okX okO
  simp only
  by_cases hx : xorIf (fun i => m.claim.testBit i) (nonN g.b k) g.n = xorTo g k m g.n ^^^ guessX g m v
  · rw [if_neg (by rw [hx]; simp), decide_eq_true hx, Bool.true_and]
    by_cases ho : odIf false (fun i => m.claim.testBit i && (coinN g.b k i && !m.mark.testBit i)) g.n = odTo g k m g.n
    · rw [if_neg (by simp [ho]), decide_eq_true ho]; simp
    · rw [if_pos ho, decide_eq_false ho]; simp
  · rw [if_pos (by omega), decide_eq_false hx]; simp

structure GdS (q : GS) : Prop where
  over : q.over = false
  most : q.b.most = 0
theorem GdS.ask {q : GS} (h : GdS q) (now : Int) : (q.b.ask now).2 = false ∧ GdS (q.drop (q.b.ask now)) := by
  have e : q.b.ask now = ({ q.b with now := max q.b.now now }, false) := by
    unfold BS.ask
    rw [if_pos (by rw [h.most]; exact Nat.zero_le _)]
  rw [e]
  exact ⟨rfl, h.over, h.most⟩
theorem lookN_some {g : Gm} {k : Nat} {m : Mv} {v : Int} {u i : Nat} (h : lookN g k m v u = some i) : i < g.n ∧ m.claim.testBit i = true ∧ u.testBit i = false ∧ nonN g.b k i = trigN g k m v := by
  unfold lookN at h
  have h1 := List.find?_some h
  have h2 := List.mem_of_find?_eq_some h
  simp only [Bool.and_eq_true, decide_eq_true_eq, Bool.not_eq_true'] at h1
  exact ⟨List.mem_range.1 h2, h1.1.1, h1.1.2, h1.2⟩
theorem playN_S {g : Gm} {k : Nat} (hg : g.ok) : ∀ (ms : List Mv), (∀ m ∈ ms, m.ok g.n) → ∀ (v : Int) (u : Nat) (s : LS) (q : GS), GmS g k u s → GdS q → playN g k ms v s q = playS g k ms v u := by
  intro ms
  induction ms with
  | nil => intro _ v u s q _ _; rfl
  | cons m ms ih =>
    intro hms v u s q hs hq
    have hm := hms m (by simp)
    have ih := ih (fun x hx => hms x (by simp [hx]))
    unfold playN playS
    by_cases h0 : m.claim = 0
    · rw [if_pos h0, if_pos h0]; exact ih v u s q hs hq
    · rw [if_neg h0, if_neg h0]
      have hp := frameD_get k v hg hm h0
      have hl := lookS v hg hm h0 hs
      cases hL : lookN g k m v u with
      | none =>
        rw [hL] at hl
        rw [GS.take_drop hq.over hp 0 hl (by decide)]
        obtain ⟨a1, a2⟩ := hq.ask 0
        simp only
        rw [if_neg (by decide), a1, ih _ u s _ hs a2]
      | some i =>
        rw [hL] at hl
        obtain ⟨i1, i2, i3, i4⟩ := lookN_some hL
        have hs' := hs.use hg i1 i3
        have hc := checkS v hg hm h0 hs'
        simp only
        by_cases hk : (okX g k m v && okO g k m) = true
        · rw [if_pos hk] at hc ⊢
          rw [GS.take_took hq.over hp 0 hl hc]
          simp only
          rw [if_neg (by decide), ih _ (u ||| 2 ^ i) _ q.took hs' ⟨hq.over, hq.most⟩]
        · rw [if_neg hk] at hc ⊢
          rw [GS.take_end hq.over hp 0 hl hc (by split <;> decide)]
          simp only
          rw [if_pos trivial]
theorem playedS (g : Gm) (k : Nat) (every : Int) (hg : g.ok) : playedN g k every = playS g k g.moves (viewTo g k g.n) 0 := by
  unfold playedN
  refine playN_S hg _ hg.moves _ 0 _ _ ⟨rfl, ?_⟩ ⟨rfl, rfl⟩
  show (List.range g.n).map (sntN g k) = (List.range g.n).map (sl g k 0)
  apply List.map_congr_left
  intro i _
  unfold sl
  rw [Nat.zero_testBit]
  rfl

end Go.Proofs.YtpfmhkkglaghgaaGreat

namespace Go.Proofs.YtpfmhkkglaghgaaGreat
set_option linter.unusedSimpArgs false
set_option linter.unusedVariables false
set_option linter.unnecessarySimpa false
open Go.RowKit

theorem nodup_sub : ∀ {l m : List Nat}, l.Nodup → (∀ x ∈ l, x ∈ m) → l.length ≤ m.length := by
  intro l
  induction l with
  | nil => intro m _ _; exact Nat.zero_le _
  | cons x l ih =>
    intro m hd hs
    have hx := hs x (by simp)
    have hd' := List.nodup_cons.1 hd
    have h1 := ih (m := m.erase x) hd'.2 (fun y hy => by
      have hne : y ≠ x := fun e => hd'.1 (e ▸ hy)
      exact (List.mem_erase_of_ne hne).2 (hs y (by simp [hy])))
    have h2 := List.length_erase_of_mem hx
    have h3 := List.length_pos_of_mem hx
    simp only [List.length_cons]
    omega
theorem count_inj {p q : Nat → Bool} {D N : Nat} (f : Nat → Nat) (h : ∀ k, k < D → p k = true → f k < N ∧ q (f k) = true) (hi : ∀ k k', k < D → k' < D → p k = true → p k' = true → f k = f k' → k = k') : countTo p D ≤ countTo q N := by
  unfold countTo
  have e : ((List.range D).filter p).length = (((List.range D).filter p).map f).length := by simp
  rw [e]
  refine nodup_sub ?_ (fun x hx => ?_)
  · unfold List.Nodup
    rw [List.pairwise_map]
    have hn : ((List.range D).filter p).Nodup := List.Pairwise.filter _ List.nodup_range
    refine List.Pairwise.imp_of_mem ?_ hn
    intro a b ha hb hne e
    rw [List.mem_filter, List.mem_range] at ha hb
    exact hne (hi a b ha.1 hb.1 ha.2 hb.2 e)
  · obtain ⟨k, hk, rfl⟩ := List.mem_map.1 hx
    rw [List.mem_filter, List.mem_range] at hk
    rw [List.mem_filter, List.mem_range]
    exact h k hk.1 hk.2
theorem count_all (N : Nat) : countTo (fun _ => true) N = N := by
  unfold countTo
  rw [List.filter_eq_self.2 (fun _ _ => rfl), List.length_range]
theorem count_or {p q r : Nat → Bool} (h : ∀ k, p k = true → q k = true ∨ r k = true) (d : Nat) : countTo p d ≤ countTo q d + countTo r d := by
  induction d with
  | zero => exact Nat.zero_le _
  | succ d ih =>
    rw [count_step, count_step, count_step]
    have := h d
    cases hp : p d <;> cases hq : q d <;> cases hr : r d <;> simp [hp, hq, hr] at this ⊢ <;> omega
theorem count_split {p q : Nat → Bool} (h : ∀ k, q k = true → p k = true) (d : Nat) : countTo q d + countTo (fun k => p k && !q k) d = countTo p d := by
  induction d with
  | zero => rfl
  | succ d ih =>
    rw [count_step, count_step, count_step]
    have := h d
    cases hp : p d <;> cases hq : q d <;> simp [hp, hq] at this ⊢ <;> omega
theorem count_congr {p q : Nat → Bool} (h : ∀ k, p k = q k) (d : Nat) : countTo p d = countTo q d := by
  have : p = q := funext h
  rw [this]
theorem count_none {p : Nat → Bool} (h : ∀ k, p k = false) (d : Nat) : countTo p d = 0 := by
  induction d with
  | zero => rfl
  | succ d ih => rw [count_step, h d, ih]; simp

/-! The bits of a draw. -/
theorem nonN_bit (b k i t : Nat) : (nonN b k i).testBit t = (decide (t < b) && k.testBit (i * (b + 1) + t)) := by
  unfold nonN
  rw [Nat.testBit_mod_two_pow, Nat.testBit_div_two_pow, Nat.add_comm]
theorem coinN_bit (b k i : Nat) : coinN b k i = k.testBit (i * (b + 1) + b) := by
  unfold coinN
  rw [Nat.testBit_div_two_pow, Nat.add_comm]
theorem slot_lt {b i j t : Nat} (h : i < j) (ht : t ≤ b) : i * (b + 1) + t < j * (b + 1) := by
  have h1 : (i + 1) * (b + 1) ≤ j * (b + 1) := Nat.mul_le_mul_right _ h
  rw [Nat.add_mul, Nat.one_mul] at h1
  omega
/-- Two draws that differ in one nonce alone. -/
structure Non (b i k k' : Nat) : Prop where
  n : ∀ t, t ≠ i → nonN b k t = nonN b k' t
  c : ∀ t, coinN b k t = coinN b k' t
theorem non_of {b i k k' : Nat} (hl : k % 2 ^ (i * (b + 1)) = k' % 2 ^ (i * (b + 1))) (hh : k / 2 ^ (i * (b + 1) + b) = k' / 2 ^ (i * (b + 1) + b)) : Non b i k k' := by
  have lo : ∀ t, t < i * (b + 1) → k.testBit t = k'.testBit t := fun t ht => by
    have h1 := Nat.testBit_mod_two_pow k (i * (b + 1)) t
    have h2 := Nat.testBit_mod_two_pow k' (i * (b + 1)) t
    rw [hl, h2, decide_eq_true ht, Bool.true_and, Bool.true_and] at h1
    exact h1.symm
  have hi : ∀ t, i * (b + 1) + b ≤ t → k.testBit t = k'.testBit t := fun t ht => by
    have h1 : (k / 2 ^ (i * (b + 1) + b)).testBit (t - (i * (b + 1) + b)) = k.testBit (t - (i * (b + 1) + b) + (i * (b + 1) + b)) := by rw [Nat.testBit_div_two_pow]
    have h2 : (k' / 2 ^ (i * (b + 1) + b)).testBit (t - (i * (b + 1) + b)) = k'.testBit (t - (i * (b + 1) + b) + (i * (b + 1) + b)) := by rw [Nat.testBit_div_two_pow]
    rw [hh, h2] at h1
    have e : t - (i * (b + 1) + b) + (i * (b + 1) + b) = t := by omega
    rw [e] at h1
    exact h1.symm
  refine ⟨fun t ht => ?_, fun t => ?_⟩
  · apply Nat.eq_of_testBit_eq
    intro x
    rw [nonN_bit, nonN_bit]
    by_cases hx : x < b
    · rw [decide_eq_true hx, Bool.true_and, Bool.true_and]
      rcases Nat.lt_or_gt_of_ne ht with h | h
      · exact lo _ (slot_lt h (by omega))
      · have := slot_lt (b := b) (t := b) h (Nat.le_refl _)
        exact hi _ (by omega)
    · rw [decide_eq_false hx, Bool.false_and, Bool.false_and]
  · rw [coinN_bit, coinN_bit]
    by_cases h : t < i
    · exact lo _ (slot_lt h (Nat.le_refl _))
    · have : i * (b + 1) ≤ t * (b + 1) := Nat.mul_le_mul_right _ (by omega)
      exact hi _ (by omega)
theorem non_eq {b i k k' : Nat} (hl : k % 2 ^ (i * (b + 1)) = k' % 2 ^ (i * (b + 1))) (hh : k / 2 ^ (i * (b + 1) + b) = k' / 2 ^ (i * (b + 1) + b)) (hn : nonN b k i = nonN b k' i) : k = k' := by
  have e : ∀ x : Nat, x = x % 2 ^ (i * (b + 1)) + 2 ^ (i * (b + 1)) * (nonN b x i + 2 ^ b * (x / 2 ^ (i * (b + 1) + b))) := fun x => by
    unfold nonN
    have h1 : x / 2 ^ (i * (b + 1) + b) = x / 2 ^ (i * (b + 1)) / 2 ^ b := by rw [Nat.pow_add, Nat.div_div_eq_div_mul]
    rw [h1, Nat.mod_add_div, Nat.mod_add_div]
  rw [e k, e k', hl, hh, hn]

/-! The run by itself. -/
/-- The first move that is taken though it claims what did not come. -/
def lk (g : Gm) (k : Nat) : List Mv → Int → Nat → Option Nat
  | [], _, _ => none
  | m :: ms, v, u =>
    if m.claim = 0 then (lk g k ms v u).map (· + 1)
    else match lookN g k m v u with
      | none => (lk g k ms (foldV v 1) u).map (· + 1)
      | some i => if (okX g k m v && okO g k m) = true then (if m.claim &&& (15 - g.came) = 0 then (lk g k ms (foldV v 2) (u ||| 2 ^ i)).map (· + 1) else some 0) else none
/-- How many moves hide a fresh packet. -/
def tm (g : Gm) (k : Nat) : List Mv → Int → Nat → Nat → Nat
  | [], _, _, _ => 0
  | m :: ms, v, u, s =>
    if m.claim = 0 then tm g k ms v u s
    else match lookN g k m v u with
      | none => tm g k ms (foldV v 1) u s
      | some i => if (okX g k m v && okO g k m) = true then (if freshX g m &&& (15 - s) = 0 then 0 else 1) + tm g k ms (foldV v 2) (u ||| 2 ^ i) (s ||| freshX g m) else 0
theorem fold_run (g : Gm) (k : Nat) : ∀ (ms : List Mv) (v : Int) (u : Nat) (s : TS),
    ((playS g k ms v u).foldl (tstep g) s).luck = (s.luck || (lk g k ms v u).isSome) ∧ ((lk g k ms v u) = none → ((playS g k ms v u).foldl (tstep g) s).times = s.times + tm g k ms v u s.seen) := by
  intro ms
  induction ms with
  | nil => intro v u s; exact ⟨by simp [playS, lk], fun _ => rfl⟩
  | cons m ms ih =>
    intro v u s
    unfold playS lk tm
    by_cases h0 : m.claim = 0
    · simp only [if_pos h0]
      obtain ⟨h1, h2⟩ := ih v u s
      refine ⟨by rw [h1]; cases lk g k ms v u <;> rfl, fun h => h2 (by cases hx : lk g k ms v u with | none => rfl | some x => rw [hx] at h; cases h)⟩
    · simp only [if_neg h0]
      cases hL : lookN g k m v u with
      | none =>
        simp only [List.foldl_cons]
        have e : tstep g s (⟨1, 3, 0, false⟩, m) = s := by unfold tstep; rw [if_neg (by show ¬ (1 : Int) = 2; decide)]
        rw [e]
        obtain ⟨h1, h2⟩ := ih (foldV v 1) u s
        refine ⟨by rw [h1]; cases lk g k ms (foldV v 1) u <;> rfl, fun h => h2 (by cases hx : lk g k ms (foldV v 1) u with | none => rfl | some x => rw [hx] at h; cases h)⟩
      | some i =>
        simp only
        by_cases hk : (okX g k m v && okO g k m) = true
        · simp only [if_pos hk, List.foldl_cons]
          have e : tstep g s (⟨2, 0, (i : Nat), false⟩, m) = ⟨s.luck || !(m.claim &&& (15 - g.came) == 0), if freshX g m &&& (15 - s.seen) = 0 then s.times else s.times + 1, s.seen ||| freshX g m⟩ := by unfold tstep; rw [if_pos rfl]
          rw [e]
          obtain ⟨h1, h2⟩ := ih (foldV v 2) (u ||| 2 ^ i) ⟨s.luck || !(m.claim &&& (15 - g.came) == 0), if freshX g m &&& (15 - s.seen) = 0 then s.times else s.times + 1, s.seen ||| freshX g m⟩
          by_cases hc : m.claim &&& (15 - g.came) = 0
          · simp only [if_pos hc]
            refine ⟨by rw [h1]; simp only [hc]; cases lk g k ms (foldV v 2) (u ||| 2 ^ i) <;> simp, fun h => ?_⟩
            rw [h2 (by cases hx : lk g k ms (foldV v 2) (u ||| 2 ^ i) with | none => rfl | some x => rw [hx] at h; cases h)]
            simp only
            split <;> omega
          · simp only [if_neg hc]
            exact ⟨by rw [h1]; simp [hc], fun h => by cases h⟩
        · simp only [if_neg hk, List.foldl_cons, List.foldl_nil]
          have e : tstep g s (⟨3, if okX g k m v = true then 7 else 6, 0, false⟩, m) = s := by unfold tstep; rw [if_neg (by show ¬ (3 : Int) = 2; decide)]
          rw [e]
          exact ⟨by simp, fun _ => by simp⟩
def lkN (g : Gm) (k : Nat) : Option Nat := lk g k g.moves (viewTo g k g.n) 0
def tmN (g : Gm) (k : Nat) : Nat := tm g k g.moves (viewTo g k g.n) 0 0
theorem tally_run {g : Gm} (hg : g.ok) (k : Nat) : (tallyN g k).luck = (lkN g k).isSome ∧ (lkN g k = none → (tallyN g k).times = tmN g k) := by
  have e : tallyN g k = (playS g k g.moves (viewTo g k g.n) 0).foldl (tstep g) ⟨false, 0, 0⟩ := by
    unfold tallyN tallyTo
    rw [List.take_length, playedS g k 0 hg]
  obtain ⟨h1, h2⟩ := fold_run g k g.moves (viewTo g k g.n) 0 ⟨false, 0, 0⟩
  rw [← e] at h1 h2
  exact ⟨by rw [h1]; exact Bool.false_or _, fun h => by rw [h2 h]; exact Nat.zero_add _⟩
theorem lk_at (g : Gm) (k : Nat) : ∀ (ms : List Mv) (v : Int) (u j : Nat), lk g k ms v u = some j → ∃ h : j < ms.length, ms[j].claim &&& (15 - g.came) ≠ 0 := by
  intro ms
  induction ms with
  | nil => intro v u j h; cases h
  | cons m ms ih =>
    have key : ∀ (v : Int) (u j : Nat), (lk g k ms v u).map (· + 1) = some j → ∃ h : j < (m :: ms).length, (m :: ms)[j].claim &&& (15 - g.came) ≠ 0 := by
      intro v u j h
      cases hx : lk g k ms v u with
      | none => rw [hx] at h; cases h
      | some x =>
        rw [hx] at h
        simp only [Option.map_some, Option.some.injEq] at h
        subst h
        obtain ⟨h1, h2⟩ := ih v u x hx
        exact ⟨by simpa using h1, by simpa using h2⟩
    intro v u j h
    unfold lk at h
    split at h
    · exact key _ _ _ h
    · split at h
      · exact key _ _ _ h
      · split at h
        · split at h
          · exact key _ _ _ h
          · rename_i hc
            simp only [Option.some.injEq] at h
            subst h
            exact ⟨by simp, hc⟩
        · cases h

/-! A guess that is right. -/
theorem not15 : ∀ a, a < 16 → ∀ i, i < 4 → (15 - a).testBit i = !a.testBit i := by decide
theorem sub_bits {a c : Nat} (ha : a < 16) (hc : c < 16) : a &&& (15 - c) = 0 ↔ ∀ i, i < 4 → a.testBit i = true → c.testBit i = true := by
  constructor
  · intro h i hi h1
    have h2 : (a &&& (15 - c)).testBit i = false := by rw [h]; exact Nat.zero_testBit i
    rw [Nat.testBit_and, h1, not15 c hc i hi] at h2
    simpa using h2
  · intro h
    apply Nat.eq_of_testBit_eq
    intro i
    rw [Nat.zero_testBit, Nat.testBit_and]
    by_cases hi : i < 4
    · rw [not15 c hc i hi]
      cases h1 : a.testBit i with
      | false => rfl
      | true => rw [h i hi h1]; rfl
    · rw [Nat.testBit_lt_two_pow (Nat.lt_of_lt_of_le ha (Nat.pow_le_pow_right (n := 2) (by decide) (i := 4) (by omega)))]
      rfl
theorem xor_cancel {a b c d : Nat} (h : a ^^^ b = c ^^^ d) (e : a = c) : b = d := by
  subst e
  have := congrArg (a ^^^ ·) h
  simpa [← Nat.xor_assoc] using this
theorem xor_cancel' {a b c d : Nat} (h : a ^^^ b = c ^^^ d) (e : b = d) : a = c := by
  rw [Nat.xor_comm a, Nat.xor_comm c] at h
  exact xor_cancel h e
theorem xorIf_one {c : Nat → Bool} {f e : Nat → Nat} {i : Nat} (hc : c i = true) (hn : ∀ t, t ≠ i → f t = e t) (n : Nat) (hi : i < n) (h : xorIf c f n = xorIf c e n) : f i = e i := by
  induction n with
  | zero => omega
  | succ n ih =>
    unfold xorIf at h
    by_cases he : i = n
    · subst he
      rw [if_pos hc, if_pos hc] at h
      exact xor_cancel h (xorIf_congr i (fun t ht => ⟨rfl, fun _ => hn t (by omega)⟩))
    · refine ih (by omega) ?_
      split at h
      · exact xor_cancel' h (hn n (fun e => he e.symm))
      · exact h
section
variable {g : Gm} {k k' i0 : Nat}
theorem Non.trig (h : Non g.b i0 k k') (hi : g.came.testBit i0 = false) (m : Mv) (v : Int) : trigN g k m v = trigN g k' m v := by
  unfold trigN
  split
  · rename_i hc
    rw [Bool.and_eq_true] at hc
    exact h.n _ (fun e => by rw [e, hi] at hc; cases hc.1)
  · rfl
theorem Non.xorTo (h : Non g.b i0 k k') (hi : g.came.testBit i0 = false) (m : Mv) (n : Nat) : xorTo g k m n = xorTo g k' m n := by
  rw [xorTo_if, xorTo_if]
  refine xorIf_congr n (fun t _ => ⟨rfl, fun hc => h.n t (fun e => ?_)⟩)
  rw [Nat.testBit_and, e, hi, Bool.and_false] at hc
  cases hc
theorem Non.okO (h : Non g.b i0 k k') (m : Mv) : okO g k m = okO g k' m := by
  unfold Go.Proofs.YtpfmhkkglaghgaaGreat.okO
  rw [odTo_if, odTo_if]
  have e : ∀ t, coinN g.b k t = coinN g.b k' t := h.c
  simp only [e]
theorem Non.view (h : Non g.b i0 k k') (hi : g.came.testBit i0 = false) (n : Nat) : viewTo g k n = viewTo g k' n := by
  induction n with
  | zero => rfl
  | succ n ih =>
    unfold viewTo
    rw [ih]
    unfold viewOne
    by_cases hc : g.came.testBit n = true
    · rw [h.n n (fun e => by rw [e, hi] at hc; cases hc), h.c n]
    · rw [if_neg hc, if_neg hc]
/-- What is claimed came: both draws go on alike. -/
theorem Non.look (h : Non g.b i0 k k') (hi : g.came.testBit i0 = false) {m : Mv} (hc : m.claim.testBit i0 = false) (v : Int) (u : Nat) : lookN g k m v u = lookN g k' m v u := by
  unfold lookN
  rw [h.trig hi]
  refine find_congr (fun t _ => ?_)
  by_cases e : t = i0
  · subst e; rw [hc]; rfl
  · rw [h.n t e]
theorem Non.okX (h : Non g.b i0 k k') (hi : g.came.testBit i0 = false) {m : Mv} (hc : m.claim.testBit i0 = false) (v : Int) : okX g k m v = okX g k' m v := by
  unfold Go.Proofs.YtpfmhkkglaghgaaGreat.okX
  rw [h.xorTo hi, xorIf_congr (c := fun i => m.claim.testBit i) (d := fun i => m.claim.testBit i) (f := nonN g.b k) (e := nonN g.b k') g.n (fun t _ => ⟨rfl, fun hx => h.n t (fun e => by rw [e, hc] at hx; cases hx)⟩)]
theorem lk_same (hg : g.ok) (h : Non g.b i0 k k') (hi : g.came.testBit i0 = false) (hin : i0 < g.n) : ∀ (ms : List Mv), (∀ m ∈ ms, m.ok g.n) → ∀ (v : Int) (u j : Nat), lk g k ms v u = some j → lk g k' ms v u = some j → ∀ hj : j < ms.length, ms[j].claim.testBit i0 = true → nonN g.b k i0 = nonN g.b k' i0 := by
  have p16 : 2 ^ g.n ≤ 16 := Nat.pow_le_pow_right (n := 2) (by decide) (j := 4) hg.n4
  have hca : g.came < 16 := Nat.lt_of_lt_of_le hg.came p16
  have n4 := hg.n4
  intro ms
  induction ms with
  | nil => intro _ v u j h; cases h
  | cons m ms ih =>
    intro hms v u j h1 h2 hj hb
    have hm := hms m (by simp)
    have key : ∀ (v : Int) (u : Nat), (lk g k ms v u).map (· + 1) = some j → (lk g k' ms v u).map (· + 1) = some j → nonN g.b k i0 = nonN g.b k' i0 := by
      intro v u h1 h2
      cases hx : lk g k ms v u with
      | none => rw [hx] at h1; cases h1
      | some x =>
        cases hy : lk g k' ms v u with
        | none => rw [hy] at h2; cases h2
        | some y =>
          rw [hx] at h1
          rw [hy] at h2
          simp only [Option.map_some, Option.some.injEq] at h1 h2
          subst h1
          obtain rfl : y = x := by omega
          exact ih (fun z hz => hms z (by simp [hz])) v u y hx hy (by simpa using hj) (by simpa using hb)
    unfold lk at h1 h2
    by_cases h0 : m.claim = 0
    · rw [if_pos h0] at h1 h2
      exact key _ _ h1 h2
    · rw [if_neg h0] at h1 h2
      by_cases hs : m.claim &&& (15 - g.came) = 0
      · have hc : m.claim.testBit i0 = false := by
          cases hx : m.claim.testBit i0 with
          | false => rfl
          | true => have := (sub_bits (hm.lt hg).1 hca).1 hs i0 (by omega) hx; rw [hi] at this; cases this
        rw [h.look hi hc] at h1
        cases hL : lookN g k' m v u with
        | none =>
          rw [hL] at h1 h2
          exact key _ _ h1 h2
        | some i =>
          rw [hL] at h1 h2
          simp only at h1 h2
          rw [h.okX hi hc, h.okO] at h1
          by_cases hk : (okX g k' m v && okO g k' m) = true
          · simp only [if_pos hk, if_pos hs] at h1 h2
            exact key _ _ h1 h2
          · simp only [if_neg hk] at h1
            cases h1
      · simp only [if_neg hs] at h1 h2
        cases hL : lookN g k m v u with
        | none =>
          rw [hL] at h1
          simp only at h1
          cases hL2 : lookN g k' m v u with
          | none =>
            rw [hL2] at h2
            exact key _ _ h1 h2
          | some i =>
            rw [hL2] at h2
            simp only at h2
            split at h2
            · simp only [Option.some.injEq] at h2
              subst h2
              cases hx : lk g k ms (foldV v 1) u <;> rw [hx] at h1 <;> simp at h1
            · cases h2
        | some i =>
          rw [hL] at h1
          simp only at h1
          split at h1
          · rename_i hk
            simp only [Option.some.injEq] at h1
            subst h1
            cases hL2 : lookN g k' m v u with
            | none =>
              rw [hL2] at h2
              simp only at h2
              cases hx : lk g k' ms (foldV v 1) u <;> rw [hx] at h2 <;> simp at h2
            | some i' =>
              rw [hL2] at h2
              simp only at h2
              split at h2
              · rename_i hk2
                rw [Bool.and_eq_true] at hk hk2
                have e1 := of_decide_eq_true hk.1
                have e2 := of_decide_eq_true hk2.1
                rw [h.xorTo hi, ← e2] at e1
                exact xorIf_one (c := fun i => m.claim.testBit i) hb h.n g.n hin e1
              · cases h2
          · cases h1
end
theorem lucky_one {g : Gm} (hg : g.ok) (j : Nat) : countTo (fun k => decide (lkN g k = some j)) g.draws * 2 ^ g.b ≤ g.draws := by
  have p16 : 2 ^ g.n ≤ 16 := Nat.pow_le_pow_right (n := 2) (by decide) (j := 4) hg.n4
  have hca : g.came < 16 := Nat.lt_of_lt_of_le hg.came p16
  have n4 := hg.n4
  by_cases hx : ∃ k, lkN g k = some j
  · obtain ⟨k0, hk0⟩ := hx
    obtain ⟨hj, hc⟩ := lk_at g k0 _ _ _ _ hk0
    have hm := hg.moves _ (List.getElem_mem hj)
    have hex : ∃ i0, i0 < 4 ∧ g.moves[j].claim.testBit i0 = true ∧ g.came.testBit i0 = false := by
      refine Decidable.byContradiction fun hn => hc ((sub_bits (hm.lt hg).1 hca).2 (fun i hi h1 => ?_))
      cases h2 : g.came.testBit i with
      | true => rfl
      | false => exact absurd ⟨i, hi, h1, h2⟩ hn
    obtain ⟨i0, -, hb, hi⟩ := hex
    have hin : i0 < g.n := Decidable.byContradiction fun hn => by
      have := Nat.testBit_lt_two_pow (Nat.lt_of_lt_of_le hm.claim (Nat.pow_le_pow_right (n := 2) (by decide) (j := i0) (by omega)))
      rw [this] at hb; cases hb
    have hE : g.draws = 2 ^ (i0 * (g.b + 1)) * (2 ^ g.b * 2 ^ ((g.b + 1) * g.n - (i0 * (g.b + 1) + g.b))) := by
      unfold Gm.draws
      rw [← Nat.pow_add, ← Nat.pow_add]
      congr 1
      have := slot_lt (b := g.b) (t := g.b) hin (Nat.le_refl _)
      rw [Nat.mul_comm g.n] at this
      omega
    generalize hA : i0 * (g.b + 1) = P at hE
    generalize hR : (g.b + 1) * g.n - (P + g.b) = R at hE
    have hcnt : countTo (fun k => decide (lkN g k = some j)) g.draws ≤ countTo (fun _ => true) (2 ^ P * 2 ^ R) := by
      refine count_inj (fun k => k % 2 ^ P + 2 ^ P * (k / 2 ^ (P + g.b))) (fun k hk _ => ⟨?_, rfl⟩) (fun k k' hk hk' h1 h2 e => ?_)
      · have a1 := Nat.mod_lt k (Nat.pow_pos (n := P) (show 0 < 2 by decide))
        have a2 : k / 2 ^ (P + g.b) < 2 ^ R := by
          rw [Nat.div_lt_iff_lt_mul (Nat.pow_pos (by decide)), Nat.pow_add]
          rw [hE] at hk
          rw [Nat.mul_comm (2 ^ R), Nat.mul_assoc]
          exact hk
        have a3 : 2 ^ P * (k / 2 ^ (P + g.b) + 1) ≤ 2 ^ P * 2 ^ R := Nat.mul_le_mul_left _ a2
        rw [Nat.mul_add, Nat.mul_one] at a3
        omega
      · have b0 : 0 < 2 ^ P := Nat.pow_pos (by decide)
        have b1 : k % 2 ^ P = k' % 2 ^ P := by
          have := congrArg (· % 2 ^ P) e
          simpa [Nat.add_mul_mod_self_left, Nat.mod_mod] using this
        have b2 : k / 2 ^ (P + g.b) = k' / 2 ^ (P + g.b) := by
          have e : k % 2 ^ P + 2 ^ P * (k / 2 ^ (P + g.b)) = k' % 2 ^ P + 2 ^ P * (k' / 2 ^ (P + g.b)) := e
          rw [b1] at e
          exact Nat.eq_of_mul_eq_mul_left b0 (by omega)
        rw [← hA] at b1 b2
        have hN := non_of b1 b2
        have c1 : lk g k g.moves (viewTo g k g.n) 0 = some j := of_decide_eq_true h1
        have c2 : lk g k' g.moves (viewTo g k' g.n) 0 = some j := of_decide_eq_true h2
        rw [← hN.view hi] at c2
        exact non_eq b1 b2 (lk_same hg hN hi hin g.moves hg.moves _ _ _ c1 c2 hj hb)
    rw [count_all] at hcnt
    calc countTo (fun k => decide (lkN g k = some j)) g.draws * 2 ^ g.b ≤ (2 ^ P * 2 ^ R) * 2 ^ g.b := Nat.mul_le_mul_right _ hcnt
      _ = g.draws := by rw [hE, Nat.mul_assoc, Nat.mul_comm (2 ^ R)]
  · rw [count_none (fun k => decide_eq_false (fun h => hx ⟨k, h⟩))]
    omega
theorem lucky_le {g : Gm} (hg : g.ok) : luckyN g * 2 ^ g.b ≤ g.draws * g.moves.length := by
  have key : ∀ J, countTo (fun k => match lkN g k with | some x => decide (x < J) | none => false) g.draws * 2 ^ g.b ≤ g.draws * J := by
    intro J
    induction J with
    | zero =>
      rw [count_none (fun k => by cases lkN g k <;> simp)]
      omega
    | succ J ih =>
      have h1 := count_or (p := fun k => match lkN g k with | some x => decide (x < J + 1) | none => false) (q := fun k => match lkN g k with | some x => decide (x < J) | none => false) (r := fun k => decide (lkN g k = some J)) (fun k h => by
        cases hx : lkN g k with
        | none => rw [hx] at h; cases h
        | some x =>
          rw [hx] at h
          have h := of_decide_eq_true h
          by_cases hJ : x < J
          · exact .inl (decide_eq_true hJ)
          · exact .inr (decide_eq_true (by rw [show x = J by omega]))) g.draws
      have h2 := Nat.mul_le_mul_right (2 ^ g.b) h1
      have h3 := lucky_one hg J
      rw [Nat.add_mul] at h2
      rw [Nat.mul_add, Nat.mul_one]
      omega
  have e : luckyN g = countTo (fun k => match lkN g k with | some x => decide (x < g.moves.length) | none => false) g.draws := by
    unfold luckyN
    refine count_congr (fun k => ?_) _
    rw [(tally_run hg k).1]
    cases hx : lkN g k with
    | none => rfl
    | some x =>
      obtain ⟨hj, -⟩ := lk_at g k _ _ _ _ hx
      exact (decide_eq_true hj).symm
  rw [e]
  exact key _

end Go.Proofs.YtpfmhkkglaghgaaGreat

namespace Go.Proofs.YtpfmhkkglaghgaaGreat
set_option linter.unusedSimpArgs false
set_option linter.unusedVariables false
set_option linter.unnecessarySimpa false
open Go.RowKit

/-- The first packet that the n-th fresh move but one would hide. -/
def lowBit (x : Nat) : Option Nat := (List.range 4).find? (fun i => x.testBit i)
theorem lowBit_some {x i : Nat} (h : lowBit x = some i) : i < 4 ∧ x.testBit i = true := by
  unfold lowBit at h
  exact ⟨List.mem_range.1 (List.mem_of_find?_eq_some h), List.find?_some (p := fun i => x.testBit i) h⟩
theorem lowBit_ex {x : Nat} (hx : x < 16) (h : x ≠ 0) : ∃ i, lowBit x = some i := by
  cases e : lowBit x with
  | some i => exact ⟨i, rfl⟩
  | none =>
    unfold lowBit at e
    rw [List.find?_eq_none] at e
    refine absurd ?_ h
    apply Nat.eq_of_testBit_eq
    intro i
    rw [Nat.zero_testBit]
    by_cases hi : i < 4
    · simpa using e i (List.mem_range.2 hi)
    · exact Nat.testBit_lt_two_pow (Nat.lt_of_lt_of_le hx (Nat.pow_le_pow_right (n := 2) (by decide) (i := 4) (by omega)))
def pv (g : Gm) (k : Nat) : List Mv → Nat → Int → Nat → Nat → Option Nat
  | [], _, _, _, _ => none
  | m :: ms, n, v, u, s =>
    if m.claim = 0 then pv g k ms n v u s
    else match lookN g k m v u with
      | none => pv g k ms n (foldV v 1) u s
      | some i => if freshX g m &&& (15 - s) ≠ 0 ∧ n = 0 then lowBit (freshX g m &&& (15 - s)) else if (okX g k m v && okO g k m) = true then pv g k ms (if freshX g m &&& (15 - s) = 0 then n else n - 1) (foldV v 2) (u ||| 2 ^ i) (s ||| freshX g m) else none
/-- One marked coin has turned. -/
structure Flip (g : Gm) (i k k' : Nat) : Prop where
  n : ∀ t, nonN g.b k t = nonN g.b k' t
  c : ∀ t, t ≠ i → coinN g.b k t = coinN g.b k' t
  f : coinN g.b k' i = !coinN g.b k i
section
variable {g : Gm} {k k' i : Nat}
theorem Flip.trig (h : Flip g i k k') (m : Mv) (v : Int) : trigN g k m v = trigN g k' m v := by
  unfold trigN
  rw [h.n]
theorem Flip.xorTo (h : Flip g i k k') (m : Mv) (n : Nat) : xorTo g k m n = xorTo g k' m n := by
  rw [xorTo_if, xorTo_if]
  exact xorIf_congr n (fun t _ => ⟨rfl, fun _ => h.n t⟩)
theorem Flip.look (h : Flip g i k k') (m : Mv) (v : Int) (u : Nat) : lookN g k m v u = lookN g k' m v u := by
  unfold lookN
  rw [h.trig]
  exact find_congr (fun t _ => by rw [h.n t])
theorem Flip.okX (h : Flip g i k k') (m : Mv) (v : Int) : okX g k m v = okX g k' m v := by
  unfold Go.Proofs.YtpfmhkkglaghgaaGreat.okX
  rw [h.xorTo, xorIf_congr (c := fun i => m.claim.testBit i) (d := fun i => m.claim.testBit i) (f := nonN g.b k) (e := nonN g.b k') g.n (fun t _ => ⟨rfl, fun _ => h.n t⟩)]
theorem Flip.odTo (h : Flip g i k k') (hi : g.marked.testBit i = true) (m : Mv) (n : Nat) : odTo g k m n = odTo g k' m n := by
  rw [odTo_if, odTo_if]
  refine odIf_congr n (fun t _ => ?_)
  by_cases e : t = i
  · subst e; simp [hi]
  · rw [h.c t e]
theorem Flip.view (h : Flip g i k k') (hi : g.marked.testBit i = true) (n : Nat) : viewTo g k n = viewTo g k' n := by
  induction n with
  | zero => rfl
  | succ n ih =>
    unfold viewTo
    rw [ih]
    unfold viewOne
    rw [h.n n]
    by_cases e : n = i
    · subst e; simp [hi]
    · rw [h.c n e]
theorem odIf_flip {c d : Nat → Bool} {i : Nat} (hc : d i = !c i) (hn : ∀ t, t ≠ i → c t = d t) (n : Nat) (hi : i < n) : odIf false d n = !odIf false c n := by
  induction n with
  | zero => omega
  | succ n ih =>
    unfold odIf
    by_cases e : i = n
    · subst e
      rw [hc, odIf_congr (c := c) (d := d) i (fun t ht => hn t (by omega))]
      cases c i <;> simp
    · rw [ih (by omega), hn n (fun x => e x.symm)]
      split <;> rfl
theorem freshX_bit {g : Gm} {m : Mv} (hk : m.mark < 16) {i : Nat} (hi : i < 4) : (freshX g m).testBit i = (g.marked.testBit i && m.claim.testBit i && !m.mark.testBit i) := by
  unfold freshX
  rw [Nat.testBit_and, Nat.testBit_and, not15 _ hk i hi]
/-- It is not hidden here: nothing changes. -/
theorem Flip.okO (h : Flip g i k k') (hi : g.marked.testBit i = true) (hi4 : i < 4) {m : Mv} (hk : m.mark < 16) (hf : (freshX g m).testBit i = false) : Go.Proofs.YtpfmhkkglaghgaaGreat.okO g k m = Go.Proofs.YtpfmhkkglaghgaaGreat.okO g k' m := by
  unfold Go.Proofs.YtpfmhkkglaghgaaGreat.okO
  rw [h.odTo hi]
  have e : odIf false (fun i => m.claim.testBit i && (coinN g.b k i && !m.mark.testBit i)) g.n = odIf false (fun i => m.claim.testBit i && (coinN g.b k' i && !m.mark.testBit i)) g.n := odIf_congr g.n (fun t _ => by
    by_cases e : t = i
    · subst e
      rw [freshX_bit hk hi4, hi, Bool.true_and] at hf
      cases h1 : m.claim.testBit t with
      | false => rfl
      | true =>
        rw [h1, Bool.true_and] at hf
        rw [hf]
        simp
    · rw [h.c t e])
  rw [e]
/-- It is hidden here: what was right is wrong. -/
theorem Flip.okO' (h : Flip g i k k') (hi : g.marked.testBit i = true) (hi4 : i < 4) (hin : i < g.n) {m : Mv} (hk : m.mark < 16) (hf : (freshX g m).testBit i = true) : Go.Proofs.YtpfmhkkglaghgaaGreat.okO g k' m = !Go.Proofs.YtpfmhkkglaghgaaGreat.okO g k m := by
  unfold Go.Proofs.YtpfmhkkglaghgaaGreat.okO
  rw [← h.odTo hi]
  rw [freshX_bit hk hi4, hi, Bool.true_and, Bool.and_eq_true] at hf
  have e := odIf_flip (c := fun i => m.claim.testBit i && (coinN g.b k i && !m.mark.testBit i)) (d := fun i => m.claim.testBit i && (coinN g.b k' i && !m.mark.testBit i)) (i := i)
    (by simp only [h.f, hf.1, hf.2]; simp) (fun t ht => by simp only [h.c t ht]) g.n hin
  rw [e]
  cases odIf false (fun i => m.claim.testBit i && (coinN g.b k i && !m.mark.testBit i)) g.n <;> cases Go.Proofs.YtpfmhkkglaghgaaGreat.odTo g k m g.n <;> rfl
end
theorem or_bit_false {s f i : Nat} (h : (s ||| f).testBit i = false) : s.testBit i = false ∧ f.testBit i = false := by
  rw [Nat.testBit_or, Bool.or_eq_false_iff] at h
  exact h
structure Piv (g : Gm) (k : Nat) (ms : List Mv) (n : Nat) (v : Int) (u s i : Nat) : Prop where
  p : pv g k ms n v u s = some i
  m : g.marked.testBit i = true
  lt : i < g.n
  ns : s.testBit i = false
  alike : ∀ k', Flip g i k k' → pv g k' ms n v u s = some i ∧ lk g k' ms v u = none ∧ tm g k' ms v u s = n
theorem pivot {g : Gm} (hg : g.ok) {k : Nat} : ∀ (ms : List Mv), (∀ m ∈ ms, m.ok g.n) → ∀ (n : Nat) (v : Int) (u s : Nat), s < 16 → lk g k ms v u = none → n + 1 ≤ tm g k ms v u s → ∃ i, Piv g k ms n v u s i := by
  have p16 : 2 ^ g.n ≤ 16 := Nat.pow_le_pow_right (n := 2) (by decide) (j := 4) hg.n4
  have hca : g.came < 16 := Nat.lt_of_lt_of_le hg.came p16
  have hma : g.marked < 16 := Nat.lt_of_le_of_lt (Nat.le_of_testBit hg.marked) hca
  have n4 := hg.n4
  intro ms
  induction ms with
  | nil => intro _ n v u s _ _ h; simp [tm] at h
  | cons m ms ih =>
    intro hms n v u s hs hl ht
    have hm := hms m (by simp)
    have ih := ih (fun x hx => hms x (by simp [hx]))
    have hmk := (hm.lt hg).2
    have hf16 : freshX g m < 16 := and15 _ (and_lt16 _ hma _ (hm.lt hg).1) _ hmk
    unfold lk at hl
    unfold tm at ht
    by_cases h0 : m.claim = 0
    · simp only [if_pos h0] at hl ht
      obtain ⟨i, P⟩ := ih n v u s hs (by cases hx : lk g k ms v u with | none => rfl | some x => rw [hx] at hl; cases hl) ht
      refine ⟨i, ⟨by unfold pv; rw [if_pos h0]; exact P.p, P.m, P.lt, P.ns, fun k' hk' => ?_⟩⟩
      obtain ⟨a1, a2, a3⟩ := P.alike k' hk'
      exact ⟨by unfold pv; rw [if_pos h0]; exact a1, by unfold lk; rw [if_pos h0, a2]; rfl, by unfold tm; rw [if_pos h0]; exact a3⟩
    · simp only [if_neg h0] at hl ht
      cases hL : lookN g k m v u with
      | none =>
        rw [hL] at hl ht
        simp only at hl ht
        obtain ⟨i, P⟩ := ih n (foldV v 1) u s hs (by cases hx : lk g k ms (foldV v 1) u with | none => rfl | some x => rw [hx] at hl; cases hl) ht
        refine ⟨i, ⟨by unfold pv; rw [if_neg h0, hL]; exact P.p, P.m, P.lt, P.ns, fun k' hk' => ?_⟩⟩
        obtain ⟨a1, a2, a3⟩ := P.alike k' hk'
        have hL' : lookN g k' m v u = none := by rw [← hk'.look]; exact hL
        exact ⟨by unfold pv; rw [if_neg h0, hL']; exact a1, by unfold lk; rw [if_neg h0, hL']; simp only; rw [a2]; rfl, by unfold tm; rw [if_neg h0, hL']; exact a3⟩
      | some i0 =>
        rw [hL] at hl ht
        simp only at hl ht
        by_cases hk : (okX g k m v && okO g k m) = true
        · simp only [if_pos hk] at hl ht
          by_cases hc : m.claim &&& (15 - g.came) = 0
          · simp only [if_pos hc] at hl
            have hl' : lk g k ms (foldV v 2) (u ||| 2 ^ i0) = none := by cases hx : lk g k ms (foldV v 2) (u ||| 2 ^ i0) with | none => rfl | some x => rw [hx] at hl; cases hl
            rw [Bool.and_eq_true] at hk
            by_cases hfr : freshX g m &&& (15 - s) = 0
            · rw [if_pos hfr, Nat.zero_add] at ht
              obtain ⟨i, P⟩ := ih n (foldV v 2) (u ||| 2 ^ i0) (s ||| freshX g m) (or_lt16 _ hs _ hf16) hl' ht
              obtain ⟨s1, s2⟩ := or_bit_false P.ns
              refine ⟨i, ⟨by unfold pv; rw [if_neg h0, hL]; simp only; rw [if_neg (fun e => e.1 hfr), hk.1, hk.2, if_pos hfr]; exact P.p, P.m, P.lt, s1, fun k' hk' => ?_⟩⟩
              obtain ⟨a1, a2, a3⟩ := P.alike k' hk'
              have hL' : lookN g k' m v u = some i0 := by rw [← hk'.look]; exact hL
              have x1 : okX g k' m v = true := by rw [← hk'.okX]; exact hk.1
              have x2 : okO g k' m = true := by rw [← hk'.okO P.m (by have := P.lt; omega) hmk s2]; exact hk.2
              exact ⟨by unfold pv; rw [if_neg h0, hL']; simp only; rw [if_neg (fun e => e.1 hfr), x1, x2, if_pos hfr]; exact a1, by unfold lk; rw [if_neg h0, hL']; simp only; rw [x1, x2, if_pos hc, a2]; rfl, by unfold tm; rw [if_neg h0, hL']; simp only; rw [x1, x2, if_pos hfr, Nat.zero_add]; exact a3⟩
            · rw [if_neg hfr] at ht
              cases n with
              | zero =>
                obtain ⟨i, hi⟩ := lowBit_ex (x := freshX g m &&& (15 - s)) (and15 _ hf16 _ hs) hfr
                obtain ⟨l4, lb⟩ := lowBit_some hi
                rw [Nat.testBit_and, Bool.and_eq_true, not15 s hs i l4] at lb
                have hb := lb.1
                rw [freshX_bit hmk l4, Bool.and_eq_true, Bool.and_eq_true] at hb
                have hlt : i < g.n := Decidable.byContradiction fun hn => by
                  have := Nat.testBit_lt_two_pow (Nat.lt_of_lt_of_le hm.claim (Nat.pow_le_pow_right (n := 2) (by decide) (j := i) (by omega)))
                  rw [hb.1.2] at this; cases this
                refine ⟨i, ⟨by unfold pv; rw [if_neg h0, hL]; simp only; rw [if_pos ⟨hfr, trivial⟩]; exact hi, hb.1.1, hlt, by simpa using lb.2, fun k' hk' => ?_⟩⟩
                have hL' : lookN g k' m v u = some i0 := by rw [← hk'.look]; exact hL
                have x2 : okO g k' m = false := by rw [hk'.okO' hb.1.1 l4 hlt hmk lb.1, hk.2]; rfl
                exact ⟨by unfold pv; rw [if_neg h0, hL']; simp only; rw [if_pos ⟨hfr, trivial⟩]; exact hi, by unfold lk; rw [if_neg h0, hL']; simp only; rw [x2, Bool.and_false, if_neg (by decide)], by unfold tm; rw [if_neg h0, hL']; simp only; rw [x2, Bool.and_false, if_neg (by decide)]⟩
              | succ n =>
                obtain ⟨i, P⟩ := ih n (foldV v 2) (u ||| 2 ^ i0) (s ||| freshX g m) (or_lt16 _ hs _ hf16) hl' (by omega)
                obtain ⟨s1, s2⟩ := or_bit_false P.ns
                refine ⟨i, ⟨by unfold pv; rw [if_neg h0, hL]; simp only; rw [if_neg (fun e => by cases e.2), hk.1, hk.2, if_neg hfr]; exact P.p, P.m, P.lt, s1, fun k' hk' => ?_⟩⟩
                obtain ⟨a1, a2, a3⟩ := P.alike k' hk'
                have hL' : lookN g k' m v u = some i0 := by rw [← hk'.look]; exact hL
                have x1 : okX g k' m v = true := by rw [← hk'.okX]; exact hk.1
                have x2 : okO g k' m = true := by rw [← hk'.okO P.m (by have := P.lt; omega) hmk s2]; exact hk.2
                exact ⟨by unfold pv; rw [if_neg h0, hL']; simp only; rw [if_neg (fun e => by cases e.2), x1, x2, if_neg hfr]; exact a1, by unfold lk; rw [if_neg h0, hL']; simp only; rw [x1, x2, if_pos hc, a2]; rfl, by unfold tm; rw [if_neg h0, hL']; simp only; rw [x1, x2, if_neg hfr, a3]; exact Nat.add_comm 1 n⟩
          · simp only [if_neg hc] at hl
            cases hl
        · simp only [if_neg hk] at ht
          omega

theorem flip_of {g : Gm} {i k : Nat} : Flip g i k (k ^^^ 2 ^ (i * (g.b + 1) + g.b)) := by
  have e : ∀ t, (k ^^^ 2 ^ (i * (g.b + 1) + g.b)).testBit t = (k.testBit t ^^ decide (i * (g.b + 1) + g.b = t)) := fun t => by rw [Nat.testBit_xor, Nat.testBit_two_pow]
  refine ⟨fun t => ?_, fun t ht => ?_, ?_⟩
  · apply Nat.eq_of_testBit_eq
    intro x
    rw [nonN_bit, nonN_bit, e]
    by_cases hx : x < g.b
    · have : ¬ i * (g.b + 1) + g.b = t * (g.b + 1) + x := fun h => by
        rcases Nat.lt_trichotomy i t with h1 | h1 | h1
        · have := slot_lt (b := g.b) (t := g.b) h1 (Nat.le_refl _); omega
        · subst h1; omega
        · have := slot_lt (b := g.b) (t := x) h1 (by omega); omega
      rw [decide_eq_false this, Bool.xor_false]
    · rw [decide_eq_false hx]; rfl
  · rw [coinN_bit, coinN_bit, e]
    have : ¬ i * (g.b + 1) + g.b = t * (g.b + 1) + g.b := fun h => by
      rcases Nat.lt_or_gt_of_ne ht with h1 | h1
      · have := slot_lt (b := g.b) (t := g.b) h1 (Nat.le_refl _); omega
      · have := slot_lt (b := g.b) (t := g.b) h1 (Nat.le_refl _); omega
    rw [decide_eq_false this, Bool.xor_false]
  · rw [coinN_bit, coinN_bit, e, decide_eq_true rfl, Bool.xor_true]
theorem hiddenP_run {g : Gm} (hg : g.ok) (n k : Nat) : hiddenP g n k = decide (lkN g k = none ∧ n ≤ tmN g k) := by
  unfold hiddenP
  obtain ⟨h1, h2⟩ := tally_run hg k
  rw [h1]
  cases hx : lkN g k with
  | some x => simp
  | none =>
    rw [h2 hx]
    by_cases h : n ≤ tmN g k
    · have h3 : ((tmN g k : Nat) : Int) ≥ (n : Int) := by omega
      simp [h]
    · have h3 : ¬ ((tmN g k : Nat) : Int) ≥ (n : Int) := by omega
      simp [h]
theorem hidden_step {g : Gm} (hg : g.ok) (n : Nat) : countTo (hiddenP g (n + 1 : Nat)) g.draws * 2 ≤ countTo (hiddenP g n) g.draws := by
  have h1 := count_split (p := hiddenP g n) (q := hiddenP g (n + 1 : Nat)) (fun k h => by
    rw [hiddenP_run hg] at h ⊢
    have h := of_decide_eq_true h
    exact decide_eq_true ⟨h.1, by omega⟩) g.draws
  have ex : ∀ k, hiddenP g (n + 1 : Nat) k = true → ∃ i, Piv g k g.moves n (viewTo g k g.n) 0 0 i := fun k h => by
    rw [hiddenP_run hg] at h
    have h := of_decide_eq_true h
    exact pivot hg g.moves hg.moves n _ 0 0 (by decide) h.1 h.2
  have h2 := count_inj (p := hiddenP g (n + 1 : Nat)) (q := fun k => hiddenP g n k && !hiddenP g (n + 1 : Nat) k) (D := g.draws) (N := g.draws)
    (fun k => match pv g k g.moves n (viewTo g k g.n) 0 0 with | some i => k ^^^ 2 ^ (i * (g.b + 1) + g.b) | none => 0)
    (fun k hk h => by
      obtain ⟨i, P⟩ := ex k h
      rw [P.p]
      simp only
      obtain ⟨a1, a2, a3⟩ := P.alike _ flip_of
      have hlt : i * (g.b + 1) + g.b < (g.b + 1) * g.n := by
        have := slot_lt (b := g.b) (t := g.b) P.lt (Nat.le_refl _)
        rw [Nat.mul_comm (g.b + 1)]; exact this
      refine ⟨?_, ?_⟩
      · unfold Gm.draws at hk ⊢
        exact Nat.xor_lt_two_pow hk (Nat.pow_lt_pow_right (by decide) hlt)
      · have b1 : lkN g (k ^^^ 2 ^ (i * (g.b + 1) + g.b)) = none := by unfold lkN; rw [← flip_of.view P.m]; exact a2
        have b2 : tmN g (k ^^^ 2 ^ (i * (g.b + 1) + g.b)) = n := by unfold tmN; rw [← flip_of.view P.m]; exact a3
        rw [hiddenP_run hg, hiddenP_run hg, b1, b2]
        simp)
    (fun k k' hk hk' h h' e => by
      obtain ⟨i, P⟩ := ex k h
      obtain ⟨i', P'⟩ := ex k' h'
      rw [P.p, P'.p] at e
      simp only at e
      have c1 := (P.alike _ flip_of).1
      have c2 := (P'.alike _ flip_of).1
      rw [flip_of.view P.m] at c1
      rw [flip_of.view P'.m, ← e] at c2
      rw [c1] at c2
      injection c2 with c2
      subst c2
      exact xor_cancel' e rfl)
  omega
theorem hidden_zero {g : Gm} (n : Int) : hiddenN g n ≤ g.draws := count_le _ _
theorem hidden_mono {g : Gm} (hg : g.ok) (n : Nat) : hiddenN g (n + 1 : Nat) ≤ hiddenN g n := by
  have := hidden_step hg n
  unfold hiddenN
  omega
theorem hidden_le {g : Gm} (hg : g.ok) (n : Nat) : hiddenN g n * 2 ^ n ≤ g.draws := by
  induction n with
  | zero => rw [Nat.pow_zero, Nat.mul_one]; exact hidden_zero _
  | succ n ih =>
    have h1 := Nat.mul_le_mul_right (2 ^ n) (hidden_step hg n)
    have e : hiddenN g (n + 1 : Nat) * 2 ^ (n + 1) = countTo (hiddenP g (n + 1 : Nat)) g.draws * 2 * 2 ^ n := by unfold hiddenN; rw [Nat.pow_succ, Nat.mul_assoc, Nat.mul_comm (2 ^ n) 2]
    rw [e]
    exact Nat.le_trans h1 ih
theorem tm_le (g : Gm) (k : Nat) : ∀ (ms : List Mv) (v : Int) (u s : Nat), tm g k ms v u s ≤ ms.length := by
  intro ms
  induction ms with
  | nil => intro v u s; exact Nat.le_refl _
  | cons m ms ih =>
    intro v u s
    unfold tm
    simp only [List.length_cons]
    split
    · have := ih v u s; omega
    · split
      · have := ih (foldV v 1) u s; omega
      · rename_i i _
        split
        · have := ih (foldV v 2) (u ||| 2 ^ i) (s ||| freshX g m)
          split <;> omega
        · omega
theorem hidden_none {g : Gm} (hg : g.ok) : hiddenN g (g.moves.length + 1 : Nat) = 0 := by
  unfold hiddenN
  refine count_none (fun k => ?_) _
  rw [hiddenP_run hg]
  exact decide_eq_false (fun e => by have := tm_le g k g.moves (viewTo g k g.n) 0 0; have h := e.2; unfold tmN at h; omega)

end Go.Proofs.YtpfmhkkglaghgaaGreat
