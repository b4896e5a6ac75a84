/-
  What a guard's take does, plainly: what the laws of the guard alone need.
-/
import Derived.Test.YtpfmhkkglaghgaaGreatGuaP
import Derived.Test.YtpfmhkkglaghgaaGreatOct7
import Derived.Test.YtpfmhkkglaghgaaGreatAskR
namespace Go.Proofs.YtpfmhkkglaghgaaGreat
set_option linter.unusedSimpArgs false
set_option linter.unusedVariables false
set_option linter.unnecessarySimpa false
open Go.RowKit

def core (x : Snt) : Int × Int × Int × Bool := (x.pn, x.state, x.nonce, x.coin)
theorem use_core (s : LS) (pn : Int) : (s.use pn).1.kept.map core = s.kept.map core := by
  unfold LS.use
  split
  · rename_i h
    obtain ⟨h1, h2, h3⟩ := LS.has_lt h.1
    have e : (s.put pn { s.at' pn with used := true }).kept.map core = ((s.all.set pn.toNat { s.at' pn with used := true }).drop s.low).map core := by
      simp [LS.kept, LS.low, LS.put]
    rw [e, List.map_drop, List.map_set]
    have e2 : core { s.at' pn with used := true } = core (s.at' pn) := rfl
    have hp : pn.toNat < s.all.length := by omega
    have e3 : s.at' pn = s.all[pn.toNat] := LS.at'_eq h.1
    rw [e2, e3]
    have e4 : (s.all.map core).set pn.toNat (core s.all[pn.toNat]) = s.all.map core := by
      apply List.ext_getElem
      · simp
      · intro i h1 h2
        rw [List.getElem_set]
        split
        · rename_i hi; subst hi; simp
        · rfl
    rw [e4, ← List.map_drop]
    rfl
  · rfl
theorem foldl_core {α : Type} (g : α → Int × Int × Int × Bool → α) (z : α) {l m : List Snt} (h : l.map core = m.map core) : l.foldl (fun a x => g a (core x)) z = m.foldl (fun a x => g a (core x)) z := by
  rw [← List.foldl_map (f := core) (g := g), ← List.foldl_map (f := core) (g := g), h]
theorem sumX_core (cl : List Sp) {l m : List Snt} (h : l.map core = m.map core) : LS.sumX cl l = LS.sumX cl m :=
  congrArg Int.ofNat (foldl_core (fun a (y : Int × Int × Int × Bool) => if hasP cl y.1 = true then a ^^^ y.2.2.1.toNat else a) 0 h)
theorem sumO_core (cl mk : List Sp) {l m : List Snt} (h : l.map core = m.map core) : LS.sumO cl mk l = LS.sumO cl mk m :=
  foldl_core (fun a (y : Int × Int × Int × Bool) => if hasP cl y.1 = true then (a != (y.2.2.2 && !hasP mk y.1)) else a) false h
theorem noSkip_core (cl : List Sp) {l m : List Snt} (h : l.map core = m.map core) (hn : LS.noSkip l cl) : LS.noSkip m cl := by
  intro x hx hp
  have : core x ∈ l.map core := by rw [h]; exact List.mem_map_of_mem hx
  obtain ⟨y, hy, e⟩ := List.mem_map.1 this
  have e1 : y.pn = x.pn := congrArg Prod.fst e
  have e2 : y.state = x.state := congrArg (fun z => z.2.1) e
  rw [← e2]
  exact hn y hy (by rw [e1]; exact hp)
theorem use_len (s : LS) (pn : Int) : (s.use pn).1.all.length = s.all.length ∧ (s.use pn).1.ring = s.ring ∧ (s.use pn).1.low = s.low := by
  unfold LS.use
  split <;> simp [LS.put, LS.low]
theorem skipP_none' {sp : List Sp} {l : List Snt} (h : ∀ x ∈ l, ¬ (x.state = 4 ∧ hasP sp x.pn = true)) : skipP sp l = none := by
  induction l with
  | nil => rfl
  | cons x r ih => unfold skipP; rw [if_neg (h x (by simp)), ih (fun c hc => h c (List.mem_cons_of_mem _ hc))]
theorem headD_get' {l : List Sp} (h : 0 < l.length) : (l.headD (0, 0)).1 = l[0].1 := by
  cases l with
  | nil => simp at h
  | cons x r => rfl
theorem aheadP_none' {n : Int} {cl : List Sp} (h : ∀ c ∈ cl, ¬ n ≤ c.2) : aheadP n cl = none := by
  induction cl with
  | nil => rfl
  | cons x r ih => unfold aheadP; rw [if_neg (h x (by simp)), ih (fun c hc => h c (List.mem_cons_of_mem _ hc))]
/-- Who shows what is so is taken. -/
theorem check_true {s : LS} (g : s.Good) {a : Ak} {pn X : Int} {O : Bool} (hA : Asked a) (hs : s.sum a.sp [] = (X, O, true)) :
    (⟨a.sp, a.mm, a.tr, X, O⟩ : AckD).ak.check (s.use pn).1 = (0, 0) := by
  have so : s.SumOk a.sp [] := by
    apply Decidable.byContradiction
    intro h
    rw [LS.sum_no h] at hs
    injection hs with _ e
    injection e with _ e
    cases e
  have hc := use_core s pn
  obtain ⟨u1, u2, u3⟩ := use_len s pn
  have so' : (s.use pn).1.SumOk a.sp [] := ⟨so.1, so.2.1, fun c hc => by rw [u1, u3]; exact so.2.2.1 c hc, noSkip_core _ hc.symm so.2.2.2⟩
  have hs' : (s.use pn).1.sum a.sp [] = (X, O, true) := by
    rw [LS.sum_yes so', sumX_core _ hc, sumO_core _ _ hc, ← LS.sum_yes so, hs]
  have ht := hA.two
  have hm := hA.may
  have ho := hA.one
  have em := hA.mm
  obtain ⟨A, c, B, e, sp, mm, tr, xo, od⟩ := a
  simp only at *
  subst em
  have hlo : ¬ ((⟨sp, [], tr, X, O⟩ : AckD).ak.lo < (s.use pn).1.low) := by
    have := (so'.2.2.1 sp[0] (List.getElem_mem (by omega))).1
    have e : (⟨sp, [], tr, X, O⟩ : AckD).ak.lo = sp[0].1 := headD_get' _
    omega
  rw [Ak.check_go (decide_eq_true hm) hlo]
  show aheadsP _ _ (aheadP _ sp) = _
  rw [aheadP_none' (fun c hc => by have := (so'.2.2.1 c hc).2; omega)]
  show skipsP _ _ (skipP sp _) = _
  rw [skipP_none' (fun x hx e => so'.2.2.2 x hx e.2 e.1)]
  show sumsP _ _ = _
  exact sums_ok (congrArg Prod.fst hs') (congrArg (fun z => z.2.1) hs')
/-- Who ended it stays ended. -/
theorem take_over {g : GS} (h : g.over = true) (s : LS) (f : List Int) (now : Int) : (g.take s f now).g = g.late ∧ (g.take s f now).s = s ∧ (g.take s f now).v = ⟨1, 8, 0, false⟩ := by
  rw [GS.take_late h]; exact ⟨rfl, rfl, rfl⟩

/-- How many were granted in an interval. -/
def inWin (fr ev t : Int) : Bool := decide (fr ≤ t ∧ t - fr < ev)
structure Ch (fr ev : Int) (most n : Nat) (b : BS) (now : Int) : Prop where
  e : b.every = ev
  m : b.most = most
  now : b.now ≤ now
  le : ∀ t ∈ b.all, t ≤ b.now
  cnt : (b.all.filter (inWin fr ev)).length = n
  top : n ≤ most
theorem Ch.ask {fr ev : Int} {most n : Nat} {b : BS} {now now' : Int} (h : Ch fr ev most n b now) (hn : now ≤ now') :
    Ch fr ev most (if ((b.ask now').2 && inWin fr ev now') = true then n + 1 else n) (b.ask now').1 now' := by
  obtain ⟨e, m, hnow, le, cnt, top⟩ := h
  have hx : max b.now now' = now' := by omega
  unfold BS.ask
  rw [hx, e]
  split
  · exact ⟨rfl, m, Int.le_refl _, fun t ht => by have := le t ht; simp only; omega, by simpa using cnt, by simpa using top⟩
  · rename_i hl
    rw [m] at hl
    refine ⟨rfl, m, Int.le_refl _, fun t ht => ?_, ?_, ?_⟩
    · simp only at ht ⊢
      rcases List.mem_append.1 ht with h | h
      · have := le t h; omega
      · rw [List.mem_singleton.1 h]; omega
    · simp only [Bool.true_and]
      rw [List.filter_append, List.length_append, cnt]
      by_cases hw : inWin fr ev now' = true
      · simp [hw]
      · simp [hw]
    · simp only [Bool.true_and]
      by_cases hw : inWin fr ev now' = true
      · rw [if_pos hw]
        have hw' := of_decide_eq_true hw
        have : (b.all.filter (inWin fr ev)).length ≤ (BS.still ev now' b.all).length := by
          unfold BS.still
          rw [← List.countP_eq_length_filter, ← List.countP_eq_length_filter]
          apply List.countP_mono_left
          intro t ht h1
          have h2 := of_decide_eq_true h1
          have := le t ht
          exact decide_eq_true (by omega)
        omega
      · rw [if_neg hw]; exact top
theorem Ch.take {fr ev : Int} {most n : Nat} {g : GS} {now now' : Int} (h : Ch fr ev most n g.b now) (hn : now ≤ now') (s : LS) (f : List Int) :
    Ch fr ev most (if ((g.take s f now').v.ch && inWin fr ev now') = true then n + 1 else n) (g.take s f now').g.b now' := by
  have h0 : Ch fr ev most n g.b now' := ⟨h.e, h.m, Int.le_trans h.now hn, h.le, h.cnt, h.top⟩
  rcases GS.take_cases g s f now' with ⟨-, e⟩ | ⟨-, e⟩ | ⟨-, d, -, ⟨y, -, -, e⟩ | ⟨x, y, z, -, -, -, e⟩ | ⟨x, -, -, e⟩⟩ <;> rw [e]
  · exact h0
  · exact h0
  · exact h.ask hn
  · exact h0
  · exact h0
/-- What a drop changes. -/
theorem inc_sub (x : Int) (h : isU64 x) : IntKind.u64.wrap (inc x - x) = 1 := by
  unfold isU64 at h
  show (((x + 1) % 18446744073709551616) - x) % 18446744073709551616 = 1
  omega
theorem inc_ne (x : Int) (h : isU64 x) : x ≠ inc x := by
  unfold isU64 at h
  show x ≠ (x + 1) % 18446744073709551616
  omega
theorem drop_sum (m d l m' d' l' : Int) (hm : isU64 m) (hd : isU64 d) (hl : isU64 l)
    (h : (m' = inc m ∧ d' = d ∧ l' = l) ∨ (m' = m ∧ d' = inc d ∧ l' = l) ∨ (m' = m ∧ d' = d ∧ l' = inc l)) :
    IntKind.u64.wrap (IntKind.u64.wrap (IntKind.u64.wrap (IntKind.u64.wrap (IntKind.u64.wrap (m' - m) + d') - d) + l') - l) = 1 := by
  unfold isU64 at *
  have e : ∀ x, IntKind.u64.wrap x = x % 18446744073709551616 := fun _ => rfl
  have i : ∀ x, inc x = (x + 1) % 18446744073709551616 := fun _ => rfl
  simp only [e, i] at *
  rcases h with ⟨rfl, rfl, rfl⟩ | ⟨rfl, rfl, rfl⟩ | ⟨rfl, rfl, rfl⟩ <;> omega
structure Dropped (g : GS) (s : LS) (o : GOut) : Prop where
  s_ : o.s = s
  sum : IntKind.u64.wrap (IntKind.u64.wrap (IntKind.u64.wrap (IntKind.u64.wrap (IntKind.u64.wrap (o.g.mal - g.mal) + o.g.drp) - g.drp) + o.g.lat) - g.lat) = 1
  tak : o.g.tak = g.tak
  sp : o.a.sp = []
  pn : o.v.pn = 0
theorem take_dropped (g : GS) (s : LS) (f : List Int) (now : Int) (G : g.Good) :
    (((g.take s f now).v.kind = 1 ∧ Dropped g s (g.take s f now)) ∨ ((g.take s f now).v.kind = 2 ∧ (s.Good → s.mayUse (g.take s f now).v.pn) ∧ (g.take s f now).s = (s.use (g.take s f now).v.pn).1 ∧ (g.take s f now).v.ch = false) ∨ ((g.take s f now).v.kind = 3 ∧ (g.take s f now).v.ch = false)) ∧
    (((g.take s f now).v.ch = true ∧ (g.take s f now).v.kind = 1 ∧ (g.take s f now).g.cha = inc g.cha) ∨ ((g.take s f now).v.ch = false ∧ (g.take s f now).g.cha = g.cha)) := by
  rcases GS.take_cases g s f now with ⟨-, e⟩ | ⟨-, e⟩ | ⟨-, d, -, ⟨y, -, -, e⟩ | ⟨x, y, z, -, -, -, e⟩ | ⟨x, hl, -, e⟩⟩ <;> rw [e]
  · exact ⟨.inl ⟨rfl, rfl, drop_sum _ _ _ _ _ _ G.mal G.drp G.lat (.inr (.inr ⟨rfl, rfl, rfl⟩)), rfl, rfl, rfl⟩, .inr ⟨rfl, rfl⟩⟩
  · exact ⟨.inl ⟨rfl, rfl, drop_sum _ _ _ _ _ _ G.mal G.drp G.lat (.inl ⟨rfl, rfl, rfl⟩), rfl, rfl, rfl⟩, .inr ⟨rfl, rfl⟩⟩
  · refine ⟨.inl ⟨rfl, rfl, drop_sum _ _ _ _ _ _ G.mal G.drp G.lat (.inr (.inl ⟨rfl, rfl, rfl⟩)), rfl, rfl, rfl⟩, ?_⟩
    simp only [GS.drop]
    cases (g.b.ask now).2 <;> simp
  · exact ⟨.inr (.inr ⟨rfl, rfl⟩), .inr ⟨rfl, rfl⟩⟩
  · refine ⟨.inr (.inl ⟨rfl, fun h => ?_, rfl, rfl⟩), .inr ⟨rfl, rfl⟩⟩
    have := Ak.look_mayUse d.ak h (by rw [hl])
    rw [hl] at this
    exact this
end Go.Proofs.YtpfmhkkglaghgaaGreat
