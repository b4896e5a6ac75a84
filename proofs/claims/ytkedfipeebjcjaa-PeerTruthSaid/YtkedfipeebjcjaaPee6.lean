/-
  The program's receiver against the plain one; Tick. · Walks of package peer: Take.
-/
import Derived.Test.YtkedfipeebjcjaaPee4
import Derived.Test.YtkedfipeebjcjaaLossP
namespace Go.Proofs.Ytkedfipeebjcjaa
open Go.Maps
set_option linter.unusedSimpArgs false
set_option linter.unusedVariables false
set_option linter.unnecessarySimpa false
open Go.RowKit

def toQ (s : PS) (hv : List Sp) (pl : List Pc) : PQ := ⟨s.delay, s.floor, s.next, s.bytes, s.got, s.marked, s.l, s.s.length, s.waits, s.trigger, s.due, hv, pl⟩
theorem toQ_raise {s : PS} {a b : Nat} (h : s.Mid a b) (t : Int) (hv : List Sp) (pl : List Pc) : (toQ s hv pl).raise t = toQ (s.raise t) hv pl := by
  have e := PS.raise_got h t
  have e2 := PS.raise_l h t
  unfold PQ.raise
  by_cases hf : t ≤ s.floor
  · rw [if_pos (show t ≤ (toQ s hv pl).floor from hf)]
    have h1 : (s.raise t) = s := by
      have hl : (s.raise t).l = s.l := by
        rw [e2, List.filter_eq_self.2 (fun x hx => decide_eq_true (by have := (h.pn x hx).1; omega))]
      have hfl : (s.raise t).floor = s.floor := by show max s.floor t = s.floor; omega
      cases s
      simp only [PS.raise] at hl hfl ⊢
      rw [hl, hfl]
    rw [h1]
  · rw [if_neg (show ¬ t ≤ (toQ s hv pl).floor from hf)]
    have hfl : (s.raise t).floor = t := by show max s.floor t = t; omega
    unfold toQ
    rw [e.1, e.2, e2, hfl]
    rfl
theorem Mid.rows {s : PS} {a b : Nat} (h : s.Mid a b) (ha : a ≤ 1000000) (hb : b ≤ 1000000) (hv : List Sp) (pl : List Pc) : (toQ s hv pl).Rows :=
  ⟨h.gd, h.gm, gd_u2 h.gd h.lo.1, gd_u2 h.gm h.lo.2, by have := h.few.1; show s.got.length ≤ _; omega, by have := h.few.2; show s.marked.length ≤ _; omega⟩
theorem Mid.tells {s : PS} (h : s.Mid 32 32) (hne : s.l ≠ []) (ht : isU64 s.trigger) (hv : List Sp) (pl : List Pc) : (toQ s hv pl).Tells :=
  ⟨h.may hne, h.gd, h.gm, h.lo.1, h.lo.2, h.few.1, h.few.2, h.own, fun x hx => h.has_marked hx, fun x hx => (h.pn x hx).2.2.2, ht⟩

/-- The program's receiver. -/
structure PeP (w : World) (F M : Nat → Prop) (p : Nat) (s : PS) : Prop where
  good : s.Good
  wt : s.Waits
  byt : 0 ≤ s.bytes ∧ s.bytes ≤ 1500 * s.s.length
  few : s.s.length ≤ 600000
  ex : ∃ hv pl m, PeR w F M p (toQ s hv pl) m ∧ PS.PcOk s.s hv (pl.map Pc.pure) ∧ U2s hv ∧ hv.length ≤ s.s.length ∧ pl.length ≤ 1500 * s.s.length ∧ ∀ x ∈ pl, x.b.length ≤ 1500
theorem PeP.chg {w w' : World} {F M G F' M' : Nat → Prop} {p : Nat} {s : PS} (h : PeP w F M p s) (hc : Chg G w w') (hd : ∀ k, k < w.heap.size → F k ∨ M k → ¬ G k) (hF : ∀ k, k < w.heap.size → F k → F' k) (hM : ∀ k, k < w.heap.size → M k → F' k ∨ M' k) : PeP w' F' M' p s := by
  obtain ⟨hv, pl, m, h1, h2⟩ := h.ex
  exact ⟨h.good, h.wt, h.byt, h.few, hv, pl, m, h1.chg hc hd hF hM, h2⟩
theorem PeP.below {w w' : World} {F M : Nat → Prop} {p : Nat} {s : PS} (h : PeP w F M p s) (b : Below w.heap.size w w') : PeP w' F M p s :=
  h.chg (chg_below b (F := fun _ => False)) (fun _ _ _ h => h) (fun _ _ h => h) (fun _ _ h => .inr h)
theorem PeP.sub {w : World} {F M G N : Nat → Prop} {p : Nat} {s : PS} (h : PeP w F M p s) (hF : ∀ k, k < w.heap.size → F k → G k) (hM : ∀ k, k < w.heap.size → M k → G k ∨ N k) : PeP w G N p s := h.chg (Chg.refl (fun _ => False) w) (fun _ _ _ h => h) hF hM
theorem PeP.lt {w : World} {F M : Nat → Prop} {p : Nat} {s : PS} (h : PeP w F M p s) : p < w.heap.size := by
  obtain ⟨hv, pl, m, h1, h2⟩ := h.ex
  exact h1.lt
theorem still_good {s : PS} (h : s.Good) : s.still.Good := ⟨h.pn, h.own, h.few, .inl ⟨rfl, rfl⟩, ⟨h.num.1, h.num.2.1, by show isU64 (18446744073709551615 : Int); unfold isU64; omega, h.num.2.2.2⟩⟩

/-- What a receiver tells, as bytes: none, or an acknowledgment. -/
def TellVal (o : Option AckD) (w w' : World) (e : Ending) : Prop := match o with
  | none => e = .returned (.tuple #[.slice none 0 0, .bool false])
  | some a => ∃ A c, e = .returned (.tuple #[.slice A (putAckP a).length c, .bool true]) ∧ Rd w' 1 A (putAckP a).length c (U8 (putAckP a)) ∧ ∀ b off, A = some ⟨b, off, none⟩ → 0 < (putAckP a).length → w.heap.size ≤ b

theorem peer_pdue (w : World) (F M : Nat → Prop) (p : Nat) (s : PS) (h : PeP w F M p s) :
    Calls Try.prog 27 #[.pointer (some ⟨p, 0, none⟩)] w fun e w' => e = .returned (.int .u64 s.due) ∧ w = w' := by
  obtain ⟨hv, pl, m, h1, -⟩ := h.ex
  exact peer_due w F M p _ m h1
theorem peer_pfloor (w : World) (F M : Nat → Prop) (p : Nat) (s : PS) (h : PeP w F M p s) :
    Calls Try.prog 58 #[.pointer (some ⟨p, 0, none⟩)] w fun e w' => e = .returned (.int .u64 s.floor) ∧ w = w' := by
  obtain ⟨hv, pl, m, h1, -⟩ := h.ex
  exact peer_floor w F M p _ m h1
theorem peer_pbytes (w : World) (F M : Nat → Prop) (p : Nat) (s : PS) (h : PeP w F M p s) :
    Calls Try.prog 13 #[.pointer (some ⟨p, 0, none⟩)] w fun e w' => e = .returned (.int .u64 s.bytes) ∧ w = w' := by
  obtain ⟨hv, pl, m, h1, -⟩ := h.ex
  exact peer_bytes w F M p _ m h1
theorem peer_pgot (w : World) (F M : Nat → Prop) (p : Nat) (s : PS) (h : PeP w F M p s) :
    Calls Try.prog 26 #[.pointer (some ⟨p, 0, none⟩)] w fun e w' => ∃ A c, e = .returned (.slice A s.got.length c) ∧ RdN w' w.heap.size A s.got.length c (Ss s.got) ∧ Below w.heap.size w w' := by
  obtain ⟨hv, pl, m, h1, -⟩ := h.ex
  exact peer_got w F M p _ m h1 (by have := h.good.few.1; show s.got.length ≤ _; omega)
theorem peer_pmarked (w : World) (F M : Nat → Prop) (p : Nat) (s : PS) (h : PeP w F M p s) :
    Calls Try.prog 59 #[.pointer (some ⟨p, 0, none⟩)] w fun e w' => ∃ A c, e = .returned (.slice A s.marked.length c) ∧ RdN w' w.heap.size A s.marked.length c (Ss s.marked) ∧ Below w.heap.size w w' := by
  obtain ⟨hv, pl, m, h1, -⟩ := h.ex
  exact peer_marked w F M p _ m h1 (by have := h.good.few.2; show s.marked.length ≤ _; omega)

/-- What a time does. -/
def PS.tick (s : PS) (now : Int) : PS × Option AckD := if s.due ≠ 18446744073709551615 ∧ s.due ≤ now then (s.still, some s.told) else (s, none)
theorem clk_due (now at_ : Int) (w : World) :
    Calls Try.prog 48 #[.int .u64 now, .int .u64 at_] w fun e w' => e = .returned (.bool (decide (at_ ≠ 18446744073709551615 ∧ at_ ≤ now))) ∧ w = w' := by
  by_cases h1 : at_ = 18446744073709551615
  · subst h1
    rw [decide_eq_false (fun h => h.1 rfl)]
    go_enter Try.func48, Try.ntmps48
    go_wp2
    go_ret
    exact ⟨rfl, rfl⟩
  · have e1 : (at_ != 18446744073709551615) = true := by simp; exact h1
    by_cases h2 : at_ ≤ now
    · rw [decide_eq_true (And.intro h1 h2)]
      have e2 : decide (at_ ≤ now) = true := decide_eq_true h2
      clear h1
      go_enter Try.func48, Try.ntmps48
      go_wp2
      go_ret
      exact ⟨rfl, rfl⟩
    · rw [decide_eq_false (fun h => h2 h.2)]
      have e2 : decide (at_ ≤ now) = false := decide_eq_false h2
      clear h1
      go_enter Try.func48, Try.ntmps48
      go_wp2
      go_ret
      exact ⟨rfl, rfl⟩

set_option maxHeartbeats 1000000 in
theorem peer_tick (w : World) (F M : Nat → Prop) (p : Nat) (s : PS) (now : Int) (h : PeP w F M p s) :
    Calls Try.prog 16 #[.pointer (some ⟨p, 0, none⟩), .int .u64 now] w fun e w' => TellVal (s.tick now).2 w w' e ∧ PeP w' (Grow F w) M p (s.tick now).1 ∧ Chg F w w' := by
  have H := Lib.hid h
  obtain ⟨hv, pl, m, h1, h2⟩ := h.ex
  have H1 := Lib.hid h1
  have H2 := Lib.hid h2
  have t9 := cell_of_row w p 9 _ _ _ h1.t
  have t9 : w.cell? ⟨p, 9, none⟩ = some (.int .u64 s.due) := t9
  have CD := Lib.hid (clk_due now s.due w)
  clear h h1 h2
  by_cases hd : s.due ≠ 18446744073709551615 ∧ s.due ≤ now
  · rw [decide_eq_true hd] at CD
    have HT : Hid (s.tick now = (s.still, some s.told)) := Lib.hid (if_pos hd)
    have hne : s.l ≠ [] := by
      rcases H.out.good.wt with e | e
      · exact absurd e.2 hd.1
      · exact H.out.wt e
    have KT := Lib.hid (peer_tell w F M p _ m H1.out (Mid.tells H.out.good.mid hne H.out.good.num.2.1 hv pl))
    clear hd
    go_enter Try.func16, Try.ntmps16
    go_wp2_with fail
    refine CD.out.mono ?_
    rintro e w1 ⟨rfl, rfl⟩
    go_wp2_with fail
    refine KT.out.mono ?_
    rintro e w2 ⟨A, c, rfl, r1, r2, r3, r4⟩
    have R := Lib.hid (And.intro r1 (And.intro r2 (And.intro r3 r4)))
    clear r1 r2 r3 r4
    go_wp2
    go_ret2
    rw [HT.out]
    have hc := R.out.2.2.2.mono (G := F) (fun k _ e => by subst e; exact H1.out.fp)
    refine ⟨⟨A, c, rfl, R.out.1, R.out.2.1⟩, ⟨still_good H.out.good, (fun e => absurd (show (0 : Int) = 1 from e) (by decide)), H.out.byt, H.out.few, hv, pl, m, ?_, H2.out⟩, hc⟩
    exact R.out.2.2.1.chg (Chg.refl (fun _ => False) w2) (fun _ _ _ h => h) (fun k hk e => .inl e) (fun k hk e => .inr e)
  · rw [decide_eq_false hd] at CD
    have HT : Hid (s.tick now = (s, none)) := Lib.hid (if_neg hd)
    clear hd
    go_enter Try.func16, Try.ntmps16
    go_wp2_with fail
    refine CD.out.mono ?_
    rintro e w1 ⟨rfl, rfl⟩
    go_wp2
    go_ret2
    rw [HT.out]
    exact ⟨rfl, H.out.sub (fun k _ e => .inl e) (fun k _ e => .inr e), Chg.refl _ _⟩

end Go.Proofs.Ytkedfipeebjcjaa

namespace Go.Proofs.Ytkedfipeebjcjaa
open Go.Maps
set_option linter.unusedSimpArgs false
set_option linter.unusedVariables false
set_option linter.unnecessarySimpa false
open Go.RowKit
attribute [local go_sem ↓] run_min_int run_max_int

theorem peer_raise_s (w : World) (F M : Nat → Prop) (p : Nat) (s : PS) (hv : List Sp) (pl : List Pc) (m : PM) (f : Int) (a b : Nat) (h : PeR w F M p (toQ s hv pl) m) (hm : s.Mid a b) (ha : a ≤ 1000000) (hb : b ≤ 1000000) (hn : ∀ k, w.heap.size ≤ k → F k) (hf : isU64 f) :
    Calls Try.prog 33 #[.pointer (some ⟨p, 0, none⟩), .int .u64 f] w fun e w' => e = .returned (.tuple #[]) ∧ (∃ m', PeR w' F M p (toQ (s.raise f) hv pl) m') ∧ Chg F w w' := by
  have := peer_raise w F M p _ m f h hn hf (Mid.rows hm ha hb hv pl)
  rwa [toQ_raise hm] at this
theorem peer_lay_s (w : World) (F M : Nat → Prop) (p : Nat) (s : PS) (hv : List Sp) (pl : List Pc) (m : PM) (d : DatD) (A : Option Addr) (c : Nat) (h : PeR w F M p (toQ { s with bytes := s.bytes + d.body.length } hv pl) m) (hn : ∀ k, w.heap.size ≤ k → F k) (hd : d.Ok) (hr : Rd w 1 A d.body.length c (U8 d.body))
    (hA : ∀ b off, A = some ⟨b, off, none⟩ → 0 < d.body.length → b ≠ p ∧ m.v.ownBlock ≠ some b) (ok : PS.PcOk s.s hv (pl.map Pc.pure)) (uh : U2s hv) (lh : hv.length ≤ s.s.length) (lp : pl.length ≤ 1500 * s.s.length) (lb : ∀ x ∈ pl, x.b.length ≤ 1500) (few : s.s.length < 600000) :
    Calls Try.prog 30 #[.pointer (some ⟨p, 0, none⟩), .agg (d.cells A d.body.length c)] w fun e w' => e = .returned (.tuple #[]) ∧
      (∃ m' hv' pl', PeR w' F M p (toQ { s with bytes := s.bytes + d.body.length } hv' pl') m' ∧ PS.PcOk (s.s ++ [(d.off, d.body)]) hv' (pl'.map Pc.pure) ∧ U2s hv' ∧ hv'.length ≤ s.s.length + 1 ∧ pl'.length ≤ 1500 * (s.s.length + 1) ∧ ∀ x ∈ pl', x.b.length ≤ 1500) ∧ Chg F w w' := by
  refine (peer_lay w F M p _ m d A c h hn hd hr hA ok.gd uh (by show hv.length ≤ _; omega) (by show pl.length ≤ _; omega)).mono ?_
  rintro e w' ⟨rfl, ⟨m', np, hP, hnp⟩, hC⟩
  have hnp : np.map Pc.pure = (cutHv [(d.off, d.off + (d.body.length : Int) - 1)] hv).map (PS.pieceOf d.off d.body) := hnp
  have o1 := hd.off.1
  have o2 := hd.off.2
  have n1 := hd.len.1
  have n2 := hd.len.2
  have IS : IsSpan (d.off, d.off + (d.body.length : Int) - 1) := ⟨by show d.off ≤ d.off + (d.body.length : Int) - 1; omega, by rw [maxPn_eq]; show d.off + (d.body.length : Int) - 1 ≤ _; omega⟩
  have CO := CutOk.of IS ok.gd hv.length
  rw [List.take_length] at CO
  have g1 : Gd [(d.off, d.off + (d.body.length : Int) - 1)] := ⟨fun x hx => by rw [List.mem_singleton] at hx; subst hx; exact IS, List.pairwise_singleton _ _⟩
  have sp := cutHv_spec hv (fun x hx => (ok.gd.1 x hx).1) _ g1
  have hll := CO.len (by omega)
  have hnl : np.length = (cutHv [(d.off, d.off + (d.body.length : Int) - 1)] hv).length := by have := congrArg List.length hnp; simpa using this
  have AP := add_parts hv (d.off, d.off + (d.body.length : Int) - 1) ok.gd IS
  refine ⟨rfl, ⟨m', addP hv (d.off, d.off + d.body.length - 1), pl ++ np, hP, ?_, ?_, ?_, ?_, ?_⟩, hC⟩
  · rw [List.map_append, hnp]
    refine ok.lay o1 n1 (by rw [maxPn_eq]; omega) sp.1 fun n => ?_
    rw [sp.2]
    constructor
    · rintro ⟨⟨x, hx, e⟩, hn⟩
      rw [List.mem_singleton] at hx
      subst hx
      exact ⟨e, hn⟩
    · rintro ⟨e, hn⟩
      exact ⟨⟨_, List.mem_singleton.2 rfl, e⟩, hn⟩
  · refine gd_u2 AP.1 fun x hx => ?_
    have := (AP.2 x.1).1 (Mem_lo AP.1 hx).1
    rcases this with ⟨y, hy, e1, e2⟩ | e
    · have := uh y hy
      have h3 := this.1.1
      omega
    · have := e.1
      simp only at this
      omega
  · have := addP_le hv (d.off, d.off + (d.body.length : Int) - 1)
    omega
  · rw [List.length_append, hnl]
    omega
  · intro x hx
    rcases List.mem_append.1 hx with hx | hx
    · exact lb x hx
    · have : x.pure ∈ (cutHv [(d.off, d.off + (d.body.length : Int) - 1)] hv).map (PS.pieceOf d.off d.body) := by rw [← hnp]; exact List.mem_map.2 ⟨x, hx, rfl⟩
      obtain ⟨y, _, e⟩ := List.mem_map.1 this
      have e2 : x.b = (d.body.drop (y.1 - d.off).toNat).take (y.2 - y.1 + 1).toNat := (congrArg Prod.snd e).symm
      rw [e2, List.length_take, List.length_drop]
      omega

def lenAt (w : World) (p i : Nat) : Nat := match w.cell? ⟨p, i, none⟩ with
  | some (.slice _ n _) => n
  | _ => 0
theorem capG_short {s : PS} {b : Nat} (h : s.Mid 33 b) : ¬ 32 < s.capG.got.length := by have := h.capG.few.1; omega
theorem capM_short {s : PS} {a : Nat} (h : s.Mid a 33) : ¬ 32 < s.capM.marked.length := by have := h.capM.few.2; omega
def PS.takeB (s : PS) (b : List Int) (now : Int) : PS × Option AckD := match datP b with
  | .error _ => (s, none)
  | .ok d => s.take d now

end Go.Proofs.Ytkedfipeebjcjaa
