/-
  Walks of package peer: what only reads; tell. · Walks of package peer: tell.
-/
import Derived.Test.YtkedfipeebjcjaaPee3
import Derived.Test.YtkedfipeebjcjaaEnc
import Derived.Deep.RegionHeld3
namespace Go.Proofs.Ytkedfipeebjcjaa
open Go.Maps
set_option linter.unusedSimpArgs false
set_option linter.unusedVariables false
set_option linter.unnecessarySimpa false
open Go.RowKit

theorem peer_got (w : World) (F M : Nat → Prop) (p : Nat) (q : PQ) (m : PM) (h : PeR w F M p q m) (hl : q.got.length ≤ 1000000) :
    Calls Try.prog 26 #[.pointer (some ⟨p, 0, none⟩)] w fun e w' => ∃ A c, e = .returned (.slice A q.got.length c) ∧
      RdN w' w.heap.size A q.got.length c (Ss q.got) ∧ Below w.heap.size w w' := by
  obtain ⟨i0, hi0, hz0, hz1, hz2⟩ := info_parts infoSpan
  obtain ⟨A1, c1, A2, c2, kb, A3, c3, pv⟩ := m
  have t0 := cell_of_row w p 0 _ _ _ h.t
  have t1 := cell_of_row w p 1 _ _ _ h.t
  have t2 := cell_of_row w p 2 _ _ _ h.t
  have t3 := cell_of_row w p 3 _ _ _ h.t
  have t4 := cell_of_row w p 4 _ _ _ h.t
  have t5 := cell_of_row w p 5 _ _ _ h.t
  have t6 := cell_of_row w p 6 _ _ _ h.t
  have t7 := cell_of_row w p 7 _ _ _ h.t
  have t8 := cell_of_row w p 8 _ _ _ h.t
  have t9 := cell_of_row w p 9 _ _ _ h.t
  have t10 := cell_of_row w p 10 _ _ _ h.t
  have t11 := cell_of_row w p 11 _ _ _ h.t
  have R := Lib.hid h.r1
  clear h
  go_enter Try.func26, Try.ntmps26
  go_wp2_with (
    at_builtin
    refine wpList_append_rd _ rfl (.const (.slice none 0 0)) (.tmp 8) 46 rfl w.heap.size 68 i0 _ 2 16 Try.underlying46 hi0 hz0 hz1 hz2 rfl (by decide) (.slice none 0 0) 0 [] rfl (World.ownsRow_nil _ _ _ _) A1 q.got.length c1 (Ss q.got) rfl R.out (Ss_one' _) (by unfold maxLen; omega) (by omega) (Nat.le_refl _) ?_
    intro v2 w2 hown2 hg2 _
    have hb2 : Below w.heap.size w w2 := (Below.refl _ _).grown hg2 (Nat.le_refl _) (fun g hg => by simp [Value.ownBlock] at hg)
    rw [Nat.zero_add, List.nil_append] at hown2
    obtain ⟨A2, cc, hv, hA2⟩ := own_slice hown2
    subst hv)
  go_ret
  exact ⟨A2, cc, rfl, RdN.of_own hown2 (Nat.le_refl _), hb2⟩

theorem peer_marked (w : World) (F M : Nat → Prop) (p : Nat) (q : PQ) (m : PM) (h : PeR w F M p q m) (hl : q.marked.length ≤ 1000000) :
    Calls Try.prog 59 #[.pointer (some ⟨p, 0, none⟩)] w fun e w' => ∃ A c, e = .returned (.slice A q.marked.length c) ∧
      RdN w' w.heap.size A q.marked.length c (Ss q.marked) ∧ Below w.heap.size w w' := by
  obtain ⟨i0, hi0, hz0, hz1, hz2⟩ := info_parts infoSpan
  obtain ⟨A1, c1, A2, c2, kb, A3, c3, pv⟩ := m
  have t0 := cell_of_row w p 0 _ _ _ h.t
  have t1 := cell_of_row w p 1 _ _ _ h.t
  have t2 := cell_of_row w p 2 _ _ _ h.t
  have t3 := cell_of_row w p 3 _ _ _ h.t
  have t4 := cell_of_row w p 4 _ _ _ h.t
  have t5 := cell_of_row w p 5 _ _ _ h.t
  have t6 := cell_of_row w p 6 _ _ _ h.t
  have t7 := cell_of_row w p 7 _ _ _ h.t
  have t8 := cell_of_row w p 8 _ _ _ h.t
  have t9 := cell_of_row w p 9 _ _ _ h.t
  have t10 := cell_of_row w p 10 _ _ _ h.t
  have t11 := cell_of_row w p 11 _ _ _ h.t
  have R := Lib.hid h.r2
  clear h
  go_enter Try.func59, Try.ntmps59
  go_wp2_with (
    at_builtin
    refine wpList_append_rd _ rfl (.const (.slice none 0 0)) (.tmp 8) 46 rfl w.heap.size 68 i0 _ 2 16 Try.underlying46 hi0 hz0 hz1 hz2 rfl (by decide) (.slice none 0 0) 0 [] rfl (World.ownsRow_nil _ _ _ _) A2 q.marked.length c2 (Ss q.marked) rfl R.out (Ss_one' _) (by unfold maxLen; omega) (by omega) (Nat.le_refl _) ?_
    intro v2 w2 hown2 hg2 _
    have hb2 : Below w.heap.size w w2 := (Below.refl _ _).grown hg2 (Nat.le_refl _) (fun g hg => by simp [Value.ownBlock] at hg)
    rw [Nat.zero_add, List.nil_append] at hown2
    obtain ⟨A2, cc, hv, hA2⟩ := own_slice hown2
    subst hv)
  go_ret
  exact ⟨A2, cc, rfl, RdN.of_own hown2 (Nat.le_refl _), hb2⟩

theorem peer_due (w : World) (F M : Nat → Prop) (p : Nat) (q : PQ) (m : PM) (h : PeR w F M p q m) :
    Calls Try.prog 27 #[.pointer (some ⟨p, 0, none⟩)] w fun e w' => e = .returned (.int .u64 q.due) ∧ w = w' := by
  have t0 := cell_of_row w p 0 _ _ _ h.t
  have t1 := cell_of_row w p 1 _ _ _ h.t
  have t2 := cell_of_row w p 2 _ _ _ h.t
  have t3 := cell_of_row w p 3 _ _ _ h.t
  have t4 := cell_of_row w p 4 _ _ _ h.t
  have t5 := cell_of_row w p 5 _ _ _ h.t
  have t6 := cell_of_row w p 6 _ _ _ h.t
  have t7 := cell_of_row w p 7 _ _ _ h.t
  have t8 := cell_of_row w p 8 _ _ _ h.t
  have t9 := cell_of_row w p 9 _ _ _ h.t
  have t10 := cell_of_row w p 10 _ _ _ h.t
  have t11 := cell_of_row w p 11 _ _ _ h.t
  clear h
  go_enter Try.func27, Try.ntmps27
  go_wp2
  go_ret
  exact ⟨rfl, rfl⟩

theorem peer_floor (w : World) (F M : Nat → Prop) (p : Nat) (q : PQ) (m : PM) (h : PeR w F M p q m) :
    Calls Try.prog 58 #[.pointer (some ⟨p, 0, none⟩)] w fun e w' => e = .returned (.int .u64 q.floor) ∧ w = w' := by
  have t0 := cell_of_row w p 0 _ _ _ h.t
  have t1 := cell_of_row w p 1 _ _ _ h.t
  have t2 := cell_of_row w p 2 _ _ _ h.t
  have t3 := cell_of_row w p 3 _ _ _ h.t
  have t4 := cell_of_row w p 4 _ _ _ h.t
  have t5 := cell_of_row w p 5 _ _ _ h.t
  have t6 := cell_of_row w p 6 _ _ _ h.t
  have t7 := cell_of_row w p 7 _ _ _ h.t
  have t8 := cell_of_row w p 8 _ _ _ h.t
  have t9 := cell_of_row w p 9 _ _ _ h.t
  have t10 := cell_of_row w p 10 _ _ _ h.t
  have t11 := cell_of_row w p 11 _ _ _ h.t
  clear h
  go_enter Try.func58, Try.ntmps58
  go_wp2
  go_ret
  exact ⟨rfl, rfl⟩

theorem peer_bytes (w : World) (F M : Nat → Prop) (p : Nat) (q : PQ) (m : PM) (h : PeR w F M p q m) :
    Calls Try.prog 13 #[.pointer (some ⟨p, 0, none⟩)] w fun e w' => e = .returned (.int .u64 q.bytes) ∧ w = w' := by
  have t0 := cell_of_row w p 0 _ _ _ h.t
  have t1 := cell_of_row w p 1 _ _ _ h.t
  have t2 := cell_of_row w p 2 _ _ _ h.t
  have t3 := cell_of_row w p 3 _ _ _ h.t
  have t4 := cell_of_row w p 4 _ _ _ h.t
  have t5 := cell_of_row w p 5 _ _ _ h.t
  have t6 := cell_of_row w p 6 _ _ _ h.t
  have t7 := cell_of_row w p 7 _ _ _ h.t
  have t8 := cell_of_row w p 8 _ _ _ h.t
  have t9 := cell_of_row w p 9 _ _ _ h.t
  have t10 := cell_of_row w p 10 _ _ _ h.t
  have t11 := cell_of_row w p 11 _ _ _ h.t
  clear h
  go_enter Try.func13, Try.ntmps13
  go_wp2
  go_ret
  exact ⟨rfl, rfl⟩

end Go.Proofs.Ytkedfipeebjcjaa

namespace Go.Proofs.Ytkedfipeebjcjaa
open Go.Maps
set_option linter.unusedSimpArgs false
set_option linter.unusedVariables false
set_option linter.unnecessarySimpa false
open Go.RowKit

def xorL (l : List Hp) : Int := l.foldl (fun (a : Int) (h : Hp) => bits .xor .u64 a h.nonce) 0
def oddL (l : List Hp) : Bool := l.foldl (fun (a : Bool) (h : Hp) => if h.coin && !h.marked then !a else a) false
theorem xorL_snoc (l : List Hp) (h : Hp) : xorL (l ++ [h]) = bits .xor .u64 (xorL l) h.nonce := by simp [xorL]
theorem oddL_snoc (l : List Hp) (h : Hp) : oddL (l ++ [h]) = if h.coin && !h.marked then !(oddL l) else oddL l := by simp [oddL]
theorem xorL_u64 (l : List Hp) (h : ∀ x ∈ l, isU64 x.nonce) : isU64 (xorL l) := by
  have e := PS.xor_nat l h 0 (by omega)
  have e1 := e.1
  simp only [Int.natCast_zero] at e1
  show isU64 (l.foldl (fun (a : Int) (h : Hp) => bits .xor .u64 a h.nonce) 0)
  rw [e1]
  have := e.2
  unfold isU64
  omega

/-- Where the walk of tell stands. -/
structure TlS (w : World) (q : PQ) (h4 : Nat) (Ag : Option Addr) (cg : Nat) (Am : Option Addr) (cm : Nat) (x : Int) (o : Bool) (W : World) : Prop where
  t : W.heap[h4]? = some (.cells #[.slice Ag q.got.length cg, .slice Am q.marked.length cm, .int .u64 q.trigger, .int .u64 x, .bool o] 48 (0, 0))
  rg : Rd W 2 Ag q.got.length cg (Ss q.got)
  rm : Rd W 2 Am q.marked.length cm (Ss q.marked)
  ng : ∀ b off, Ag = some ⟨b, off, none⟩ → 0 < q.got.length → w.heap.size ≤ b ∧ b ≠ h4
  nm : ∀ b off, Am = some ⟨b, off, none⟩ → 0 < q.marked.length → w.heap.size ≤ b ∧ b ≠ h4
  bel : Below w.heap.size w W
  ge : w.heap.size ≤ h4
theorem TlS.below {w W W' : World} {q : PQ} {h4 cg cm : Nat} {Ag Am : Option Addr} {x : Int} {o : Bool} (h : TlS w q h4 Ag cg Am cm x o W) (b : Below W.heap.size W W') : TlS w q h4 Ag cg Am cm x o W' :=
  ⟨(b.block _ (lt_of_block h.t)).trans h.t, h.rg.below b, h.rm.below b, h.ng, h.nm, h.bel.trans (b.mono h.bel.size), h.ge⟩
theorem TlS.chg {w W W' : World} {q : PQ} {h4 cg cm : Nat} {Ag Am : Option Addr} {x : Int} {o : Bool} {G : Nat → Prop} (h : TlS w q h4 Ag cg Am cm x o W) (hc : Chg G W W') (h1 : ¬ G h4) (h2 : ∀ b off, Ag = some ⟨b, off, none⟩ → 0 < q.got.length → ¬ G b) (h3 : ∀ b off, Am = some ⟨b, off, none⟩ → 0 < q.marked.length → ¬ G b) (h4' : ∀ k, G k → w.heap.size ≤ k) : TlS w q h4 Ag cg Am cm x o W' :=
  ⟨hc.blk h.t h1, h.rg.chg hc h2, h.rm.chg hc h3, h.ng, h.nm, h.bel.trans (hc.below h.bel.size (fun k hk e => by have := h4' k e; omega)), h.ge⟩
theorem TlS.put {w W : World} {q : PQ} {h4 cg cm i : Nat} {Ag Am : Option Addr} {x x' : Int} {o o' : Bool} (v : Value) (h : TlS w q h4 Ag cg Am cm x o W)
    (hc : #[.slice Ag q.got.length cg, .slice Am q.marked.length cm, .int .u64 q.trigger, .int .u64 x', .bool o'] = (#[.slice Ag q.got.length cg, .slice Am q.marked.length cm, .int .u64 q.trigger, .int .u64 x, .bool o] : Array Value).setIfInBounds i v) : TlS w q h4 Ag cg Am cm x' o' (W.setCell ⟨h4, i, none⟩ v) := by
  have hC : Chg (fun j => j = h4) W (W.setCell ⟨h4, i, none⟩ v) := (Chg.refl (fun j => j = h4) W).setCell (p := ⟨h4, i, none⟩) (.inl rfl) _
  have hg := h.ge
  refine ⟨?_, h.rg.chg hC (fun b off e hn hb => (h.ng b off e hn).2 hb), h.rm.chg hC (fun b off e hn hb => (h.nm b off e hn).2 hb), h.ng, h.nm, h.bel.trans (hC.below h.bel.size (fun k hk e => by omega)), h.ge⟩
  rw [hc]
  exact heap_setCell_same W h4 i _ _ v h.t
theorem TlS.last {w vA vB : World} {q : PQ} {cg cm BA BB : Nat} {Ag Am : Option Addr} (hA : RdN vA BA Ag q.got.length cg (Ss q.got)) (bB : Below vA.heap.size vA vB) (hB : RdN vB BB Am q.marked.length cm (Ss q.marked)) (b1 : Below w.heap.size w vA) (eA : w.heap.size ≤ BA) (eB : w.heap.size ≤ BB) :
    TlS w q vB.heap.size Ag cg Am cm 0 false (vB.alloc (.cells #[.slice Ag q.got.length cg, .slice Am q.marked.length cm, .int .u64 q.trigger, .int .u64 0, .bool false] 48)) := by
  have eb := box_below vB (.cells #[.slice Ag q.got.length cg, .slice Am q.marked.length cm, .int .u64 q.trigger, .int .u64 0, .bool false] 48)
  have rA := hA.rd.below bB
  have bAB := b1.trans (bB.mono b1.size)
  exact ⟨heap_alloc_new vB _, rA.below eb, hB.rd.below eb, fun b off e hn => ⟨Nat.le_trans eA (hA.nw b off e hn), by have := rA.lt (by omega) hn b off e; omega⟩, fun b off e hn => ⟨Nat.le_trans eB (hB.nw b off e hn), by have := hB.rd.lt (by omega) hn b off e; omega⟩, bAB.trans (eb.mono bAB.size), bAB.size⟩
theorem TlS.set {w vA vB : World} {q : PQ} {h4 cg cm BA BB : Nat} {Ag Am : Option Addr} (hA : RdN vA BA Ag q.got.length cg (Ss q.got)) (bB : Below vA.heap.size vA vB) (hB : RdN vB BB Am q.marked.length cm (Ss q.marked)) (b1 : Below w.heap.size w vB) (eA : w.heap.size ≤ BA) (eB : w.heap.size ≤ BB)
    (hx : vB.heap[h4]? = some (.cells #[.slice none 0 0, .slice none 0 0, .int .u64 0, .int .u64 0, .bool false] 48 (0, 0))) (ge : w.heap.size ≤ h4)
    (nA : ∀ b off, Ag = some ⟨b, off, none⟩ → 0 < q.got.length → b ≠ h4) (nB : ∀ b off, Am = some ⟨b, off, none⟩ → 0 < q.marked.length → b ≠ h4) :
    TlS w q h4 Ag cg Am cm 0 false (((((vB.setCell ⟨h4, 0, none⟩ (.slice Ag q.got.length cg)).setCell ⟨h4, 1, none⟩ (.slice Am q.marked.length cm)).setCell ⟨h4, 2, none⟩ (.int .u64 q.trigger)).setCell ⟨h4, 3, none⟩ (.int .u64 0)).setCell ⟨h4, 4, none⟩ (.bool false)) := by
  have q1 := heap_setCell_same vB h4 0 _ _ (.slice Ag q.got.length cg) hx
  have q2 := heap_setCell_same _ h4 1 _ _ (.slice Am q.marked.length cm) q1
  have q3 := heap_setCell_same _ h4 2 _ _ (.int .u64 q.trigger) q2
  have q4 := heap_setCell_same _ h4 3 _ _ (.int .u64 0) q3
  have q5 := heap_setCell_same _ h4 4 _ _ (.bool false) q4
  have hC : Chg (fun j => j = h4) vB (((((vB.setCell ⟨h4, 0, none⟩ (.slice Ag q.got.length cg)).setCell ⟨h4, 1, none⟩ (.slice Am q.marked.length cm)).setCell ⟨h4, 2, none⟩ (.int .u64 q.trigger)).setCell ⟨h4, 3, none⟩ (.int .u64 0)).setCell ⟨h4, 4, none⟩ (.bool false)) :=
    (((((Chg.refl (fun j => j = h4) vB).setCell (p := ⟨h4, 0, none⟩) (.inl rfl) _).setCell (p := ⟨h4, 1, none⟩) (.inl rfl) _).setCell (p := ⟨h4, 2, none⟩) (.inl rfl) _).setCell (p := ⟨h4, 3, none⟩) (.inl rfl) _).setCell (p := ⟨h4, 4, none⟩) (.inl rfl) _
  have rA := hA.rd.below bB
  exact ⟨q5.trans (by simp), rA.chg hC (fun b off e hn hb => nA b off e hn hb), hB.rd.chg hC (fun b off e hn hb => nB b off e hn hb), fun b off e hn => ⟨Nat.le_trans eA (hA.nw b off e hn), nA b off e hn⟩, fun b off e hn => ⟨Nat.le_trans eB (hB.nw b off e hn), nB b off e hn⟩, b1.trans (hC.below b1.size (fun k hk e => by omega)), ge⟩
theorem ranges_chg {w w' : World} {G : Nat → Prop} {b r n cnt : Nat} {D : DataW Unit} {left : Lit → Bool} (h : w.ranges Try.prog 26 oneElem b r n D left cnt) (hc : Chg G w w') (hb : ¬ G b) (hr : ¬ G r) : w'.ranges Try.prog 26 oneElem b r n D left cnt := by
  obtain ⟨es, clock, since, seen, c0, h1, h2, h3, h4, h5, rest⟩ := h
  exact ⟨es, clock, since, seen, c0, hc.blk h1 hb, h2, h3, h4, hc.blk h5 hr, rest⟩

structure PQ.Tells (q : PQ) : Prop where
  may : mayB q.got q.marked = true
  gg : Gd q.got
  gm : Gd q.marked
  pg : ∀ s ∈ q.got, 0 ≤ s.1
  pm : ∀ s ∈ q.marked, 0 ≤ s.1
  lg : q.got.length ≤ 32
  lm : q.marked.length ≤ 32
  own : (q.l.map (·.pn)).Nodup
  mkd : ∀ h ∈ q.l, hasP q.marked h.pn = h.marked
  nn : ∀ h ∈ q.l, isU64 h.nonce
  tr : isU64 q.trigger
def PQ.told (q : PQ) : AckD := ⟨q.got, q.marked, q.trigger, xorL q.l, oddL q.l⟩

set_option maxHeartbeats 4000000 in
set_option maxRecDepth 100000 in
theorem peer_tell (w : World) (F M : Nat → Prop) (p : Nat) (q : PQ) (m : PM) (h : PeR w F M p q m) (hq : q.Tells) :
    Calls Try.prog 34 #[.pointer (some ⟨p, 0, none⟩)] w fun e w' => ∃ A c, e = .returned (.tuple #[.slice A (putAckP q.told).length c, .bool true]) ∧ Rd w' 1 A (putAckP q.told).length c (U8 (putAckP q.told)) ∧ (∀ b off, A = some ⟨b, off, none⟩ → 0 < (putAckP q.told).length → w.heap.size ≤ b) ∧
      PeR w' F M p { q with waits := 0, due := 18446744073709551615 } m ∧ Chg (fun j => j = p) w w' := by
  have H := Lib.hid h
  have HQ := Lib.hid hq
  have hpl := h.lt
  have t8 := cell_of_row w p 8 _ _ _ h.t
  clear h hq
  go_enter Try.func34, Try.ntmps34
  go_upto_region 1 with fail
  go_cut [0, 4] (fun s0 s4 wx => ∃ (h4 : Nat) (Ag : Option Addr) (cg : Nat) (Am : Option Addr) (cm : Nat), s0 = .pointer (some ⟨p, 0, none⟩) ∧ s4 = .pointer (some ⟨h4, 0, none⟩) ∧ Hid (TlS w q h4 Ag cg Am cm 0 false wx))
  case first =>
    have KG := Lib.hid (fun (W : World) (b : Below w.heap.size w W) => peer_got W F M p q m (H.out.below b) (by have := HQ.out.lg; omega))
    have KM := Lib.hid (fun (W : World) (b : Below w.heap.size w W) => peer_marked W F M p q m (H.out.below b) (by have := HQ.out.lm; omega))
    go_region_held3 (fun W => W.cell? ⟨p, 8, none⟩ = some (.int .u64 q.trigger))
      (all_goals (first | (go_keep; done) | (simp [*, World.cell?_alloc_lt]; done) | (simp [*, World.cell?_alloc_lt, World.cell?_setCell_other]; done)))
      (first
        | (go_at_call 26; refine Calls.mono (KG.out _ (by repeat (first | (with_reducible exact Below.refl _ _) | (with_reducible refine Below.alloc ?_ (Nat.le_refl _) _) | (with_reducible refine Below.drew ?_)))) ?_; rintro e vA ⟨Ag, cg, rfl, hgA, bA⟩; have bA1 : Below w.heap.size w vA := Below.trans (by repeat (first | (with_reducible exact Below.refl _ _) | (with_reducible refine Below.alloc ?_ (Nat.le_refl _) _) | (with_reducible refine Below.drew ?_))) (bA.mono (by first | exact Nat.le_refl _ | (simp; done) | (simp; omega))); have sA : w.heap.size ≤ vA.heap.size := bA1.size; have zA := bA.size; (try simp at zA); (try have lA : w.heap.size < vA.heap.size := (by omega)); obtain ⟨hcA, hfA⟩ := bcell bA; have gA : p < vA.heap.size := Nat.lt_of_lt_of_le hpl sA; have cA : vA.cell? ⟨p, 8, none⟩ = some (.int .u64 q.trigger) := (bA1.cell (by exact hpl)).trans t8; have ngA : p ≠ vA.heap.size := Nat.ne_of_lt gA)
        | (go_at_call 59; refine Calls.mono (KM.out _ (by repeat (first | (with_reducible exact Below.refl _ _) | (with_reducible exact bA1) | (with_reducible refine Below.alloc ?_ (by first | exact Nat.le_refl _ | exact sA) _) | (with_reducible refine Below.drew ?_)))) ?_; rintro e vB ⟨Am, cm, rfl, hmB, bB⟩; have bB1 : Below w.heap.size w vB := Below.trans (by repeat (first | (with_reducible exact Below.refl _ _) | (with_reducible exact bA1) | (with_reducible refine Below.alloc ?_ (by first | exact Nat.le_refl _ | exact sA) _) | (with_reducible refine Below.drew ?_))) (bB.mono (by first | exact sA | (simp; done) | (simp; omega))); have sB : w.heap.size ≤ vB.heap.size := bB1.size; have zB := bB.size; (try simp at zB); (try have lB : w.heap.size < vB.heap.size := (by omega)); (try have lB' : vA.heap.size < vB.heap.size := (by omega)); obtain ⟨hcB, hfB⟩ := bcell bB; have gB : p < vB.heap.size := Nat.lt_of_lt_of_le hpl sB; have cB : vB.cell? ⟨p, 8, none⟩ = some (.int .u64 q.trigger) := (bB1.cell (by exact hpl)).trans t8; have ngB : p ≠ vB.heap.size := Nat.ne_of_lt gB))
    · go_wp2_with fail
      go_meet
      exact ⟨_, Ag, cg, Am, cm, rfl, rfl, Lib.hid (TlS.last hgA bB hmB bA1 (Nat.le_refl _) sA)⟩
    · go_wp2_with fail
      go_meet
      have e1 := box_below vA (.cells #[.slice none 0 0, .slice none 0 0, .int .u64 0, .int .u64 0, .bool false] 48)
      have hx := (bB.block _ (by simp)).trans (heap_alloc_new vA (.cells #[.slice none 0 0, .slice none 0 0, .int .u64 0, .int .u64 0, .bool false] 48))
      exact ⟨_, Ag, cg, Am, cm, rfl, rfl, Lib.hid (TlS.set hgA (e1.trans (bB.mono e1.size)) hmB bB1 (Nat.le_refl _) (by have := e1.size; omega) hx sA (fun b off e hn => by have := hgA.rd.lt (by omega) hn b off e; omega) (fun b off e hn => by have := hmB.nw b off e hn; simp at this; omega))⟩
    · go_wp2_with fail
      go_meet
      have e1 := box_below w.drew (.cells #[.slice none 0 0, .slice none 0 0, .int .u64 0, .int .u64 0, .bool false] 48)
      have hx0 := (bA.block _ (by simp)).trans (heap_alloc_new w.drew (.cells #[.slice none 0 0, .slice none 0 0, .int .u64 0, .int .u64 0, .bool false] 48))
      have hx := (bB.block _ (lt_of_block hx0)).trans hx0
      exact ⟨_, Ag, cg, Am, cm, rfl, rfl, Lib.hid (TlS.set hgA bB hmB bB1 (by have := e1.size; exact this) sA hx (Nat.le_refl _) (fun b off e hn => by have := hgA.nw b off e hn; simp at this; omega) (fun b off e hn => by have := hmB.nw b off e hn; omega))⟩
  case rest =>
    obtain ⟨h4, Ag, cg, Am, cm, rfl, rfl, S1⟩ := hcut
    have H1 := Lib.hid (H.out.below S1.out.bel)
    obtain ⟨D0, hk1, hk2⟩ := H1.out.k
    have HK1 := Lib.hid hk1
    have HK2 := Lib.hid hk2
    have t6 := cell_of_row wc p 6 _ _ _ H1.out.t
    have hkb := hk1.lt
    have hp1 := H1.out.lt
    have hkbw : Hid (m.kb < w.heap.size) := by obtain ⟨D, k1, _⟩ := H.out.k; exact Lib.hid k1.lt
    have hge := S1.out.ge
    have hl4 := lt_of_block S1.out.t
    clear hk1 hk2 t8
    go_wp2_with (first
      | (at_range; refine wpList_range_own _ rfl _ 62 rfl 26 75 law64 Try.underlying62 _ m.kb q.n _ rfl HK1.out ?_; intro w0 hrg0 hg0 hs0)
      | go_in)
    try go_frame
    clear t6
    go_loopw [5, 6] (fun s5 s6 wr => ∃ (left : Lit → Bool) (cnt : Nat) (dn : List Hp), wr.ranges Try.prog 26 oneElem m.kb wc.heap.size q.n D0 left cnt ∧ Hid ((dn ++ q.l.filter fun h => up64 left h.pn).Perm q.l) ∧ Hid (TlS w q h4 Ag cg Am cm (xorL dn) (oddL dn) wr) ∧ Hid (wc.heap.size ≤ wr.heap.size))
      (fun _ _ wr => wr.rangeLeft m.kb wc.heap.size)
    case atStart =>
      have hb0 : Below wc.heap.size wc w0 := (Below.refl _ _).grown hg0 (Nat.le_refl _) (fun g hg => by simp at hg)
      refine ⟨_, _, [], hrg0, Lib.hid ?_, Lib.hid (S1.out.below hb0), Lib.hid hb0.size⟩
      rw [List.filter_eq_self.2 (fun h hh => by simp [up64, HK2.out.has hh])]
      exact List.Perm.refl _
    case round =>
      obtain ⟨left, cnt, dn, hrg, hpm, hT, hsz⟩ := hrel
      go_wp2_with (first
        | (at_next; refine wpList_next_kept _ rfl _ rfl law64 Try.underlying26 m.kb wc.heap.size q.n _ _ _ _ HK2.out rfl hrg ?_ ?_)
        | go_in)
      · intro hl0
        have HL := Lib.hid hl0
        clear hl0
        have hperm : dn.Perm q.l := by have := hpm.out; rw [List.filter_eq_nil_iff.2 (fun h _ => by rw [HL.out]; exact Bool.false_ne_true), List.append_nil] at this; exact this
        have ex : Hid (xorL dn = xorL q.l) := Lib.hid (PS.xor_perm hperm (fun x hx => HQ.out.nn x (hperm.mem_iff.1 hx)))
        have eo : Hid (oddL dn = oddL q.l) := Lib.hid (PS.odd_perm hperm)
        have T9 : Hid (TlS w q h4 Ag cg Am cm (xorL q.l) (oddL q.l) wr) := Lib.hid (by have := hT.out; rw [ex.out, eo.out] at this; exact this)
        have H9 := Lib.hid (H.out.below T9.out.bel)
        have HX := Lib.hid (xorL_u64 q.l HQ.out.nn)
        clear hperm ex eo hpm hT
        obtain ⟨X, hX⟩ : ∃ X, X = xorL q.l := ⟨_, rfl⟩
        obtain ⟨O, hO⟩ : ∃ O, O = oddL q.l := ⟨_, rfl⟩
        have ET : Hid (q.told = ⟨q.got, q.marked, q.trigger, X, O⟩) := Lib.hid (by unfold PQ.told; rw [hX, hO])
        rw [← hX] at HX
        rw [← hX, ← hO] at T9
        clear hX hO
        have hC : Hid (Chg (fun j => j = p) wr ((wr.setCell ⟨p, 7, none⟩ (.int .i64 0)).setCell ⟨p, 9, none⟩ (.int .u64 18446744073709551615))) := Lib.hid (((Chg.refl (fun j => j = p) wr).setCell (p := ⟨p, 7, none⟩) (.inl rfl) _).setCell (p := ⟨p, 9, none⟩) (.inl rfl) _)
        have H10 : Hid (PeR ((wr.setCell ⟨p, 7, none⟩ (.int .i64 0)).setCell ⟨p, 9, none⟩ (.int .u64 18446744073709551615)) F M p { q with waits := 0, due := 18446744073709551615 } m) := Lib.hid (by
          have h7 : PeR (wr.setCell ⟨p, 7, none⟩ (.int .i64 0)) F M p { q with waits := 0 } m := H9.out.put _ rfl rfl rfl rfl rfl rfl H9.out.r1 H9.out.r2 H9.out.r3 H9.out.f1 H9.out.f2 H9.out.f3
          exact h7.put _ rfl rfl rfl rfl rfl rfl h7.r1 h7.r2 h7.r3 h7.f1 h7.f2 h7.f3)
        have tt := H9.out.t
        have y7 := cell_of_row wr p 7 _ _ _ tt
        have fy7 := frozen_of_row wr p 7 _ _ tt
        have y9 := cell_of_row wr p 9 _ _ _ tt
        have fy9 := frozen_of_row wr p 9 _ _ tt
        clear tt
        go_upto_region 9 with fail
        clear y7 y9 fy7 fy9
        have T10 := Lib.hid (hC.out.blk T9.out.t (fun e => by omega))
        have RG := Lib.hid (T9.out.rg.chg hC.out (fun b off e hn hb => by have := (T9.out.ng b off e hn).1; omega))
        have RM := Lib.hid (T9.out.rm.chg hC.out (fun b off e hn hb => by have := (T9.out.nm b off e hn).1; omega))
        generalize ((wr.setCell ⟨p, 7, none⟩ (.int .i64 0)).setCell ⟨p, 9, none⟩ (.int .u64 18446744073709551615)) = w9 at *
        have EN := Lib.hid (ack_encode w9 ⟨Ag, cg, Am, cm, q.got, q.marked, q.trigger, X, O⟩ ⟨RG.out, RM.out, gd_u2 HQ.out.gg HQ.out.pg, gd_u2 HQ.out.gm HQ.out.pm, HQ.out.tr, HX.out⟩ HQ.out.may HQ.out.gg HQ.out.gm HQ.out.pg HQ.out.pm HQ.out.lg HQ.out.lm)
        have tt := T10.out
        have y0 := cell_of_row w9 h4 0 _ _ _ tt
        have fy0 := frozen_of_row w9 h4 0 _ _ tt
        have y1 := cell_of_row w9 h4 1 _ _ _ tt
        have fy1 := frozen_of_row w9 h4 1 _ _ tt
        have y2 := cell_of_row w9 h4 2 _ _ _ tt
        have fy2 := frozen_of_row w9 h4 2 _ _ tt
        have y3 := cell_of_row w9 h4 3 _ _ _ tt
        have fy3 := frozen_of_row w9 h4 3 _ _ tt
        have y4 := cell_of_row w9 h4 4 _ _ _ tt
        have fy4 := frozen_of_row w9 h4 4 _ _ tt
        clear tt
        go_wp2_with fail
        refine EN.out.mono ?_
        rintro e w10 ⟨A', c', rfl, r8, b8⟩
        have R8 := Lib.hid r8
        have B8 := Lib.hid b8
        clear r8 b8
        go_wp2
        go_ret2
        have hsr := T9.out.bel.size
        have hs9 := hC.out.size
        rw [ET.out]
        exact ⟨A', c', rfl, R8.out.rd, fun b off e hn => by have := R8.out.nw b off e hn; omega, H10.out.below B8.out, ((chg_below T9.out.bel).step hC.out (fun _ _ e => e)).thenBelow B8.out (by omega)⟩
      · intro k w1 left1 cnt1 hkL hku hlk hrg1 hl1 hlt hg1 hs1 hen
        have hC1 := (Chg.refl (fun j => j = wc.heap.size) wr).grown hg1 (fun j hj => by cases hj; exact Or.inl rfl)
        have T1 := Lib.hid (hT.out.chg hC1 (by omega) (fun b off e hn hb => by have := S1.out.rg.lt (by omega) hn b off e; omega) (fun b off e hn hb => by have := S1.out.rm.lt (by omega) hn b off e; omega) (fun k e => by omega))
        have E2 := box_below w1 (.cells #[.int .u64 k.nonce, .bool k.coin] 75)
        have X2 := Lib.hid (heap_alloc_new w1 (.cells #[.int .u64 k.nonce, .bool k.coin] 75))
        have T2 := Lib.hid (T1.out.below E2)
        have HR2 := Lib.hid (hrg1.alloc (.cells #[.int .u64 k.nonce, .bool k.coin] 75))
        have PM : Hid (((dn ++ [k]) ++ q.l.filter fun h => up64 left1 h.pn).Perm q.l) := Lib.hid (by
          have h1 := filter_take HQ.out.own (g := up64 left) (g' := up64 left1) hkL (fun y hy => by rw [hl1]; simp [hy]) hlk (by rw [hl1]; simp)
          have h2 := hpm.out
          refine List.Perm.trans ?_ h2
          rw [List.append_assoc]
          exact List.Perm.append_left dn h1.symm)
        have hmk := Lib.hid (HQ.out.mkd k hkL)
        have hs1' : wr.heap.size ≤ w1.heap.size := Nat.le_of_eq hs1.symm
        have lx : wc.heap.size ≤ wr.heap.size := hsz.out
        have hle := hrg.left_eq
        have HLE := Lib.hid hle
        clear hpm hC1 E2 hg1 hl1 hrg hrg1 hle hs1
        go_upto_region 5 with fail
        generalize hW2 : (w1.alloc (.cells #[.int .u64 k.nonce, .bool k.coin] 75)) = w2 at *
        have hs2 : w1.heap.size + 1 ≤ w2.heap.size := by rw [← hW2]; simp
        clear hW2
        have tt := T2.out.t
        have y3 := cell_of_row w2 h4 3 _ _ _ tt
        have fy3 := frozen_of_row w2 h4 3 _ _ tt
        have x0 := cell_of_row w2 w1.heap.size 0 _ _ _ X2.out
        clear tt
        have n4 : h4 ≠ w1.heap.size := by omega
        have n4' : w1.heap.size ≠ h4 := by omega
        have T3 : Hid (TlS w q h4 Ag cg Am cm (xorL (dn ++ [k])) (oddL dn) (w2.setCell ⟨h4, 3, none⟩ (.int .u64 (bits .xor .u64 (xorL dn) k.nonce)))) := Lib.hid (T2.out.put _ (by rw [xorL_snoc]; rfl))
        have C3 : Hid (Chg (fun j => j = h4) w2 (w2.setCell ⟨h4, 3, none⟩ (.int .u64 (bits .xor .u64 (xorL dn) k.nonce)))) := Lib.hid ((Chg.refl (fun j => j = h4) w2).setCell (p := ⟨h4, 3, none⟩) (.inl rfl) _)
        have HR3 := Lib.hid (ranges_chg HR2.out C3.out (by have := hkbw.out; omega) (by omega))
        have X3 := Lib.hid (C3.out.blk X2.out n4')
        go_upto_region 6 with fail
        clear y3 fy3 x0 HR2 T2 X2
        generalize (w2.setCell ⟨h4, 3, none⟩ (.int .u64 (bits .xor .u64 (xorL dn) k.nonce))) = w3 at *
        have hs3 := C3.out.size
        have x1 := cell_of_row w3 w1.heap.size 1 _ _ _ X3.out
        clear C3 X3
        cases hcn : k.coin
        · rw [hcn] at x1
          go_wp2
          go_roundw
          case rel => exact ⟨left1, cnt1, dn ++ [k], HR3.out, PM, Lib.hid (by rw [oddL_snoc, hcn]; exact T3.out), Lib.hid (by omega)⟩
          case measure => rw [HR3.out.left_eq, HLE.out]; exact hlt
        · rw [hcn] at x1
          have H3 := Lib.hid (H.out.below T3.out.bel)
          have y5 := cell_of_row w3 p 5 _ _ _ H3.out.t
          have KH := Lib.hid (has_yes m.A2 q.marked.length m.c2 q.marked k.pn w3 H3.out.r2 (gd_u2 HQ.out.gm HQ.out.pm) HQ.out.gm.good hku.1 hku.2)
          rw [hmk.out] at KH
          go_wp2_with fail
          refine KH.out.mono ?_
          rintro e w4 ⟨rfl, b4⟩
          have T4 := Lib.hid (T3.out.below b4)
          have HR4 := Lib.hid (ranges_chg HR3.out (chg_below b4 (F := fun _ => False)) (fun h => h) (fun h => h))
          have hs4 := b4.size
          clear b4 y5 x1 H3
          have tt := T4.out.t
          have y4 := cell_of_row w4 h4 4 _ _ _ tt
          have fy4 := frozen_of_row w4 h4 4 _ _ tt
          clear tt
          cases hmm : k.marked
          · have T5 : Hid (TlS w q h4 Ag cg Am cm (xorL (dn ++ [k])) (oddL (dn ++ [k])) (w4.setCell ⟨h4, 4, none⟩ (.bool (!(oddL dn))))) := Lib.hid (T4.out.put _ (by rw [oddL_snoc, hcn, hmm]; rfl))
            have C5 : Hid (Chg (fun j => j = h4) w4 (w4.setCell ⟨h4, 4, none⟩ (.bool (!(oddL dn))))) := Lib.hid ((Chg.refl (fun j => j = h4) w4).setCell (p := ⟨h4, 4, none⟩) (.inl rfl) _)
            have HR5 := Lib.hid (ranges_chg HR4.out C5.out (by have := hkbw.out; omega) (by omega))
            go_wp2
            go_roundw
            case rel => exact ⟨left1, cnt1, dn ++ [k], HR5.out, PM, T5, Lib.hid (by have := C5.out.size; omega)⟩
            case measure => rw [HR5.out.left_eq, HLE.out]; exact hlt
          · go_wp2
            go_roundw
            case rel => exact ⟨left1, cnt1, dn ++ [k], HR4.out, PM, Lib.hid (by rw [oddL_snoc, hcn, hmm]; exact T4.out), Lib.hid (by omega)⟩
            case measure => rw [HR4.out.left_eq, HLE.out]; exact hlt

end Go.Proofs.Ytkedfipeebjcjaa
