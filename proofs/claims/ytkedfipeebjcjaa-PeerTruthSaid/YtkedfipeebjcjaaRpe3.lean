/-
  The reference's receiver: tell, Tick. · The reference's receiver against the plain one: NewPeer, Tick, Fork. · The reference's receiver: Fork. · The reference's receiver: what Take lays.
-/
import Derived.Test.YtkedfipeebjcjaaRpe1
import Derived.Test.YtkedfipeebjcjaaPdt
import Derived.Test.YtkedfipeebjcjaaPee10
namespace Go.Proofs.Ytkedfipeebjcjaa
set_option linter.unusedSimpArgs false
set_option linter.unusedVariables false
set_option linter.unnecessarySimpa false
open Go.RowKit
attribute [local go_sem ↓] run_min_int run_max_int

theorem xorL_take (l : List Hp) {k : Nat} (h : k < l.length) : xorL (l.take (k + 1)) = bits .xor .u64 (xorL (l.take k)) l[k].nonce := by rw [List.take_succ_eq_append_getElem h, xorL_snoc]
theorem oddL_take (l : List Hp) {k : Nat} (h : k < l.length) : oddL (l.take (k + 1)) = if l[k].coin && !l[k].marked then !(oddL (l.take k)) else oddL (l.take k) := by rw [List.take_succ_eq_append_getElem h, oddL_snoc]

set_option maxHeartbeats 4000000 in
set_option maxRecDepth 100000 in
theorem rp_tell (w : World) (F M : Nat → Prop) (p : Nat) (s : PS) (m : RM) (h : RfR w F M p s m) (hs : s.Mid 32 32) (few : s.l.length ≤ 1000000) (tr : isU64 s.trigger) :
    Calls Try.prog 55 #[.pointer (some ⟨p, 0, none⟩)] w fun e w' => ∃ A c, e = .returned (.slice A (putAckP s.told).length c) ∧ Rd w' 1 A (putAckP s.told).length c (U8 (putAckP s.told)) ∧ (∀ b off, A = some ⟨b, off, none⟩ → 0 < (putAckP s.told).length → w.heap.size ≤ b) ∧ RfR w' F M p s.still m ∧ Chg (fun j => j = p) w w' := by
  have hf : s.Fit := ⟨fun x hx => ⟨(hs.pn x hx).2.1, (hs.pn x hx).2.2.1⟩, few⟩
  obtain ⟨q, e1, e2, e3⟩ : ∃ q : PQ, q.got = s.got ∧ q.marked = s.marked ∧ q.trigger = s.trigger := ⟨toQ s [] [], rfl, rfl, rfl⟩
  have KG0 := fun (W : World) (b : Below w.heap.size w W) => rp_got W F M p s m (h.below b) hf
  have KM0 := fun (W : World) (b : Below w.heap.size w W) => rp_marked W F M p s m (h.below b) hf
  rw [← e1] at KG0
  rw [← e2] at KM0
  have H := Lib.hid h
  have HS := Lib.hid hs
  have E1 := Lib.hid e1
  have E2 := Lib.hid e2
  have E3 := Lib.hid e3
  have hpl := h.lt
  have t7 : w.cell? ⟨p, 7, none⟩ = some (.int .u64 q.trigger) := by rw [e3]; exact cell_of_row w p 7 _ _ _ h.t
  have TR := Lib.hid tr
  clear h hf hs e1 e2 e3 tr
  go_enter Try.func55, Try.ntmps55
  go_upto_region 1 with fail
  go_cut [0, 3] (fun s0 s4 wx => ∃ (h4 : Nat) (Ag : Option Addr) (cg : Nat) (Am : Option Addr) (cm : Nat), s0 = .pointer (some ⟨p, 0, none⟩) ∧ s4 = .pointer (some ⟨h4, 0, none⟩) ∧ Hid (TlS w q h4 Ag cg Am cm 0 false wx))
  case first =>
    have KG := Lib.hid KG0
    have KM := Lib.hid KM0
    clear KG0 KM0
    go_region_held3 (fun W => W.cell? ⟨p, 7, none⟩ = some (.int .u64 q.trigger))
      (all_goals (first | (go_keep; done) | (simp [*, World.cell?_alloc_lt]; done) | (simp [*, World.cell?_alloc_lt, World.cell?_setCell_other]; done)))
      (first
        | (go_at_call 52; refine Calls.mono (KG.out _ (by repeat (first | (with_reducible exact Below.refl _ _) | (with_reducible refine Below.alloc ?_ (Nat.le_refl _) _) | (with_reducible refine Below.drew ?_)))) ?_; rintro e vA ⟨Ag, cg, rfl, hgA, bA⟩; have bA1 : Below w.heap.size w vA := Below.trans (by repeat (first | (with_reducible exact Below.refl _ _) | (with_reducible refine Below.alloc ?_ (Nat.le_refl _) _) | (with_reducible refine Below.drew ?_))) (bA.mono (by first | exact Nat.le_refl _ | (simp; done) | (simp; omega))); have sA : w.heap.size ≤ vA.heap.size := bA1.size; have zA := bA.size; (try simp at zA); (try have lA : w.heap.size < vA.heap.size := (by omega)); obtain ⟨hcA, hfA⟩ := bcell bA; have gA : p < vA.heap.size := Nat.lt_of_lt_of_le hpl sA; have cA : vA.cell? ⟨p, 7, none⟩ = some (.int .u64 q.trigger) := (bA1.cell (by exact hpl)).trans t7; have ngA : p ≠ vA.heap.size := Nat.ne_of_lt gA)
        | (go_at_call 54; refine Calls.mono (KM.out _ (by repeat (first | (with_reducible exact Below.refl _ _) | (with_reducible exact bA1) | (with_reducible refine Below.alloc ?_ (by first | exact Nat.le_refl _ | exact sA) _) | (with_reducible refine Below.drew ?_)))) ?_; rintro e vB ⟨Am, cm, rfl, hmB, bB⟩; have bB1 : Below w.heap.size w vB := Below.trans (by repeat (first | (with_reducible exact Below.refl _ _) | (with_reducible exact bA1) | (with_reducible refine Below.alloc ?_ (by first | exact Nat.le_refl _ | exact sA) _) | (with_reducible refine Below.drew ?_))) (bB.mono (by first | exact sA | (simp; done) | (simp; omega))); have sB : w.heap.size ≤ vB.heap.size := bB1.size; have zB := bB.size; (try simp at zB); (try have lB : w.heap.size < vB.heap.size := (by omega)); (try have lB' : vA.heap.size < vB.heap.size := (by omega)); obtain ⟨hcB, hfB⟩ := bcell bB; have gB : p < vB.heap.size := Nat.lt_of_lt_of_le hpl sB; have cB : vB.cell? ⟨p, 7, none⟩ = some (.int .u64 q.trigger) := (bB1.cell (by exact hpl)).trans t7; have ngB : p ≠ vB.heap.size := Nat.ne_of_lt gB))
    · go_wp2_with fail
      go_meet
      exact ⟨_, Ag, cg, Am, cm, rfl, rfl, Lib.hid (TlS.last hgA bB hmB bA1 (Nat.le_refl _) sA)⟩
    · go_wp2_with fail
      go_meet
      have e1 := box_below vA (.cells #[.slice none 0 0, .slice none 0 0, .int .u64 0, .int .u64 0, .bool false] 48)
      have hx := (bB.block _ (by simp)).trans (heap_alloc_new vA (.cells #[.slice none 0 0, .slice none 0 0, .int .u64 0, .int .u64 0, .bool false] 48))
      exact ⟨_, Ag, cg, Am, cm, rfl, rfl, Lib.hid (TlS.set hgA (e1.trans (bB.mono e1.size)) hmB bB1 (Nat.le_refl _) (by have := e1.size; omega) hx sA (fun b off e hn => by have := hgA.rd.lt (by omega) hn b off e; omega) (fun b off e hn => by have := hmB.nw b off e hn; simp at this; omega))⟩
    · go_wp2_with fail
      go_meet
      have e1 := box_below w.drew (.cells #[.slice none 0 0, .slice none 0 0, .int .u64 0, .int .u64 0, .bool false] 48)
      have hx0 := (bA.block _ (by simp)).trans (heap_alloc_new w.drew (.cells #[.slice none 0 0, .slice none 0 0, .int .u64 0, .int .u64 0, .bool false] 48))
      have hx := (bB.block _ (lt_of_block hx0)).trans hx0
      exact ⟨_, Ag, cg, Am, cm, rfl, rfl, Lib.hid (TlS.set hgA bB hmB bB1 (by have := e1.size; exact this) sA hx (Nat.le_refl _) (fun b off e hn => by have := hgA.nw b off e hn; simp at this; omega) (fun b off e hn => by have := hmB.nw b off e hn; omega))⟩
  case rest =>
    obtain ⟨h4, Ag, cg, Am, cm, rfl, rfl, S1⟩ := hcut
    have hp1 : p < wc.heap.size := Nat.lt_of_lt_of_le hpl S1.out.bel.size
    have hge := S1.out.ge
    have hl4 := lt_of_block S1.out.t
    clear t7 KG0 KM0
    go_wp2_with fail
    go_loopw [4] (fun i wr => ∃ (k : Nat), k ≤ s.l.length ∧ i = .int .i64 k ∧ Hid (TlS w q h4 Ag cg Am cm (xorL (s.l.take k)) (oddL (s.l.take k)) wr)) (fun i _ => s.l.length - (intOf i).toNat)
    case atStart => exact ⟨0, Nat.zero_le _, rfl, S1⟩
    case round =>
      obtain ⟨k, hk, rfl, T1⟩ := hrel
      have H1 := Lib.hid (H.out.below T1.out.bel)
      have t3 := cell_of_row wr p 3 _ _ _ H1.out.t
      have hcp : s.l.length ≤ m.c1 := (Rd.of_own H1.out.o1).cap
      by_cases hlt : k < s.l.length
      · obtain ⟨gd, off, hA, x0, x1, x2, x3⟩ := (Rd.of_own H1.out.o1).hp hlt
        have hgd : gd < w.heap.size := (Rd.of_own H.out.o1).lt (by omega) (by omega) gd off hA
        have hx2 : wr.cell? ⟨gd, off + k * 4 + 2, none⟩ = some (.bool s.l[k].coin) := x2
        have hx3 : wr.cell? ⟨gd, off + k * 4 + 3, none⟩ = some (.bool s.l[k].marked) := x3
        rw [hA] at t3
        have HX := Lib.hid (xorL_take s.l hlt)
        have HO := Lib.hid (oddL_take s.l hlt)
        have X2 := Lib.hid hx2
        have X3 := Lib.hid hx3
        have tt := T1.out.t
        have y3 := cell_of_row wr h4 3 _ _ _ tt
        have m3 := mixF_cell (F := fun _ => False) t3 id
        have my := mixF_cell (F := fun _ => False) y3 id
        have mx := mixF_cell (F := fun _ => False) (show wr.cell? ⟨gd, off + k * 4 + 1, none⟩ = some (.int .u64 s.l[k].nonce) from x1) id
        clear x0 x1 x2 x3 hx2 hx3 tt
        go_upto_region 5 with fail
        clear y3
        refine wp_region_chgE (fun _ => False) (by kernel_rfl) (by kernel_rfl) ?_
        repeat (refine wpMixE_seg 1 _ _ rfl ?_; simp only [List.take_succ_cons, List.take_zero, List.drop_succ_cons, List.drop_zero]; go_big_quiet_step (fail); refine wpQuiet_nil ?_)
        have T1d := Lib.hid (T1.out.below (Below.refl _ _).drew)
        have X2d : Hid (wr.drew.cell? ⟨gd, off + k * 4 + 2, none⟩ = some (.bool s.l[k].coin)) := Lib.hid X2.out
        have X3d : Hid (wr.drew.cell? ⟨gd, off + k * 4 + 3, none⟩ = some (.bool s.l[k].marked)) := Lib.hid X3.out
        have t3d : Hid (wr.drew.cell? ⟨p, 3, none⟩ = some (.slice (some ⟨gd, off, none⟩) s.l.length m.c1)) := Lib.hid t3
        clear t3 m3 my mx X2 X3 H1 T1
        generalize wr.drew = wd at *
        have tt := T1d.out.t
        have y3 := cell_of_row wd h4 3 _ _ _ tt
        have fy3 := frozen_of_row wd h4 3 _ _ tt
        clear tt
        have T2 : Hid (TlS w q h4 Ag cg Am cm (xorL (s.l.take (k + 1))) (oddL (s.l.take k)) (wd.setCell ⟨h4, 3, none⟩ (.int .u64 (bits .xor .u64 (xorL (s.l.take k)) s.l[k].nonce)))) := Lib.hid (T1d.out.put _ (by rw [HX.out]; rfl))
        have C2 : Chg (fun j => j = h4) wd (wd.setCell ⟨h4, 3, none⟩ (.int .u64 (bits .xor .u64 (xorL (s.l.take k)) s.l[k].nonce))) := (Chg.refl (fun j => j = h4) wd).setCell (p := ⟨h4, 3, none⟩) (.inl rfl) _
        have X2e := C2.cell X2d.out (by show gd ≠ h4; omega)
        have X3e := C2.cell X3d.out (by show gd ≠ h4; omega)
        have t3e := C2.cell t3d.out (by show p ≠ h4; omega)
        clear X2d X3d t3d C2
        refine wpMixE_bar rfl (by rfl) ?_
        go_wp2
        refine mixGo_fin ?_
        clear y3 fy3 T1d
        generalize (wd.setCell ⟨h4, 3, none⟩ (.int .u64 (bits .xor .u64 (xorL (s.l.take k)) s.l[k].nonce))) = w3 at *
        have tt := T2.out.t
        have y4 := cell_of_row w3 h4 4 _ _ _ tt
        have fy4 := frozen_of_row w3 h4 4 _ _ tt
        clear tt
        cases hcn : s.l[k].coin
        · rw [hcn] at X2e
          go_wp2
          go_roundw
          case rel => exact ⟨k + 1, by omega, by go_num, Lib.hid (by rw [HO.out, hcn]; exact T2.out)⟩
          case measure => simp [intOf]; omega
        · rw [hcn] at X2e
          cases hmm : s.l[k].marked
          · rw [hmm] at X3e
            have T5 : Hid (TlS w q h4 Ag cg Am cm (xorL (s.l.take (k + 1))) (oddL (s.l.take (k + 1))) (w3.setCell ⟨h4, 4, none⟩ (.bool (!(oddL (s.l.take k)))))) := Lib.hid (T2.out.put _ (by rw [HO.out, hcn, hmm]; rfl))
            go_wp2
            go_roundw
            case rel => exact ⟨k + 1, by omega, by go_num, T5⟩
            case measure => simp [intOf]; omega
          · rw [hmm] at X3e
            go_wp2
            go_roundw
            case rel => exact ⟨k + 1, by omega, by go_num, Lib.hid (by rw [HO.out, hcn, hmm]; exact T2.out)⟩
            case measure => simp [intOf]; omega
      · obtain rfl : k = s.l.length := by omega
        rw [List.take_length] at T1
        have HX : Hid (isU64 (xorL s.l)) := Lib.hid (xorL_u64 s.l fun x hx => (HS.out.pn x hx).2.2.2)
        obtain ⟨X, hX⟩ : ∃ X, X = xorL s.l := ⟨_, rfl⟩
        obtain ⟨O, hO⟩ : ∃ O, O = oddL s.l := ⟨_, rfl⟩
        have ET : Hid (s.told = ⟨q.got, q.marked, q.trigger, X, O⟩) := Lib.hid (by rw [hX, hO, E1.out, E2.out, E3.out]; rfl)
        rw [← hX] at HX
        rw [← hX, ← hO] at T1
        clear hX hO
        have hC : Hid (Chg (fun j => j = p) wr ((wr.setCell ⟨p, 6, none⟩ (.int .i64 0)).setCell ⟨p, 8, none⟩ (.int .u64 18446744073709551615))) := Lib.hid (((Chg.refl (fun j => j = p) wr).setCell (p := ⟨p, 6, none⟩) (.inl rfl) _).setCell (p := ⟨p, 8, none⟩) (.inl rfl) _)
        have H10 : Hid (RfR ((wr.setCell ⟨p, 6, none⟩ (.int .i64 0)).setCell ⟨p, 8, none⟩ (.int .u64 18446744073709551615)) F M p s.still m) := Lib.hid (by
          have h7 : RfR (wr.setCell ⟨p, 6, none⟩ (.int .i64 0)) F M p { s with waits := 0 } m := H1.out.put _ rfl rfl rfl
          exact h7.put _ rfl rfl rfl)
        have tt := H1.out.t
        have y6 := cell_of_row wr p 6 _ _ _ tt
        have fy6 := frozen_of_row wr p 6 _ _ tt
        have y8 := cell_of_row wr p 8 _ _ _ tt
        have fy8 := frozen_of_row wr p 8 _ _ tt
        clear tt
        go_upto_region 10 with fail
        clear y6 y8 fy6 fy8 t3
        have T10 := Lib.hid (hC.out.blk T1.out.t (fun e => by omega))
        have RG := Lib.hid (T1.out.rg.chg hC.out (fun b off e hn hb => by have := (T1.out.ng b off e hn).1; omega))
        have RM := Lib.hid (T1.out.rm.chg hC.out (fun b off e hn hb => by have := (T1.out.nm b off e hn).1; omega))
        generalize ((wr.setCell ⟨p, 6, none⟩ (.int .i64 0)).setCell ⟨p, 8, none⟩ (.int .u64 18446744073709551615)) = w9 at *
        have EN := Lib.hid (ref_putAck w9 ⟨Ag, cg, Am, cm, q.got, q.marked, q.trigger, X, O⟩ ⟨RG.out, RM.out, by show U2s q.got; rw [E1.out]; exact gd_u2 HS.out.gd HS.out.lo.1, by show U2s q.marked; rw [E2.out]; exact gd_u2 HS.out.gm HS.out.lo.2, by show isU64 q.trigger; rw [E3.out]; exact TR.out, HX.out⟩ (by show Gd q.got; rw [E1.out]; exact HS.out.gd) (by show Gd q.marked; rw [E2.out]; exact HS.out.gm) (by show ∀ s ∈ q.got, _; rw [E1.out]; exact HS.out.lo.1) (by show ∀ s ∈ q.marked, _; rw [E2.out]; exact HS.out.lo.2) (by show q.got.length ≤ 32; rw [E1.out]; exact HS.out.few.1) (by show q.marked.length ≤ 32; rw [E2.out]; exact HS.out.few.2))
        have tt := T10.out
        have y0 := cell_of_row w9 h4 0 _ _ _ tt
        have fy0 := frozen_of_row w9 h4 0 _ _ tt
        have y1 := cell_of_row w9 h4 1 _ _ _ tt
        have fy1 := frozen_of_row w9 h4 1 _ _ tt
        have y2 := cell_of_row w9 h4 2 _ _ _ tt
        have fy2 := frozen_of_row w9 h4 2 _ _ tt
        have y3 := cell_of_row w9 h4 3 _ _ _ tt
        have fy3 := frozen_of_row w9 h4 3 _ _ tt
        have y4 := cell_of_row w9 h4 4 _ _ _ tt
        have fy4 := frozen_of_row w9 h4 4 _ _ tt
        clear tt
        go_wp2_with fail
        refine EN.out.mono ?_
        rintro e w10 ⟨A', c', rfl, r8, b8, n8⟩
        have R8 := Lib.hid r8
        have B8 := Lib.hid b8
        have N8 := Lib.hid n8
        clear r8 b8 n8
        go_wp2
        go_ret
        have hsr := T1.out.bel.size
        have hs9 := hC.out.size
        rw [ET.out]
        exact ⟨A', c', rfl, R8.out, fun b off e hn => by have := N8.out b off e; omega, H10.out.below B8.out, ((chg_below T1.out.bel).step hC.out (fun _ _ e => e)).thenBelow B8.out (by omega)⟩

end Go.Proofs.Ytkedfipeebjcjaa

namespace Go.Proofs.Ytkedfipeebjcjaa
set_option linter.unusedSimpArgs false
set_option linter.unusedVariables false
set_option linter.unnecessarySimpa false
open Go.RowKit
attribute [local go_sem ↓] run_min_int run_max_int

/-- The reference's receiver. -/
structure PeF (w : World) (F M : Nat → Prop) (p : Nat) (s : PS) : Prop where
  good : s.Good
  byt : 0 ≤ s.bytes ∧ s.bytes ≤ 1500 * s.s.length
  few : s.s.length ≤ 600000
  kl : s.l.length ≤ s.s.length
  sl : ∀ x ∈ s.s, 0 ≤ x.1 ∧ x.1 + x.2.length ≤ 4611686018427387903 ∧ x.2.length ≤ 1500 ∧ ∀ y ∈ x.2, 0 ≤ y ∧ y ≤ 255
  ex : ∃ m, RfR w F M p s m
theorem PeF.chg {w w' : World} {F M G F' M' : Nat → Prop} {p : Nat} {s : PS} (h : PeF w F M p s) (hc : Chg G w w') (hd : ∀ k, k < w.heap.size → F k ∨ M k → ¬ G k) (hF : ∀ k, k < w.heap.size → F k → F' k) (hM : ∀ k, k < w.heap.size → M k → F' k ∨ M' k) : PeF w' F' M' p s := by
  obtain ⟨m, h1⟩ := h.ex
  exact ⟨h.good, h.byt, h.few, h.kl, h.sl, m, h1.chg hc hd hF hM⟩
theorem PeF.below {w w' : World} {F M : Nat → Prop} {p : Nat} {s : PS} (h : PeF w F M p s) (b : Below w.heap.size w w') : PeF w' F M p s :=
  h.chg (chg_below b (F := fun _ => False)) (fun _ _ _ h => h) (fun _ _ h => h) (fun _ _ h => .inr h)
theorem PeF.sub {w : World} {F M G N : Nat → Prop} {p : Nat} {s : PS} (h : PeF w F M p s) (hF : ∀ k, k < w.heap.size → F k → G k) (hM : ∀ k, k < w.heap.size → M k → G k ∨ N k) : PeF w G N p s := h.chg (Chg.refl (fun _ => False) w) (fun _ _ _ h => h) hF hM
theorem PeF.lt {w : World} {F M : Nat → Prop} {p : Nat} {s : PS} (h : PeF w F M p s) : p < w.heap.size := by
  obtain ⟨m, h1⟩ := h.ex
  exact h1.lt
theorem PeF.fit {w : World} {F M : Nat → Prop} {p : Nat} {s : PS} (h : PeF w F M p s) : s.Fit := ⟨fun x hx => ⟨(h.good.pn x hx).2.1, (h.good.pn x hx).2.2.1⟩, by have := h.kl; have := h.few; omega⟩
theorem rp_pgot (w : World) (F M : Nat → Prop) (p : Nat) (s : PS) (h : PeF w F M p s) :
    Calls Try.prog 52 #[.pointer (some ⟨p, 0, none⟩)] w fun e w' => ∃ A c, e = .returned (.slice A s.got.length c) ∧ RdN w' w.heap.size A s.got.length c (Ss s.got) ∧ Below w.heap.size w w' := by
  obtain ⟨m, h1⟩ := h.ex
  exact rp_got w F M p s m h1 h.fit
theorem rp_pmarked (w : World) (F M : Nat → Prop) (p : Nat) (s : PS) (h : PeF w F M p s) :
    Calls Try.prog 54 #[.pointer (some ⟨p, 0, none⟩)] w fun e w' => ∃ A c, e = .returned (.slice A s.marked.length c) ∧ RdN w' w.heap.size A s.marked.length c (Ss s.marked) ∧ Below w.heap.size w w' := by
  obtain ⟨m, h1⟩ := h.ex
  exact rp_marked w F M p s m h1 h.fit

theorem ref_due (now at_ : Int) (w : World) :
    Calls Try.prog 57 #[.int .u64 now, .int .u64 at_] w fun e w' => e = .returned (.bool (decide (at_ ≠ 18446744073709551615 ∧ at_ ≤ now))) ∧ w = w' := by
  by_cases h1 : at_ = 18446744073709551615
  · subst h1
    rw [decide_eq_false (fun h => h.1 rfl)]
    go_enter Try.func57, Try.ntmps57
    go_wp2
    go_ret
    exact ⟨rfl, rfl⟩
  · have e1 : (at_ != 18446744073709551615) = true := by simp; exact h1
    by_cases h2 : at_ ≤ now
    · rw [decide_eq_true (And.intro h1 h2)]
      have e2 : decide (at_ ≤ now) = true := decide_eq_true h2
      have e3 : decide (now ≥ at_) = true := decide_eq_true h2
      clear h1
      go_enter Try.func57, Try.ntmps57
      go_wp2
      go_ret
      exact ⟨rfl, rfl⟩
    · rw [decide_eq_false (fun h => h2 h.2)]
      have e2 : decide (at_ ≤ now) = false := decide_eq_false h2
      have e3 : decide (now ≥ at_) = false := decide_eq_false h2
      clear h1
      go_enter Try.func57, Try.ntmps57
      go_wp2
      go_ret
      exact ⟨rfl, rfl⟩

set_option maxHeartbeats 1000000 in
theorem rp_tick (w : World) (F M : Nat → Prop) (p : Nat) (s : PS) (now : Int) (h : PeF w F M p s) :
    Calls Try.prog 22 #[.pointer (some ⟨p, 0, none⟩), .int .u64 now] w fun e w' => TellVal (s.tick now).2 w w' e ∧ PeF w' (Grow F w) M p (s.tick now).1 ∧ Chg F w w' := by
  have H := Lib.hid h
  obtain ⟨m, h1⟩ := h.ex
  have H1 := Lib.hid h1
  have t8 : w.cell? ⟨p, 8, none⟩ = some (.int .u64 s.due) := cell_of_row w p 8 _ _ _ h1.t
  have CD := Lib.hid (ref_due now s.due w)
  have KT := Lib.hid (rp_tell w F M p s m h1 h.good.mid h.fit.few h.good.num.2.1)
  clear h h1
  by_cases hd : s.due ≠ 18446744073709551615 ∧ s.due ≤ now
  · rw [decide_eq_true hd] at CD
    have HT : Hid (s.tick now = (s.still, some s.told)) := Lib.hid (if_pos hd)
    clear hd
    go_enter Try.func22, Try.ntmps22
    go_wp2_with fail
    refine CD.out.mono ?_
    rintro e w1 ⟨rfl, rfl⟩
    go_wp2_with fail
    refine KT.out.mono ?_
    rintro e w2 ⟨A, c, rfl, r1, r2, r3, r4⟩
    have R := Lib.hid (And.intro r1 (And.intro r2 (And.intro r3 r4)))
    clear r1 r2 r3 r4
    go_wp2
    go_ret2
    rw [HT.out]
    have hc := R.out.2.2.2.mono (G := F) (fun k _ e => by subst e; exact H1.out.fp)
    refine ⟨⟨A, c, rfl, R.out.1, R.out.2.1⟩, ⟨still_good H.out.good, H.out.byt, H.out.few, H.out.kl, H.out.sl, m, ?_⟩, hc⟩
    exact R.out.2.2.1.chg (Chg.refl (fun _ => False) w2) (fun _ _ _ h => h) (fun k hk e => .inl e) (fun k hk e => .inr e)
  · rw [decide_eq_false hd] at CD
    have HT : Hid (s.tick now = (s, none)) := Lib.hid (if_neg hd)
    clear hd
    go_enter Try.func22, Try.ntmps22
    go_wp2_with fail
    refine CD.out.mono ?_
    rintro e w1 ⟨rfl, rfl⟩
    go_wp2
    go_ret2
    rw [HT.out]
    exact ⟨rfl, H.out.sub (fun k _ e => .inl e) (fun k _ e => .inr e), Chg.refl _ _⟩

theorem rp_new (delay : Int) (w : World) (h : isU64 delay) :
    Calls Try.prog 20 #[.int .u64 delay] w fun e w' => ∃ p, e = .returned (.pointer (some ⟨p, 0, none⟩)) ∧ PeF w' (fun k => w.heap.size ≤ k) (fun _ => False) p (PS.new delay) ∧ Below w.heap.size w w' := by
  have HD := Lib.hid h
  clear h
  go_enter Try.func20, Try.ntmps20
  go_wp2
  go_ret
  have b1 := box_below w (.cells #[.int .u64 delay, .int .u64 0, .int .u64 0, .slice none 0 0, .int .u64 0, .slice none 0 0, .int .i64 0, .int .u64 0, .int .u64 18446744073709551615] 99)
  have n2 := heap_alloc_new w (.cells #[.int .u64 delay, .int .u64 0, .int .u64 0, .slice none 0 0, .int .u64 0, .slice none 0 0, .int .i64 0, .int .u64 0, .int .u64 18446744073709551615] 99)
  refine ⟨_, rfl, ⟨new_good delay HD.out, ⟨Int.le_refl _, by show (0 : Int) ≤ _; omega⟩, by show 0 ≤ 600000; omega, Nat.le_refl _, (fun x hx => by cases hx), ⟨none, 0, none, 0, []⟩, ?_⟩, b1⟩
  exact ⟨n2, World.ownsRow_nil _ _ _ _, World.ownsRow_nil _ _ _ _, rfl, (fun x hx => by cases hx), Nat.le_refl _, (fun g hg => by simp [RM.v1, Value.ownBlock, PS.new] at hg), (fun g hg => by simp [RM.v2, Value.ownBlock, PS.new] at hg), (fun x hx => by cases hx)⟩

end Go.Proofs.Ytkedfipeebjcjaa

namespace Go.Proofs.Ytkedfipeebjcjaa
set_option linter.unusedSimpArgs false
set_option linter.unusedVariables false
set_option linter.unnecessarySimpa false
open Go.RowKit
attribute [local go_sem ↓] run_min_int run_max_int

/-- Where the walk of Fork stands: the new receiver's cells. -/
structure FkF (w : World) (s : PS) (m : RM) (W : World) : Prop where
  t : W.heap[w.heap.size]? = some (.cells #[.int .u64 s.delay, .int .u64 s.floor, .int .u64 s.next, .slice m.A1 s.l.length m.c1, .int .u64 s.bytes, .slice m.A2 s.s.length m.c2, .int .i64 s.waits, .int .u64 s.trigger, .int .u64 s.due] 99 (0, 0))
  bel : Below w.heap.size w W
theorem FkF.below {w W W' : World} {s : PS} {m : RM} (h : FkF w s m W) (b : Below W.heap.size W W') : FkF w s m W' := ⟨(b.block _ (lt_of_block h.t)).trans h.t, h.bel.trans (b.mono h.bel.size)⟩
theorem FkF.put3 {w W : World} {s : PS} {m : RM} (A : Option Addr) (c : Nat) (h : FkF w s m W) : FkF w s { m with A1 := A, c1 := c } (W.setCell ⟨w.heap.size, 3, none⟩ (.slice A s.l.length c)) :=
  ⟨heap_setCell_same W w.heap.size 3 _ _ (.slice A s.l.length c) h.t, h.bel.setCell (p := ⟨w.heap.size, 3, none⟩) (Nat.le_refl _) _⟩
theorem FkF.put5 {w W : World} {s : PS} {m : RM} (A : Option Addr) (c : Nat) (h : FkF w s m W) : FkF w s { m with A2 := A, c2 := c } (W.setCell ⟨w.heap.size, 5, none⟩ (.slice A s.s.length c)) :=
  ⟨heap_setCell_same W w.heap.size 5 _ _ (.slice A s.s.length c) h.t, h.bel.setCell (p := ⟨w.heap.size, 5, none⟩) (Nat.le_refl _) _⟩

theorem hp_one (l : List Hp) : ∀ u ∈ l.flatMap Hp.cells, u.oneCell' = true := by
  intro u hu
  obtain ⟨x, _, hx⟩ := List.mem_flatMap.1 hu
  simp only [Hp.cells, List.mem_cons, List.not_mem_nil, or_false] at hx
  rcases hx with rfl | rfl | rfl | rfl <;> rfl

set_option maxHeartbeats 4000000 in
set_option maxRecDepth 100000 in
theorem rp_fork_r (w : World) (F M : Nat → Prop) (p : Nat) (s : PS) (m : RM) (h : RfR w F M p s m) (few : s.l.length ≤ 1000000) (lp : s.s.length ≤ 1000000) :
    Calls Try.prog 25 #[.pointer (some ⟨p, 0, none⟩)] w fun e w' => e = .returned (.pointer (some ⟨w.heap.size, 0, none⟩)) ∧ (∃ A1 c1 A2 c2, RfR w' (fun k => w.heap.size ≤ k) (fun k => (F k ∨ M k) ∧ k < w.heap.size ∧ ¬ (k = p ∨ (m.v1 s).ownBlock = some k ∨ (m.v2 s).ownBlock = some k)) w.heap.size s ⟨A1, c1, A2, c2, m.pl⟩) ∧ Below w.heap.size w w' := by
  obtain ⟨iH, hiH, hz0, hz1, hz2⟩ := info_parts infoHp
  obtain ⟨iP, hiP, pz0, pz1, pz2⟩ := info_parts infoPc
  have H := Lib.hid h
  have hpl := h.lt
  have hpn : Hid (m.pl.length = s.s.length) := Lib.hid (by rw [← h.pe, List.length_map])
  have t0 := cell_of_row w p 0 _ _ _ h.t
  have ft0 := frozen_of_row w p 0 _ _ h.t
  have t1 := cell_of_row w p 1 _ _ _ h.t
  have ft1 := frozen_of_row w p 1 _ _ h.t
  have t2 := cell_of_row w p 2 _ _ _ h.t
  have ft2 := frozen_of_row w p 2 _ _ h.t
  have t3 := cell_of_row w p 3 _ _ _ h.t
  have ft3 := frozen_of_row w p 3 _ _ h.t
  have t4 := cell_of_row w p 4 _ _ _ h.t
  have ft4 := frozen_of_row w p 4 _ _ h.t
  have t5 := cell_of_row w p 5 _ _ _ h.t
  have ft5 := frozen_of_row w p 5 _ _ h.t
  have t6 := cell_of_row w p 6 _ _ _ h.t
  have ft6 := frozen_of_row w p 6 _ _ h.t
  have t7 := cell_of_row w p 7 _ _ _ h.t
  have ft7 := frozen_of_row w p 7 _ _ h.t
  have t8 := cell_of_row w p 8 _ _ _ h.t
  have ft8 := frozen_of_row w p 8 _ _ h.t
  have F1 : Hid (FkF w s m (w.alloc (.cells #[.int .u64 s.delay, .int .u64 s.floor, .int .u64 s.next, .slice m.A1 s.l.length m.c1, .int .u64 s.bytes, .slice m.A2 s.s.length m.c2, .int .i64 s.waits, .int .u64 s.trigger, .int .u64 s.due] 99))) := Lib.hid ⟨heap_alloc_new w _, box_below w _⟩
  clear h
  go_enter Try.func25, Try.ntmps25
  go_upto_region 2 with fail
  generalize (w.alloc (.cells #[.int .u64 s.delay, .int .u64 s.floor, .int .u64 s.next, .slice m.A1 s.l.length m.c1, .int .u64 s.bytes, .slice m.A2 s.s.length m.c2, .int .i64 s.waits, .int .u64 s.trigger, .int .u64 s.due] 99)) = w1 at *
  clear t0 t1 t2 t3 t4 t5 t6 t7 t8 ft0 ft1 ft2 ft3 ft4 ft5 ft6 ft7 ft8
  have hs1 : w.heap.size + 1 ≤ w1.heap.size := lt_of_block F1.out.t
  have H1 := Lib.hid (H.out.below F1.out.bel)
  have t3 := cell_of_row w1 p 3 _ _ _ H1.out.t
  have u3 := cell_of_row w1 w.heap.size 3 _ _ _ F1.out.t
  have fu3 := frozen_of_row w1 w.heap.size 3 _ _ F1.out.t
  have R1 := Lib.hid (Rd.of_own H1.out.o1)
  go_upto_region 3 with (
    at_builtin
    refine wpList_append_rd _ rfl (.const (.slice none 0 0)) (.tmp 10) 97 rfl w1.heap.size 103 iH _ 4 24 Try.underlying97 hiH hz0 hz1 hz2 rfl (by decide) (.slice none 0 0) 0 [] rfl (World.ownsRow_nil _ _ _ _) m.A1 s.l.length m.c1 (s.l.flatMap Hp.cells) rfl R1.out (hp_one _) (by unfold maxLen; omega) (by omega) (Nat.le_refl _) ?_
    intro v8 w8 hown8 hg8 _
    rw [Nat.zero_add, List.nil_append] at hown8
    obtain ⟨A5, c5, hv8, hA5⟩ := own_slice hown8
    subst hv8
    have O8 := Lib.hid hown8
    have B8 : Hid (Below w1.heap.size w1 w8) := Lib.hid ((Below.refl _ _).grown hg8 (Nat.le_refl _) (fun g hg => by simp [Value.ownBlock] at hg))
    have F8 := Lib.hid (F1.out.below B8.out)
    have ff := F8.out.t
    have z3 := cell_of_row w8 w.heap.size 3 _ _ _ ff
    have fz3 := frozen_of_row w8 w.heap.size 3 _ _ ff
    clear ff hown8 hg8 hA5)
  clear t3 u3 fu3 z3 fz3 R1
  have C9 : Hid (Chg (fun j => j = w.heap.size) w8 (w8.setCell ⟨w.heap.size, 3, none⟩ (.slice A5 s.l.length c5))) := Lib.hid ((Chg.refl (fun j => j = w.heap.size) w8).setCell (p := ⟨w.heap.size, 3, none⟩) (.inl rfl) _)
  have F9 := Lib.hid (F8.out.put3 A5 c5)
  have NG : Hid (∀ g, (Value.slice A5 s.l.length c5).ownBlock = some g → w1.heap.size ≤ g) := Lib.hid (fun g e => (O8.out.lt g e).1)
  have O9 := Lib.hid (own_chg (own_base O8.out (fun k _ => Nat.zero_le k)) C9.out (fun g e => by have := NG.out g e; omega))
  clear C9 F8 B8 O8
  generalize (w8.setCell ⟨w.heap.size, 3, none⟩ (.slice A5 s.l.length c5)) = w9 at *
  have H9 := Lib.hid (H.out.below F9.out.bel)
  have hs9 : w.heap.size + 1 ≤ w9.heap.size := lt_of_block F9.out.t
  have t5 := cell_of_row w9 p 5 _ _ _ H9.out.t
  have u5 := cell_of_row w9 w.heap.size 5 _ _ _ F9.out.t
  have fu5 := frozen_of_row w9 w.heap.size 5 _ _ F9.out.t
  have R5 : Hid (Rd w9 2 m.A2 s.s.length m.c2 (m.pl.flatMap Pc.cells)) := Lib.hid (Rd.of_own H9.out.o2)
  go_upto_region 4 with (
    at_builtin
    refine wpList_append_rd _ rfl (.const (.slice none 0 0)) (.tmp 16) 63 rfl w9.heap.size 82 iP _ 2 32 Try.underlying63 hiP pz0 pz1 pz2 rfl (by decide) (.slice none 0 0) 0 [] rfl (World.ownsRow_nil _ _ _ _) m.A2 s.s.length m.c2 (m.pl.flatMap Pc.cells) rfl R5.out (fun u hu => by
      obtain ⟨x, _, hx⟩ := List.mem_flatMap.1 hu
      simp [Pc.cells] at hx
      rcases hx with rfl | rfl <;> rfl) (by unfold maxLen; omega) (by omega) (Nat.le_refl _) ?_
    intro v10 w10 hown10 hg10 _
    rw [Nat.zero_add, List.nil_append] at hown10
    obtain ⟨A6, c6, hv10, hA6⟩ := own_slice hown10
    subst hv10
    have OP := Lib.hid hown10
    have B10 : Hid (Below w9.heap.size w9 w10) := Lib.hid ((Below.refl _ _).grown hg10 (Nat.le_refl _) (fun g hg => by simp [Value.ownBlock] at hg))
    have F10 := Lib.hid (F9.out.below B10.out)
    have ff := F10.out.t
    have z5 := cell_of_row w10 w.heap.size 5 _ _ _ ff
    have fz5 := frozen_of_row w10 w.heap.size 5 _ _ ff
    clear ff hown10 hg10 hA6)
  clear t5 u5 fu5 z5 fz5 R5
  have C11 : Hid (Chg (fun j => j = w.heap.size) w10 (w10.setCell ⟨w.heap.size, 5, none⟩ (.slice A6 s.s.length c6))) := Lib.hid ((Chg.refl (fun j => j = w.heap.size) w10).setCell (p := ⟨w.heap.size, 5, none⟩) (.inl rfl) _)
  have F11 := Lib.hid (F10.out.put5 A6 c6)
  have CC11 := Lib.hid ((chg_below B10.out (F := fun j => j = w.heap.size)).step C11.out (fun _ _ e => e))
  go_wp2
  go_ret
  have hH := H.out
  have hF11 := F11.out
  refine ⟨rfl, ⟨A5, c5, A6, c6, ?_⟩, hF11.bel⟩
  have hob : ∀ g, (Value.slice A6 s.s.length c6).ownBlock = some g → w9.heap.size ≤ g := fun g e => (OP.out.lt g e).1
  have h5 : ∀ g, (Value.slice A5 s.l.length c5).ownBlock = some g → w1.heap.size ≤ g ∧ g < w9.heap.size := fun g e => ⟨NG.out g e, (O9.out.lt g e).2⟩
  have H11 := hH.below hF11.bel
  refine ⟨hF11.t, ?_, ?_, hH.pe, H11.bd, Nat.le_refl _, fun g e => ?_, fun g e => ?_, fun x hx b off e hn => ?_⟩
  · exact own_chg O9.out CC11.out (fun g e e2 => by have := h5 g e; omega)
  · exact own_chg (own_base OP.out (fun k _ => Nat.zero_le k)) C11.out (fun g e e2 => by have := hob g e; omega)
  · have := h5 g e
    exact ⟨by show w.heap.size ≤ g; omega, by omega⟩
  · have := hob g e
    exact ⟨by show w.heap.size ≤ g; omega, by omega, fun e2 => by have := h5 g e2; omega⟩
  · have h1 := hH.fb x hx b off e hn
    have h2 := (hH.bd x hx).lt (by omega) hn b off e
    exact ⟨.inr ⟨h1.1, h2, h1.2.1, h1.2.2.1, h1.2.2.2⟩, by omega, fun e2 => by have := h5 b e2; omega, fun e2 => by have := hob b e2; omega⟩

theorem rp_fork (w : World) (F M : Nat → Prop) (p : Nat) (s : PS) (h : PeF w F M p s) :
    Calls Try.prog 25 #[.pointer (some ⟨p, 0, none⟩)] w fun e w' => e = .returned (.pointer (some ⟨w.heap.size, 0, none⟩)) ∧ (∃ F0 : Nat → Prop, (∀ k, F0 k → F k ∧ k < w.heap.size) ∧ PeF w' F0 (fun k => (F k ∨ M k) ∧ k < w.heap.size ∧ ¬ F0 k) p s ∧
      PeF w' (fun k => w.heap.size ≤ k) (fun k => (F k ∨ M k) ∧ k < w.heap.size ∧ ¬ F0 k) w.heap.size s) ∧ Below w.heap.size w w' := by
  obtain ⟨m, h1⟩ := h.ex
  have hf := h.few
  refine (rp_fork_r w F M p s m h1 h.fit.few (by omega)).mono ?_
  rintro e w' ⟨rfl, ⟨A1, c1, A2, c2, hm'⟩, hb⟩
  have hpl := h1.lt
  refine ⟨rfl, ⟨fun k => k = p ∨ (m.v1 s).ownBlock = some k ∨ (m.v2 s).ownBlock = some k, fun k hk => ?_, ⟨h.good, h.byt, h.few, h.kl, h.sl, m, ?_⟩, ⟨h.good, h.byt, h.few, h.kl, h.sl, _, hm'⟩⟩, hb⟩
  · rcases hk with e | e | e
    · subst e; exact ⟨h1.fp, hpl⟩
    · exact ⟨(h1.f1 k e).1, (h1.o1.lt k e).2⟩
    · exact ⟨(h1.f2 k e).1, (h1.o2.lt k e).2⟩
  · have h3 := h1.below hb
    exact ⟨h3.t, h3.o1, h3.o2, h3.pe, h3.bd, .inl rfl, fun g e => ⟨.inr (.inl e), (h3.f1 g e).2⟩, fun g e => ⟨.inr (.inr e), (h3.f2 g e).2⟩, fun x hx b off e hn => by
      have g1 := h1.fb x hx b off e hn
      exact ⟨.inr ⟨g1.1, (h1.bd x hx).lt (by omega) hn b off e, fun e2 => by
        rcases e2 with e2 | e2 | e2
        · exact g1.2.1 e2
        · exact g1.2.2.1 e2
        · exact g1.2.2.2 e2⟩, g1.2⟩⟩

end Go.Proofs.Ytkedfipeebjcjaa

namespace Go.Proofs.Ytkedfipeebjcjaa
set_option linter.unusedSimpArgs false
set_option linter.unusedVariables false
set_option linter.unnecessarySimpa false
open Go.RowKit

/-- One piece more. -/
theorem RfR.addS {w w' : World} {F M : Nat → Prop} {p : Nat} {s : PS} {m : RM} {A : Option Addr} {c : Nat} (x : Pc) (h : RfR w F M p s m) (hg : w.grownBy w' (m.v2 s).ownBlock)
    (o : w'.ownsRow 0 82 2 (.slice A (s.s.length + 1) c) (s.s.length + 1) (m.pl.flatMap Pc.cells ++ x.cells)) (hk : ∀ k, k < w.heap.size → (m.v2 s).ownBlock ≠ some k → (Value.slice A (s.s.length + 1) c).ownBlock ≠ some k) (hn : ∀ k, w.heap.size ≤ k → F k)
    (rx : Rd w 1 x.A x.b.length x.c (U8 x.b)) (fx : ∀ b off, x.A = some ⟨b, off, none⟩ → 0 < x.b.length → (F b ∨ M b) ∧ b ≠ p ∧ (m.v1 s).ownBlock ≠ some b ∧ (m.v2 s).ownBlock ≠ some b) :
    RfR (w'.setCell ⟨p, 5, none⟩ (.slice A (s.s.length + 1) c)) F M p { s with s := s.s ++ [x.pure] } { m with A2 := A, c2 := c, pl := m.pl ++ [x] } ∧ Chg F w (w'.setCell ⟨p, 5, none⟩ (.slice A (s.s.length + 1) c)) := by
  have hp := h.lt
  have hC1 : Chg (fun k => (m.v2 s).ownBlock = some k) w w' := (Chg.refl _ _).grown hg (fun k e => .inl e)
  have hC2 : Chg (fun j => j = p) w' (w'.setCell ⟨p, 5, none⟩ (.slice A (s.s.length + 1) c)) := (Chg.refl (fun j => j = p) w').setCell (p := ⟨p, 5, none⟩) (.inl rfl) _
  have k2 : ∀ g, (Value.slice A (s.s.length + 1) c).ownBlock = some g → (m.v2 s).ownBlock = some g ∨ w.heap.size ≤ g := fun g e => by
    by_cases h1 : g < w.heap.size
    · by_cases h2 : (m.v2 s).ownBlock = some g
      · exact .inl h2
      · exact absurd e (hk g h1 h2)
    · exact .inr (by omega)
  have k1 : ∀ g, (m.v1 s).ownBlock = some g → g < w.heap.size := fun g e => (h.o1.lt g e).2
  have n1 : (s.s ++ [x.pure]).length = s.s.length + 1 := by simp
  have hbd : ∀ y ∈ m.pl ++ [x], Rd w 1 y.A y.b.length y.c (U8 y.b) ∧ ∀ b off, y.A = some ⟨b, off, none⟩ → 0 < y.b.length → (F b ∨ M b) ∧ b ≠ p ∧ (m.v1 s).ownBlock ≠ some b ∧ (m.v2 s).ownBlock ≠ some b := fun y hy => by
    rcases List.mem_append.1 hy with hy | hy
    · exact ⟨h.bd y hy, h.fb y hy⟩
    · rw [List.mem_singleton] at hy
      subst hy
      exact ⟨rx, fx⟩
  refine ⟨⟨?_, ?_, ?_, ?_, ?_, h.fp, ?_, ?_, ?_⟩, ?_⟩
  · show _ = some (Obj.cells #[_, _, _, _, _, .slice A (s.s ++ [x.pure]).length c, _, _, _] _ _)
    rw [n1]
    exact heap_setCell_same w' p 5 _ _ (.slice A (s.s.length + 1) c) (hC1.blk h.t (fun e => (h.f2 p e).2.1 rfl))
  · exact own_chg (own_chg h.o1 hC1 (fun g e e2 => (h.f2 g e2).2.2 e)) hC2 (fun g e => (h.f1 g e).2)
  · show World.ownsRow _ 0 _ 2 (.slice A (s.s ++ [x.pure]).length c) (s.s ++ [x.pure]).length ((m.pl ++ [x]).flatMap Pc.cells)
    rw [n1, List.flatMap_append, show [x].flatMap Pc.cells = x.cells by simp]
    refine own_chg o hC2 (fun g e e2 => ?_)
    rcases k2 g e with e3 | e3
    · exact (h.f2 g e3).2.1 e2
    · omega
  · show (m.pl ++ [x]).map Pc.pure = s.s ++ [x.pure]
    rw [List.map_append, h.pe]
    rfl
  · exact fun y hy => ((hbd y hy).1.chg hC1 (fun b off e hn2 => ((hbd y hy).2 b off e hn2).2.2.2)).chg hC2 (fun b off e hn2 => ((hbd y hy).2 b off e hn2).2.1)
  · exact h.f1
  · intro g e
    have e : (Value.slice A (s.s ++ [x.pure]).length c).ownBlock = some g := e
    rw [n1] at e
    rcases k2 g e with e3 | e3
    · exact h.f2 g e3
    · exact ⟨hn g e3, by omega, fun e2 => by have := k1 g e2; omega⟩
  · intro y hy b off e hn2
    have g1 := (hbd y hy).2 b off e hn2
    have g2 := (hbd y hy).1.lt (by omega) hn2 b off e
    refine ⟨g1.1, g1.2.1, g1.2.2.1, fun e2 => ?_⟩
    have e2 : (Value.slice A (s.s ++ [x.pure]).length c).ownBlock = some b := e2
    rw [n1] at e2
    rcases k2 b e2 with e3 | e3
    · exact g1.2.2.2 e3
    · omega
  · exact (hC1.mono (fun k _ e => (h.f2 k e).1)).setCell (.inl h.fp) _
/-- One packet more. -/
theorem RfR.addL {w w' : World} {F M : Nat → Prop} {p : Nat} {s : PS} {m : RM} {A : Option Addr} {c : Nat} (x : Hp) (h : RfR w F M p s m) (hg : w.grownBy w' (m.v1 s).ownBlock)
    (o : w'.ownsRow 0 103 4 (.slice A (s.l.length + 1) c) (s.l.length + 1) (s.l.flatMap Hp.cells ++ x.cells)) (hk : ∀ k, k < w.heap.size → (m.v1 s).ownBlock ≠ some k → (Value.slice A (s.l.length + 1) c).ownBlock ≠ some k) (hn : ∀ k, w.heap.size ≤ k → F k) :
    RfR (w'.setCell ⟨p, 3, none⟩ (.slice A (s.l.length + 1) c)) F M p { s with l := s.l ++ [x] } { m with A1 := A, c1 := c } ∧ Chg F w (w'.setCell ⟨p, 3, none⟩ (.slice A (s.l.length + 1) c)) := by
  have hp := h.lt
  have hC1 : Chg (fun k => (m.v1 s).ownBlock = some k) w w' := (Chg.refl _ _).grown hg (fun k e => .inl e)
  have hC2 : Chg (fun j => j = p) w' (w'.setCell ⟨p, 3, none⟩ (.slice A (s.l.length + 1) c)) := (Chg.refl (fun j => j = p) w').setCell (p := ⟨p, 3, none⟩) (.inl rfl) _
  have k2 : ∀ g, (Value.slice A (s.l.length + 1) c).ownBlock = some g → (m.v1 s).ownBlock = some g ∨ w.heap.size ≤ g := fun g e => by
    by_cases h1 : g < w.heap.size
    · by_cases h2 : (m.v1 s).ownBlock = some g
      · exact .inl h2
      · exact absurd e (hk g h1 h2)
    · exact .inr (by omega)
  have k1 : ∀ g, (m.v2 s).ownBlock = some g → g < w.heap.size := fun g e => (h.o2.lt g e).2
  have n1 : (s.l ++ [x]).length = s.l.length + 1 := by simp
  refine ⟨⟨?_, ?_, ?_, h.pe, ?_, h.fp, ?_, ?_, ?_⟩, ?_⟩
  · show _ = some (Obj.cells #[_, _, _, .slice A (s.l ++ [x]).length c, _, _, _, _, _] _ _)
    rw [n1]
    exact heap_setCell_same w' p 3 _ _ (.slice A (s.l.length + 1) c) (hC1.blk h.t (fun e => (h.f1 p e).2 rfl))
  · show World.ownsRow _ 0 _ 4 (.slice A (s.l ++ [x]).length c) (s.l ++ [x]).length ((s.l ++ [x]).flatMap Hp.cells)
    rw [n1, List.flatMap_append, show [x].flatMap Hp.cells = x.cells by simp]
    refine own_chg o hC2 (fun g e e2 => ?_)
    rcases k2 g e with e3 | e3
    · exact (h.f1 g e3).2 e2
    · omega
  · exact own_chg (own_chg h.o2 hC1 (fun g e e2 => (h.f2 g e).2.2 e2)) hC2 (fun g e => (h.f2 g e).2.1)
  · exact fun y hy => ((h.bd y hy).chg hC1 (fun b off e hn2 => (h.fb y hy b off e hn2).2.2.1)).chg hC2 (fun b off e hn2 => (h.fb y hy b off e hn2).2.1)
  · intro g e
    have e : (Value.slice A (s.l ++ [x]).length c).ownBlock = some g := e
    rw [n1] at e
    rcases k2 g e with e3 | e3
    · exact h.f1 g e3
    · exact ⟨hn g e3, by omega⟩
  · intro g e
    have e' : (m.v2 s).ownBlock = some g := e
    refine ⟨(h.f2 g e').1, (h.f2 g e').2.1, fun e2 => ?_⟩
    have e2 : (Value.slice A (s.l ++ [x]).length c).ownBlock = some g := e2
    rw [n1] at e2
    rcases k2 g e2 with e3 | e3
    · exact (h.f2 g e').2.2 e3
    · have := k1 g e'
      omega
  · intro y hy b off e hn2
    have g1 := h.fb y hy b off e hn2
    have g2 := (h.bd y hy).lt (by omega) hn2 b off e
    refine ⟨g1.1, g1.2.1, fun e2 => ?_, g1.2.2.2⟩
    have e2 : (Value.slice A (s.l ++ [x]).length c).ownBlock = some b := e2
    rw [n1] at e2
    rcases k2 b e2 with e3 | e3
    · exact g1.2.2.1 e3
    · omega
  · exact (hC1.mono (fun k _ e => (h.f1 k e).1)).setCell (.inl h.fp) _

end Go.Proofs.Ytkedfipeebjcjaa
