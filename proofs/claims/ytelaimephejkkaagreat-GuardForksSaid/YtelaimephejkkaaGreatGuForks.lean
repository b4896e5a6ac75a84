/-
  The walk of GuardForks.
-/
import Derived.Test.YtelaimephejkkaaGreatGuFk
import Derived.Deep.RegionHeld3
import Derived.Deep.DeepCutAuto
namespace Go.Proofs.YtelaimephejkkaaGreat
set_option linter.unusedSimpArgs false
set_option linter.unusedVariables false
set_option linter.unnecessarySimpa false
open Go.RowKit

theorem take_all2 (g : GS) (s : LS) (f : List Int) (now : Int) : (g.take s f now).g.b.all.length ≤ g.b.all.length + 1 := by
  rcases GS.take_cases g s f now with ⟨-, e⟩ | ⟨-, e⟩ | ⟨-, d, -, ⟨y, -, -, e⟩ | ⟨x, y, z, -, -, -, e⟩ | ⟨x, -, -, e⟩⟩ <;> rw [e]
  · exact Nat.le_succ _
  · exact Nat.le_succ _
  · exact (BS.ask_len _ _).1
  · exact Nat.le_succ _
  · exact Nat.le_succ _
theorem LP.stays {q : Nat} {s : LS} : Stays (fun w F => LedP w F q s) := fun _ _ _ _ _ h hc hd hs => h.chg hc hd hs
theorem LR.stays {q : Nat} {s : LS} : Stays (fun w F => LedR w F q s) := fun _ _ _ _ _ h hc hd hs => h.chg hc hd hs
/-- Both pairs, behind the forks. -/
theorem gf_start {w3 w4 w5 : World} {B h1 h2 q t a b : Nat} {s : LS} {g : GS} {E2 : Nat → Prop} (hB : B ≤ w3.heap.size) (hE : ∀ k, E2 k → B ≤ k ∧ k < w3.heap.size)
    (L : ForkMid2 (fun w F => LedP w F q s) (fun w F => LedR w F t s) 28 w3 q t h1 w4) (G : GfMid w4 E2 a b h2 g w5) (len : s.all.length ≤ 80) : GfS w3 B h1 h2 q t a b s g w5 := by
  obtain ⟨GL, HL, hP, hs⟩ := L.two
  obtain ⟨F1, E1, F2, gp, gr, dj, hF⟩ := G.one
  have b45 := G.bel
  have s45 := b45.size
  have s34 := L.bel.size
  have l1 := lt_of_block L.b2
  refine ⟨⟨fun k => (GL k ∨ HL k) ∨ F1 k ∨ F2 k, fun k => E1 k ∨ E2 k, ⟨GL, HL, F1, F2, hP.p.below b45, hP.r.below b45,
    gp.sub (fun _ _ h => h) (fun _ _ h => .inl h) (fun k h1 h2 => h1.elim (fun h => gp.dj k h h2) (fun h => by have := hE k h; have := hF k (.inl h2); omega)),
    gr.sub (fun _ _ h => h) (fun _ _ h => .inr h) (fun k h1 h2 => h1.elim (fun h => dj k (.inr h) h2) (fun h => gr.dj k h h2)),
    fun k hk => ⟨hP.dj k hk, fun h => by have := (hs k (.inl hk)).2; have := hF k (.inl h); omega, fun h => by have := (hs k (.inl hk)).2; have := hF k (.inr (.inr h)); omega⟩,
    fun k hk => ⟨fun h => by have := (hs k (.inr hk)).2; have := hF k (.inl h); omega, fun h => by have := (hs k (.inr hk)).2; have := hF k (.inr (.inr h)); omega⟩,
    fun k hk => dj k (.inl hk), fun k hk => ?_, fun k hk => ⟨fun h => ?_, ?_⟩⟩, fun k hk => ?_, fun k hk => ?_⟩, (b45.block _ l1).trans L.b2, G.b2, L.bel.trans (b45.mono s34), L.ge, Nat.le_trans s34 G.ge, len⟩
  · rcases hk with hk | hk | hk | hk
    · exact ⟨.inl (.inl hk), by have := (hs k (.inl hk)).2; omega⟩
    · exact ⟨.inl (.inr hk), by have := (hs k (.inr hk)).2; omega⟩
    · exact ⟨.inr (.inl hk), (hF k (.inl hk)).2⟩
    · exact ⟨.inr (.inr hk), (hF k (.inr (.inr hk))).2⟩
  · rcases hk with hk | hk
    · have e1 := hF k (.inr (.inl hk))
      rcases h with h | h | h
      · have := (hs k h).2; omega
      · exact gp.dj k hk h
      · exact dj k (.inr hk) h
    · have e1 := hE k hk
      rcases h with h | h | h
      · have := (hs k h).1.1; omega
      · have := hF k (.inl h); omega
      · have := hF k (.inr (.inr h)); omega
  · rcases hk with hk | hk
    · exact (hF k (.inr (.inl hk))).2
    · have := hE k hk; omega
  · have ge := G.ge
    rcases hk with hk | hk | hk
    · have := hs k hk; exact ⟨this.1.1, this.1.2, by omega⟩
    · have := hF k (.inl hk); exact ⟨by omega, by omega, this.1.2⟩
    · have := hF k (.inr (.inr hk)); exact ⟨by omega, by omega, this.1.2⟩
  · have ge := G.ge
    have lge := L.ge
    rcases hk with hk | hk
    · have := hF k (.inr (.inl hk)); exact ⟨by omega, by omega, this.1.2⟩
    · have := hE k hk; exact ⟨this.1, by omega, by omega⟩

set_option maxHeartbeats 32000000 in
set_option maxRecDepth 100000 in
theorem guardForks_any (ring : Int) (A1 : Option Addr) (n1 c1 : Nat) (l1 : List Dd) (A2 : Option Addr) (n2 c2 : Nat) (l2 : List Sh) (A3 : Option Addr) (n3 c3 : Nat) (l3 : List Sh) (w : World) (hr : Rd w 3 A1 n1 c1 (Ds l1)) (hok : ∀ d ∈ l1, d.ok) (hsh : Shots w A2 n2 c2 l2) (hsh3 : Shots w A3 n3 c3 l3) (hring : 0 ≤ ring ∧ ring ≤ 255) :
    Calls Tryz.prog 8 #[.int .u8 ring, .slice A1 n1 c1, .slice A2 n2 c2, .slice A3 n3 c3] w fun e w' => e = .returned (.bool true) ∧ Below w.heap.size w w' := by
  obtain ⟨r0, r1⟩ := hring
  have hct := hsh.count
  subst hct
  have hct := hsh3.count
  subst hct
  have SH := Lib.hid hsh
  have SH3 := Lib.hid hsh3
  have K1 := Lib.hid (make_any (ring % 40) 4611686018427387903 A1 n1 c1 l1 w hr hok ⟨by omega, by omega⟩)
  have hcap := hsh.rd.cap
  have hmax := hsh.rd.max
  have hcap3 := hsh3.rd.cap
  have hmax3 := hsh3.rd.max
  unfold maxLen at hmax hmax3
  have HEV : Hid (isU64 100) := Lib.hid ⟨by decide, by decide⟩
  clear hr hok hsh hsh3
  go_enter Tryz.func8, Tryz.ntmps8
  go_wp2_with fail
  refine K1.out.mono ?_
  rintro e w1 ⟨p, r, s, rfl, hT, hb1, hg1, hg2, hg3, hg4, hg5⟩
  have e2 := box_below w1 (.cells (P2 p r) 28)
  have T2 := Lib.hid (heap_alloc_new w1 (.cells (P2 p r) 28))
  have TW : Hid (Two w1 (fun j => w.heap.size ≤ j ∧ j < w1.heap.size) p r s) := Lib.hid (hT.sub fun k hk h => ⟨h, hk⟩)
  have TW2 := Lib.hid (TW.out.below e2)
  have B2 := Lib.hid (hb1.trans (e2.mono hb1.size))
  have hs1 := hb1.size
  have G3 := Lib.hid hg3
  clear K1 hT hb1 e2 hg1 hg2 hg3 hg4 hg5 TW
  go_upto_region 2 with fail
  have hP2 : w1.alloc (.cells #[.pointer (some ⟨p, 0, none⟩), .pointer (some ⟨r, 0, none⟩)] 28) = w1.alloc (.cells (P2 p r) 28) := rfl
  rw [hP2]
  clear hP2
  have s2 : (w1.alloc (.cells (P2 p r) 28)).heap.size = w1.heap.size + 1 := by simp
  generalize (w1.alloc (.cells (P2 p r) 28)) = w2 at *
  generalize w1.heap.size = h1 at *
  have K3 := Lib.hid (gua_new 2 100 w2 HEV.out)
  go_wp2_with fail
  refine K3.out.mono ?_
  rintro e w3 ⟨a, rfl, hGP, hb3⟩
  have K4 := Lib.hid (gur_new 2 100 w3 HEV.out)
  have GP3 := Lib.hid hGP
  have HB3 := Lib.hid hb3
  have hs3 := hb3.size
  clear K3 hGP hb3
  go_wp2_with fail
  refine K4.out.mono ?_
  rintro e w4 ⟨b, rfl, hGR, hb4⟩
  have hs4 := hb4.size
  have e5 := box_below w4 (.cells (P2 a b) 36)
  have n5 := heap_alloc_new w4 (.cells (P2 a b) 36)
  have b35 := hb4.trans (e5.mono hs4)
  obtain ⟨G, H, hPr, hPs⟩ := (TW2.out.below HB3.out).below b35
  have S5 : Hid (GtS w h1 w4.heap.size p r a b s (GS.new 2 100) (w4.alloc (.cells (P2 a b) 36))) := Lib.hid (by
    have gp4 : GuaP w4 (fun k => w2.heap.size ≤ k ∧ k < w3.heap.size) (fun _ => False) a (GS.new 2 100) := (GP3.out.sub (F' := fun k => w2.heap.size ≤ k ∧ k < w3.heap.size) (E' := fun _ => False) (fun k hk h => ⟨h, hk⟩) (fun _ _ h => h) (fun k h => h.elim)).below hb4
    have gr4 : GuRP w4 (fun k => w3.heap.size ≤ k ∧ k < w4.heap.size) (fun _ => False) b (GS.new 2 100) := hGR.sub (F' := fun k => w3.heap.size ≤ k ∧ k < w4.heap.size) (E' := fun _ => False) (fun k hk h => ⟨h, hk⟩) (fun _ _ h => h) (fun k h => h.elim)
    refine ⟨⟨fun k => (w.heap.size ≤ k ∧ k < h1) ∨ (w2.heap.size ≤ k ∧ k < w4.heap.size), fun _ => False, ⟨G, H, _, _, hPr.p, hPr.r, gp4.below e5, gr4.below e5, fun k hk => ⟨hPr.dj k hk, fun h => by have := (hPs k (.inl hk)).1; omega, fun h => by have := (hPs k (.inl hk)).1; omega⟩, fun k hk => ⟨fun h => by have := (hPs k (.inr hk)).1; omega, fun h => by have := (hPs k (.inr hk)).1; omega⟩, fun k h1' h2' => by omega, fun k hk => ?_, fun k h => h.elim⟩, fun k hk => ?_⟩, ?_, n5, ?_, hs1, by omega, G3.out⟩
    · have hz : (w4.alloc (.cells (P2 a b) 36)).heap.size = w4.heap.size + 1 := by simp
      rcases hk with hk | hk | hk | hk
      · have := hPs k (.inl hk); exact ⟨.inl this.1, this.2⟩
      · have := hPs k (.inr hk); exact ⟨.inl this.1, this.2⟩
      · exact ⟨.inr (by omega), by omega⟩
      · exact ⟨.inr (by omega), by omega⟩
    · rcases hk with hk | hk
      · exact ⟨by omega, by omega, by omega⟩
      · exact hk.elim
    · exact (b35.block _ (by omega)).trans ((HB3.out.block _ (by omega)).trans T2.out)
    · exact (B2.out.trans (HB3.out.mono (by omega))).trans (b35.mono (by omega)))
  clear K4 hGR hb4 e5 n5 b35 hPr hPs GP3 HB3 TW2 T2 B2 G3
  go_upto_region 3 with fail
  have hP2 : w4.alloc (.cells #[.pointer (some ⟨a, 0, none⟩), .pointer (some ⟨b, 0, none⟩)] 36) = w4.alloc (.cells (P2 a b) 36) := rfl
  rw [hP2]
  clear hP2
  generalize (w4.alloc (.cells (P2 a b) 36)) = w5 at *
  generalize w4.heap.size = h2 at *
  have x0 : w5.cell? ⟨h2, 0, none⟩ = some (.pointer (some ⟨a, 0, none⟩)) := cell_of_row w5 h2 0 _ _ _ S5.out.t2
  go_wp2_with fail
  refine (guardAlive w5).mono ?_
  rintro e w6 ⟨rfl, b6⟩
  have S6 := Lib.hid ((S5.out.below b6).toGf)
  clear x0 b6 S5
  have x0 : w6.cell? ⟨h2, 0, none⟩ = some (.pointer (some ⟨a, 0, none⟩)) := cell_of_row w6 h2 0 _ _ _ S6.out.t2
  by_cases h20 : 20 < l2.length
  · have hd : decide ((20 : Int) < (l2.length : Int)) = true := decide_eq_true (by omega)
    go_wp2_with fail
    refine (guardAlive w6).mono ?_
    rintro e w7 ⟨rfl, b7⟩
    have x0 := ((b7.cell (p := ⟨h2, 0, none⟩) (block_lt_of_cell x0))).trans x0
    go_wp2
    go_ret
    exact ⟨rfl, S6.out.bel.trans (b7.mono S6.out.bel.size)⟩
  have hd : decide ((20 : Int) < (l2.length : Int)) = false := decide_eq_false (by omega)
  by_cases h21 : 20 < l3.length
  · have hd3 : decide ((20 : Int) < (l3.length : Int)) = true := decide_eq_true (by omega)
    go_wp2_with fail
    refine (guardAlive w6).mono ?_
    rintro e w7 ⟨rfl, b7⟩
    have x0 := ((b7.cell (p := ⟨h2, 0, none⟩) (block_lt_of_cell x0))).trans x0
    go_wp2
    go_ret
    exact ⟨rfl, S6.out.bel.trans (b7.mono S6.out.bel.size)⟩
  have hd3 : decide ((20 : Int) < (l3.length : Int)) = false := decide_eq_false (by omega)
  go_wp2_with fail
  clear x0 hd hd3
  go_loopw [12] (fun iv wr => ∃ (j : Nat) (s' : LS) (g' : GS), j ≤ l2.length ∧ iv = .int .i64 j ∧ g'.b.all.length ≤ j ∧ Hid (GfS w w.heap.size h1 h2 p r a b s' g' wr)) (fun i _ => l2.length - (intOf i).toNat)
  case atStart => exact ⟨0, s, _, Nat.zero_le _, rfl, by simp [GS.new, BS.new], S6⟩
  case round =>
    obtain ⟨j, s', g', hj, rfl, hgb, S⟩ := hrel
    clear S6
    by_cases hlt : j < l2.length
    · obtain ⟨bb, off, eA, hAt, hbl⟩ := SH.out.at_ hlt
      have hok := Lib.hid (SH.out.ok l2[j] (List.getElem_mem hlt))
      have hKl := S.out.bel
      subst eA
      have KAt := Lib.hid (hAt.chg (Z := fun k => w.heap.size ≤ k) ⟨hKl.os, hKl.tape, hKl.output, hKl.size, fun k _ hn => hKl.block k (by omega)⟩ (by omega))
      generalize l2[j] = sh at *
      generalize hoff : off + j * 9 = o9 at *
      clear hAt hKl
      go_upto_region 8 with fail
      refine gfReg1 S (Nat.le_refl _) hok KAt hbl hlt (by omega) (by omega) hoff (by omega) (by omega) ?_
      intro hV f x0 x1 x2 x3 x4 x5 x6 x7 x8 x9 x10 x11 x12 x13 wc hS
      go_wp2
      go_roundw
      case rel => exact ⟨j + 1, _, _, by omega, by go_num, Nat.le_trans (take_all2 _ _ _ _) (by omega), hS⟩
      case measure => simp [intOf]; omega
    · rename World => wm
      go_upto_region 11 with fail
      have t0 : wm.cell? ⟨h1, 0, none⟩ = some (.pointer (some ⟨p, 0, none⟩)) := cell_of_row wm h1 0 _ _ _ S.out.t1
      have t1 : wm.cell? ⟨h1, 1, none⟩ = some (.pointer (some ⟨r, 0, none⟩)) := cell_of_row wm h1 1 _ _ _ S.out.t1
      have gl : h1 < wm.heap.size := lt_of_block S.out.t1
      have ng3 : wm.heap.size ≠ h1 := by omega
      have ng3' : h1 ≠ wm.heap.size := by omega
      obtain ⟨X, E, ⟨G, H, F1, F2, hC⟩, hX, hE⟩ := S.out.both
      have HC := Lib.hid hC
      have HX := Lib.hid hX
      have HE := Lib.hid hE
      have hln := S.out.len
      clear hC hX hE
      have KP := Lib.hid (fun (W : World) (b : Below wm.heap.size wm W) => led_fork W G p s' (HC.out.lp.below b))
      have KR := Lib.hid (fun (W : World) (b : Below wm.heap.size wm W) => ledR_fork W H r s' (HC.out.lr.below b) (by omega))
      go_cut [15] (fun s15 wx => ∃ q t h : Nat, s15 = .pointer (some ⟨h, 0, none⟩) ∧ Hid (ForkMid2 (fun w F => LedP w F q s') (fun w F => LedR w F t s') 28 wm q t h wx))
      case first =>
        go_region_held3 (fun W => W.cell? ⟨h1, 0, none⟩ = some (.pointer (some ⟨p, 0, none⟩)) ∧ W.cell? ⟨h1, 1, none⟩ = some (.pointer (some ⟨r, 0, none⟩)))
          (all_goals (first | (go_keep; done) | (simp [*, World.cell?_alloc_lt]; done) | (simp [*, World.cell?_alloc_lt, World.cell?_setCell_other]; done)))
          (first
            | ((go_at_call 29; refine Calls.mono (KP.out _ ?_) ?_; (focus (repeat (first | exact Below.refl _ _ | exact bA1 | (refine Below.alloc ?_ (by first | exact Nat.le_refl _ | omega | (simp; omega)) _) | (refine Below.drew ?_)))); rintro e vA ⟨q, rfl, hL1, bA⟩; have bA1 : Below wm.heap.size wm vA := Below.trans (by repeat (first | exact Below.refl _ _ | exact bA1 | (refine Below.alloc ?_ (by first | exact Nat.le_refl _ | omega | (simp; omega)) _) | (refine Below.drew ?_))) (bA.mono (by first | exact Nat.le_refl _ | (simp; done) | (simp; omega))); have zA := bA.size; (try simp at zA); (try have lA : wm.heap.size < vA.heap.size := (by omega)); have sA : wm.heap.size ≤ vA.heap.size := bA1.size; have gA : h1 < vA.heap.size := Nat.lt_of_lt_of_le gl sA; obtain ⟨hcA, hfA⟩ := bcell2 bA; have cA : ∀ o, vA.cell? ⟨h1, o, none⟩ = wm.cell? ⟨h1, o, none⟩ := (fun o => bA1.cell (by exact gl)); have ngA : h1 ≠ vA.heap.size := Nat.ne_of_lt gA; have ngA' : vA.heap.size ≠ h1 := Nat.ne_of_gt gA))
            | (go_at_call 30; refine Calls.mono (KR.out _ ?_) ?_; (focus (repeat (first | exact Below.refl _ _ | exact bA1 | (refine Below.alloc ?_ (by first | exact Nat.le_refl _ | omega | (simp; omega)) _) | (refine Below.drew ?_)))); rintro e vB ⟨t, rfl, hL2, bB⟩; have bB1 : Below wm.heap.size wm vB := Below.trans (by repeat (first | exact Below.refl _ _ | exact bA1 | (refine Below.alloc ?_ (by first | exact Nat.le_refl _ | omega | (simp; omega)) _) | (refine Below.drew ?_))) (bB.mono (by first | exact sA | (simp; omega))); have zB := bB.size; (try simp at zB); (try have lB : wm.heap.size < vB.heap.size := (by omega)); (try have lB' : vA.heap.size < vB.heap.size := (by omega)); have sB : wm.heap.size ≤ vB.heap.size := bB1.size; have gB : h1 < vB.heap.size := Nat.lt_of_lt_of_le gl sB; obtain ⟨hcB, hfB⟩ := bcell2 bB; have cB : ∀ o, vB.cell? ⟨h1, o, none⟩ = wm.cell? ⟨h1, o, none⟩ := (fun o => bB1.cell (by exact gl)); have ngB : h1 ≠ vB.heap.size := Nat.ne_of_lt gB; have ngB' : vB.heap.size ≠ h1 := Nat.ne_of_gt gB))
        · go_wp2_with fail
          go_meet
          exact ⟨q, t, _, rfl, Lib.hid (ForkMid2.last (P := fun w F => LedP w F q s') (R := fun w F => LedR w F t s') LP.stays LR.stays ((hL1.sub (G := fun k => wm.heap.size ≤ k ∧ k < vA.heap.size) (fun k hk h => ⟨h, hk⟩)).below bB) hL2 (fun k _ h1 h2 => by omega) (fun k _ h => h.1) (fun k _ h => by omega) bB1)⟩
        · go_wp2_with fail
          go_meet
          have hx := (bB.block _ (by simp)).trans (heap_alloc_new vA (.cells #[.pointer none, .pointer none] 28))
          refine ⟨q, t, _, rfl, Lib.hid (ForkMid2.mk_ (P := fun w F => LedP w F q s') (R := fun w F => LedR w F t s') LP.stays LR.stays (((hL1.sub (G := fun k => wm.heap.size ≤ k ∧ k < vA.heap.size) (fun k hk h => ⟨h, hk⟩)).below (box_below _ _)).below bB) hL2 ?_ ?_ ?_ hx bB1 sA)⟩
          · intro k _ h1 h2; simp at h2; omega
          · intro k _ h; omega
          · intro k _ h; simp at h; omega
        · go_wp2_with fail
          go_meet
          have hx0 := (bA.block _ (by simp)).trans (heap_alloc_new wm.drew (.cells #[.pointer none, .pointer none] 28))
          have hx := (bB.block _ (lt_of_block hx0)).trans hx0
          refine ⟨q, t, _, rfl, Lib.hid (ForkMid2.mk_ (P := fun w F => LedP w F q s') (R := fun w F => LedR w F t s') LP.stays LR.stays ((hL1.sub (G := fun k => wm.heap.size + 1 ≤ k ∧ k < vA.heap.size) (fun k hk h => ⟨by simpa using h, hk⟩)).below bB) hL2 ?_ ?_ ?_ hx bB1 (Nat.le_refl _))⟩
          · intro k _ h1 h2; omega
          · intro k _ h; omega
          · intro k _ h; omega
      case rest =>
        obtain ⟨q, t, h3, rfl, FM⟩ := hcut
        rename World => wy
        clear t0 t1 gl ng3 ng3' KP KR
        have b4 := FM.out.bel
        have zc := b4.size
        have hl2 := lt_of_block S.out.t2
        have T2c := Lib.hid ((b4.block _ hl2).trans S.out.t2)
        have t0 : wy.cell? ⟨h2, 0, none⟩ = some (.pointer (some ⟨a, 0, none⟩)) := cell_of_row wy h2 0 _ _ _ T2c.out
        have t1 : wy.cell? ⟨h2, 1, none⟩ = some (.pointer (some ⟨b, 0, none⟩)) := cell_of_row wy h2 1 _ _ _ T2c.out
        have gl : h2 < wy.heap.size := by omega
        have ng3 : wy.heap.size ≠ h2 := by omega
        have ng3' : h2 ≠ wy.heap.size := by omega
        have lE : Hid (∀ k, E k → k < wy.heap.size) := Lib.hid (fun k hk => Nat.lt_of_lt_of_le (HC.out.ev k hk).2 zc)
        have KP := Lib.hid (fun (W : World) (b : Below wy.heap.size wy W) => gua_fork W F1 E a g' ((HC.out.gp.below b4).below b) (fun k hk => Nat.lt_of_lt_of_le (hk.elim (fun h => Nat.lt_of_lt_of_le (HC.out.sub k (.inr (.inr (.inl h)))).2 zc) (lE.out k)) b.size))
        have KR := Lib.hid (fun (W : World) (c : Below wy.heap.size wy W) => gur_fork W F2 E b g' ((HC.out.gr.below b4).below c) (fun k hk => Nat.lt_of_lt_of_le (hk.elim (fun h => Nat.lt_of_lt_of_le (HC.out.sub k (.inr (.inr (.inr h)))).2 zc) (lE.out k)) c.size) (by omega))
        clear b4
        go_upto_region 12 with fail
        go_cut [16] (fun s16 wx => ∃ a' b' h : Nat, s16 = .pointer (some ⟨h, 0, none⟩) ∧ Hid (GfMid wy E a' b' h g' wx))
        case first =>
          go_region_held3 (fun W => W.cell? ⟨h2, 0, none⟩ = some (.pointer (some ⟨a, 0, none⟩)) ∧ W.cell? ⟨h2, 1, none⟩ = some (.pointer (some ⟨b, 0, none⟩)))
            (all_goals (first | (go_keep; done) | (simp [*, World.cell?_alloc_lt]; done) | (simp [*, World.cell?_alloc_lt, World.cell?_setCell_other]; done)))
            (first
              | ((go_at_call 31; refine Calls.mono (KP.out _ ?_) ?_; (focus (repeat (first | exact Below.refl _ _ | exact bA1 | (refine Below.alloc ?_ (by first | exact Nat.le_refl _ | omega | (simp; omega)) _) | (refine Below.drew ?_)))); rintro e vA ⟨q', FA, EA, rfl, hL1, hFA, bA⟩; have HL1 := Lib.hid hL1; have HFA := Lib.hid hFA; clear hL1 hFA; have bA1 : Below wy.heap.size wy vA := Below.trans (by repeat (first | exact Below.refl _ _ | exact bA1 | (refine Below.alloc ?_ (by first | exact Nat.le_refl _ | omega | (simp; omega)) _) | (refine Below.drew ?_))) (bA.mono (by first | exact Nat.le_refl _ | (simp; done) | (simp; omega))); have zA := bA.size; (try simp at zA); (try have lA : wy.heap.size < vA.heap.size := (by omega)); have sA : wy.heap.size ≤ vA.heap.size := bA1.size; have gA : h2 < vA.heap.size := Nat.lt_of_lt_of_le gl sA; obtain ⟨hcA, hfA⟩ := bcell2 bA; have cA : ∀ o, vA.cell? ⟨h2, o, none⟩ = wy.cell? ⟨h2, o, none⟩ := (fun o => bA1.cell (by exact gl)); have ngA : h2 ≠ vA.heap.size := Nat.ne_of_lt gA; have ngA' : vA.heap.size ≠ h2 := Nat.ne_of_gt gA))
              | (go_at_call 32; refine Calls.mono (KR.out _ ?_) ?_; (focus (repeat (first | exact Below.refl _ _ | exact bA1 | (refine Below.alloc ?_ (by first | exact Nat.le_refl _ | omega | (simp; omega)) _) | (refine Below.drew ?_)))); rintro e vB ⟨t', rfl, hL2, bB⟩; have bB1 : Below wy.heap.size wy vB := Below.trans (by repeat (first | exact Below.refl _ _ | exact bA1 | (refine Below.alloc ?_ (by first | exact Nat.le_refl _ | omega | (simp; omega)) _) | (refine Below.drew ?_))) (bB.mono (by first | exact sA | (simp; omega))); have zB := bB.size; (try simp at zB); (try have lB : wy.heap.size < vB.heap.size := (by omega)); (try have lB' : vA.heap.size < vB.heap.size := (by omega)); have sB : wy.heap.size ≤ vB.heap.size := bB1.size; have gB : h2 < vB.heap.size := Nat.lt_of_lt_of_le gl sB; obtain ⟨hcB, hfB⟩ := bcell2 bB; have cB : ∀ o, vB.cell? ⟨h2, o, none⟩ = wy.cell? ⟨h2, o, none⟩ := (fun o => bB1.cell (by exact gl)); have ngB : h2 ≠ vB.heap.size := Nat.ne_of_lt gB; have ngB' : vB.heap.size ≠ h2 := Nat.ne_of_gt gB))
          · go_wp2_with fail
            go_meet
            have gp := (HL1.out.sub (F' := fun k => FA k ∧ k < vA.heap.size) (E' := fun k => EA k ∧ k < vA.heap.size) (fun k hk h => ⟨h, hk⟩) (fun k hk h => ⟨h, hk⟩) (fun k h1 h2 => HL1.out.dj k h1.1 h2.1)).below bB
            refine ⟨q', t', _, rfl, Lib.hid (GfMid.last gp hL2 (fun k _ h1 h2 => ?_) (fun k _ h => ?_) bB1)⟩
            · have h2 : vA.heap.size ≤ k := h2
              rcases h1 with h1 | h1 <;> omega
            · rcases h with h | h | h
              · exact HFA.out k (.inl h.1)
              · exact HFA.out k (.inr h.1)
              · have h : vA.heap.size ≤ k := h
                omega
          · go_wp2_with fail
            go_meet
            have gp := ((HL1.out.sub (F' := fun k => FA k ∧ k < vA.heap.size) (E' := fun k => EA k ∧ k < vA.heap.size) (fun k hk h => ⟨h, hk⟩) (fun k hk h => ⟨h, hk⟩) (fun k h1 h2 => HL1.out.dj k h1.1 h2.1)).below (box_below _ _)).below bB
            have hx := (bB.block _ (by simp)).trans (heap_alloc_new vA (.cells #[.pointer none, .pointer none] 36))
            refine ⟨q', t', _, rfl, Lib.hid (GfMid.mk_ gp hL2 (fun k _ h1 h2 => ?_) (fun k _ h => ?_) lE.out hx bB1 sA)⟩
            · simp at h2
              rcases h1 with h1 | h1 <;> omega
            · rcases h with h | h | h
              · have := HFA.out k (.inl h.1); exact ⟨this, by omega⟩
              · have := HFA.out k (.inr h.1); exact ⟨this, by omega⟩
              · simp at h
                exact ⟨by omega, by omega⟩
          · go_wp2_with fail
            go_meet
            have gp := (HL1.out.sub (F' := fun k => FA k ∧ k < vA.heap.size) (E' := fun k => EA k ∧ k < vA.heap.size) (fun k hk h => ⟨h, hk⟩) (fun k hk h => ⟨h, hk⟩) (fun k h1 h2 => HL1.out.dj k h1.1 h2.1)).below bB
            have hx0 := (bA.block _ (by simp)).trans (heap_alloc_new wy.drew (.cells #[.pointer none, .pointer none] 36))
            have hx := (bB.block _ (lt_of_block hx0)).trans hx0
            have hfa : ∀ k, FA k ∨ EA k → wy.heap.size + 1 ≤ k := fun k hk => by simpa using HFA.out k hk
            refine ⟨q', t', _, rfl, Lib.hid (GfMid.mk_ gp hL2 (fun k _ h1 h2 => ?_) (fun k _ h => ?_) lE.out hx bB1 (Nat.le_refl _))⟩
            · have h2 : vA.heap.size ≤ k := h2
              rcases h1 with h1 | h1 <;> omega
            · rcases h with h | h | h
              · have := hfa k (.inl h.1); exact ⟨by omega, by show k ≠ wy.heap.size; omega⟩
              · have := hfa k (.inr h.1); exact ⟨by omega, by show k ≠ wy.heap.size; omega⟩
              · have h : vA.heap.size ≤ k := h
                exact ⟨by omega, by show k ≠ wy.heap.size; omega⟩
        case rest =>
          obtain ⟨a', b', h4, rfl, GM⟩ := hcut
          rename World => wd
          have hEw : ∀ k, E k → w.heap.size ≤ k ∧ k < wm.heap.size := fun k hk => ⟨(HE.out k hk).1, (HC.out.ev k hk).2⟩
          have hsw := S.out.bel.size
          have U0 : Hid (GfS wm w.heap.size h3 h4 q t a' b' s' g' wd) := Lib.hid (gf_start hsw hEw FM.out GM.out hln)
          clear t0 t1 gl ng3 ng3' KP KR lE FM GM T2c HC HX HE hEw
          have x0 : wd.cell? ⟨h4, 0, none⟩ = some (.pointer (some ⟨a', 0, none⟩)) := cell_of_row wd h4 0 _ _ _ U0.out.t2
          have x1 : wd.cell? ⟨h4, 1, none⟩ = some (.pointer (some ⟨b', 0, none⟩)) := cell_of_row wd h4 1 _ _ _ U0.out.t2
          obtain ⟨X1, E1, hB1, -⟩ := U0.out.both
          have KS := Lib.hid (both_same wd X1 E1 q t a' b' s' g' hB1)
          clear hB1
          go_wp2_with fail
          refine KS.out.mono ?_
          rintro e we ⟨rfl, be⟩
          have U1 := Lib.hid (U0.out.below be)
          clear KS x0 x1 U0 be
          go_wp2_with fail
          go_loopw [17] (fun iv wx => ∃ (j : Nat) (s2 : LS) (g2 : GS), j ≤ l3.length ∧ iv = .int .i64 j ∧ g2.b.all.length ≤ 20 + j ∧ Hid (GfS wm w.heap.size h3 h4 q t a' b' s2 g2 wx)) (fun i _ => l3.length - (intOf i).toNat)
          case atStart => exact ⟨0, s', g', Nat.zero_le _, rfl, by omega, U1⟩
          case round =>
            obtain ⟨j2, s2, g2, hj2, rfl, hgb2, U⟩ := hrel
            clear U1
            by_cases hlt3 : j2 < l3.length
            · obtain ⟨bb, off, eA, hAt, hbl⟩ := SH3.out.at_ hlt3
              have hok := Lib.hid ((SH3.out.ok l3[j2] (List.getElem_mem hlt3)).below S.out.bel)
              have hKl := S.out.bel.trans (U.out.bel.mono hsw)
              subst eA
              have KAt := Lib.hid (hAt.chg (Z := fun k => w.heap.size ≤ k) ⟨hKl.os, hKl.tape, hKl.output, hKl.size, fun k _ hn => hKl.block k (by omega)⟩ (by omega))
              generalize l3[j2] = sh at *
              generalize hoff : off + j2 * 9 = o9 at *
              clear hAt hKl
              go_upto_region 18 with fail
              refine gfReg2 U hsw hok KAt (by omega) hlt3 (by omega) (by omega) hoff (by omega) (by omega) ?_
              intro hV f x0 x1 x2 x3 x4 x5 x6 x7 x8 x9 x10 x11 x12 x13 x14 wv hS
              go_wp2
              go_roundw
              case rel => exact ⟨j2 + 1, _, _, by omega, by go_num, Nat.le_trans (take_all2 _ _ _ _) (by omega), hS⟩
              case measure => simp [intOf]; omega
            · have S9 := Lib.hid (S.out.below U.out.bel)
              have y0 : wr.cell? ⟨h2, 0, none⟩ = some (.pointer (some ⟨a, 0, none⟩)) := cell_of_row wr h2 0 _ _ _ S9.out.t2
              have y1 : wr.cell? ⟨h2, 1, none⟩ = some (.pointer (some ⟨b, 0, none⟩)) := cell_of_row wr h2 1 _ _ _ S9.out.t2
              obtain ⟨X9, E9, hB9, -⟩ := S9.out.both
              have K9 := Lib.hid (both_same wr X9 E9 p r a b s' g' hB9)
              clear hB9
              go_wp2_with fail
              refine K9.out.mono ?_
              rintro e wq ⟨rfl, bq⟩
              clear y0 y1 K9
              have S10 := Lib.hid (S9.out.below bq)
              have U10 := Lib.hid (U.out.below bq)
              clear S9 bq
              have y0 : wq.cell? ⟨h1, 0, none⟩ = some (.pointer (some ⟨p, 0, none⟩)) := cell_of_row wq h1 0 _ _ _ S10.out.t1
              have y1 : wq.cell? ⟨h1, 1, none⟩ = some (.pointer (some ⟨r, 0, none⟩)) := cell_of_row wq h1 1 _ _ _ S10.out.t1
              obtain ⟨X9, E9, hB9, -⟩ := S10.out.both
              have K9 := Lib.hid (two_same wq X9 p r s' hB9.two)
              clear hB9
              go_wp2_with fail
              refine K9.out.mono ?_
              rintro e wp ⟨rfl, bq⟩
              clear y0 y1 K9
              have S11 := Lib.hid (S10.out.below bq)
              have U11 := Lib.hid (U10.out.below bq)
              clear S10 U10 bq
              have y0 : wp.cell? ⟨h4, 0, none⟩ = some (.pointer (some ⟨a', 0, none⟩)) := cell_of_row wp h4 0 _ _ _ U11.out.t2
              have y1 : wp.cell? ⟨h4, 1, none⟩ = some (.pointer (some ⟨b', 0, none⟩)) := cell_of_row wp h4 1 _ _ _ U11.out.t2
              obtain ⟨X9, E9, hB9, -⟩ := U11.out.both
              have K9 := Lib.hid (both_same wp X9 E9 q t a' b' s2 g2 hB9)
              clear hB9
              go_wp2_with fail
              refine K9.out.mono ?_
              rintro e wo ⟨rfl, bq⟩
              go_wp2
              go_ret
              exact ⟨rfl, S11.out.bel.trans (bq.mono S11.out.bel.size)⟩

end Go.Proofs.YtelaimephejkkaaGreat
