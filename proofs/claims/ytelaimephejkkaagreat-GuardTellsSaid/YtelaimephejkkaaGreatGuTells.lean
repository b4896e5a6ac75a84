/-
  The walk of GuardTells.
-/
import Derived.Test.YtelaimephejkkaaGreatGuL
namespace Go.Proofs.YtelaimephejkkaaGreat
set_option linter.unusedSimpArgs false
set_option linter.unusedVariables false
set_option linter.unnecessarySimpa false
open Go.RowKit

theorem take_all (g : GS) (s : LS) (f : List Int) (now : Int) : (g.take s f now).g.b.all.length ≤ g.b.all.length + 1 := by
  rcases GS.take_cases g s f now with ⟨-, e⟩ | ⟨-, e⟩ | ⟨-, d, -, ⟨y, -, -, e⟩ | ⟨x, y, z, -, -, -, e⟩ | ⟨x, -, -, e⟩⟩ <;> rw [e]
  · exact Nat.le_succ _
  · exact Nat.le_succ _
  · exact (BS.ask_len _ _).1
  · exact Nat.le_succ _
  · exact Nat.le_succ _
/-- The loop's state. -/
structure GtL (w : World) (h1 h2 p r a b : Nat) (j : Nat) (now : Int) (s : LS) (g : GS) (W : World) : Prop where
  st : GtS w h1 h2 p r a b s g W
  all : g.b.all.length ≤ j
  now0 : 0 ≤ now
  now1 : now ≤ 65535 * j

set_option maxHeartbeats 16000000 in
set_option maxRecDepth 100000 in
theorem guardTells_any (ring : Int) (A1 : Option Addr) (n1 c1 : Nat) (l1 : List Dd) (most every : Int) (A4 : Option Addr) (n4 c4 : Nat) (l4 : List Sh) (w : World) (hr : Rd w 3 A1 n1 c1 (Ds l1)) (hok : ∀ d ∈ l1, d.ok) (hsh : Shots w A4 n4 c4 l4) (hring : 0 ≤ ring ∧ ring ≤ 255) (hev : isU64 every) :
    Calls Tryz.prog 3 #[.int .u8 ring, .slice A1 n1 c1, .int .i64 most, .int .u64 every, .slice A4 n4 c4] w fun e w' => e = .returned (.bool true) ∧ Below w.heap.size w w' := by
  obtain ⟨r0, r1⟩ := hring
  have hct := hsh.count
  subst hct
  have SH := Lib.hid hsh
  have K1 := Lib.hid (make_any (ring % 40) 4611686018427387903 A1 n1 c1 l1 w hr hok ⟨by omega, by omega⟩)
  have HEV := Lib.hid hev
  have hcap := hsh.rd.cap
  have hmax := hsh.rd.max
  unfold maxLen at hmax
  clear hr hok hsh hev
  go_enter Tryz.func3, Tryz.ntmps3
  go_wp2_with fail
  refine K1.out.mono ?_
  rintro e w1 ⟨p, r, s, rfl, hT, hb1, hg1, hg2, hg3, hg4, hg5⟩
  have e2 := box_below w1 (.cells (P2 p r) 28)
  have T2 := Lib.hid (heap_alloc_new w1 (.cells (P2 p r) 28))
  have TW : Hid (Two w1 (fun j => w.heap.size ≤ j ∧ j < w1.heap.size) p r s) := Lib.hid (hT.sub fun k hk h => ⟨h, hk⟩)
  have TW2 := Lib.hid (TW.out.below e2)
  have B2 := Lib.hid (hb1.trans (e2.mono hb1.size))
  have hs1 := hb1.size
  have G3 := Lib.hid hg3
  clear K1 hT hb1 e2 hg1 hg2 hg3 hg4 hg5 TW
  go_upto_region 2 with fail
  have hP2 : w1.alloc (.cells #[.pointer (some ⟨p, 0, none⟩), .pointer (some ⟨r, 0, none⟩)] 28) = w1.alloc (.cells (P2 p r) 28) := rfl
  rw [hP2]
  clear hP2
  have s2 : (w1.alloc (.cells (P2 p r) 28)).heap.size = w1.heap.size + 1 := by simp
  generalize (w1.alloc (.cells (P2 p r) 28)) = w2 at *
  generalize w1.heap.size = h1 at *
  have K3 := Lib.hid (gua_new most every w2 HEV.out)
  go_wp2_with fail
  refine K3.out.mono ?_
  rintro e w3 ⟨a, rfl, hGP, hb3⟩
  have K4 := Lib.hid (gur_new most every w3 HEV.out)
  have GP3 := Lib.hid hGP
  have HB3 := Lib.hid hb3
  have hs3 := hb3.size
  clear K3 hGP hb3
  go_wp2_with fail
  refine K4.out.mono ?_
  rintro e w4 ⟨b, rfl, hGR, hb4⟩
  have hs4 := hb4.size
  have e5 := box_below w4 (.cells (P2 a b) 36)
  have n5 := heap_alloc_new w4 (.cells (P2 a b) 36)
  have b35 := hb4.trans (e5.mono hs4)
  obtain ⟨G, H, hPr, hPs⟩ := (TW2.out.below HB3.out).below b35
  have S5 : Hid (GtL w h1 w4.heap.size p r a b 0 0 s (GS.new most every) (w4.alloc (.cells (P2 a b) 36))) := Lib.hid (by
    have gp4 : GuaP w4 (fun k => w2.heap.size ≤ k ∧ k < w3.heap.size) (fun _ => False) a (GS.new most every) := (GP3.out.sub (F' := fun k => w2.heap.size ≤ k ∧ k < w3.heap.size) (E' := fun _ => False) (fun k hk h => ⟨h, hk⟩) (fun _ _ h => h) (fun k h => h.elim)).below hb4
    have gr4 : GuRP w4 (fun k => w3.heap.size ≤ k ∧ k < w4.heap.size) (fun _ => False) b (GS.new most every) := hGR.sub (F' := fun k => w3.heap.size ≤ k ∧ k < w4.heap.size) (E' := fun _ => False) (fun k hk h => ⟨h, hk⟩) (fun _ _ h => h) (fun k h => h.elim)
    refine ⟨⟨⟨fun k => (w.heap.size ≤ k ∧ k < h1) ∨ (w2.heap.size ≤ k ∧ k < w4.heap.size), fun _ => False, ⟨G, H, _, _, hPr.p, hPr.r, gp4.below e5, gr4.below e5, fun k hk => ⟨hPr.dj k hk, fun h => by have := (hPs k (.inl hk)).1; omega, fun h => by have := (hPs k (.inl hk)).1; omega⟩, fun k hk => ⟨fun h => by have := (hPs k (.inr hk)).1; omega, fun h => by have := (hPs k (.inr hk)).1; omega⟩, fun k h1' h2' => by omega, fun k hk => ?_, fun k h => h.elim⟩, fun k hk => ?_⟩, ?_, n5, ?_, hs1, by omega, G3.out⟩, by simp [GS.new, BS.new], by omega, by omega⟩
    · have hz : (w4.alloc (.cells (P2 a b) 36)).heap.size = w4.heap.size + 1 := by simp
      rcases hk with hk | hk | hk | hk
      · have := hPs k (.inl hk); exact ⟨.inl this.1, this.2⟩
      · have := hPs k (.inr hk); exact ⟨.inl this.1, this.2⟩
      · exact ⟨.inr (by omega), by omega⟩
      · exact ⟨.inr (by omega), by omega⟩
    · rcases hk with hk | hk
      · exact ⟨by omega, by omega, by omega⟩
      · exact hk.elim
    · exact (b35.block _ (by omega)).trans ((HB3.out.block _ (by omega)).trans T2.out)
    · exact (B2.out.trans (HB3.out.mono (by omega))).trans (b35.mono (by omega)))
  clear K4 hGR hb4 e5 n5 b35 hPr hPs GP3 HB3 TW2 T2 B2
  go_upto_region 3 with fail
  have hP2 : w4.alloc (.cells #[.pointer (some ⟨a, 0, none⟩), .pointer (some ⟨b, 0, none⟩)] 36) = w4.alloc (.cells (P2 a b) 36) := rfl
  rw [hP2]
  clear hP2
  generalize (w4.alloc (.cells (P2 a b) 36)) = w5 at *
  generalize w4.heap.size = h2 at *
  have x0 : w5.cell? ⟨h2, 0, none⟩ = some (.pointer (some ⟨a, 0, none⟩)) := cell_of_row w5 h2 0 _ _ _ S5.out.st.t2
  go_wp2_with fail
  refine (guardAlive w5).mono ?_
  rintro e w6 ⟨rfl, b6⟩
  have S6 : Hid (GtL w h1 h2 p r a b 0 0 s (GS.new most every) w6) := Lib.hid ⟨S5.out.st.below b6, S5.out.all, S5.out.now0, S5.out.now1⟩
  clear x0 b6 S5
  have x0 : w6.cell? ⟨h2, 0, none⟩ = some (.pointer (some ⟨a, 0, none⟩)) := cell_of_row w6 h2 0 _ _ _ S6.out.st.t2
  by_cases h30 : 30 < l4.length
  · have hd : decide ((30 : Int) < (l4.length : Int)) = true := decide_eq_true (by omega)
    go_wp2_with fail
    refine (guardAlive w6).mono ?_
    rintro e w7 ⟨rfl, b7⟩
    have x0 := ((b7.cell (p := ⟨h2, 0, none⟩) (block_lt_of_cell x0))).trans x0
    go_wp2
    go_ret
    exact ⟨rfl, S6.out.st.bel.trans (b7.mono S6.out.st.bel.size)⟩
  · have hd : decide ((30 : Int) < (l4.length : Int)) = false := decide_eq_false (by omega)
    go_wp2_with fail
    clear x0
    go_loopw [14, 15] (fun nv iv wr => ∃ (j : Nat) (now : Int) (s' : LS) (g' : GS), j ≤ l4.length ∧ iv = .int .i64 j ∧ nv = .int .u64 now ∧ Hid (GtL w h1 h2 p r a b j now s' g' wr)) (fun _ i _ => l4.length - (intOf i).toNat)
    case atStart => exact ⟨0, 0, s, _, Nat.zero_le _, rfl, rfl, S6⟩
    case round =>
      obtain ⟨j, now, s', g', hj, rfl, rfl, S⟩ := hrel
      clear S6
      by_cases hlt : j < l4.length
      · obtain ⟨bb, off, eA, hAt, hbl⟩ := SH.out.at_ hlt
        have hok := Lib.hid (SH.out.ok l4[j] (List.getElem_mem hlt))
        have hKl := S.out.st.bel
        subst eA
        have KAt := Lib.hid (hAt.chg (Z := fun k => w.heap.size ≤ k) ⟨hKl.os, hKl.tape, hKl.output, hKl.size, fun k _ hn => hKl.block k (by omega)⟩ (by omega))
        generalize l4[j] = sh at *
        generalize hoff : off + j * 9 = o9 at *
        have hw := hok.out.w
        have n0 := S.out.now0
        have n1' := S.out.now1
        have wn : IntKind.u64.wrap (now + sh.wait) = now + sh.wait := IntWalk.u64_in _ (by omega)
        have ww : IntKind.u64.wrap sh.wait = sh.wait := IntWalk.u64_in _ (by omega)
        have y8 := KAt.out.c8
        have hKl2 := hKl.size
        clear hAt hKl
        go_upto_region 10 with fail
        clear y8
        have hgb := Nat.le_trans S.out.all hj
        have gK := Lib.hid (GtK.of S.out.st.t1 S.out.st.t2 KAt.out)
        have KF := Lib.hid (fun (W : World) (q : Below wr.heap.size wr W) => gt_frame S.out.st sh (hok.out.below S.out.st.bel) W q)
        have KT := Lib.hid (fun (W : World) (q : Below wr.heap.size wr W) (A : Option Addr) (c : Nat) (f : List Int) hr hb hl hA => gt_take S.out.st sh hok.out (now + sh.wait) ⟨by omega, by omega⟩ (by omega) W q A c f hr hb hl hA)
        have gB := Lib.hid (fun (W : World) (q : Below wr.heap.size wr W) => (GtK.of ((q.block _ (lt_of_block S.out.st.t1)).trans S.out.st.t1) ((q.block _ (lt_of_block S.out.st.t2)).trans S.out.st.t2) (KAt.out.chg (chg_below q (F := fun _ => False)) (fun h => h)) : GtK h1 h2 p r a b bb o9 sh W))
        have hl1 := Lib.hid (lt_of_block S.out.st.t1)
        have hl2 := Lib.hid (lt_of_block S.out.st.t2)
        have gC := Lib.hid (fun (vB W : World) (k : GtK h1 h2 p r a b bb o9 sh vB) (hc : Chg (fun k => wr.heap.size ≤ k) vB W) => k.chg hc (by have := hl1.out; omega) (by have := hl2.out; omega) (by have := S.out.st.bel.size; omega))
        have gT := Lib.hid (fun (W vB : World) (o : GOut) (t : GtTook w wr W vB h1 h2 p r a b o) => (gB.out W t.bel).chg t.chg (fun e => e.2.2.1 rfl) (fun e => e.2.2.2 rfl) (by omega))
        go_cut [16, 17] (fun s16 s17 wx => ∃ (h : Nat) (f : List Int), s16 = .pointer (some ⟨h, 0, none⟩) ∧ s17 = .bool true ∧ Hid (GtS w h1 h2 p r a b (g'.take s' f (now + sh.wait)).s (g'.take s' f (now + sh.wait)).g wx))
        case first =>
          obtain ⟨ke1, ke2, ke3, ke4, kc0, kc1, kc2, kc3, kc4, kc5, kc6, kc7, kc8⟩ := gK.out
          have hsv : sh.val = .agg #[.int .i64 sh.kind, .slice sh.A sh.b.length sh.c, .int .u16 sh.k.a, .int .u16 sh.k.b, .int .u16 sh.k.c, .int .u16 sh.k.d, .int .u64 sh.x, .bool sh.right, .int .u16 sh.wait] := rfl
          rw [hsv] at KF
          go_region_held3 (fun W => W.cell? ⟨h2, 0, none⟩ = some (.pointer (some ⟨a, 0, none⟩)) ∧ W.cell? ⟨h2, 1, none⟩ = some (.pointer (some ⟨b, 0, none⟩)) ∧ W.cell? ⟨h1, 0, none⟩ = some (.pointer (some ⟨p, 0, none⟩)) ∧ W.cell? ⟨h1, 1, none⟩ = some (.pointer (some ⟨r, 0, none⟩)) ∧
              W.cell? ⟨bb, o9, none⟩ = some (.int .i64 sh.kind) ∧ W.cell? ⟨bb, o9 + 1, none⟩ = some (.slice sh.A sh.b.length sh.c) ∧ W.cell? ⟨bb, o9 + 2, none⟩ = some (.int .u16 sh.k.a) ∧ W.cell? ⟨bb, o9 + 3, none⟩ = some (.int .u16 sh.k.b) ∧ W.cell? ⟨bb, o9 + 4, none⟩ = some (.int .u16 sh.k.c) ∧ W.cell? ⟨bb, o9 + 5, none⟩ = some (.int .u16 sh.k.d) ∧ W.cell? ⟨bb, o9 + 6, none⟩ = some (.int .u64 sh.x) ∧ W.cell? ⟨bb, o9 + 7, none⟩ = some (.bool sh.right) ∧ W.cell? ⟨bb, o9 + 8, none⟩ = some (.int .u16 sh.wait))
            (first
              | (exact gT.out _ _ _ tB)
              | ((refine gC.out _ _ (gT.out _ _ _ tB) ?_); (repeat (first | exact Chg.refl _ _ | (refine Chg.alloc ?_ _) | (refine Chg.drew ?_) | (refine Chg.setCell ?_ (.inl (by first | exact Nat.le_refl _ | exact bA1.size | (simp; done) | omega | (simp; omega))) _))); done)
              | ((refine gB.out _ ?_); (repeat (first | exact Below.refl _ _ | exact bA1 | (refine Below.alloc ?_ (by first | exact Nat.le_refl _ | exact bA1.size | omega | (simp; omega)) _) | (refine Below.drew ?_))); done))
            (first
              | (go_at_call 14; refine Calls.mono (KF.out _ ?_) ?_; (focus (repeat (first | exact Below.refl _ _ | (refine Below.alloc ?_ (by first | exact Nat.le_refl _ | omega | (simp; omega)) _) | (refine Below.drew ?_)))); rintro e vA ⟨fA, fc, f, rfl, hfR, hfb, hfl, bA, hfA⟩; have bA1 : Below wr.heap.size wr vA := Below.trans (by repeat (first | exact Below.refl _ _ | (refine Below.alloc ?_ (by first | exact Nat.le_refl _ | omega | (simp; omega)) _) | (refine Below.drew ?_))) (bA.mono (by first | exact Nat.le_refl _ | (simp; done) | (simp; omega))))
              | (go_at_call 13; refine Calls.mono (KT.out _ ?_ fA fc f ?_ hfb hfl ?_) ?_; (focus (repeat (first | exact Below.refl _ _ | exact bA1 | (refine Below.alloc ?_ (by first | exact Nat.le_refl _ | (have := bA1.size; omega) | (have := bA1.size; simp; omega)) _) | (refine Below.drew ?_)))); (focus (first | exact hfR | exact hfR.below (box_below _ _) | exact hfR.drew | exact (hfR.below (box_below _ _)).drew)); (focus (intro bk off e hn; rcases hfA bk off e hn with h | h; exact .inl h; exact .inr (by first | exact h | (simp at h; omega)))); rintro e vB ⟨rfl, tB⟩; (try (have zA : vB.heap[wr.heap.size]? = some (.cells #[.int .i64 0, .int .i64 0, .int .u64 0, .bool false] 44 (0, 0)) := tB.chg.blk ((bA.block _ (by first | exact lt_of_block (heap_alloc_new wr (.cells #[.int .i64 0, .int .i64 0, .int .u64 0, .bool false] 44 (0, 0))) | (simp; done))).trans (heap_alloc_new wr _)) (fun e => by omega); have zA0 : vB.cell? ⟨wr.heap.size, 0, none⟩ = some (.int .i64 0) := cell_of_row vB wr.heap.size 0 _ _ _ zA; have zA1 : vB.cell? ⟨wr.heap.size, 1, none⟩ = some (.int .i64 0) := cell_of_row vB wr.heap.size 1 _ _ _ zA; have zA2 : vB.cell? ⟨wr.heap.size, 2, none⟩ = some (.int .u64 0) := cell_of_row vB wr.heap.size 2 _ _ _ zA; have zA3 : vB.cell? ⟨wr.heap.size, 3, none⟩ = some (.bool false) := cell_of_row vB wr.heap.size 3 _ _ _ zA; have fzA0 := frozen_of_row vB wr.heap.size 0 _ _ zA; have fzA1 := frozen_of_row vB wr.heap.size 1 _ _ zA; have fzA2 := frozen_of_row vB wr.heap.size 2 _ _ zA; have fzA3 := frozen_of_row vB wr.heap.size 3 _ _ zA)); (try (have zB : vB.heap[vA.heap.size]? = some (.cells #[.int .i64 0, .int .i64 0, .int .u64 0, .bool false] 44 (0, 0)) := tB.chg.blk (heap_alloc_new vA _) (fun e => by have := bA1.size; omega); have zB0 : vB.cell? ⟨vA.heap.size, 0, none⟩ = some (.int .i64 0) := cell_of_row vB vA.heap.size 0 _ _ _ zB; have zB1 : vB.cell? ⟨vA.heap.size, 1, none⟩ = some (.int .i64 0) := cell_of_row vB vA.heap.size 1 _ _ _ zB; have zB2 : vB.cell? ⟨vA.heap.size, 2, none⟩ = some (.int .u64 0) := cell_of_row vB vA.heap.size 2 _ _ _ zB; have zB3 : vB.cell? ⟨vA.heap.size, 3, none⟩ = some (.bool false) := cell_of_row vB vA.heap.size 3 _ _ _ zB; have fzB0 := frozen_of_row vB vA.heap.size 0 _ _ zB; have fzB1 := frozen_of_row vB vA.heap.size 1 _ _ zB; have fzB2 := frozen_of_row vB vA.heap.size 2 _ _ zB; have fzB3 := frozen_of_row vB vA.heap.size 3 _ _ zB))))
          all_goals
            go_wp2_with fail
            go_meet
            refine ⟨_, f, rfl, rfl, Lib.hid (S.out.st.close tB ?_)⟩
            have z1 := bA1.size
            have z2 := bA.size
            simp at z2
            repeat (first | exact Chg.refl _ _ | (refine Chg.alloc ?_ _) | (refine Chg.drew ?_) | (refine Chg.setCell ?_ (.inl ⟨by first | exact Nat.le_refl _ | omega | (simp; omega), by first | omega | (simp; done) | (simp; omega)⟩) _))
        case rest =>
          obtain ⟨h, f, rfl, rfl, hS⟩ := hcut
          go_wp2
          go_roundw
          case rel => exact ⟨j + 1, now + sh.wait, _, _, by omega, by go_num, rfl, Lib.hid ⟨hS.out, Nat.le_trans (take_all _ _ _ _) (by have := S.out.all; omega), by omega, by omega⟩⟩
          case measure => simp [intOf]; omega
      · have x0 : wr.cell? ⟨h2, 0, none⟩ = some (.pointer (some ⟨a, 0, none⟩)) := cell_of_row wr h2 0 _ _ _ S.out.st.t2
        have x1 : wr.cell? ⟨h2, 1, none⟩ = some (.pointer (some ⟨b, 0, none⟩)) := cell_of_row wr h2 1 _ _ _ S.out.st.t2
        obtain ⟨X, E, hB, hX⟩ := S.out.st.both
        have HB := Lib.hid hB
        clear hB hX
        go_wp2_with fail
        refine (both_same _ X E p r a b s' g' HB.out).mono ?_
        rintro e w7 ⟨rfl, b7⟩
        go_wp2
        go_ret
        exact ⟨rfl, S.out.st.bel.trans (b7.mono S.out.st.bel.size)⟩

end Go.Proofs.YtelaimephejkkaaGreat
