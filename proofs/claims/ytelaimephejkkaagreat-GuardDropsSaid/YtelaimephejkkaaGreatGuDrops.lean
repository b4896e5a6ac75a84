/-
  The walk of GuardDrops.
-/
import Derived.Test.YtelaimephejkkaaGreatGuDrR
namespace Go.Proofs.YtelaimephejkkaaGreat
set_option linter.unusedSimpArgs false
set_option linter.unusedVariables false
set_option linter.unnecessarySimpa false
open Go.RowKit

/-- The loop's state. -/
structure DrL (w : World) (N M : Nat → Prop) (h1 p r b : Nat) (j len : Nat) (now : Int) (W : World) : Prop where
  bel : Below w.heap.size w W
  now0 : 0 ≤ now
  now1 : now ≤ 65535 * j
  st : j < len → ∃ s g, Solo w N M h1 p r b s s g W

set_option maxHeartbeats 64000000 in
set_option maxRecDepth 100000 in
theorem guardDrops_any (ring : Int) (A1 : Option Addr) (n1 c1 : Nat) (l1 : List Dd) (most : Int) (A4 : Option Addr) (n4 c4 : Nat) (l4 : List Sh) (w : World) (hr : Rd w 3 A1 n1 c1 (Ds l1)) (hok : ∀ d ∈ l1, d.ok) (hsh : Shots w A4 n4 c4 l4) (hring : 0 ≤ ring ∧ ring ≤ 255) (hmost : 0 ≤ most ∧ most ≤ 255) :
    Calls Tryz.prog 4 #[.int .u8 ring, .slice A1 n1 c1, .int .u8 most, .slice A4 n4 c4] w fun e w' => e = .returned (.bool true) ∧ Below w.heap.size w w' := by
  obtain ⟨r0, r1⟩ := hring
  obtain ⟨m0, m1⟩ := hmost
  have hct := hsh.count
  subst hct
  have SH := Lib.hid hsh
  have K1 := Lib.hid (make_any (ring % 40) 4611686018427387903 A1 n1 c1 l1 w hr hok ⟨by omega, by omega⟩)
  have hcap := hsh.rd.cap
  have hmax := hsh.rd.max
  unfold maxLen at hmax
  clear hr hok hsh
  have wm : Int.tmod most 5 = most % 5 := by rw [Int.tmod_eq_emod_of_nonneg m0]
  go_enter Tryz.func4, Tryz.ntmps4
  go_wp2_with fail
  refine K1.out.mono ?_
  rintro e w1 ⟨p, r, s, rfl, hT, hb1, hg1, hg2, hg3, hg4, hg5⟩
  have e2 := box_below w1 (.cells (P2 p r) 28)
  have T2 := Lib.hid (heap_alloc_new w1 (.cells (P2 p r) 28))
  have TW2 : Hid (Two (w1.alloc (.cells (P2 p r) 28)) (fun j => w.heap.size ≤ j ∧ j < w1.heap.size) p r s) := Lib.hid ((hT.sub fun k hk h => ⟨h, hk⟩).below e2)
  have B2 := Lib.hid (hb1.trans (e2.mono hb1.size))
  have hs1 := hb1.size
  have G3 := Lib.hid hg3
  clear K1 hT hb1 e2 hg1 hg2 hg3 hg4 hg5
  go_upto_region 2 with fail
  have hP2 : w1.alloc (.cells #[.pointer (some ⟨p, 0, none⟩), .pointer (some ⟨r, 0, none⟩)] 28) = w1.alloc (.cells (P2 p r) 28) := rfl
  rw [hP2]
  clear hP2
  have s2 : (w1.alloc (.cells (P2 p r) 28)).heap.size = w1.heap.size + 1 := by simp
  generalize (w1.alloc (.cells (P2 p r) 28)) = w2 at *
  generalize w1.heap.size = h1 at *
  have K3 := Lib.hid (gua_new (most % 5) 50 w2 ⟨by omega, by omega⟩)
  go_wp2_with fail
  refine K3.out.mono ?_
  rintro e w3 ⟨b, rfl, hGP, hb3⟩
  have hs3 := hb3.size
  obtain ⟨N, M, s3'⟩ := Solo.start TW2.out T2.out B2.out hs1 s2 hGP hb3 G3.out
  have S3 := Lib.hid s3'
  clear s3'
  clear K3 hGP hb3 TW2 T2 B2 G3
  go_wp2_with fail
  refine (guardAlive w3).mono ?_
  rintro e w6 ⟨rfl, b6⟩
  have S6 : Hid (Solo w N M h1 p r b s s (GS.new (most % 5) 50) w6) := Lib.hid (S3.out.below b6)
  clear b6 S3
  by_cases h30 : 30 < l4.length
  · have hd : decide ((30 : Int) < (l4.length : Int)) = true := decide_eq_true (by omega)
    go_wp2_with fail
    refine (guardAlive w6).mono ?_
    rintro e w7 ⟨rfl, b7⟩
    go_wp2
    go_ret
    exact ⟨rfl, S6.out.bel.trans (b7.mono S6.out.bel.size)⟩
  · have hd : decide ((30 : Int) < (l4.length : Int)) = false := decide_eq_false (by omega)
    go_wp2_with fail
    go_loopw [12, 13] (fun nv iv wz => ∃ (j : Nat) (now : Int), j ≤ l4.length ∧ iv = .int .i64 j ∧ nv = .int .u64 now ∧ Hid (DrL w N M h1 p r b j l4.length now wz)) (fun _ i _ => l4.length - (intOf i).toNat)
    case atStart => exact ⟨0, 0, Nat.zero_le _, rfl, rfl, Lib.hid ⟨S6.out.bel, by omega, by omega, fun _ => ⟨s, _, S6.out⟩⟩⟩
    case round =>
      obtain ⟨j, now, hj, rfl, rfl, L⟩ := hrel
      clear S6
      obtain ⟨wz, hwz⟩ : ∃ x, x = wr := ⟨_, rfl⟩
      subst hwz
      by_cases hlt : j < l4.length
      · obtain ⟨s', g', S0⟩ := L.out.st hlt
        have n0 := L.out.now0
        have n1' := L.out.now1
        have S0 := Lib.hid S0
        clear L
        obtain ⟨bb, off, eA, hAt, hbl⟩ := SH.out.at_ hlt
        have hok := Lib.hid (SH.out.ok l4[j] (List.getElem_mem hlt))
        have hKl := S0.out.bel
        subst eA
        have KAz := Lib.hid (hAt.chg (Z := fun k => w.heap.size ≤ k) ⟨hKl.os, hKl.tape, hKl.output, hKl.size, fun k _ hn => hKl.block k (by omega)⟩ (by omega))
        generalize l4[j] = sh at *
        generalize hoff : off + j * 9 = o9 at *
        have hw := hok.out.w
        have ww : IntKind.u64.wrap sh.wait = sh.wait := IntWalk.u64_in _ (by omega)
        have wn : IntKind.u64.wrap (now + sh.wait) = now + sh.wait := IntWalk.u64_in _ (by omega)
        have y8 := KAz.out.c8
        have hKl2 := hKl.size
        have HOFF := Lib.hid hoff
        clear hAt hKl
        go_upto_region 10 with fail
        have hnw0 : 0 ≤ now + sh.wait := by omega
        have hnw1 : now + sh.wait ≤ 65535 * (j + 1 : Nat) := by omega
        generalize now + sh.wait = nw at *
        clear y8 wn ww
        -- all and counts
        obtain ⟨T, F, E, hL, -⟩ := S0.out.al.ex
        have K10 := Lib.hid (led_all wz T p s' hL)
        have SG := Lib.hid hL.good
        have y0 : wz.cell? ⟨h1, 0, none⟩ = some (.pointer (some ⟨p, 0, none⟩)) := cell_of_row wz h1 0 _ _ _ S0.out.t1
        clear hL
        go_wp2_with fail
        refine K10.out.mono ?_
        rintro e wa ⟨As, cs, rfl, ho, ba⟩
        have K11 := Lib.hid (alc_counts _ p b s' g' wa (S0.out.below ba).al)
        have RA := Lib.hid (Rd.of_own ho)
        have NA := Lib.hid (own_new ho)
        have BA := Lib.hid ba
        clear K10 y0 ho ba
        unfold ctsRow at K11
        go_wp2_with fail
        refine K11.out.mono ?_
        rintro e wb ⟨rfl, bq⟩
        have e13 := box_below wb (.cells #[.int .u64 g'.mal, .int .u64 g'.drp, .int .u64 g'.tak, .int .u64 g'.cha, .int .u64 g'.lat] 52)
        have n13 := heap_alloc_new wb (.cells #[.int .u64 g'.mal, .int .u64 g'.drp, .int .u64 g'.tak, .int .u64 g'.cha, .int .u64 g'.lat] 52)
        have z1 := BA.out.size
        have z2 := bq.size
        have z3 : (wb.alloc (.cells #[.int .u64 g'.mal, .int .u64 g'.drp, .int .u64 g'.tak, .int .u64 g'.cha, .int .u64 g'.lat] 52)).heap.size = wb.heap.size + 1 := by simp
        have b1 := (BA.out.trans (bq.mono z1)).trans (e13.mono (by omega))
        have LAs : Hid (∀ bk off, As = some ⟨bk, off, none⟩ → 0 < s'.kept.length → bk < wb.heap.size) := Lib.hid (fun bk off e hn => by have := RA.out.lt (by omega) hn bk off e; omega)
        have RA := Lib.hid ((RA.out.below bq).below e13)
        obtain ⟨NN, hNN, Sn⟩ : ∃ NN : Nat → Prop, (∀ k, NN k ↔ N k ∨ (wz.heap.size ≤ k ∧ k < (wb.alloc (.cells #[.int .u64 g'.mal, .int .u64 g'.drp, .int .u64 g'.tak, .int .u64 g'.cha, .int .u64 g'.lat] 52)).heap.size)) ∧ Solo w NN M h1 p r b s' s' g' (wb.alloc (.cells #[.int .u64 g'.mal, .int .u64 g'.drp, .int .u64 g'.tak, .int .u64 g'.cha, .int .u64 g'.lat] 52)) := ⟨_, fun _ => Iff.rfl, S0.out.grow b1⟩
        have S := Lib.hid Sn
        have HN := Lib.hid hNN
        have CN := Lib.hid n13
        have KAt := Lib.hid (KAz.out.chg (chg_below b1 (F := fun _ => False)) (fun h => h))
        have G0 : Hid (N h1 ∧ (∀ k, k < w.heap.size → N k) ∧ (∀ k, M k → N k)) := Lib.hid ⟨S0.out.n1, S0.out.nw, fun k hk => (S0.out.mn k hk).1⟩
        have GG := Lib.hid S0.out.al.good.2
        have z0 : w.heap.size ≤ wz.heap.size := S0.out.bel.size
        clear K11 Sn hNN n13 e13 b1 bq S0 KAz BA
        go_upto_region 11 with fail
        generalize wb.alloc (.cells #[.int .u64 g'.mal, .int .u64 g'.drp, .int .u64 g'.tak, .int .u64 g'.cha, .int .u64 g'.lat] 52) = wr at *
        generalize wb.heap.size = hn at *
        have ML : Hid (∀ k, M k → k < wr.heap.size) := Lib.hid (fun k hk => S.out.nl k (S.out.mn k hk).1)
        have HHN : Hid (NN hn) := Lib.hid ((HN.out hn).2 (.inr ⟨by omega, by omega⟩))
        have HNA : Hid (∀ bk off, As = some ⟨bk, off, none⟩ → 0 < s'.kept.length → NN bk) := Lib.hid (fun bk off e h => (HN.out bk).2 (.inr ⟨NA.out bk off e h, by have := LAs.out bk off e h; omega⟩))
        have Z3 := Lib.hid z3
        clear z3
        refine guardDropsReg S hok KAt hbl hlt hcap hmax HOFF.out ⟨hnw0, by omega⟩ ?_
        intro hV hA f a x75 x76 x77 x78 x79 x80 x81 x82 x83 x84 x85 x74 x86 x87 wc hE
        have D := Lib.hid (take_dropped g' s' f nw GG.out)
        have LN := Lib.hid (take_len g' s' f nw)
        generalize (g'.take s' f nw) = o at *
        have tv := hE.out.tv
        have ta := hE.out.ta
        have K12 := Lib.hid (alc_counts _ p b o.s o.g wc hE.out.so.al)
        unfold ctsRow at K12
        go_wp2_with fail
        refine K12.out.mono ?_
        rintro e wd ⟨rfl, bd⟩
        have e14 := box_below wd (.cells #[.int .u64 o.g.mal, .int .u64 o.g.drp, .int .u64 o.g.tak, .int .u64 o.g.cha, .int .u64 o.g.lat] 52)
        have n14 := heap_alloc_new wd (.cells #[.int .u64 o.g.mal, .int .u64 o.g.drp, .int .u64 o.g.tak, .int .u64 o.g.cha, .int .u64 o.g.lat] 52)
        have b2 := bd.trans (e14.mono bd.size)
        have S14 := Lib.hid (hE.out.so.below b2)
        have T16 := Lib.hid ((b2.block _ (lt_of_block tv)).trans tv)
        have T17 := Lib.hid ((b2.block _ (lt_of_block ta)).trans ta)
        have cn2 := hE.out.chg.blk CN.out (fun h => h HHN.out)
        have CN2 := Lib.hid ((b2.block _ (lt_of_block cn2)).trans cn2)
        have RA2 := Lib.hid ((RA.out.chg hE.out.chg (fun bk off e hn h => h (HNA.out bk off e hn))).below b2)
        have IA := Lib.hid hE.out.is
        have MN := Lib.hid n14
        have LV := Lib.hid hE.out.lv
        clear K12 tv ta bd e14 n14 b2 cn2 hE RA CN
        go_upto_region 13 with fail
        generalize wd.alloc (.cells #[.int .u64 o.g.mal, .int .u64 o.g.drp, .int .u64 o.g.tak, .int .u64 o.g.cha, .int .u64 o.g.lat] 52) = we at *
        generalize wd.heap.size = hm at *
        have c0 := cell_of_row we hn 0 _ _ _ CN2.out
        have c1 := cell_of_row we hn 1 _ _ _ CN2.out
        have c2 := cell_of_row we hn 2 _ _ _ CN2.out
        have c3 := cell_of_row we hn 3 _ _ _ CN2.out
        have c4 := cell_of_row we hn 4 _ _ _ CN2.out
        have d0 := cell_of_row we hm 0 _ _ _ MN.out
        have d1 := cell_of_row we hm 1 _ _ _ MN.out
        have d2 := cell_of_row we hm 2 _ _ _ MN.out
        have d3 := cell_of_row we hm 3 _ _ _ MN.out
        have d4 := cell_of_row we hm 4 _ _ _ MN.out
        have v0 := cell_of_row we hV 0 _ _ _ T16.out
        have v1 := cell_of_row we hV 1 _ _ _ T16.out
        have v2 := cell_of_row we hV 2 _ _ _ T16.out
        have v3 := cell_of_row we hV 3 _ _ _ T16.out
        have a0 := cell_of_row we hA 0 _ _ _ T17.out
        have y0 : we.cell? ⟨h1, 0, none⟩ = some (.pointer (some ⟨p, 0, none⟩)) := cell_of_row we h1 0 _ _ _ S14.out.t1
        have y1 : we.cell? ⟨h1, 1, none⟩ = some (.pointer (some ⟨r, 0, none⟩)) := cell_of_row we h1 1 _ _ _ S14.out.t1
        obtain ⟨hk, hc⟩ := D.out
        have hne : (g'.cha == IntKind.u64.wrap (g'.cha + 1)) = false := beq_eq_false_iff_ne.2 (inc_ne _ GG.out.cha)
        have UP : Hid (∀ (s1 : LS) (W : World), Solo w NN M h1 p r b s1 s1 o.g W → DrL w N M h1 p r b (j + 1) l4.length nw W) := Lib.hid (fun s1 W h => ⟨h.bel, hnw0, hnw1, fun _ => ⟨s1, _, h.sub (fun k hk => (HN.out k).2 (.inl hk)) G0.out.1 G0.out.2.1 G0.out.2.2⟩⟩)
        rcases hk with ⟨k1, dr⟩ | ⟨k2, mu, es, ch⟩ | ⟨k3, ch⟩
        · have el : a.sp.length = 0 := by rw [IA.out.1, dr.sp]; rfl
          have hsum := dr.sum
          obtain ⟨T, F, E, hL2, -⟩ := S14.out.al.ex
          rw [dr.s_] at hL2
          have K14 := Lib.hid (led_all we T p s' hL2)
          clear hL2
          rcases hc with ⟨hc1, -, e0⟩ | ⟨hc1, e0⟩
          · rw [k1] at v0
            unfold inc at e0
            go_wp2_with fail
            refine K14.out.mono ?_
            rintro e wf ⟨A2, c2', rfl, ho2, bf⟩
            have R2 := Rd.of_own ho2
            have RA3 := RA2.out.below bf
            have S15 := Lib.hid (S14.out.below bf)
            have CN3 := (bf.block _ (lt_of_block CN2.out)).trans CN2.out
            have MN3 := (bf.block _ (lt_of_block MN.out)).trans MN.out
            have T18 := (bf.block _ (lt_of_block T16.out)).trans T16.out
            have T19 := (bf.block _ (lt_of_block T17.out)).trans T17.out
            clear c0 c1 c2 c3 c4 d0 d1 d2 d3 d4 v0 v1 v2 v3 a0
            have c0 := cell_of_row wf hn 0 _ _ _ CN3
            have c1 := cell_of_row wf hn 1 _ _ _ CN3
            have c2 := cell_of_row wf hn 2 _ _ _ CN3
            have c3 := cell_of_row wf hn 3 _ _ _ CN3
            have c4 := cell_of_row wf hn 4 _ _ _ CN3
            have d0 := cell_of_row wf hm 0 _ _ _ MN3
            have d1 := cell_of_row wf hm 1 _ _ _ MN3
            have d2 := cell_of_row wf hm 2 _ _ _ MN3
            have d3 := cell_of_row wf hm 3 _ _ _ MN3
            have d4 := cell_of_row wf hm 4 _ _ _ MN3
            have v0 := cell_of_row wf hV 0 _ _ _ T18
            have v1 := cell_of_row wf hV 1 _ _ _ T18
            have v2 := cell_of_row wf hV 2 _ _ _ T18
            have v3 := cell_of_row wf hV 3 _ _ _ T18
            have a0 := cell_of_row wf hA 0 _ _ _ T19
            rw [k1] at v0
            rw [dr.pn] at v2
            rw [dr.tak] at d2
            rw [el] at a0
            rw [hc1] at v3
            rw [e0] at d3
            clear CN3 MN3 T18 T19 ho2 bf
            have DR := Lib.hid dr
            clear dr e0 hc1 k1 el
            go_wp2_with fail
            refine (sameSent_yes wf As A2 cs c2' s'.kept RA3 R2).mono ?_
            rintro e wg ⟨rfl, n, rfl⟩
            have S16 := Lib.hid (S15.out.below (Qt.below (w := wf) ⟨n, rfl⟩))
            rw [DR.out.s_] at S16
            go_wp2
            go_roundw
            case rel => exact ⟨j + 1, nw, by omega, by go_num, rfl, Lib.hid (UP.out _ _ S16.out)⟩
            case measure => simp [intOf]; omega
          · rw [k1] at v0
            go_wp2_with fail
            refine K14.out.mono ?_
            rintro e wf ⟨A2, c2', rfl, ho2, bf⟩
            have R2 := Rd.of_own ho2
            have RA3 := RA2.out.below bf
            have S15 := Lib.hid (S14.out.below bf)
            have CN3 := (bf.block _ (lt_of_block CN2.out)).trans CN2.out
            have MN3 := (bf.block _ (lt_of_block MN.out)).trans MN.out
            have T18 := (bf.block _ (lt_of_block T16.out)).trans T16.out
            have T19 := (bf.block _ (lt_of_block T17.out)).trans T17.out
            clear c0 c1 c2 c3 c4 d0 d1 d2 d3 d4 v0 v1 v2 v3 a0
            have c0 := cell_of_row wf hn 0 _ _ _ CN3
            have c1 := cell_of_row wf hn 1 _ _ _ CN3
            have c2 := cell_of_row wf hn 2 _ _ _ CN3
            have c3 := cell_of_row wf hn 3 _ _ _ CN3
            have c4 := cell_of_row wf hn 4 _ _ _ CN3
            have d0 := cell_of_row wf hm 0 _ _ _ MN3
            have d1 := cell_of_row wf hm 1 _ _ _ MN3
            have d2 := cell_of_row wf hm 2 _ _ _ MN3
            have d3 := cell_of_row wf hm 3 _ _ _ MN3
            have d4 := cell_of_row wf hm 4 _ _ _ MN3
            have v0 := cell_of_row wf hV 0 _ _ _ T18
            have v1 := cell_of_row wf hV 1 _ _ _ T18
            have v2 := cell_of_row wf hV 2 _ _ _ T18
            have v3 := cell_of_row wf hV 3 _ _ _ T18
            have a0 := cell_of_row wf hA 0 _ _ _ T19
            rw [k1] at v0
            rw [dr.pn] at v2
            rw [dr.tak] at d2
            rw [el] at a0
            rw [hc1] at v3
            rw [e0] at d3
            clear CN3 MN3 T18 T19 ho2 bf
            have DR := Lib.hid dr
            clear dr e0 hc1 k1 el
            go_wp2_with fail
            refine (sameSent_yes wf As A2 cs c2' s'.kept RA3 R2).mono ?_
            rintro e wg ⟨rfl, n, rfl⟩
            have S16 := Lib.hid (S15.out.below (Qt.below (w := wf) ⟨n, rfl⟩))
            rw [DR.out.s_] at S16
            go_wp2
            go_roundw
            case rel => exact ⟨j + 1, nw, by omega, by go_num, rfl, Lib.hid (UP.out _ _ S16.out)⟩
            case measure => simp [intOf]; omega
        · rcases hc with ⟨hc1, -⟩ | ⟨hc1, e0⟩
          · rw [ch] at hc1; cases hc1
          · rw [k2] at v0
            rw [hc1] at v3
            rw [e0] at d3
            have mu' := mu SG.out
            obtain ⟨q1, q2⟩ := mu'.1
            have hlen := S14.out.len
            have hu2 : (s'.use o.v.pn).2 = true := by unfold LS.use; rw [if_pos mu']
            obtain ⟨H, hLR, hHs⟩ := S14.out.R
            have K14 := Lib.hid (ledR_use we H r s' o.v.pn hLR ⟨by omega, by omega⟩)
            rw [hu2] at K14
            have ES := Lib.hid es
            have HHs := Lib.hid hHs
            clear es hLR mu' mu hu2 hHs e0 hc1 ch k2 q1 q2
            go_wp2_with fail
            refine K14.out.mono ?_
            rintro e wf ⟨rfl, hLR2, cf⟩
            have S15 := Lib.hid (S14.out.used (fun k hk => (HHs.out k hk).1) hLR2 (fun k hk => (HHs.out k hk).2) cf (by rw [(use_len s' o.v.pn).1]; exact hlen))
            rw [ES.out] at S15
            have v0' := cf.cell v0 (fun e => by have := ML.out _ (HHs.out _ e).1; have := LV.out; simp only at *; omega)
            clear c0 c1 c2 c3 c4 d0 d1 d2 d3 d4 v0 v1 v2 v3 a0 y0 y1 cf hLR2
            go_wp2
            go_roundw
            case rel => exact ⟨j + 1, nw, by omega, by go_num, rfl, Lib.hid (UP.out _ _ S15.out)⟩
            case measure => simp [intOf]; omega
        · rcases hc with ⟨hc1, -⟩ | ⟨hc1, e0⟩
          · rw [ch] at hc1; cases hc1
          · rw [k3] at v0
            rw [hc1] at v3
            rw [e0] at d3
            clear e0 hc1 ch k3
            by_cases hl : (j : Int) < (l4.length : Int) - 1
            · have hd2 : decide ((j : Int) < (l4.length : Int) - 1) = true := decide_eq_true hl
              go_wp2
              go_ret
              exact ⟨rfl, S14.out.bel⟩
            · have hd2 : decide ((j : Int) < (l4.length : Int) - 1) = false := decide_eq_false hl
              go_wp2
              go_roundw
              case rel => exact ⟨j + 1, nw, by omega, by go_num, rfl, Lib.hid ⟨S14.out.bel, hnw0, hnw1, fun h => by omega⟩⟩
              case measure => simp [intOf]; omega
      · go_wp2
        go_ret
        exact ⟨rfl, L.out.bel⟩
end Go.Proofs.YtelaimephejkkaaGreat
