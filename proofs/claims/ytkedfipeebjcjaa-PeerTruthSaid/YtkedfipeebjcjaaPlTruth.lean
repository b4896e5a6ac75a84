/-
  The walk of PeerTruth.
-/
import Derived.Test.YtkedfipeebjcjaaPlTrv
namespace Go.Proofs.Ytkedfipeebjcjaa
set_option linter.unusedSimpArgs false
set_option linter.unusedVariables false
set_option linter.unnecessarySimpa false
open Go.RowKit

set_option maxHeartbeats 16000000 in
set_option maxRecDepth 1000000 in
theorem peerTruth_any (delay : Int) (A1 : Option Addr) (n1 c1 : Nat) (l1 : List Pk) (w : World) (hd : 0 ≤ delay ∧ delay ≤ 65535) (hp : Packs w A1 n1 c1 l1) :
    Calls Try.prog 4 #[.int .u16 delay, .slice A1 n1 c1] w fun e w' => e = .returned (.bool true) ∧ Below w.heap.size w w' := by
  have hcap := hp.rd.cap
  have hmax := hp.rd.max
  unfold maxLen at hmax
  obtain rfl := hp.count
  have SH := Lib.hid hp
  have wd : IntKind.u64.wrap delay = delay := IntWalk.u64_in _ (by omega)
  clear hp
  go_enter Try.func4, Try.ntmps4
  go_wp2_with fail
  refine (peer_new delay w ⟨by omega, by omega⟩).mono ?_
  rintro e w1 ⟨p, rfl, hP, b1⟩
  have P1 : Hid (PeP w1 (fun k => w.heap.size ≤ k ∧ k < w1.heap.size) (fun _ => False) p (PS.new delay)) := Lib.hid (hP.sub (fun k hk e => ⟨e, hk⟩) (fun _ _ h => .inr h))
  have B1 := Lib.hid b1
  clear hP b1 wd
  go_wp2_with fail
  refine (peerAlive w1).mono ?_
  rintro e w2 ⟨rfl, b2⟩
  have T2 : Hid (TrS w p 0 0 [] 0 none 0 (PS.new delay) w2) := Lib.hid ⟨⟨_, P1.out.below b2, fun k h => ⟨h.1, Nat.lt_of_lt_of_le h.2 b2.size, by simp [Value.ownBlock]⟩⟩, World.ownsRow_nil _ _ _ _, PS.Truth.new delay, Nat.le_refl _, Nat.le_refl _, Int.le_refl _, by omega, B1.out.trans (b2.mono B1.out.size)⟩
  clear b2 P1 B1
  by_cases h30 : 100 < l1.length
  · have hd : decide ((100 : Int) < (l1.length : Int)) = true := decide_eq_true (by omega)
    go_wp2_with fail
    refine (peerAlive w2).mono ?_
    rintro e w3 ⟨rfl, b3⟩
    go_wp2
    go_ret
    exact ⟨rfl, T2.out.bel.trans (b3.mono T2.out.bel.size)⟩
  · have hd : decide ((100 : Int) < (l1.length : Int)) = false := decide_eq_false (by omega)
    go_wp2_with fail
    go_loopw [6, 7, 8, 47] (fun cv nv tv iv wr => ∃ (j n : Nat) (now : Int) (cl : List Cm) (A : Option Addr) (c : Nat) (s : PS), j ≤ l1.length ∧ iv = .int .i64 j ∧ tv = .int .u64 now ∧ nv = .int .i64 n ∧ cv = .slice A cl.length c ∧ Hid (TrS w p now j cl n A c s wr)) (fun _ _ _ i _ => l1.length - (intOf i).toNat)
    case atStart => exact ⟨0, 0, 0, [], none, 0, _, Nat.zero_le _, rfl, rfl, rfl, rfl, T2⟩
    case round =>
      obtain ⟨j, n, now, cl, A, c, s, hj, rfl, rfl, rfl, rfl, S⟩ := hrel
      clear T2
      rename World => wo
      by_cases hlt : j < l1.length
      · obtain ⟨bb, off, eA, hX⟩ := SH.out.one hlt
        subst eA
        have X := Lib.hid (hX.below S.out.bel)
        have hS := S.out.bel.size
        generalize l1[j] = x at *
        generalize hoff : off + j * 10 = o9 at *
        clear hX
        have hcf := S.out.cf
        have hw := X.out.ok.w
        have q0 := S.out.n0
        have q1 := S.out.n1
        have wn : IntKind.u64.wrap (now + x.wait) = now + x.wait := IntWalk.u64_in _ (by omega)
        have ww : IntKind.u64.wrap x.wait = x.wait := IntWalk.u64_in _ (by omega)
        have y0 := X.out.at_.c0
        have y1 := X.out.at_.c1
        have y2 := X.out.at_.c2
        have y3 := X.out.at_.c3
        have y4 := X.out.at_.c4
        have y5 := X.out.at_.c5
        have y6 := X.out.at_.c6
        have y7 := X.out.at_.c7
        have y8 := X.out.at_.c8
        have y9 := X.out.at_.c9
        obtain ⟨F1, PR, hF⟩ := S.out.ex
        have R0 := Lib.hid PR
        have HF := Lib.hid hF
        have GG := Lib.hid S.out.good
        clear PR hF
        have KB : Hid (Calls Try.prog 14 #[.agg #[.int .u8 x.kind, .int .u8 x.n, .int .u8 x.ecn, .int .u16 x.pn, .int .u16 x.least, .int .u16 x.off, .int .u64 x.nonce, .int .u32 x.wait, .bool x.tick, .slice x.A x.b.length x.c]] wo fun e w' => ∃ A c, e = .returned (.slice A x.bytes.length c) ∧ Rd w' 1 A x.bytes.length c (U8 x.bytes) ∧ Below wo.heap.size wo w' ∧ ∀ b off, A = some ⟨b, off, none⟩ → 0 < x.bytes.length → b < w.heap.size ∨ wo.heap.size ≤ b) := by
          refine Lib.hid ((pk_bytes wo x X.out.ok X.out.r).mono ?_)
          rintro e w' ⟨A, c, h1, h2, h3, h4⟩
          exact ⟨A, c, h1, h2, h3, fun b off e hn => (h4 b off e hn).imp (fun g => X.out.la b off g.2 g.1) id⟩
        go_wp2_with fail
        refine KB.out.mono ?_
        rintro e w3 ⟨A3, c3, rfl, r3, b3, a3⟩
        have U8b := Lib.hid (x.bytes_u8 X.out.ok)
        have L8b := Lib.hid (x.bytes_len X.out.ok)
        have RB3 := Lib.hid r3
        have NB := Lib.hid a3
        have S3 := Lib.hid (S.out.below b3)
        have X3 := Lib.hid (X.out.below (b3.mono hS))
        have P3 := Lib.hid (R0.out.below b3)
        have Z3 := Lib.hid b3.size
        have KD := Lib.hid (head_decode w3 A3 c3 x.bytes r3 U8b.out (Nat.le_trans L8b.out (by decide)))
        clear r3 a3 b3 KB X S R0 y0 y1 y2 y3 y4 y5 y6 y7 y8 y9 ww wn
        generalize hnw : now + x.wait = nw at *
        have hnw0 : 0 ≤ nw := by omega
        have hnw1 : nw ≤ (j + 1) * 4294967295 := by omega
        clear hnw
        go_wp2_with fail
        refine KD.out.mono ?_
        rintro e w4 hdv
        obtain ⟨A4, c4, rfl, b4⟩ := hdv.un
        obtain ⟨D, hD⟩ : ∃ D, D = PS.decD x.bytes := ⟨_, rfl⟩
        obtain ⟨E, hE⟩ : ∃ E, E = PS.decE x.bytes := ⟨_, rfl⟩
        rw [← hD, ← hE]
        have HD := Lib.hid hD
        have HE := Lib.hid hE
        have E5 := box_below w4 (.cells #[.int .u64 D.pn, .int .u64 D.least, .int .u64 D.off, .int .u64 D.nonce, .int .i64 D.ecn, .slice A4 D.body.length c4] 30)
        have N5 := heap_alloc_new w4 (.cells #[.int .u64 D.pn, .int .u64 D.least, .int .u64 D.off, .int .u64 D.nonce, .int .i64 D.ecn, .slice A4 D.body.length c4] 30)
        have b45 := b4.trans (E5.mono b4.size)
        have N5h := Lib.hid N5
        have S5 := Lib.hid (S3.out.below b45)
        have X5 := Lib.hid (X3.out.below (b45.mono (Nat.le_trans hS Z3.out)))
        have P5 := Lib.hid (P3.out.below b45)
        have RB5 := Lib.hid (RB3.out.below b45)
        have Z5 : Hid (wo.heap.size ≤ w4.heap.size) := Lib.hid (Nat.le_trans Z3.out b4.size)
        clear hD hE hdv KD b4 E5 N5 b45 S3 X3 P3 RB3
        go_upto_region 13 with fail
        generalize hW5 : (w4.alloc (.cells #[.int .u64 D.pn, .int .u64 D.least, .int .u64 D.off, .int .u64 D.nonce, .int .i64 D.ecn, .slice A4 D.body.length c4] 30)) = w5 at *
        clear hW5
        generalize w4.heap.size = g at *
        go_upto_block 2 with fail
        refine truL2 S5 N5h (by omega) (Lib.hid ?_)
        intro  _ _ _ _ _ _ _ _ _ _ _ _ _ _ _ _ _ _ _ _ w6 Q6
        ·   have hq := Q6.out
            have HO : Hid ((decide (E = 0) && PS.hadPn (cl.map Cm.d) D.pn) = PS.oldB (cl.map Cm.d) x.bytes) := Lib.hid (by
              unfold PS.oldB
              rw [← HD.out, ← HE.out])
            rw [HO.out]
            have S6 := Lib.hid (S5.out.below hq.below)
            have X6 := Lib.hid (X5.out.below (hq.below.mono S5.out.bel.size))
            have P6 := Lib.hid (P5.out.below hq.below)
            have RB6 := Lib.hid (RB5.out.below hq.below)
            have N6 : Hid (w6.heap[g]? = some (.cells #[.int .u64 D.pn, .int .u64 D.least, .int .u64 D.off, .int .u64 D.nonce, .int .i64 D.ecn, .slice A4 D.body.length c4] 30 (0, 0))) := Lib.hid (hq.blk N5h.out)
            clear hq HO S5 X5 P5 RB5 N5h Q6
            generalize hO : PS.oldB (cl.map Cm.d) x.bytes = O at *
            have HO := Lib.hid hO
            clear hO
            have K7 := Lib.hid (peer_pbytes w6 F1 (fun _ => False) p s P6.out)
            have hfew := S6.out.few
            have KT := Lib.hid (peer_take w6 F1 (fun _ => False) p s A3 c3 x.bytes nw P6.out RB6.out U8b.out (Nat.le_trans L8b.out (by decide)) ⟨by omega, by omega⟩ (by omega))
            go_wp2_with fail
            refine K7.out.mono ?_
            rintro e w6' ⟨rfl, rfl⟩
            go_wp2_with fail
            refine KT.out.mono ?_
            rintro e w7 ⟨tv, hP, hC⟩
            obtain ⟨A7, c7, rfl, r7, n7⟩ := tv.un
            have TT : Hid ((¬ s.bytes < (s.takeB x.bytes nw).1.bytes ∧ (s.takeB x.bytes nw).2 = none ∧ (s.takeB x.bytes nw).1.Truth (cl.map Cm.d) n) ∨ (s.bytes < (s.takeB x.bytes nw).1.bytes ∧ O = false ∧ (s.takeB x.bytes nw).1.Truth (cl.map Cm.d ++ [D]) (n + if (s.takeB x.bytes nw).2.isSome then 1 else 0) ∧ ∀ a, (s.takeB x.bytes nw).2 = some a → PS.IsTrue (cl.map Cm.d ++ [D]) a ∧ AckOk a)) := Lib.hid (by
              rcases PS.takeB_truth S6.out.tr GG.out.1 GG.out.2 U8b.out nw hnw0 with ⟨t1, t2⟩ | ⟨t1, t2, -, -, t5, t6⟩
              · exact .inl ⟨t1, by rw [t2], by rw [t2]; exact S6.out.tr⟩
              · rw [← HD.out] at t5 t6
                exact .inr ⟨t1, by rw [← HO.out]; exact t2, t5, t6⟩)
            have FEW := Lib.hid (Nat.le_trans (PS.takeB_few s x.bytes nw) (Nat.succ_le_succ hfew))
            have hF6 : Hid (∀ k, F1 k → w.heap.size ≤ k ∧ k < w6.heap.size ∧ (Value.slice A cl.length c).ownBlock ≠ some k) := Lib.hid (fun k hk => ⟨(HF.out k hk).1, by have := (HF.out k hk).2.1; have := (lt_of_block N6.out); have := Z5.out; omega, (HF.out k hk).2.2⟩)
            have P7 : Hid (PeP w7 (GrowB F1 w6 w7) (fun _ => False) p (s.takeB x.bytes nw).1) := Lib.hid (hP.sub (fun k hk e => ⟨e, hk⟩) (fun _ _ e => .inr e))
            have hF7 : Hid (∀ k, GrowB F1 w6 w7 k → w.heap.size ≤ k ∧ k < w7.heap.size ∧ (Value.slice A cl.length c).ownBlock ≠ some k) := Lib.hid (fun k hk => ⟨hk.1.elim (fun e => (hF6.out k e).1) (Nat.le_trans S6.out.bel.size), hk.2, fun e => by
              have := (S6.out.o.lt k e).2
              rcases hk.1 with h | h
              · exact (hF6.out k h).2.2 e
              · omega⟩)
            have O7 := Lib.hid (own_chg S6.out.o hC (fun g e hf => (hF6.out g hf).2.2 e))
            have B7 := Lib.hid (S6.out.bel.trans (hC.below S6.out.bel.size (fun k hk e => by have := (hF6.out k e).1; omega)))
            have N7 : Hid (w7.heap[g]? = some (.cells #[.int .u64 D.pn, .int .u64 D.least, .int .u64 D.off, .int .u64 D.nonce, .int .i64 D.ecn, .slice A4 D.body.length c4] 30 (0, 0))) := Lib.hid (hC.blk N6.out (fun e => by have := (HF.out g e).2.1; have := Z5.out; omega))
            have X7 := Lib.hid (X6.out.chg hC (fun k hk e => by have := (HF.out k e).1; omega))
            have TD := Lib.hid r7
            have ND : Hid (∀ b off, A7 = some ⟨b, off, none⟩ → 0 < (tellB (s.takeB x.bytes nw).2).length → (Value.slice A cl.length c).ownBlock ≠ some b) := Lib.hid (fun b off e hn e2 => by have := n7 b off e hn; have := (S6.out.o.lt b e2).2; omega)
            have T6 := Lib.hid S6.out.tr
            clear tv hP hC r7 n7 KT K7 P6 RB6 S6 N6 X6 HF hF6 U8b L8b NB
            generalize (s.takeB x.bytes nw) = X1 at *
            obtain ⟨s1, o1⟩ := X1
            generalize GrowB F1 w6 w7 = F7 at *
            simp only at *
            go_upto_region 21 with fail
            refine truR21 P7 (Lib.hid ?_)
            intro  _ _ _ _ _ _ _ w8 E8
            obtain rfl := E8
            obtain ⟨B, hB⟩ : ∃ B, B = (decide (s.bytes < s1.bytes) && !O) := ⟨_, rfl⟩
            rw [← hB]
            have HB := Lib.hid hB
            clear hB
            go_upto_if 105 with fail
            refine truI105 HB TT P7 hF7 O7 B7 N7 X7 TD ND FEW hnw0 hnw1 hcf (by omega) (Lib.hid ?_)
            intro cl' A' c' _ _ _ _ wm HM
            obtain ⟨TM, X8, HG⟩ := HM
            clear TT FEW P7 hF7 O7 B7 N7 X7 TD ND T6 HB HO HD HE
            obtain ⟨F8, PR, hF⟩ := TM.out.S.ex
            have P8 := Lib.hid PR
            clear PR hF
            go_upto_region 23 with fail
            refine truR23 P8 HG (Lib.hid ?_)
            intro  _ _ _ _ _ _ w9 E9
            obtain rfl := E9
            clear P8 HG
            go_upto_region 25 with fail
            refine truR25 X8 hoff hlt hcap (by omega) (Lib.hid ?_)
            intro  _ _ _ _ _ _ _ _ w10 E10
            obtain rfl := E10
            obtain ⟨B, hB⟩ : ∃ B, B = (!o1.isSome && x.tick) := ⟨_, rfl⟩
            rw [← hB]
            have HB := Lib.hid hB
            clear hB
            go_upto_if 125 with fail
            refine truI125 HB TM (Lib.hid ?_)
            intro s2 o2 A9 c9 _ _ _ _ _ _ wz TM2
            clear TM HB X8
            obtain ⟨b2, hb2⟩ : ∃ b, b = o2.isSome := ⟨_, rfl⟩
            rw [← hb2]
            have HB2 := Lib.hid hb2
            clear hb2
            cases b2
            · have ho : o2 = none := by
                cases o2 with
                | none => rfl
                | some a => have := HB2.out; cases this
              subst ho
              go_wp2
              go_roundw
              case rel => exact ⟨j + 1, n, nw, cl', A', c', s2, by omega, by go_num, rfl, rfl, rfl, Lib.hid TM2.out.S⟩
              case measure => simp [intOf]; omega
            · have ho : ∃ a, o2 = some a := by
                cases o2 with
                | none => have := HB2.out; cases this
                | some a => exact ⟨a, rfl⟩
              obtain ⟨a, rfl⟩ := ho
              obtain ⟨⟨f, f1, f2, f3, f4, f5⟩, ak⟩ := TM2.out.tl a rfl
              have AK := Lib.hid ak
              have SZ : Hid (TrS w p nw (j + 1) cl' (n + 1) A' c' s2 wz) := Lib.hid TM2.out.S
              have RT : Hid (Rd wz 1 A9 (putAckP a).length c9 (U8 (putAckP a))) := Lib.hid TM2.out.r
              have KA := Lib.hid (ack_decode wz A9 c9 (putAckP a) RT.out AK.out.u8 (Nat.le_trans AK.out.len (by decide)))
              rw [show (tellB (some a)).length = (putAckP a).length from rfl]
              obtain ⟨L, hL⟩ : ∃ L, L = PS.clm f (cl'.map Cm.d) := ⟨_, rfl⟩
              have g1 : a.sp = gotL L := by rw [hL]; exact f1
              have g2 : a.mm = markL L := by rw [hL]; exact f2
              have g3 : a.xo = xorL L := by rw [hL]; exact f3
              have g4 : a.od = oddL L := by rw [hL]; exact f4
              have OKC := Lib.hid SZ.out.tr.ok
              have NOD := Lib.hid SZ.out.tr.nod
              have hl9 : ∀ h ∈ L, h.pn ≤ maxPn ∧ 0 ≤ h.pn ∧ isU64 h.nonce := by rw [hL]; exact PS.clm_le OKC.out
              have TRG : Hid (PS.trg a.tr L = true) := Lib.hid (by
                obtain ⟨d, d1, d2, d3⟩ := f5
                rw [hL]
                exact PS.clm_trg d1 d2 d3)
              have CNT : Hid (sz (gotL L) = L.length ∧ L.length ≤ cl'.length) := Lib.hid (by
                rw [hL]
                exact ⟨PS.clm_count OKC.out NOD.out, by have := PS.clm_len f (cl'.map Cm.d); simpa using this⟩)
              have HLL := Lib.hid hL
              have U1 : Hid (U2s (gotL L) ∧ Good (gotL L)) := Lib.hid ⟨gd_u2 (gotL_spec L (fun h hh => (hl9 h hh).1)).1 (gotL_lo (fun h hh => (hl9 h hh).1) (fun h hh => (hl9 h hh).2.1)), (gotL_spec L (fun h hh => (hl9 h hh).1)).1.good⟩
              have U2 : Hid (U2s (markL L)) := Lib.hid (gd_u2 (gotL_spec (L.filter (·.marked)) (fun h hh => (hl9 h (List.mem_filter.1 hh).1).1)).1 (gotL_lo (fun h hh => (hl9 h (List.mem_filter.1 hh).1).1) (fun h hh => (hl9 h (List.mem_filter.1 hh).1).2.1)))
              have hnm := SZ.out.tr.nm
              have hcf2 := SZ.out.cf
              have hnl : n + 1 ≤ cl'.length := by
                obtain ⟨F9, PR, -⟩ := SZ.out.ex
                have hw0 : 0 ≤ s2.waits := by rcases PR.good.wt with e | e <;> omega
                simp only [List.length_map] at hnm
                omega
              clear f1 f2 f3 f4 f5 hL hl9 ak TM2 RT hnm
              go_wp2_with fail
              refine KA.out.mono ?_
              clear KA
              unfold DecVal
              rw [AK.out.back]
              rintro e wa ⟨kk, rfl, k1, k2, k3, k4, k5, kr, ba, -⟩
              have hv : kk.val = .agg #[.slice kk.A (gotL L).length kk.c, .slice kk.B (markL L).length kk.d, .int .u64 a.tr, .int .u64 (xorL L), .bool (oddL L)] := by
                unfold Ak.val Ak.cells
                rw [k1, k2, k3, k4, k5, g1, g2, g3, g4]
              rw [hv]
              have rs := kr.rs
              have rm := kr.rm
              rw [k1, g1] at rs
              rw [k2, g2] at rm
              have E5 := box_below wa (.cells #[.slice kk.A (gotL L).length kk.c, .slice kk.B (markL L).length kk.d, .int .u64 a.tr, .int .u64 (xorL L), .bool (oddL L)] 48)
              have NA := Lib.hid (heap_alloc_new wa (.cells #[.slice kk.A (gotL L).length kk.c, .slice kk.B (markL L).length kk.d, .int .u64 a.tr, .int .u64 (xorL L), .bool (oddL L)] 48))
              have SB := Lib.hid (SZ.out.below (ba.trans (E5.mono ba.size)))
              have RS := Lib.hid (rs.below E5)
              have RM := Lib.hid (rm.below E5)
              generalize kk.A = KA at *
              generalize kk.B = KB at *
              generalize kk.c = Kc at *
              generalize kk.d = Kd at *
              generalize a.tr = tr at *
              clear hv rs rm E5 ba kr k1 k2 k3 k4 k5 g1 g2 g3 g4 SZ AK
              go_upto_region 29 with fail
              generalize hWB : (wa.alloc (.cells #[.slice KA (gotL L).length Kc, .slice KB (markL L).length Kd, .int .u64 tr, .int .u64 (xorL L), .bool (oddL L)] 48)) = wb at *
              clear hWB
              generalize wa.heap.size = ga at *
              have wN : IntKind.i64.wrap ((n : Int) + 1) = (n : Int) + 1 := IntWalk.i64_in _ (by omega)
              go_upto_block 4 with fail
              refine truL3 SB NA RS RM HLL OKC NOD U1 U2 (by omega) (Lib.hid ?_)
              intro  _ _ _ _ _ _ _ _ _ _ _ _ _ _ _ _ _ _ _ _ _ _ _ _ _ _ _ _ _ _ _ _ _ _ _ _ _ _ _ _ _ _ _ _ _ _ _ _ _ _ _ _ _ _ _ _ _ _ _ _ _ _ _ _ w9 Q9
              have hq := Q9.out
              rw [TRG.out]
              have NAr : Hid (w9.heap[ga]? = some (.cells #[.slice KA (gotL L).length Kc, .slice KB (markL L).length Kd, .int .u64 tr, .int .u64 (xorL L), .bool (oddL L)] 48 (0, 0))) := Lib.hid (hq.blk NA.out)
              have RS9 := Lib.hid (RS.out.below hq.below)
              go_upto_region 46 with fail
              refine truR46 NAr RS9 U1 (Lib.hid CNT.out.1) hnl (Lib.hid ?_)
              intro  _ _ _ _ _ _ _ _ _ _ _ _ _ _ _ _ _ _ _ _ _ _ _ _ _ _ wq QQ
              have SF := Lib.hid (SB.out.below (hq.trans QQ.out).below)
              clear hq
              go_wp2
              go_roundw
              case rel => exact ⟨j + 1, n + 1, nw, cl', A', c', s2, by omega, by go_num, rfl, by go_num, rfl, SF⟩
              case measure => simp [intOf]; omega
      · obtain rfl : j = l1.length := by omega
        go_wp2
        go_ret
        exact ⟨rfl, S.out.bel⟩

end Go.Proofs.Ytkedfipeebjcjaa
