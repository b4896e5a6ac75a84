/-
  Part of the proof of EngineRanges.
-/
import Derived.Test.YtpkbimmhimgamaaPAT
namespace Go.Proofs.Ytpkbimmhimgamaa
set_option linter.unusedSimpArgs false
set_option linter.unusedVariables false
set_option linter.unnecessarySimpa false
open Go.RowKit
theorem low_u {x n : Int} (h : isU64 x) : isU64 (lowS x n) := by
  unfold lowS
  split
  · exact ⟨by omega, by omega⟩
  · split
    · exact h
    · have hp : (0 : Int) < 2 ^ n.toNat := Int.pow_pos (by omega)
      generalize (2 : Int) ^ n.toNat = m at *
      have e := Int.mul_ediv_add_emod x m
      have h1 := Int.emod_nonneg x (show m ≠ 0 by omega)
      have h2 := Int.ediv_nonneg h.1 (show 0 ≤ m by omega)
      have h3 := Int.mul_nonneg (show 0 ≤ m by omega) h2
      have h4 := h.2
      exact ⟨h1, by omega⟩
theorem skipped_eq (s : ES) : s.skipped.c = s.c ∧ s.skipped.now = s.now ∧ s.skipped.ws = s.ws ∧ s.skipped.k = s.k + 1 ∧ s.skipped.q = s.q ∧ s.skipped.g = s.g ∧ s.skipped.pc = s.pc ∧ s.skipped.pf = s.pf := by
  unfold ES.skipped
  split <;> exact ⟨rfl, rfl, rfl, rfl, rfl, rfl, rfl, rfl⟩
theorem skipped_led {s : ES} (lg : s.l.Good) (hlim : s.l.limit = s.c.lim) (hr : 1 ≤ s.l.room) (hl : s.next ≤ s.c.lim) :
    s.skipped.l.Good ∧ 1 ≤ s.skipped.l.room ∧ (s.skipped.l.all.length : Int) ≤ s.c.lim ∧ s.skipped.l.limit = s.l.limit ∧ s.skipped.l.ring = s.l.ring := by
  unfold ES.skipped
  split
  · rename_i hc
    have e : s.l.skip.1 = { s.l with all := s.l.all ++ [{ LS.skipped with pn := s.l.all.length }] } := by
      unfold LS.skip LS.give
      rw [if_neg (by rw [hlim]; have := hc.2.2; unfold ES.next at this; omega), if_neg (by omega)]
    have hgd := lg.skip
    have hg := give_room s.l { LS.skipped with pn := s.l.all.length }
    rw [e] at hgd ⊢
    refine ⟨hgd, by have := hc.2.1; exact Int.le_trans (by omega) hg, ?_, rfl, rfl⟩
    have := hc.2.2
    unfold ES.next at *
    simp
    omega
  · exact ⟨lg, hr, hl, rfl, rfl⟩
theorem least_send (l : LS) (y : Snt) (hy : y.state = 1) (hr : 1 ≤ l.ring) : ({ l with all := l.all ++ [y] } : LS).least ≤ l.all.length := by
  generalize hm : ({ l with all := l.all ++ [y] } : LS) = m
  have h1 : m.all = l.all ++ [y] := by rw [← hm]
  have h2 : m.low = l.all.length + 1 - l.ring := by rw [← hm]; simp [LS.low]
  have h3 : m.kept.length = l.all.length + 1 - m.low := by simp [LS.kept, h1]
  apply Nat.le_of_not_lt
  intro h4
  have h5 : m.least = m.low + LS.ahead m.kept := rfl
  have h6 := LS.ahead_lt (l := m.kept) (i := m.kept.length - 1) (by omega) (by omega)
  rw [LS.kept_get] at h6
  apply h6
  have h7 : m.low + (m.kept.length - 1) = l.all.length := by omega
  simp only [h7, h1]
  rw [List.getElem_append_right (Nat.le_refl _)]
  simpa using hy
theorem snt_ok {s : ES} (g : s.Good) {a z : Nat} (hz : z ≤ 1000000) : Snt.ok ⟨0, (a : Int), ((z - a : Nat) : Int), lowS s.skipped.word s.c.bits, s.now, coinS s.skipped.drawn.word, false, 0⟩ ↔ isU64 (a : Int) := by
  have hw : isU64 s.skipped.word := by
    have e := skipped_eq s
    unfold ES.word
    split
    · exact g.ws _ (by rw [← e.2.2.1]; exact List.getElem_mem _)
    · exact mixW_u _
  constructor
  · exact fun h => h.off
  · intro ha
    have h1 := low_u (n := s.c.bits) hw
    have h2 := g.now
    constructor <;> first | exact h1 | exact h2 | exact ha | (constructor <;> simp only [] <;> omega)
theorem sent_eq {s : ES} (lg : s.l.Good) (hlim : s.l.limit = s.c.lim) (hr : 1 ≤ s.l.room) (hl : s.next ≤ s.c.lim) {a z : Nat} (ha : a < z) (hz : z ≤ 1000000) (hm : z - a ≤ 1500) :
    s.skipped.l.send (s.skipped.snt a z) = ({ s.skipped.l with all := s.skipped.l.all ++ [{ s.skipped.snt a z with state := 1, used := false, pn := s.skipped.l.all.length }] }, (s.skipped.l.all.length : Int), 0) := by
  obtain ⟨h1, h2, h3, h4, h5⟩ := skipped_led lg hlim hr hl
  unfold LS.send
  rw [if_neg (by simp only [ES.snt]; omega)]
  unfold LS.give
  rw [if_neg (by rw [h4, hlim]; omega), if_neg (by omega)]
theorem dat_ok {s : ES} (g : s.Good) (lg : s.l.Good) (qg : s.q.Good) (hr : 1 ≤ s.l.room) (hl : s.next ≤ s.c.lim) {a z : Nat} (ha : a < z) (hz : z ≤ s.q.b.length) (hf : s.q.b.length ≤ 1000000) (hm : z - a ≤ 1500) : (s.skipped.datOf a z).Ok := by
  have e := skipped_eq s
  have hs := sent_eq lg g.lim hr hl ha (Nat.le_trans hz hf) hm
  obtain ⟨h1, h2, h3, h4, h5⟩ := skipped_led lg g.lim hr hl
  have hL : ((s.skipped.q.b.drop a).take (z - a)).length = z - a := by
    rw [e.2.2.2.2.1]
    simp
    omega
  have hw : isU64 s.skipped.word := by
    unfold ES.word
    split
    · exact g.ws _ (by rw [← e.2.2.1]; exact List.getElem_mem _)
    · exact mixW_u _
  have hc := g.c.lim
  have hls := least_send s.skipped.l { s.skipped.snt a z with state := 1, used := false, pn := s.skipped.l.all.length } rfl (by have := h1.ring4; omega)
  constructor
  · show (s.skipped.l.send (s.skipped.snt a z)).2.1 ≤ _
    rw [hs]
    simp only
    omega
  · show 0 ≤ ((s.skipped.l.send (s.skipped.snt a z)).1.least : Int) ∧ ((s.skipped.l.send (s.skipped.snt a z)).1.least : Int) ≤ (s.skipped.l.send (s.skipped.snt a z)).2.1
    rw [hs]
    exact ⟨Int.natCast_nonneg _, Int.ofNat_le.2 hls⟩
  · show 0 ≤ (a : Int) ∧ (a : Int) + (((s.skipped.q.b.drop a).take (z - a)).length : Int) ≤ _
    rw [hL]
    omega
  · exact low_u hw
  · show 1 ≤ (if coinS s.skipped.drawn.word then (1 : Int) else 2) ∧ (if coinS s.skipped.drawn.word then (1 : Int) else 2) ≤ 3
    split <;> omega
  · show 1 ≤ ((s.skipped.q.b.drop a).take (z - a)).length ∧ ((s.skipped.q.b.drop a).take (z - a)).length ≤ 1500
    rw [hL]
    omega
  · intro x hx
    have hx := List.mem_of_mem_drop (List.mem_of_mem_take hx)
    rw [e.2.2.2.2.1] at hx
    exact qg.by_ x hx
set_option maxHeartbeats 16000000 in
set_option maxRecDepth 100000 in
theorem eng_send (w : World) (f : Ft) (b : Nat) (s : ES) (a z : Nat) (A : Option Addr) (c : Nat) (h : EngC w f b s) (hk : s.k + 3 < 1000000000) (hr : 1 ≤ s.l.room) (hl : s.next ≤ s.c.lim) (ha : a < z) (hz : z ≤ s.q.b.length) (hm : z - a ≤ 1500)
    (hR : Rd w 1 A (z - a) c (U8 ((s.q.b.drop a).take (z - a)))) (hA : ∀ g off, A = some ⟨g, off, none⟩ → 0 < z - a → f.tag g = 0) :
    Calls Try.prog 43 #[.pointer (some ⟨b, 0, none⟩), .agg #[.int .u64 a, .slice A (z - a) c]] w fun e w' => ∃ A' c', e = .returned (.slice A' (putDatP (s.skipped.datOf a z)).length c') ∧ Rd8 w' w.heap.size A' (putDatP (s.skipped.datOf a z)).length c' (putDatP (s.skipped.datOf a z)) ∧ EngTo w f b w' (s.skipped.sendP a z) := by
  have hf : s.q.b.length ≤ 1000000 := h.q.few
  have HS := skipped_eq s
  have HD := Lib.hid (dat_ok h.good h.l.good h.q.good hr hl ha hz hf hm)
  have HX := Lib.hid ((snt_ok h.good (a := a) (z := z) (by omega)).2 ⟨by omega, by omega⟩)
  have hL : ((s.q.b.drop a).take (z - a)).length = z - a := by simp; omega
  have q0 := box_below w (.cells #[.int .u64 a, .slice A (z - a) c] 117)
  have HB := Lib.hid (heap_alloc_new w (.cells #[.int .u64 a, .slice A (z - a) c] 117))
  have C1 := Lib.hid (h.below q0)
  have hb0 : f.tag w.heap.size = 0 := Classical.byContradiction fun hn => Nat.lt_irrefl _ (h.lt _ hn)
  have R1 := Lib.hid (hR.below q0)
  have hz1 : w.heap.size < (w.alloc (.cells #[.int .u64 a, .slice A (z - a) c] 117)).heap.size := by simp
  have HE : Hid (∀ W s', EngTo (w.alloc (.cells #[.int .u64 a, .slice A (z - a) c] 117)) f b W s' → EngTo w f b W s') := Lib.hid (fun W s' T => EngTo.trans C1.out.lt (fun _ _ => rfl) ((Chg.refl f.mut w).thenBelow q0 (Nat.le_refl _)) T)
  have hk1 : s.k + 1 < 1000000000 := by omega
  have hk2 : s.skipped.k + 1 < 1000000000 := by rw [HS.2.2.2.1]; omega
  have hk3 : s.skipped.drawn.k + 1 < 1000000000 := by show s.skipped.k + 1 + 1 < _; rw [HS.2.2.2.1]; omega
  have na : isU64 (a : Int) := ⟨by omega, by omega⟩
  have nn : isU64 ((z - a : Nat) : Int) := ⟨by omega, by omega⟩
  have hn64 : IntKind.u64.wrap ((z - a : Nat) : Int) = ((z - a : Nat) : Int) := IntWalk.u64_in _ (by omega)
  have K1 := Lib.hid (And.intro hk1 (And.intro hk2 (And.intro hk3 (And.intro na nn))))
  have KQ := Lib.hid (And.intro HS (And.intro hL hA))
  have hb0 := Lib.hid hb0
  have HW := Lib.hid hz1
  clear hk hk1 hk2 hk3 hr hl hm hR hA hf q0 h HS na nn hL hz1 ha hz
  generalize hwd : z - a = n at *
  generalize hLd : (s.q.b.drop a).take n = L at *
  have hn := KQ.out.2.1
  subst hn
  have hwd := Lib.hid hwd
  have hLd := Lib.hid hLd
  go_enter Try.func43, Try.ntmps43
  go_upto_region 1 with fail
  generalize w.alloc (.cells #[.int .u64 a, .slice A L.length c] 117) = w1 at *
  refine sdA C1.out K1.out.1 (Lib.hid ?_)
  intro  _ _ _ _ _ _ _ _ _ _ _ _ _ _ _ _ _ _ _ _ _ _ _ _ _ _ _ _ _ _ _ w2 hG
  obtain ⟨c2, q2⟩ := hG.out
  have T2 := Lib.hid (C1.out.srcTo c2 q2)
  clear c2 q2 hG
  go_upto_if 43 with fail
  go_cut [] (fun wx => Hid (EngTo w1 f b wx s.skipped))
  case first =>
    obtain ⟨d, hd⟩ : ∃ d, (skipsS s.word s.c.one && (decide (2 ≤ s.l.room) && decide ((s.l.all.length : Int) < s.c.lim))) = d := ⟨_, rfl⟩
    rw [hd]
    have hd := Lib.hid hd
    cases d
    · have e : s.skipped = s.drawn := by
        unfold ES.skipped
        rw [if_neg]
        rintro ⟨h1, h2, h3⟩
        have hd := hd.out
        unfold ES.next at h3
        rw [h1, decide_eq_true h2, decide_eq_true h3] at hd
        exact absurd hd (by decide)
      have e := Lib.hid e
      go_wp2_with fail
      go_meet
      rw [e.out]
      exact T2
    · have e : s.skipped = { s.drawn with l := s.l.skip.1 } := by
        have hd := hd.out
        simp only [Bool.and_eq_true, decide_eq_true_eq] at hd
        unfold ES.skipped
        rw [if_pos ⟨hd.1, hd.2.1, hd.2.2⟩]
      obtain ⟨f2, c2, t2, d2⟩ := T2.out
      have K := Lib.hid (led_skip w2 _ f2.p s.l c2.l)
      have HT : Hid (∀ W, LedP W (Grow (fun k => f2.tag k = 4) w2) f2.p s.l.skip.1 → Chg (fun k => f2.tag k = 4) w2 W → EngTo w1 f b W s.skipped) := Lib.hid (fun W l q => by
        rw [e]
        exact EngTo.trans c2.lt t2 d2 (c2.led l q (skip_fix s.l).1 (skip_fix s.l).2))
      have e21 : w2.cell? ⟨b, 21, none⟩ = some (.pointer (some ⟨f2.p, 0, none⟩)) := c2.c 21 rfl
      clear c2 t2 d2 T2 e
      go_wp2_with fail
      refine K.out.mono ?_
      rintro e w3 ⟨rfl, l, q⟩
      have T3 := Lib.hid (HT.out _ l q)
      clear l q HT K
      go_wp2_with fail
      go_meet
      exact T3
  case rest =>
    have T3 := Lib.hid hcut.out
    clear hcut T2
    obtain ⟨f3, c3, t3, d3⟩ := T3.out
    have C3 := Lib.hid c3
    have HT3 := Lib.hid (fun W s' (T : EngTo wc f3 b W s') => EngTo.trans c3.lt t3 d3 T)
    clear c3 t3 d3 T3
    generalize hs1 : s.skipped = s1 at *
    have e1 : s1.c = s.c := KQ.out.1.1
    have e2 : s1.now = s.now := KQ.out.1.2.1
    have HE1 := Lib.hid (And.intro e1 e2)
    clear e1 e2
    go_upto_region 3 with fail
    refine sdB C3.out K1.out.2.1 (Lib.hid ?_)
    intro  _ _ _ _ _ _ _ _ _ _ _ w4 hG
    obtain ⟨c4, q4⟩ := hG.out
    have T4 := Lib.hid (HT3.out _ _ (C3.out.srcTo c4 q4))
    clear c4 q4 hG C3 HT3
    obtain ⟨f4, c4, t4, d4⟩ := T4.out
    have HT4 := Lib.hid (fun W s' (T : EngTo w4 f4 b W s') => EngTo.trans c4.lt t4 d4 T)
    have KN := Lib.hid (eng_nextC w4 f4 b s1.drawn c4 K1.out.2.2.1)
    have KC := Lib.hid (fun w => draw_coin s1.drawn.word w)
    have C4 := Lib.hid c4
    have e19 : w4.cell? ⟨b, 19, none⟩ = some (.pointer (some ⟨f4.sb, 0, none⟩)) := c4.c 19 rfl
    clear c4 t4 d4 T4
    generalize hnn : lowS s1.word s1.c.bits = nn at *
    have hnn := Lib.hid hnn
    go_upto_region 4 with fail
    go_wp2_with fail
    refine KN.out.mono ?_
    rintro e w5 ⟨rfl, c5, q5⟩
    have C5 := Lib.hid c5
    have T5 := Lib.hid (HT4.out _ _ (C4.out.srcTo c5 q5))
    clear c5 q5 KN HT4 C4 e19
    go_wp2_with fail
    refine (KC.out _).mono ?_
    rintro e w6 ⟨rfl, q⟩
    have T6 := Lib.hid (T5.out.below q.below)
    clear q T5 KC C5
    generalize hcn : coinS s1.drawn.word = cn at *
    have hcn := Lib.hid hcn
    obtain ⟨f6, c6, t6, d6⟩ := T6.out
    have C6 := Lib.hid c6
    have B6 := Lib.hid (d6.blk HB.out (by rintro ⟨h1, h2⟩; rw [hb0.out] at h1; omega))
    have t6b : f6.tag w.heap.size = 0 := (t6 _ HW.out).trans hb0.out
    have HT6 := Lib.hid (fun W s' (T : EngTo w6 f6 b W s') => EngTo.trans c6.lt t6 d6 T)
    have y1 : w6.cell? ⟨w.heap.size, 1, none⟩ = some (.slice A L.length c) := cell_of_row _ _ 1 _ _ _ B6.out
    have t6b := Lib.hid t6b
    clear c6 t6 d6 T6
    go_upto_region 6 with fail
    clear y1
    have HX2 : Hid (Snt.ok ⟨0, (a : Int), (L.length : Int), nn, s1.now, cn, false, 0⟩) := Lib.hid (by
      have := HX.out
      rw [← hnn.out, HE1.out.1, HE1.out.2]
      exact this)
    refine sdC C6.out B6.out t6b.out HX2.out (Lib.hid ?_)
    intro  _ _ _ _ _ _ _ _ _ _ _ _ _ _ _ _ _ _ _ w7 hG
    have T7 := Lib.hid (HT6.out _ _ hG.out)
    clear hG C6 B6 HT6 t6b
    obtain ⟨u, hu⟩ : ∃ u : ES, u = { s1.drawn.drawn with l := (s1.drawn.drawn.l.send ⟨0, (a : Int), (L.length : Int), nn, s1.now, cn, false, 0⟩).1 } := ⟨_, rfl⟩
    have T7 : Hid (EngTo w1 f b w7 u) := Lib.hid (by rw [hu]; exact T7.out)
    have hu := Lib.hid hu
    obtain ⟨f7, c7, t7, d7⟩ := T7.out
    have C7 := Lib.hid c7
    have B7 := Lib.hid (d7.blk HB.out (by rintro ⟨h1, h2⟩; rw [hb0.out] at h1; omega))
    have t7b : Hid (f7.tag w.heap.size = 0) := Lib.hid ((t7 _ HW.out).trans hb0.out)
    have HT7 := Lib.hid (fun W s' (T : EngTo w7 f7 b W s') => EngTo.trans c7.lt t7 d7 T)
    clear c7 t7 d7 T7
    go_upto_region 7 with fail
    refine sdD C7.out B7.out t7b.out K1.out.2.2.2.1 K1.out.2.2.2.2 (Lib.hid ?_)
    intro  _ _ _ _ _ _ _ _ w8 hG
    have T8 := Lib.hid (HT7.out _ _ hG.out)
    clear hG C7 B7 HT7 t7b
    obtain ⟨f8, c8, t8, d8⟩ := T8.out
    have C8 := Lib.hid c8
    have HT8 := Lib.hid (fun W s' (T : EngTo w8 f8 b W s') => EngTo.trans c8.lt t8 d8 T)
    clear c8 t8 d8 T8
    go_upto_region 8 with fail
    refine sdE C8.out (Lib.hid ?_)
    intro  _ _ _ _ _ _ _ _ _ _ _ _ w9 hG
    have T9 := Lib.hid (HT8.out _ _ hG.out)
    clear hG C8 HT8
    obtain ⟨f9, c9, t9, d9⟩ := T9.out
    have T10 := Lib.hid (EngTo.trans c9.lt t9 d9 (c9.laid false))
    have e46 : w9.cell? ⟨b, 46, none⟩ = some (.bool u.pb) := c9.c 46 rfl
    have fz46 := c9.fz 46
    clear c9 t9 d9 T9
    go_upto_region 10 with fail
    generalize w9.setCell ⟨b, 46, none⟩ (.bool false) = w10 at *
    clear e46 fz46
    have hX : s1.snt a z = ⟨0, (a : Int), (L.length : Int), nn, s1.now, cn, false, 0⟩ := by
      unfold ES.snt
      rw [hnn.out, hcn.out, hwd.out]
    have HSE : Hid (EngTo w1 f b w10 (s1.sendP a z)) := Lib.hid (by
      have T := T10.out
      rw [hu.out] at T
      unfold ES.sendP
      rw [hX, hwd.out]
      exact T)
    have HDE : Hid (s1.datOf a z = ⟨(s1.drawn.drawn.l.send ⟨0, (a : Int), (L.length : Int), nn, s1.now, cn, false, 0⟩).2.1, ((s1.sendP a z).l.least : Nat), a, nn, if cn then 1 else 2, L⟩) := Lib.hid (by
      unfold ES.datOf ES.sendP
      rw [hX, hnn.out, hcn.out, hwd.out, KQ.out.1.2.2.2.2.1, hLd.out]
      rfl)
    obtain ⟨f10, c10, t10, d10⟩ := HSE.out
    have C10 := Lib.hid c10
    have B10 := Lib.hid (d10.blk HB.out (by rintro ⟨h1, h2⟩; rw [hb0.out] at h1; omega))
    have R10 := Lib.hid (R1.out.chg d10 (fun g off e h0 => by rintro ⟨h1, h2⟩; have := KQ.out.2.2 g off e; rw [this (by simpa [U8] using h0)] at h1; omega))
    have HZ : Hid (w.heap.size ≤ w10.heap.size) := Lib.hid (Nat.le_trans (Nat.le_of_lt HW.out) d10.size)
    have hd := HD.out
    rw [HDE.out] at hd
    have hd := Lib.hid hd
    clear c10 t10 d10 hX T10 HD
    refine sdF C10.out B10.out R10.out hd.out (Lib.hid ?_)
    intro A' c' _ _ _ _ _ _ _ _ _ _ _ _ _ _ _ _ _ _ _ w11 hG
    obtain ⟨r, q⟩ := hG.out
    have HF := Lib.hid (And.intro (⟨r.rd, fun k off e h0 => Nat.le_trans HZ.out (r.nw k off e h0)⟩ : Rd8 w11 w.heap.size A' _ c' _) (HE.out _ _ (HSE.out.below q)))
    clear r q hG C10 B10 R10 hd HSE
    cases cn
    · go_wp2
      go_ret
      rw [HDE.out]
      exact ⟨A', c', rfl, HF.out.1, HF.out.2⟩
    · go_wp2
      go_ret
      rw [HDE.out]
      exact ⟨A', c', rfl, HF.out.1, HF.out.2⟩
end Go.Proofs.Ytpkbimmhimgamaa
