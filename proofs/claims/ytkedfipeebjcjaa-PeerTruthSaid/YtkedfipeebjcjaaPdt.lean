/-
  A packet as bytes: the reference's PutData; what is put reads back.
-/
import Derived.Test.YtkedfipeebjcjaaGdt
import Derived.Test.YtkedfipeebjcjaaOct7
namespace Go.Proofs.Ytkedfipeebjcjaa
set_option linter.unusedSimpArgs false
set_option linter.unusedVariables false
set_option linter.unnecessarySimpa false
open Go.RowKit

def putDatP (d : DatD) : List Int := 1 :: d.ecn :: (putN d.pn ++ (putN d.least ++ (putN d.off ++ (eightN d.nonce ++ (putN d.body.length ++ d.body)))))
theorem putDat_u8 (d : DatD) (h : d.Ok) : ∀ x ∈ putDatP d, 0 ≤ x ∧ x ≤ 255 := by
  have h1 := h.le; have h2 := h.pn; have h3 := h.off; have h4 := h.len; have h5 := h.ecn
  have e1 := putN_u8 d.pn (by omega) (by omega)
  have e2 := putN_u8 d.least (by omega) (by omega)
  have e3 := putN_u8 d.off (by omega) (by omega)
  have e4 : ∀ x ∈ eightN d.nonce, 0 ≤ x ∧ x ≤ 255 := bytesN_u8 8 d.nonce
  have e5 := putN_u8 (d.body.length : Int) (by omega) (by omega)
  intro x hx
  unfold putDatP at hx
  simp only [List.mem_cons, List.mem_append] at hx
  rcases hx with rfl | rfl | hx | hx | hx | hx | hx | hx
  · omega
  · omega
  · exact e1 x hx
  · exact e2 x hx
  · exact e3 x hx
  · exact e4 x hx
  · exact e5 x hx
  · exact h.u8 x hx
theorem putDat_len (d : DatD) (h : d.Ok) : (putDatP d).length ≤ 2000 := by
  have h1 := h.le; have h2 := h.pn; have h3 := h.off; have h4 := h.len
  have e1 := putN_le d.pn (by omega) (by omega)
  have e2 := putN_le d.least (by omega) (by omega)
  have e3 := putN_le d.off (by omega) (by omega)
  have e5 := putN_le (d.body.length : Int) (by omega) (by omega)
  unfold putDatP
  simp [eightN]
  omega
/-- What is put reads back. -/
theorem datP_put (d : DatD) (h : d.Ok) : datP (putDatP d) = .ok d := by
  have h1 := h.le; have h2 := h.pn; have h3 := h.off; have h4 := h.len; have h5 := h.ecn
  have e1 := numP_putN d.pn (putN d.least ++ (putN d.off ++ (eightN d.nonce ++ (putN d.body.length ++ d.body)))) (by omega) (by omega)
  have e2 := numP_putN d.least (putN d.off ++ (eightN d.nonce ++ (putN d.body.length ++ d.body))) (by omega) (by omega)
  have e3 := numP_putN d.off (eightN d.nonce ++ (putN d.body.length ++ d.body)) (by omega) (by omega)
  have e4 := wordP_eight d.nonce (putN d.body.length ++ d.body) h.nonce
  have e5 := numP_putN (d.body.length : Int) d.body (by omega) (by omega)
  have l1 := putN_len d.pn (by omega) (by omega)
  have l2 := putN_len d.least (by omega) (by omega)
  have l3 := putN_len d.off (by omega) (by omega)
  have l5 := putN_len (d.body.length : Int) (by omega) (by omega)
  have l4 : (eightN d.nonce).length = 8 := by simp [eightN]
  unfold putDatP
  rw [datP_rest (by omega), dat1_k e1, ← l1, List.drop_left, dat2_k e2, if_neg (by omega), ← l2, List.drop_left, dat3_k e3, ← l3, List.drop_left, dat4_k e4]
  rw [← l4, List.drop_left, dat5_k e5, ← l5, List.drop_left, if_neg (by omega), if_neg (by omega), if_neg (by omega)]

/-- Where the walk stands. -/
structure PdS (w : World) (d : DatD) (A : Option Addr) (c : Nat) (v : Value) (D : List Int) (W : World) : Prop where
  own : W.ownsRow (w.heap.size + 1) 5 1 v D.length (U8 D)
  bel : Below (w.heap.size + 1) (w.alloc (.cells #[.int .u64 d.pn, .int .u64 d.least, .int .u64 d.off, .int .u64 d.nonce, .int .i64 d.ecn, .slice A d.body.length c] 30)) W
theorem PdS.t {w W : World} {d : DatD} {A : Option Addr} {c : Nat} {v : Value} {D : List Int} (h : PdS w d A c v D W) : W.heap[w.heap.size]? = some (.cells #[.int .u64 d.pn, .int .u64 d.least, .int .u64 d.off, .int .u64 d.nonce, .int .i64 d.ecn, .slice A d.body.length c] 30 (0, 0)) ∧ w.heap.size + 1 ≤ W.heap.size := by
  have e := h.bel.block w.heap.size (by omega)
  exact ⟨e.trans (heap_alloc_new w _), by have := h.bel.size; simp at this; omega⟩
theorem PdS.step {w W W' : World} {d : DatD} {A : Option Addr} {c : Nat} {v v' : Value} {D D' : List Int} (h : PdS w d A c v D W) (ho : W'.ownsRow (w.heap.size + 1) 5 1 v' D'.length (U8 D')) (hb : Below (w.heap.size + 1) W W') : PdS w d A c v' D' W' :=
  ⟨ho, h.bel.trans hb⟩

set_option maxHeartbeats 2000000 in
set_option maxRecDepth 100000 in
theorem ref_putData (w : World) (d : DatD) (A : Option Addr) (c : Nat) (hd : d.Ok) (hr : Rd w 1 A d.body.length c (U8 d.body)) :
    Calls Try.prog 11 #[.agg (d.cells A d.body.length c)] w fun e w' => ∃ A c, e = .returned (.slice A (putDatP d).length c) ∧ Rd w' 1 A (putDatP d).length c (U8 (putDatP d)) ∧ Below w.heap.size w w' ∧ (∀ b off, A = some ⟨b, off, none⟩ → w.heap.size ≤ b) := by
  obtain ⟨i0, hi0, hz0, hz1, hz2⟩ := info_parts infoByte
  have h1 := hd.le; have h2 := hd.pn; have h3 := hd.off; have h4 := hd.len; have h5 := hd.ecn
  have HN := Lib.hid hd.nonce
  have l1 := Lib.hid (putN_le d.pn (by omega) (by omega))
  have l2 := Lib.hid (putN_le d.least (by omega) (by omega))
  have l3 := Lib.hid (putN_le d.off (by omega) (by omega))
  have l5 := Lib.hid (putN_le (d.body.length : Int) (by omega) (by omega))
  have HR := Lib.hid hr
  have hcp := hr.cap
  have HE : Hid (putDatP d = [1, d.ecn] ++ putN d.pn ++ putN d.least ++ putN d.off ++ eightN d.nonce ++ putN d.body.length ++ d.body) := Lib.hid (by unfold putDatP; simp)
  have we : IntKind.u8.wrap d.ecn = d.ecn := by simp [IntKind.wrap, IntKind.bits, IntKind.signed]; omega
  have wl : IntKind.u64.wrap (d.body.length : Int) = d.body.length := IntWalk.u64_in _ (by omega)
  have P0 : Hid (PdS w d A c (.slice (some ⟨w.heap.size + 1, 0, none⟩) 2 2) [1, d.ecn] ((w.alloc (.cells #[.int .u64 d.pn, .int .u64 d.least, .int .u64 d.off, .int .u64 d.nonce, .int .i64 d.ecn, .slice A d.body.length c] 30)).alloc (.cells #[.int .u8 1, .int .u8 d.ecn] 5))) := Lib.hid (by
    have hs : (w.alloc (.cells #[.int .u64 d.pn, .int .u64 d.least, .int .u64 d.off, .int .u64 d.nonce, .int .i64 d.ecn, .slice A d.body.length c] 30)).heap.size = w.heap.size + 1 := by simp
    have := World.ownsRow_lit (base := w.heap.size + 1) (e := 5) (size := 1) (w.alloc (.cells #[.int .u64 d.pn, .int .u64 d.least, .int .u64 d.off, .int .u64 d.nonce, .int .i64 d.ecn, .slice A d.body.length c] 30)) #[.int .u8 1, .int .u8 d.ecn] 2 (by omega) (by unfold maxLen; omega) (by simp)
    rw [hs] at this
    exact ⟨this, (Below.refl _ _).alloc (by omega) _⟩)
  clear hd hr
  show Calls _ _ #[.agg #[.int .u64 d.pn, .int .u64 d.least, .int .u64 d.off, .int .u64 d.nonce, .int .i64 d.ecn, .slice A d.body.length c]] _ _
  go_enter Try.func11, Try.ntmps11
  go_upto_region 2 with fail
  generalize ((w.alloc (.cells #[.int .u64 d.pn, .int .u64 d.least, .int .u64 d.off, .int .u64 d.nonce, .int .i64 d.ecn, .slice A d.body.length c] 30)).alloc (.cells #[.int .u8 1, .int .u8 d.ecn] 5)) = w1 at *
  clear we
  have t1 := P0.out.t.1
  have y0 := cell_of_row w1 w.heap.size 0 _ _ _ t1
  have fy0 := frozen_of_row w1 w.heap.size 0 _ _ t1
  have y1 := cell_of_row w1 w.heap.size 1 _ _ _ t1
  have fy1 := frozen_of_row w1 w.heap.size 1 _ _ t1
  have y2 := cell_of_row w1 w.heap.size 2 _ _ _ t1
  have fy2 := frozen_of_row w1 w.heap.size 2 _ _ t1
  have y3 := cell_of_row w1 w.heap.size 3 _ _ _ t1
  have fy3 := frozen_of_row w1 w.heap.size 3 _ _ t1
  have y4 := cell_of_row w1 w.heap.size 4 _ _ _ t1
  have fy4 := frozen_of_row w1 w.heap.size 4 _ _ t1
  have y5 := cell_of_row w1 w.heap.size 5 _ _ _ t1
  have fy5 := frozen_of_row w1 w.heap.size 5 _ _ t1
  have hs1 := P0.out.t.2
  have R1 := Lib.hid (ref_put w1 (w.heap.size + 1) (.slice (some ⟨w.heap.size + 1, 0, none⟩) 2 2) ([1, d.ecn]) d.pn P0.out.own hs1 (by have := l1.out; have := l2.out; have := l3.out; have := l5.out; simp [eightN]; try omega) (by omega) (by omega))
  clear t1
  go_wp2_with fail
  refine R1.out.mono ?_
  rintro e w2 ⟨v2, rfl, ho, hb⟩
  have P1 : Hid (PdS w d A c v2 ([1, d.ecn] ++ putN d.pn) w2) := Lib.hid (P0.out.step ho hb)
  clear ho hb R1 y0 y1 y2 y3 y4 y5 fy0 fy1 fy2 fy3 fy4 fy5 P0 hs1
  have t2 := P1.out.t.1
  have y0 := cell_of_row w2 w.heap.size 0 _ _ _ t2
  have fy0 := frozen_of_row w2 w.heap.size 0 _ _ t2
  have y1 := cell_of_row w2 w.heap.size 1 _ _ _ t2
  have fy1 := frozen_of_row w2 w.heap.size 1 _ _ t2
  have y2 := cell_of_row w2 w.heap.size 2 _ _ _ t2
  have fy2 := frozen_of_row w2 w.heap.size 2 _ _ t2
  have y3 := cell_of_row w2 w.heap.size 3 _ _ _ t2
  have fy3 := frozen_of_row w2 w.heap.size 3 _ _ t2
  have y4 := cell_of_row w2 w.heap.size 4 _ _ _ t2
  have fy4 := frozen_of_row w2 w.heap.size 4 _ _ t2
  have y5 := cell_of_row w2 w.heap.size 5 _ _ _ t2
  have fy5 := frozen_of_row w2 w.heap.size 5 _ _ t2
  have hs2 := P1.out.t.2
  have R2 := Lib.hid (ref_put w2 (w.heap.size + 1) v2 ([1, d.ecn] ++ putN d.pn) d.least P1.out.own hs2 (by have := l1.out; have := l2.out; have := l3.out; have := l5.out; simp [eightN]; try omega) (by omega) (by omega))
  clear t2
  go_wp2_with fail
  refine R2.out.mono ?_
  rintro e w3 ⟨v3, rfl, ho, hb⟩
  have P2 : Hid (PdS w d A c v3 ([1, d.ecn] ++ putN d.pn ++ putN d.least) w3) := Lib.hid (P1.out.step ho hb)
  clear ho hb R2 y0 y1 y2 y3 y4 y5 fy0 fy1 fy2 fy3 fy4 fy5 P1 hs2
  have t3 := P2.out.t.1
  have y0 := cell_of_row w3 w.heap.size 0 _ _ _ t3
  have fy0 := frozen_of_row w3 w.heap.size 0 _ _ t3
  have y1 := cell_of_row w3 w.heap.size 1 _ _ _ t3
  have fy1 := frozen_of_row w3 w.heap.size 1 _ _ t3
  have y2 := cell_of_row w3 w.heap.size 2 _ _ _ t3
  have fy2 := frozen_of_row w3 w.heap.size 2 _ _ t3
  have y3 := cell_of_row w3 w.heap.size 3 _ _ _ t3
  have fy3 := frozen_of_row w3 w.heap.size 3 _ _ t3
  have y4 := cell_of_row w3 w.heap.size 4 _ _ _ t3
  have fy4 := frozen_of_row w3 w.heap.size 4 _ _ t3
  have y5 := cell_of_row w3 w.heap.size 5 _ _ _ t3
  have fy5 := frozen_of_row w3 w.heap.size 5 _ _ t3
  have hs3 := P2.out.t.2
  have R3 := Lib.hid (ref_put w3 (w.heap.size + 1) v3 ([1, d.ecn] ++ putN d.pn ++ putN d.least) d.off P2.out.own hs3 (by have := l1.out; have := l2.out; have := l3.out; have := l5.out; simp [eightN]; try omega) (by omega) (by omega))
  clear t3
  go_wp2_with fail
  refine R3.out.mono ?_
  rintro e w4 ⟨v4, rfl, ho, hb⟩
  have P3 : Hid (PdS w d A c v4 ([1, d.ecn] ++ putN d.pn ++ putN d.least ++ putN d.off) w4) := Lib.hid (P2.out.step ho hb)
  clear ho hb R3 y0 y1 y2 y3 y4 y5 fy0 fy1 fy2 fy3 fy4 fy5 P2 hs3
  have t4 := P3.out.t.1
  have y0 := cell_of_row w4 w.heap.size 0 _ _ _ t4
  have fy0 := frozen_of_row w4 w.heap.size 0 _ _ t4
  have y1 := cell_of_row w4 w.heap.size 1 _ _ _ t4
  have fy1 := frozen_of_row w4 w.heap.size 1 _ _ t4
  have y2 := cell_of_row w4 w.heap.size 2 _ _ _ t4
  have fy2 := frozen_of_row w4 w.heap.size 2 _ _ t4
  have y3 := cell_of_row w4 w.heap.size 3 _ _ _ t4
  have fy3 := frozen_of_row w4 w.heap.size 3 _ _ t4
  have y4 := cell_of_row w4 w.heap.size 4 _ _ _ t4
  have fy4 := frozen_of_row w4 w.heap.size 4 _ _ t4
  have y5 := cell_of_row w4 w.heap.size 5 _ _ _ t4
  have fy5 := frozen_of_row w4 w.heap.size 5 _ _ t4
  have hs4 := P3.out.t.2
  have R4 := Lib.hid (ref_eight w4 (w.heap.size + 1) v4 ([1, d.ecn] ++ putN d.pn ++ putN d.least ++ putN d.off) d.nonce P3.out.own hs4 (by have := l1.out; have := l2.out; have := l3.out; have := l5.out; simp [eightN]; try omega) HN.out)
  clear t4
  go_wp2_with fail
  refine R4.out.mono ?_
  rintro e w5 ⟨v5, rfl, ho, hb⟩
  have P4 : Hid (PdS w d A c v5 ([1, d.ecn] ++ putN d.pn ++ putN d.least ++ putN d.off ++ eightN d.nonce) w5) := Lib.hid (P3.out.step ho hb)
  clear ho hb R4 y0 y1 y2 y3 y4 y5 fy0 fy1 fy2 fy3 fy4 fy5 P3 hs4
  have t5 := P4.out.t.1
  have y0 := cell_of_row w5 w.heap.size 0 _ _ _ t5
  have fy0 := frozen_of_row w5 w.heap.size 0 _ _ t5
  have y1 := cell_of_row w5 w.heap.size 1 _ _ _ t5
  have fy1 := frozen_of_row w5 w.heap.size 1 _ _ t5
  have y2 := cell_of_row w5 w.heap.size 2 _ _ _ t5
  have fy2 := frozen_of_row w5 w.heap.size 2 _ _ t5
  have y3 := cell_of_row w5 w.heap.size 3 _ _ _ t5
  have fy3 := frozen_of_row w5 w.heap.size 3 _ _ t5
  have y4 := cell_of_row w5 w.heap.size 4 _ _ _ t5
  have fy4 := frozen_of_row w5 w.heap.size 4 _ _ t5
  have y5 := cell_of_row w5 w.heap.size 5 _ _ _ t5
  have fy5 := frozen_of_row w5 w.heap.size 5 _ _ t5
  have hs5 := P4.out.t.2
  have R5 := Lib.hid (ref_put w5 (w.heap.size + 1) v5 ([1, d.ecn] ++ putN d.pn ++ putN d.least ++ putN d.off ++ eightN d.nonce) (d.body.length : Int) P4.out.own hs5 (by have := l1.out; have := l2.out; have := l3.out; have := l5.out; simp [eightN]; try omega) (by omega) (by omega))
  clear t5
  go_wp2_with fail
  refine R5.out.mono ?_
  rintro e w6 ⟨v6, rfl, ho, hb⟩
  have P5 : Hid (PdS w d A c v6 ([1, d.ecn] ++ putN d.pn ++ putN d.least ++ putN d.off ++ eightN d.nonce ++ putN (d.body.length : Int)) w6) := Lib.hid (P4.out.step ho hb)
  clear ho hb R5 y0 y1 y2 y3 y4 y5 fy0 fy1 fy2 fy3 fy4 fy5 P4 hs5
  have t6 := P5.out.t.1
  have y0 := cell_of_row w6 w.heap.size 0 _ _ _ t6
  have fy0 := frozen_of_row w6 w.heap.size 0 _ _ t6
  have y1 := cell_of_row w6 w.heap.size 1 _ _ _ t6
  have fy1 := frozen_of_row w6 w.heap.size 1 _ _ t6
  have y2 := cell_of_row w6 w.heap.size 2 _ _ _ t6
  have fy2 := frozen_of_row w6 w.heap.size 2 _ _ t6
  have y3 := cell_of_row w6 w.heap.size 3 _ _ _ t6
  have fy3 := frozen_of_row w6 w.heap.size 3 _ _ t6
  have y4 := cell_of_row w6 w.heap.size 4 _ _ _ t6
  have fy4 := frozen_of_row w6 w.heap.size 4 _ _ t6
  have y5 := cell_of_row w6 w.heap.size 5 _ _ _ t6
  have fy5 := frozen_of_row w6 w.heap.size 5 _ _ t6
  have hgs := P5.out.t.2
  have RB : Hid (Rd w6 1 A d.body.length c (U8 d.body)) := Lib.hid ((HR.out.below (box_below w (.cells #[.int .u64 d.pn, .int .u64 d.least, .int .u64 d.off, .int .u64 d.nonce, .int .i64 d.ecn, .slice A d.body.length c] 30))).chg (chg_base P5.out.bel) (fun b off e hn => by have := HR.out.lt (by omega) hn b off e; omega))
  have hln : ([1, d.ecn] ++ putN d.pn ++ putN d.least ++ putN d.off ++ eightN d.nonce ++ putN (d.body.length : Int)).length ≤ 100000 := by have := l1.out; have := l2.out; have := l3.out; have := l5.out; simp [eightN]; omega
  clear t6
  go_wp2_with (
    at_builtin
    refine wpList_append_rd _ rfl (.tmp 30) (.tmp 32) 22 rfl (w.heap.size + 1) 5 i0 _ 1 1 Try.underlying22 hi0 hz0 hz1 hz2 rfl (by decide) v6 ([1, d.ecn] ++ putN d.pn ++ putN d.least ++ putN d.off ++ eightN d.nonce ++ putN (d.body.length : Int)).length (U8 ([1, d.ecn] ++ putN d.pn ++ putN d.least ++ putN d.off ++ eightN d.nonce ++ putN (d.body.length : Int))) rfl P5.out.own A d.body.length c (U8 d.body) rfl RB.out (U8_one _) (by unfold maxLen; omega) (by omega) hgs ?_
    intro v7 w7 hown7 hg7 _
    have HB7 : Hid (Below (w.heap.size + 1) w6 w7) := Lib.hid ((Below.refl _ _).grown hg7 hgs (fun g hg => (P5.out.own.lt g hg).1))
    rw [← U8_append, ← List.length_append, ← HE.out] at hown7
    obtain ⟨A7, c7, hv, hA7⟩ := own_slice hown7
    subst hv
    have HO := Lib.hid hown7
    have HA := Lib.hid hA7
    clear hown7 hg7 hA7)
  go_ret
  have hb := (P5.out.bel.trans HB7.out)
  refine ⟨A7, c7, rfl, Rd.of_own HO.out, (box_below w (.cells #[.int .u64 d.pn, .int .u64 d.least, .int .u64 d.off, .int .u64 d.nonce, .int .i64 d.ecn, .slice A d.body.length c] 30)).trans (hb.mono (by omega)), fun b off e => ?_⟩
  have hpos : 0 < (putDatP d).length := by unfold putDatP; simp
  obtain ⟨g, hg, hge⟩ := HA.out hpos
  rw [e] at hg
  injection hg with hg
  injection hg with hg1 hg2
  omega

end Go.Proofs.Ytkedfipeebjcjaa
