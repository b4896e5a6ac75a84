/-
  The walk of GuardEnds.
-/
import Derived.Test.YtelaimephejkkaaGreatGuEnR
namespace Go.Proofs.YtelaimephejkkaaGreat
set_option linter.unusedSimpArgs false
set_option linter.unusedVariables false
set_option linter.unnecessarySimpa false
open Go.RowKit

/-- What a fresh guard says of one acknowledgment. -/
theorem ends_out {s : LS} {a : Ak} {w : World} {X : Int} (hA : Asked a) (hr : AkR w a) (hX : isU64 X) (most every now : Int) :
    (((GS.new most every).take s (putAckP ⟨a.sp, a.mm, a.tr, X, a.od⟩) now).g.over = false ∧ (((GS.new most every).take s (putAckP ⟨a.sp, a.mm, a.tr, X, a.od⟩) now).v.kind == 3) = false) ∨
    (((GS.new most every).take s (putAckP ⟨a.sp, a.mm, a.tr, X, a.od⟩) now).g.over = true ∧ ((GS.new most every).take s (putAckP ⟨a.sp, a.mm, a.tr, X, a.od⟩) now).v.kind = 3 ∧ ∃ u,
      ((GS.new most every).take s (putAckP ⟨a.sp, a.mm, a.tr, X, a.od⟩) now).g.ev = ⟨now, ((GS.new most every).take s (putAckP ⟨a.sp, a.mm, a.tr, X, a.od⟩) now).v.pn, u, ((GS.new most every).take s (putAckP ⟨a.sp, a.mm, a.tr, X, a.od⟩) now).v.why, ⟨a.sp, a.mm, a.tr, X, a.od⟩⟩) := by
  obtain ⟨g1, g2, p1, p2, l1, l2, l3, hi⟩ := hA.parts hr
  have e := ackP_put ⟨a.sp, a.mm, a.tr, X, a.od⟩ g1 g2 p1 p2 l1 l2 l3 hi hr.ut hX
  rcases GS.take_cases (GS.new most every) s (putAckP ⟨a.sp, a.mm, a.tr, X, a.od⟩) now with ⟨h, -⟩ | ⟨-, q⟩ | ⟨-, d, hd, ⟨y, -, -, q⟩ | ⟨x, y, z, -, -, -, q⟩ | ⟨x, -, -, q⟩⟩
  · cases h
  · rw [q]; exact .inl ⟨rfl, rfl⟩
  · rw [q]; exact .inl ⟨rfl, rfl⟩
  · rw [e] at hd
    injection hd with hd
    subst hd
    rw [q]
    exact .inr ⟨rfl, rfl, x, rfl⟩
  · rw [q]; exact .inl ⟨rfl, rfl⟩
/-- An ended guard, some frames later. -/
structure LateN (g0 g : GS) (j : Nat) : Prop where
  over : g.over = true
  ev : g.ev = g0.ev
  mal : g.mal = g0.mal
  drp : g.drp = g0.drp
  tak : g.tak = g0.tak
  cha : g.cha = g0.cha
  lat : g.lat = IntKind.u64.wrap (g0.lat + j)
theorem LateN.zero {g : GS} (G : g.Good) (h : g.over = true) : LateN g g 0 := ⟨h, rfl, rfl, rfl, rfl, rfl, by have := G.lat; unfold isU64 at this; show _ = (g.lat + 0) % 18446744073709551616; omega⟩
theorem LateN.next {g0 g : GS} {j : Nat} (h : LateN g0 g j) (s : LS) (f : List Int) (now : Int) : LateN g0 (g.take s f now).g (j + 1) ∧ (g.take s f now).s = s ∧ (g.take s f now).v = ⟨1, 8, 0, false⟩ := by
  obtain ⟨e1, e2, e3⟩ := take_over h.over s f now
  refine ⟨?_, e2, e3⟩
  rw [e1]
  refine ⟨h.over, h.ev, h.mal, h.drp, h.tak, h.cha, ?_⟩
  have hl := h.lat
  show (g.lat + 1) % 18446744073709551616 = (g0.lat + ((j + 1 : Nat) : Int)) % 18446744073709551616
  have hl' : g.lat = (g0.lat + j) % 18446744073709551616 := hl
  omega
set_option maxHeartbeats 16000000 in
set_option maxRecDepth 100000 in
theorem guardEnds_any (ring : Int) (A1 : Option Addr) (n1 c1 : Nat) (l1 : List Dd) (k : W4) (x : Int) (A4 : Option Addr) (n4 c4 : Nat) (l4 : List Sh) (w0 : World) (hr : Rd w0 3 A1 n1 c1 (Ds l1)) (hok : ∀ d ∈ l1, d.ok) (hk : k.ok) (hx : isU64 x) (hsh : Shots w0 A4 n4 c4 l4) (hring : 0 ≤ ring ∧ ring ≤ 255) :
    Calls Tryz.prog 5 #[.int .u8 ring, .slice A1 n1 c1, k.val, .int .u64 x, .slice A4 n4 c4] w0 fun e w' => e = .returned (.bool true) ∧ Below w0.heap.size w0 w' := by
  obtain ⟨r0, r1⟩ := hring
  have hct := hsh.count
  subst hct
  have hcap := hsh.rd.cap
  have hmax := hsh.rd.max
  unfold maxLen at hmax
  have KO := Lib.hid hk
  have XU := Lib.hid hx
  obtain ⟨ka, kb, kc, kd⟩ := k
  unfold W4.val W4.cells
  simp only
  have e0 := box_below w0 (.cells #[.int .u16 ka, .int .u16 kb, .int .u16 kc, .int .u16 kd] 40)
  have E0 := Lib.hid e0
  have Q0 := Lib.hid (heap_alloc_new w0 (.cells #[.int .u16 ka, .int .u16 kb, .int .u16 kc, .int .u16 kd] 40))
  have HR := Lib.hid (hr.below e0)
  have SH := Lib.hid (hsh.below e0)
  have OK := Lib.hid hok
  have s0 : (w0.alloc (.cells #[.int .u16 ka, .int .u16 kb, .int .u16 kc, .int .u16 kd] 40)).heap.size = w0.heap.size + 1 := by simp
  clear hr hok hk hx hsh e0
  go_enter Tryz.func5, Tryz.ntmps5
  go_upto_region 1 with fail
  generalize (w0.alloc (.cells #[.int .u16 ka, .int .u16 kb, .int .u16 kc, .int .u16 kd] 40)) = w at *
  have K1 := Lib.hid (make_any (ring % 40) 4611686018427387903 A1 n1 c1 l1 w HR.out OK.out ⟨by omega, by omega⟩)
  go_wp2_with fail
  refine K1.out.mono ?_
  rintro e w1 ⟨p, r, s, rfl, hT, hb1, hg1, hg2, hg3, hg4, hg5⟩
  have e2 := box_below w1 (.cells (P2 p r) 28)
  have T2 := Lib.hid (heap_alloc_new w1 (.cells (P2 p r) 28))
  have TW2 : Hid (Two (w1.alloc (.cells (P2 p r) 28)) (fun j => w.heap.size ≤ j ∧ j < w1.heap.size) p r s) := Lib.hid ((hT.sub fun k hk h => ⟨h, hk⟩).below e2)
  have B2 := Lib.hid (hb1.trans (e2.mono hb1.size))
  have hs1 := hb1.size
  have G3 := Lib.hid hg3
  clear K1 hT hb1 e2 hg1 hg2 hg3 hg4 hg5
  go_upto_region 2 with fail
  have hP2 : w1.alloc (.cells #[.pointer (some ⟨p, 0, none⟩), .pointer (some ⟨r, 0, none⟩)] 28) = w1.alloc (.cells (P2 p r) 28) := rfl
  rw [hP2]
  clear hP2
  have s2 : (w1.alloc (.cells (P2 p r) 28)).heap.size = w1.heap.size + 1 := by simp
  generalize (w1.alloc (.cells (P2 p r) 28)) = w2 at *
  generalize w1.heap.size = h1 at *
  have K3 := Lib.hid (gua_new 3 50 w2 ⟨by omega, by omega⟩)
  go_wp2_with fail
  refine K3.out.mono ?_
  rintro e w3 ⟨b, rfl, hGP, hb3⟩
  have hs3 := hb3.size
  obtain ⟨N, M, s3'⟩ := Solo.start TW2.out T2.out B2.out hs1 s2 hGP hb3 G3.out
  have S3 := Lib.hid s3'
  clear s3' K3 hGP hb3 TW2 T2 B2 G3
  go_wp2_with fail
  refine (guardAlive w3).mono ?_
  rintro e w6 ⟨rfl, b6⟩
  have S6 := Lib.hid (S3.out.below b6)
  clear b6 S3
  by_cases h30 : 30 < l4.length
  · have hd : decide ((30 : Int) < (l4.length : Int)) = true := decide_eq_true (by omega)
    go_wp2_with fail
    refine (guardAlive w6).mono ?_
    rintro e w7 ⟨rfl, b7⟩
    go_wp2
    go_ret
    exact ⟨rfl, E0.out.trans ((S6.out.bel.trans (b7.mono S6.out.bel.size)).mono (by omega))⟩
  have hd : decide ((30 : Int) < (l4.length : Int)) = false := decide_eq_false (by omega)
  have Q6 := Lib.hid ((S6.out.bel.block _ (lt_of_block Q0.out)).trans Q0.out)
  clear Q0
  have y0 : w6.cell? ⟨h1, 0, none⟩ = some (.pointer (some ⟨p, 0, none⟩)) := cell_of_row w6 h1 0 _ _ _ S6.out.t1
  have y1 : w6.cell? ⟨h1, 1, none⟩ = some (.pointer (some ⟨r, 0, none⟩)) := cell_of_row w6 h1 1 _ _ _ S6.out.t1
  have u0 := cell_of_row w6 w0.heap.size 0 _ _ _ Q6.out
  have u1 := cell_of_row w6 w0.heap.size 1 _ _ _ Q6.out
  have u2 := cell_of_row w6 w0.heap.size 2 _ _ _ Q6.out
  have u3 := cell_of_row w6 w0.heap.size 3 _ _ _ Q6.out
  go_wp2_with fail
  refine (ask_any w6 _ p r s ⟨ka, kb, kc, kd⟩ 0 S6.out.R S6.out.len KO.out ⟨by omega, by omega⟩).mono ?_
  rintro e w7 ⟨a, rfl, ha, hm, hga, b7⟩
  clear y0 y1 u0 u1 u2 u3 Q6
  have PA := Lib.hid (hm.parts ha)
  have AM := Lib.hid hm
  obtain ⟨A, ca, B, da, sp, mm, tr, xo, od⟩ := a
  unfold Ak.val Ak.cells
  simp only at PA hga ⊢
  have e8 := box_below w7 (.cells #[.slice A sp.length ca, .slice B mm.length da, .int .u64 tr, .int .u64 xo, .bool od] 56)
  have n8 := heap_alloc_new w7 (.cells #[.slice A sp.length ca, .slice B mm.length da, .int .u64 tr, .int .u64 xo, .bool od] 56)
  have b68 := b7.trans (e8.mono b7.size)
  have S8 := Lib.hid (S6.out.grow b68)
  have A8 := Lib.hid (ha.below e8)
  have N8 := Lib.hid n8
  have s7 := b7.size
  have s8 : (w7.alloc (.cells #[.slice A sp.length ca, .slice B mm.length da, .int .u64 tr, .int .u64 xo, .bool od] 56)).heap.size = w7.heap.size + 1 := by simp
  have s6 : h1 < w6.heap.size := lt_of_block S6.out.t1
  have N6 : Hid (∀ k, M k → k < w6.heap.size) := Lib.hid (fun k hk => S6.out.nl k (S6.out.mn k hk).1)
  have w06 := S6.out.bel.size
  have LA : Hid (∀ bk off, A = some ⟨bk, off, none⟩ → 0 < sp.length → w6.heap.size ≤ bk ∧ bk < w7.heap.size) := Lib.hid (fun bk off e hn => ⟨hga bk off e, ha.rs.lt (by omega) hn bk off e⟩)
  clear e8 n8 b68 S6 ha hga b7 hm
  go_upto_region 6 with fail
  generalize (w7.alloc (.cells #[.slice A sp.length ca, .slice B mm.length da, .int .u64 tr, .int .u64 xo, .bool od] 56)) = w8 at *
  generalize w7.heap.size = h2 at *
  have MM : Hid (mm = []) := Lib.hid AM.out.mm
  have c11 := (Chg.refl (fun k => k = h2) w8).setCell (p := ⟨h2, 3, none⟩) (.inl rfl) (.int .u64 x)
  have n11 := fill_list h2 56 [.int .u64 x] w8 3 [.slice A sp.length ca, .slice B mm.length da, .int .u64 tr, .int .u64 xo, .bool od] N8.out (by simp)
  simp only [fillFrom] at n11
  obtain ⟨NN, hNN, sn⟩ : ∃ NN : Nat → Prop, (∀ k, NN k ↔ N k ∨ (w6.heap.size ≤ k ∧ k < w8.heap.size)) ∧ Solo w NN M h1 p r b s s (GS.new 3 50) (w8.setCell ⟨h2, 3, none⟩ (.int .u64 x)) :=
    ⟨_, fun _ => Iff.rfl, S8.out.chg c11 (fun k hk e => by have e : k = h2 := e; subst e; exact ⟨.inr ⟨by omega, by omega⟩, by omega, by omega, fun hm => by have := N6.out _ hm; omega⟩)⟩
  have n11 : (w8.setCell ⟨h2, 3, none⟩ (.int .u64 x)).heap[h2]? = some (.cells #[.slice A sp.length ca, .slice B mm.length da, .int .u64 tr, .int .u64 x, .bool od] 56 (0, 0)) := n11
  have S := Lib.hid sn
  have A11 : Hid (AkR _ ⟨A, ca, B, da, sp, mm, tr, x, od⟩) := Lib.hid ⟨A8.out.rs.chg c11 (fun bk off e hn h => by have := LA.out bk off e hn; have h : bk = h2 := h; omega), A8.out.rm.chg c11 (fun bk off e hn h => by rw [MM.out] at hn; simp at hn), A8.out.us, A8.out.um, A8.out.ut, XU.out⟩
  have N11 := Lib.hid n11
  have HN := Lib.hid hNN
  have N2 : Hid (NN h2) := Lib.hid ((hNN h2).2 (.inr ⟨by omega, by omega⟩))
  have NLA : Hid (∀ bk off, A = some ⟨bk, off, none⟩ → 0 < sp.length → NN bk) := Lib.hid (fun bk off e hn => (hNN bk).2 (.inr (by have := LA.out bk off e hn; exact ⟨by omega, by omega⟩)))
  have S8h := Lib.hid s8
  have v0 := cell_of_row w8 h2 0 _ _ _ N8.out
  have fv0 := frozen_of_row w8 h2 0 _ _ N8.out
  have v1 := cell_of_row w8 h2 1 _ _ _ N8.out
  have fv1 := frozen_of_row w8 h2 1 _ _ N8.out
  have v2 := cell_of_row w8 h2 2 _ _ _ N8.out
  have fv2 := frozen_of_row w8 h2 2 _ _ N8.out
  have v3 := cell_of_row w8 h2 3 _ _ _ N8.out
  have fv3 := frozen_of_row w8 h2 3 _ _ N8.out
  have v4 := cell_of_row w8 h2 4 _ _ _ N8.out
  have fv4 := frozen_of_row w8 h2 4 _ _ N8.out
  clear c11 n11 S8 A8 sn hNN s8
  go_upto_region 7 with fail
  generalize (w8.setCell ⟨h2, 3, none⟩ (.int .u64 x)) = wr at *
  clear v0 v1 v2 v3 v4 fv0 fv1 fv2 fv3 fv4 N8
  have EO := Lib.hid (ends_out (s := s) (a := ⟨A, ca, B, da, sp, mm, tr, x, od⟩) ⟨AM.out.good, AM.out.one, AM.out.two, AM.out.mm⟩ A11.out XU.out 3 50 7)
  have PU := Lib.hid (putAck_u8 (a := ⟨sp, mm, tr, x, od⟩) PA.out.1 PA.out.2.1 PA.out.2.2.1 PA.out.2.2.2.1 PA.out.2.2.2.2.2.1 PA.out.2.2.2.2.2.2.1)
  simp only at EO
  have KF : Hid (∀ (W : World), Below wr.heap.size wr W → Calls Tryz.prog 22 #[.agg #[.slice A sp.length ca, .slice B mm.length da, .int .u64 tr, .int .u64 x, .bool od]] W fun e w' => ∃ A' c', e = .returned (.slice A' (putAckP ⟨sp, mm, tr, x, od⟩).length c') ∧ Rd w' 1 A' (putAckP ⟨sp, mm, tr, x, od⟩).length c' (U8 (putAckP ⟨sp, mm, tr, x, od⟩)) ∧ (∀ y ∈ putAckP ⟨sp, mm, tr, x, od⟩, 0 ≤ y ∧ y ≤ 255) ∧ (putAckP ⟨sp, mm, tr, x, od⟩).length ≤ 70368744177664 ∧ Below W.heap.size W w') := Lib.hid (fun W q => by
    refine (ref_putAck W _ (A11.out.below q) PA.out.1 PA.out.2.1 PA.out.2.2.1 PA.out.2.2.2.1 PA.out.2.2.2.2.2.1 PA.out.2.2.2.2.2.2.1).mono ?_
    rintro e w' ⟨A', c', rfl, h1, h2, -⟩
    exact ⟨A', c', rfl, h1, PU.out.1, Nat.le_trans PU.out.2 (by omega), h2⟩)
  obtain ⟨fr, hfr⟩ : ∃ fr, fr = putAckP ⟨sp, mm, tr, x, od⟩ := ⟨_, rfl⟩
  rw [← hfr] at KF PU EO
  clear hfr
  have gK : Hid (GpK h1 p h2 (.slice A sp.length ca) (.slice B mm.length da) (.int .u64 tr) (.int .u64 x) (.bool od) wr) := Lib.hid ⟨cell_of_row wr h1 0 _ _ _ S.out.t1, cell_of_row wr h2 0 _ _ _ N11.out, cell_of_row wr h2 1 _ _ _ N11.out, cell_of_row wr h2 2 _ _ _ N11.out, cell_of_row wr h2 3 _ _ _ N11.out, cell_of_row wr h2 4 _ _ _ N11.out⟩
  have zwr : w6.heap.size ≤ wr.heap.size := by have := S.out.nl h2 N2.out; omega
  refine guardEndsReg S KF gK (Lib.hid (lt_of_block N11.out)) N2 ?_
  intro hV hA a2 x64 x65 x66 x67 x68 x69 x63 x70 x71 wc hE
  generalize (GS.new 3 50).take s fr 7 = o at *
  have S9 := Lib.hid hE.out.so2
  have TV := Lib.hid hE.out.tv
  have CE := Lib.hid hE.out.chg
  have zc : w6.heap.size ≤ wc.heap.size := by have := CE.out.size; omega
  have h2c : h2 < wc.heap.size := by have := CE.out.size; have := S.out.nl h2 N2.out; omega
  have hVc : hV < wc.heap.size := lt_of_block TV.out
  have A12 := Lib.hid (A11.out.chg CE.out (fun bk off e hn h => h (NLA.out bk off e hn)) (fun bk off e hn h => by have hn : 0 < mm.length := hn; rw [MM.out] at hn; simp at hn))
  have N12 := Lib.hid (CE.out.blk N11.out (fun h => h N2.out))
  have K8 := Lib.hid (alc_evidence _ p b o.s o.g wc S9.out.al)
  unfold evRow at K8
  have v0 := cell_of_row wc hV 0 _ _ _ TV.out
  have v1 := cell_of_row wc hV 1 _ _ _ TV.out
  have v2 := cell_of_row wc hV 2 _ _ _ TV.out
  have v3 := cell_of_row wc hV 3 _ _ _ TV.out
  clear hE gK KF A11 N11 PU
  rcases EO.out with ⟨ov, kd⟩ | ⟨ov, kd, u, ev⟩
  · rw [ov] at K8
    clear ov
    have lv := lt_of_block TV.out
    go_wp2_with fail
    refine K8.out.mono ?_
    rintro e w9 ⟨a4, rfl, -, -, b9⟩
    have v0 := (b9.cell (p := ⟨hV, 0, none⟩) (block_lt_of_cell v0)).trans v0
    have hkd : decide (o.v.kind = 3) = false := by simpa using kd
    have lv := block_lt_of_cell v0
    simp only at lv
    go_wp2
    go_ret
    exact ⟨rfl, E0.out.trans ((S9.out.bel.trans ((b9.trans ((box_below w9 _).mono b9.size)).mono S9.out.bel.size)).mono (by omega))⟩
  rw [ov] at K8
  have OV := Lib.hid ov
  have EVV := Lib.hid ev
  have KD := Lib.hid kd
  clear ov ev kd EO
  go_wp2_with fail
  refine K8.out.mono ?_
  rintro e w9 ⟨a4, rfl, i4, hA4, b9⟩
  have e10 := box_below w9 (.cells #[.int .u64 o.g.ev.at_, .int .u64 o.g.ev.pn, .int .u64 o.g.ev.used, .int .i64 o.g.ev.why, .slice a4.A a4.sp.length a4.c, .slice a4.B a4.mm.length a4.d, .int .u64 a4.tr, .int .u64 a4.xo, .bool a4.od] 65)
  have n10 := heap_alloc_new w9 (.cells #[.int .u64 o.g.ev.at_, .int .u64 o.g.ev.pn, .int .u64 o.g.ev.used, .int .i64 o.g.ev.why, .slice a4.A a4.sp.length a4.c, .slice a4.B a4.mm.length a4.d, .int .u64 a4.tr, .int .u64 a4.xo, .bool a4.od] 65)
  have b10 := b9.trans (e10.mono b9.size)
  have z9 := b9.size
  have z10 : (w9.alloc (.cells #[.int .u64 o.g.ev.at_, .int .u64 o.g.ev.pn, .int .u64 o.g.ev.used, .int .i64 o.g.ev.why, .slice a4.A a4.sp.length a4.c, .slice a4.B a4.mm.length a4.d, .int .u64 a4.tr, .int .u64 a4.xo, .bool a4.od] 65)).heap.size = w9.heap.size + 1 := by simp
  have S10 := Lib.hid (S9.out.grow b10)
  have A13 := Lib.hid (A12.out.below b10)
  have N13 := Lib.hid ((b10.block _ (lt_of_block N12.out)).trans N12.out)
  have TV2 := Lib.hid ((b10.block _ (lt_of_block TV.out)).trans TV.out)
  have EA := Lib.hid (hA4.below e10)
  have EN := Lib.hid n10
  have I4 := Lib.hid i4
  have LE : Hid (∀ bk off, (a4.A = some ⟨bk, off, none⟩ ∧ 0 < a4.sp.length) ∨ (a4.B = some ⟨bk, off, none⟩ ∧ 0 < a4.mm.length) → wc.heap.size ≤ bk ∧ bk < w9.heap.size) := Lib.hid (fun bk off e => e.elim (fun e => ⟨hA4.eA bk off e.1 e.2, hA4.r.rs.lt (by omega) e.2 bk off e.1⟩) (fun e => ⟨hA4.eB bk off e.1 e.2, hA4.r.rm.lt (by omega) e.2 bk off e.1⟩))
  clear K8 v0 v1 v2 v3 e10 n10 b10 b9 hA4 i4 S9 A12 N12 TV
  go_upto_region 9 with fail
  generalize w9.alloc (.cells #[.int .u64 o.g.ev.at_, .int .u64 o.g.ev.pn, .int .u64 o.g.ev.used, .int .i64 o.g.ev.why, .slice a4.A a4.sp.length a4.c, .slice a4.B a4.mm.length a4.d, .int .u64 a4.tr, .int .u64 a4.xo, .bool a4.od] 65) = w10 at *
  generalize w9.heap.size = h9 at *
  have v0 := cell_of_row w10 hV 0 _ _ _ TV2.out
  rw [KD.out] at v0
  have y0 : w10.cell? ⟨h1, 0, none⟩ = some (.pointer (some ⟨p, 0, none⟩)) := cell_of_row w10 h1 0 _ _ _ S10.out.t1
  obtain ⟨T, F, E, hL, -⟩ := S10.out.al.ex
  have K13 := Lib.hid (led_all w10 T p o.s hL)
  clear hL
  go_wp2_with fail
  refine K13.out.mono ?_
  rintro e w11 ⟨As, cs, rfl, ho, b11⟩
  have K14 := Lib.hid (alc_counts _ p b o.s o.g w11 (S10.out.below b11).al)
  have RA := Lib.hid (Rd.of_own ho)
  have NA := Lib.hid (own_new ho)
  have B11 := Lib.hid b11
  clear K13 y0 v0 ho b11
  unfold ctsRow at K14
  go_wp2_with fail
  refine K14.out.mono ?_
  rintro e w12 ⟨rfl, b12⟩
  have e13 := box_below w12 (.cells #[.int .u64 o.g.mal, .int .u64 o.g.drp, .int .u64 o.g.tak, .int .u64 o.g.cha, .int .u64 o.g.lat] 52)
  have n13 := heap_alloc_new w12 (.cells #[.int .u64 o.g.mal, .int .u64 o.g.drp, .int .u64 o.g.tak, .int .u64 o.g.cha, .int .u64 o.g.lat] 52)
  have z11 := B11.out.size
  have z12 := b12.size
  have z13 : (w12.alloc (.cells #[.int .u64 o.g.mal, .int .u64 o.g.drp, .int .u64 o.g.tak, .int .u64 o.g.cha, .int .u64 o.g.lat] 52)).heap.size = w12.heap.size + 1 := by simp
  have b13 := (B11.out.trans (b12.mono z11)).trans (e13.mono (by omega))
  have LAs : Hid (∀ bk off, As = some ⟨bk, off, none⟩ → 0 < o.s.kept.length → bk < w12.heap.size) := Lib.hid (fun bk off e hn => by have := RA.out.lt (by omega) hn bk off e; omega)
  have RA := Lib.hid ((RA.out.below b12).below e13)
  have Z10 := Lib.hid z10
  obtain ⟨NZ, hNZ, sz⟩ : ∃ NZ : Nat → Prop, (∀ k, NZ k ↔ ((NN k ∨ k = hV ∨ k = hA) ∨ wc.heap.size ≤ k ∧ k < w10.heap.size) ∨ (w10.heap.size ≤ k ∧ k < (w12.alloc (.cells #[.int .u64 o.g.mal, .int .u64 o.g.drp, .int .u64 o.g.tak, .int .u64 o.g.cha, .int .u64 o.g.lat] 52)).heap.size)) ∧ Solo w NZ M h1 p r b o.s s o.g (w12.alloc (.cells #[.int .u64 o.g.mal, .int .u64 o.g.drp, .int .u64 o.g.tak, .int .u64 o.g.cha, .int .u64 o.g.lat] 52)) := ⟨_, fun _ => Iff.rfl, S10.out.grow b13⟩
  have SL := Lib.hid sz
  have HNZ := Lib.hid hNZ
  have CN := Lib.hid n13
  have A14 := Lib.hid (A13.out.below b13)
  have N14 := Lib.hid ((b13.block _ (lt_of_block N13.out)).trans N13.out)
  have TV3 := Lib.hid ((b13.block _ (lt_of_block TV2.out)).trans TV2.out)
  have EA2 := Lib.hid (EA.out.below b13)
  have EN2 := Lib.hid ((b13.block _ (lt_of_block EN.out)).trans EN.out)
  have GG := Lib.hid SL.out.al.good.2
  clear K14 sz hNZ n13 e13 b13 b12 S10 A13 N13 TV2 EA EN B11 z10
  go_upto_region 14 with fail
  generalize w12.alloc (.cells #[.int .u64 o.g.mal, .int .u64 o.g.drp, .int .u64 o.g.tak, .int .u64 o.g.cha, .int .u64 o.g.lat] 52) = wL at *
  generalize w12.heap.size = hn at *
  have Z13 := Lib.hid z13
  clear z13
  go_wp2_with fail
  go_loopw [21] (fun iv wz => ∃ (j : Nat) (g' : GS), j ≤ l4.length ∧ iv = .int .i64 j ∧ Hid (Solo w NZ M h1 p r b o.s s g' wz ∧ Chg (fun k => ¬ NZ k) wL wz ∧ LateN o.g g' j)) (fun i _ => l4.length - (intOf i).toNat)
  case atStart => exact ⟨0, o.g, Nat.zero_le _, rfl, Lib.hid ⟨SL.out, Chg.refl _ _, LateN.zero GG.out OV.out⟩⟩
  case round =>
    obtain ⟨j, g', hj, rfl, L⟩ := hrel
    by_cases hlt : j < l4.length
    · obtain ⟨S, CL, LN⟩ := L.out
      have S := Lib.hid S
      have CL := Lib.hid CL
      have LN := Lib.hid LN
      clear L
      obtain ⟨bb, off, eA, hAt, hbl⟩ := SH.out.at_ hlt
      have hok := Lib.hid (SH.out.ok l4[j] (List.getElem_mem hlt))
      have hKl := S.out.bel
      subst eA
      have KAt := Lib.hid (hAt.chg (Z := fun k => w.heap.size ≤ k) ⟨hKl.os, hKl.tape, hKl.output, hKl.size, fun k _ hn => hKl.block k (by omega)⟩ (by omega))
      generalize l4[j] = sh at *
      have HOFF : ∃ o9, off + j * 9 = o9 := ⟨_, rfl⟩
      obtain ⟨o9, hoff⟩ := HOFF
      rw [hoff] at KAt
      have wj : IntKind.u64.wrap (j : Int) = (j : Int) := IntWalk.u64_in _ (by omega)
      have HOFF := Lib.hid hoff
      have WJ := Lib.hid wj
      clear hAt hKl hoff wj
      go_upto_region 17 with fail
      refine guardEndsLoop (nw := 0) S hok KAt hbl hlt hcap hmax HOFF.out WJ.out ?_
      intro hV2 hA2 f a3 x96 x97 x98 x99 x100 x101 x102 x103 x104 x105 x106 x107 x95 x108 x109 wd hE
      obtain ⟨L2, es, ev⟩ := LN.out.next o.s f (j : Int)
      have so := hE.out.so
      rw [es] at so
      have tv := hE.out.tv
      rw [ev] at tv
      simp only at tv
      have CE2 := CL.out.step hE.out.chg (fun k _ h hn => h (by first | exact hn | exact hn))
      have NX := Lib.hid (show Solo w NZ M h1 p r b o.s s (g'.take o.s f j).g wd ∧ Chg (fun k => ¬ NZ k) wL wd ∧ LateN o.g (g'.take o.s f j).g (j + 1) from ⟨so, CE2, L2⟩)
      generalize (g'.take o.s f j) = o2 at *
      clear so CE2 L2 es ev hE S CL LN
      have v0 := cell_of_row wd hV2 0 _ _ _ tv
      have v1 := cell_of_row wd hV2 1 _ _ _ tv
      have v2 := cell_of_row wd hV2 2 _ _ _ tv
      have v3 := cell_of_row wd hV2 3 _ _ _ tv
      clear tv
      go_wp2
      go_roundw
      case rel => exact ⟨j + 1, _, by omega, by go_num, NX⟩
      case measure => simp [intOf]; omega
    · obtain rfl : j = l4.length := by omega
      obtain ⟨S, CL, LN⟩ := L.out
      have wl : IntKind.u64.wrap (l4.length : Int) = (l4.length : Int) := IntWalk.u64_in _ (by omega)
      have cn := CL.blk CN.out (fun h => h ((HNZ.out hn).2 (.inr ⟨by omega, by have := Z13.out; omega⟩)))
      have hnZ : NZ hn := (HNZ.out hn).2 (.inr ⟨by omega, by have := Z13.out; omega⟩)
      have zr : w10.heap.size ≤ hn := by omega
      have LN := Lib.hid LN
      have CL := Lib.hid CL
      have S := Lib.hid S
      have HZ := Lib.hid hnZ
      have c0 := cell_of_row wr hn 0 _ _ _ cn
      have fc0 := frozen_of_row wr hn 0 _ _ cn
      have c1 := cell_of_row wr hn 1 _ _ _ cn
      have fc1 := frozen_of_row wr hn 1 _ _ cn
      have c2 := cell_of_row wr hn 2 _ _ _ cn
      have fc2 := frozen_of_row wr hn 2 _ _ cn
      have c3 := cell_of_row wr hn 3 _ _ _ cn
      have fc3 := frozen_of_row wr hn 3 _ _ cn
      have c4 := cell_of_row wr hn 4 _ _ _ cn
      have fc4 := frozen_of_row wr hn 4 _ _ cn
      clear hnZ L
      have cc := (Chg.refl (fun k => k = hn) wr).setCell (p := ⟨hn, 4, none⟩) (.inl rfl) (.int .u64 (IntKind.u64.wrap (o.g.lat + (l4.length : Int))))
      have n20 := fill_list hn 52 [.int .u64 (IntKind.u64.wrap (o.g.lat + (l4.length : Int)))] wr 4 [.int .u64 o.g.mal, .int .u64 o.g.drp, .int .u64 o.g.tak, .int .u64 o.g.cha, .int .u64 o.g.lat] cn (by simp)
      simp only [fillFrom] at n20
      have n20' : (wr.setCell ⟨hn, 4, none⟩ (.int .u64 (IntKind.u64.wrap (o.g.lat + (l4.length : Int))))).heap[hn]? = some (.cells #[.int .u64 g'.mal, .int .u64 g'.drp, .int .u64 g'.tak, .int .u64 g'.cha, .int .u64 g'.lat] 52 (0, 0)) := by rw [LN.out.mal, LN.out.drp, LN.out.tak, LN.out.cha, LN.out.lat]; exact n20
      have z10' := Z10.out
      have e1h : h1 < w6.heap.size := s6
      have S20 := Lib.hid (S.out.chg cc (fun k hk e => by have e : k = hn := e; subst e; exact ⟨HZ.out, by omega, by omega, fun hm => by have := N6.out _ hm; omega⟩))
      have NZ2 : NZ h2 := (HNZ.out h2).2 (.inl (.inl (.inl N2.out)))
      have NZV : NZ hV := (HNZ.out hV).2 (.inl (.inl (.inr (.inl rfl))))
      have NZ9 : NZ h9 := (HNZ.out h9).2 (.inl (.inr ⟨z9, by omega⟩))
      have b2 := lt_of_block N14.out
      have KEEP : Hid (∀ (k : Nat) (ob : Obj), NZ k → k ≠ hn → wL.heap[k]? = some ob → (wr.setCell ⟨hn, 4, none⟩ (.int .u64 (IntKind.u64.wrap (o.g.lat + (l4.length : Int))))).heap[k]? = some ob) := Lib.hid (fun k ob hk hne h => cc.blk (CL.out.blk h (fun e => e hk)) hne)
      have A20 : Hid (AkR (wr.setCell ⟨hn, 4, none⟩ (.int .u64 (IntKind.u64.wrap (o.g.lat + (l4.length : Int))))) ⟨A, ca, B, da, sp, mm, tr, x, od⟩) := Lib.hid ((A14.out.chg CL.out (fun bk off e hn h => h ((HNZ.out bk).2 (.inl (.inl (.inl (NLA.out bk off e hn)))))) (fun bk off e hn h => by have hn : 0 < mm.length := hn; rw [MM.out] at hn; simp at hn)).chg cc (fun bk off e hn' h => by have := LA.out bk off e hn'; have h : bk = hn := h; omega) (fun bk off e hn' h => by have hn' : 0 < mm.length := hn'; rw [MM.out] at hn'; simp at hn'))
      have E20 : Hid (AkR (wr.setCell ⟨hn, 4, none⟩ (.int .u64 (IntKind.u64.wrap (o.g.lat + (l4.length : Int))))) a4) := Lib.hid ((EA2.out.r.chg CL.out (fun bk off e hn h => h ((HNZ.out bk).2 (.inl (.inr (by have := LE.out bk off (.inl ⟨e, hn⟩); exact ⟨this.1, by omega⟩))))) (fun bk off e hn h => h ((HNZ.out bk).2 (.inl (.inr (by have := LE.out bk off (.inr ⟨e, hn⟩); exact ⟨this.1, by omega⟩)))))).chg cc (fun bk off e hn' h => by have := LE.out bk off (.inl ⟨e, hn'⟩); have h : bk = hn := h; omega) (fun bk off e hn' h => by have := LE.out bk off (.inr ⟨e, hn'⟩); have h : bk = hn := h; omega))
      have R20 := Lib.hid ((RA.out.chg CL.out (fun bk off e hn' h => h ((HNZ.out bk).2 (.inr (by have := NA.out bk off e hn'; have := LAs.out bk off e hn'; have := Z13.out; exact ⟨by omega, by omega⟩))))).chg cc (fun bk off e hn' h => by have := LAs.out bk off e hn'; have h : bk = hn := h; omega))
      have T20 := Lib.hid (KEEP.out hV _ NZV (by omega) TV3.out)
      have N20 := Lib.hid (KEEP.out h2 _ NZ2 (by omega) N14.out)
      have V20 := Lib.hid (KEEP.out h9 _ NZ9 (by omega) EN2.out)
      have C20 := Lib.hid n20'
      have LO := Lib.hid LN.out.over
      have LEV := Lib.hid LN.out.ev
      clear n20 n20' cc KEEP CL LN S A14 N14 TV3 EA2 EN2 CN RA
      go_upto_region 21 with fail
      generalize (wr.setCell ⟨hn, 4, none⟩ (.int .u64 (IntKind.u64.wrap (o.g.lat + (l4.length : Int))))) = w20 at *
      have K21 := Lib.hid (alc_evidence _ p b o.s g' w20 S20.out.al)
      rw [LO.out, LEV.out] at K21
      unfold evRow at K21
      go_wp2_with fail
      refine K21.out.mono ?_
      rintro e w21 ⟨a5, rfl, i5, hA5, b21⟩
      have e22 := box_below w21 (.cells #[.int .u64 o.g.ev.at_, .int .u64 o.g.ev.pn, .int .u64 o.g.ev.used, .int .i64 o.g.ev.why, .slice a5.A a5.sp.length a5.c, .slice a5.B a5.mm.length a5.d, .int .u64 a5.tr, .int .u64 a5.xo, .bool a5.od] 65)
      have n22 := heap_alloc_new w21 (.cells #[.int .u64 o.g.ev.at_, .int .u64 o.g.ev.pn, .int .u64 o.g.ev.used, .int .i64 o.g.ev.why, .slice a5.A a5.sp.length a5.c, .slice a5.B a5.mm.length a5.d, .int .u64 a5.tr, .int .u64 a5.xo, .bool a5.od] 65)
      have bb := b21.trans (e22.mono b21.size)
      have S22 := Lib.hid (S20.out.below bb)
      have A22 := Lib.hid (A20.out.below bb)
      have E22 := Lib.hid (E20.out.below bb)
      have R22 := Lib.hid (R20.out.below bb)
      have F22 := Lib.hid (hA5.r.below e22)
      have I5 := Lib.hid i5
      have T22 := Lib.hid ((bb.block _ (lt_of_block T20.out)).trans T20.out)
      have N22 := Lib.hid ((bb.block _ (lt_of_block N20.out)).trans N20.out)
      have V22 := Lib.hid ((bb.block _ (lt_of_block V20.out)).trans V20.out)
      have C22 := Lib.hid ((bb.block _ (lt_of_block C20.out)).trans C20.out)
      have W22 := Lib.hid n22
      clear K21 i5 hA5 b21 e22 n22 bb S20 A20 E20 R20 T20 N20 V20 C20
      go_upto_region 22 with fail
      generalize (w21.alloc (.cells #[.int .u64 o.g.ev.at_, .int .u64 o.g.ev.pn, .int .u64 o.g.ev.used, .int .i64 o.g.ev.why, .slice a5.A a5.sp.length a5.c, .slice a5.B a5.mm.length a5.d, .int .u64 a5.tr, .int .u64 a5.xo, .bool a5.od] 65)) = w22 at *
      generalize w21.heap.size = h10 at *
      have qa : (o.g.ev.at_ == 7) = true := by rw [EVV.out]; rfl
      have qw : (o.g.ev.why == o.v.why) = true := by rw [EVV.out]; simp
      have qp : (o.g.ev.pn == o.v.pn) = true := by rw [EVV.out]; simp
      have qa' : decide (o.g.ev.at_ = 7) = true := by simpa using qa
      have qw' : decide (o.g.ev.why = o.v.why) = true := by simpa using qw
      have qp' : decide (o.g.ev.pn = o.v.pn) = true := by simpa using qp
      have ID : Hid (a4.is ⟨sp, mm, tr, x, od⟩) := Lib.hid (by have h := I4.out; rw [EVV.out] at h; exact h)
      have p0 := mixF_cell (F := fun _ => False) (show w22.cell? ⟨h9, 0, none⟩ = some (.int .u64 o.g.ev.at_) from cell_of_row w22 h9 0 _ _ _ V22.out) id
      have p1 := mixF_cell (F := fun _ => False) (show w22.cell? ⟨h9, 1, none⟩ = some (.int .u64 o.g.ev.pn) from cell_of_row w22 h9 1 _ _ _ V22.out) id
      have p2 := mixF_cell (F := fun _ => False) (show w22.cell? ⟨h9, 2, none⟩ = some (.int .u64 o.g.ev.used) from cell_of_row w22 h9 2 _ _ _ V22.out) id
      have p3 := mixF_cell (F := fun _ => False) (show w22.cell? ⟨h9, 3, none⟩ = some (.int .i64 o.g.ev.why) from cell_of_row w22 h9 3 _ _ _ V22.out) id
      have p4 := mixF_cell (F := fun _ => False) (show w22.cell? ⟨h9, 4, none⟩ = some (.slice a4.A a4.sp.length a4.c) from cell_of_row w22 h9 4 _ _ _ V22.out) id
      have p5 := mixF_cell (F := fun _ => False) (show w22.cell? ⟨h9, 5, none⟩ = some (.slice a4.B a4.mm.length a4.d) from cell_of_row w22 h9 5 _ _ _ V22.out) id
      have p6 := mixF_cell (F := fun _ => False) (show w22.cell? ⟨h9, 6, none⟩ = some (.int .u64 a4.tr) from cell_of_row w22 h9 6 _ _ _ V22.out) id
      have p7 := mixF_cell (F := fun _ => False) (show w22.cell? ⟨h9, 7, none⟩ = some (.int .u64 a4.xo) from cell_of_row w22 h9 7 _ _ _ V22.out) id
      have p8 := mixF_cell (F := fun _ => False) (show w22.cell? ⟨h9, 8, none⟩ = some (.bool a4.od) from cell_of_row w22 h9 8 _ _ _ V22.out) id
      have q0 := mixF_cell (F := fun _ => False) (show w22.cell? ⟨h10, 0, none⟩ = some (.int .u64 o.g.ev.at_) from cell_of_row w22 h10 0 _ _ _ W22.out) id
      have q1 := mixF_cell (F := fun _ => False) (show w22.cell? ⟨h10, 1, none⟩ = some (.int .u64 o.g.ev.pn) from cell_of_row w22 h10 1 _ _ _ W22.out) id
      have q2 := mixF_cell (F := fun _ => False) (show w22.cell? ⟨h10, 2, none⟩ = some (.int .u64 o.g.ev.used) from cell_of_row w22 h10 2 _ _ _ W22.out) id
      have q3 := mixF_cell (F := fun _ => False) (show w22.cell? ⟨h10, 3, none⟩ = some (.int .i64 o.g.ev.why) from cell_of_row w22 h10 3 _ _ _ W22.out) id
      have q4 := mixF_cell (F := fun _ => False) (show w22.cell? ⟨h10, 4, none⟩ = some (.slice a5.A a5.sp.length a5.c) from cell_of_row w22 h10 4 _ _ _ W22.out) id
      have q5 := mixF_cell (F := fun _ => False) (show w22.cell? ⟨h10, 5, none⟩ = some (.slice a5.B a5.mm.length a5.d) from cell_of_row w22 h10 5 _ _ _ W22.out) id
      have q6 := mixF_cell (F := fun _ => False) (show w22.cell? ⟨h10, 6, none⟩ = some (.int .u64 a5.tr) from cell_of_row w22 h10 6 _ _ _ W22.out) id
      have q7 := mixF_cell (F := fun _ => False) (show w22.cell? ⟨h10, 7, none⟩ = some (.int .u64 a5.xo) from cell_of_row w22 h10 7 _ _ _ W22.out) id
      have q8 := mixF_cell (F := fun _ => False) (show w22.cell? ⟨h10, 8, none⟩ = some (.bool a5.od) from cell_of_row w22 h10 8 _ _ _ W22.out) id
      have n0 := mixF_cell (F := fun _ => False) (show w22.cell? ⟨h2, 0, none⟩ = some (.slice A sp.length ca) from cell_of_row w22 h2 0 _ _ _ N22.out) id
      have n1 := mixF_cell (F := fun _ => False) (show w22.cell? ⟨h2, 1, none⟩ = some (.slice B mm.length da) from cell_of_row w22 h2 1 _ _ _ N22.out) id
      have n2 := mixF_cell (F := fun _ => False) (show w22.cell? ⟨h2, 2, none⟩ = some (.int .u64 tr) from cell_of_row w22 h2 2 _ _ _ N22.out) id
      have n3 := mixF_cell (F := fun _ => False) (show w22.cell? ⟨h2, 3, none⟩ = some (.int .u64 x) from cell_of_row w22 h2 3 _ _ _ N22.out) id
      have n4 := mixF_cell (F := fun _ => False) (show w22.cell? ⟨h2, 4, none⟩ = some (.bool od) from cell_of_row w22 h2 4 _ _ _ N22.out) id
      have c0 := mixF_cell (F := fun _ => False) (show w22.cell? ⟨hn, 0, none⟩ = some (.int .u64 g'.mal) from cell_of_row w22 hn 0 _ _ _ C22.out) id
      have c1 := mixF_cell (F := fun _ => False) (show w22.cell? ⟨hn, 1, none⟩ = some (.int .u64 g'.drp) from cell_of_row w22 hn 1 _ _ _ C22.out) id
      have c2 := mixF_cell (F := fun _ => False) (show w22.cell? ⟨hn, 2, none⟩ = some (.int .u64 g'.tak) from cell_of_row w22 hn 2 _ _ _ C22.out) id
      have c3 := mixF_cell (F := fun _ => False) (show w22.cell? ⟨hn, 3, none⟩ = some (.int .u64 g'.cha) from cell_of_row w22 hn 3 _ _ _ C22.out) id
      have c4 := mixF_cell (F := fun _ => False) (show w22.cell? ⟨hn, 4, none⟩ = some (.int .u64 g'.lat) from cell_of_row w22 hn 4 _ _ _ C22.out) id
      have t0 := mixF_cell (F := fun _ => False) (show w22.cell? ⟨hV, 0, none⟩ = some (.int .i64 o.v.kind) from cell_of_row w22 hV 0 _ _ _ T22.out) id
      have t1 := mixF_cell (F := fun _ => False) (show w22.cell? ⟨hV, 1, none⟩ = some (.int .i64 o.v.why) from cell_of_row w22 hV 1 _ _ _ T22.out) id
      have t2 := mixF_cell (F := fun _ => False) (show w22.cell? ⟨hV, 2, none⟩ = some (.int .u64 o.v.pn) from cell_of_row w22 hV 2 _ _ _ T22.out) id
      have t3 := mixF_cell (F := fun _ => False) (show w22.cell? ⟨hV, 3, none⟩ = some (.bool o.v.ch) from cell_of_row w22 hV 3 _ _ _ T22.out) id
      have y0 := mixF_cell (F := fun _ => False) (show w22.cell? ⟨h1, 0, none⟩ = some (.pointer (some ⟨p, 0, none⟩)) from cell_of_row w22 h1 0 _ _ _ S22.out.t1) id
      refine wp_region_chg (fun _ => False) (by kernel_rfl) (by kernel_rfl) ?_
      repeat (refine wpMix_seg 1 _ _ rfl ?_; simp only [List.take_succ_cons, List.take_zero, List.drop_succ_cons, List.drop_zero]; go_big_quiet_step (fail); refine wpQuiet_nil ?_)
      have hb0 : Below w22.heap.size w22 w22.drew := (Below.refl _ _).drew
      have KE := Lib.hid (sameEv_yes w22.drew o.g.ev a4 a5 (E22.out.below hb0) (F22.out.below hb0) I4.out I5.out)
      unfold evRow at KE
      refine wpMix_bar rfl (by rfl) ?_
      go_wp2_with fail
      (with_reducible refine KE.out.mono ?_)
      rintro e v1 ⟨rfl, q1⟩
      have hb1 := hb0.trans (q1.mono hb0.size)
      have KA := Lib.hid (sameAck_yes v1 a4 ⟨A, ca, B, da, sp, mm, tr, x, od⟩ ⟨sp, mm, tr, x, od⟩ (E22.out.below hb1) (A22.out.below hb1) ID.out ⟨rfl, rfl, rfl, rfl, rfl⟩)
      unfold Ak.val Ak.cells at KA
      simp only at KA
      clear KE q1 hb0
      go_wp2
      refine ⟨chg_mixF (chg_below hb1), ?_⟩
      repeat (refine wpMix_seg 1 _ _ rfl ?_; simp only [List.take_succ_cons, List.take_zero, List.drop_succ_cons, List.drop_zero]; go_big_quiet_step (fail); refine wpQuiet_nil ?_)
      refine wpMix_bar rfl (by rfl) ?_
      go_wp2_with fail
      (with_reducible refine KA.out.mono ?_)
      rintro e v2 ⟨rfl, q2⟩
      have hb2 := hb1.trans (q2.mono hb1.size)
      have KC := Lib.hid (alc_counts _ p b o.s g' v2 (S22.out.below hb2).al)
      unfold ctsRow at KC
      clear KA q2 hb1
      go_wp2
      refine ⟨chg_mixF (chg_below hb2), ?_⟩
      repeat (refine wpMix_seg 1 _ _ rfl ?_; simp only [List.take_succ_cons, List.take_zero, List.drop_succ_cons, List.drop_zero]; go_big_quiet_step (fail); refine wpQuiet_nil ?_)
      refine wpMix_bar rfl (by rfl) ?_
      go_wp2_with fail
      (with_reducible refine KC.out.mono ?_)
      rintro e v3 ⟨rfl, q3⟩
      have hb3 := hb2.trans (q3.mono hb2.size)
      obtain ⟨T3, F3, E3, hL3, -⟩ := (S22.out.below hb3).al.ex
      have KL := Lib.hid (led_all v3 T3 p o.s hL3)
      clear KC q3 hb2 hL3
      go_wp2
      refine ⟨chg_mixF (chg_below hb3), ?_⟩
      repeat (refine wpMix_seg 1 _ _ rfl ?_; simp only [List.take_succ_cons, List.take_zero, List.drop_succ_cons, List.drop_zero]; go_big_quiet_step (fail); refine wpQuiet_nil ?_)
      refine wpMix_bar rfl (by rfl) ?_
      go_wp2_with fail
      (with_reducible refine KL.out.mono ?_)
      rintro e v4 ⟨A9, c9, rfl, o9, q4⟩
      have hb4 := hb3.trans (q4.mono hb3.size)
      have KS := Lib.hid (sameSent_yes v4 As A9 cs c9 o.s.kept (R22.out.below hb4) (Rd.of_own o9))
      clear KL q4 hb3 o9
      go_wp2
      refine ⟨chg_mixF (chg_below hb4), ?_⟩
      repeat (refine wpMix_seg 1 _ _ rfl ?_; simp only [List.take_succ_cons, List.take_zero, List.drop_succ_cons, List.drop_zero]; go_big_quiet_step (fail); refine wpQuiet_nil ?_)
      refine wpMix_bar rfl (by rfl) ?_
      go_wp2_with fail
      (with_reducible refine KS.out.mono ?_)
      rintro e v5 ⟨rfl, q5⟩
      have hb5 := hb4.trans q5.below
      clear KS q5 hb4
      go_wp2
      refine ⟨chg_mixF (chg_below hb5), ?_⟩
      repeat (refine wpMix_seg 1 _ _ rfl ?_; simp only [List.take_succ_cons, List.take_zero, List.drop_succ_cons, List.drop_zero]; go_big_quiet_step (fail); refine wpQuiet_nil ?_)
      refine wpMix_nil ?_
      go_wp2
      go_ret
      exact ⟨by simp, E0.out.trans ((S22.out.bel.trans (hb5.mono S22.out.bel.size)).mono (by omega))⟩
end Go.Proofs.YtelaimephejkkaaGreat
