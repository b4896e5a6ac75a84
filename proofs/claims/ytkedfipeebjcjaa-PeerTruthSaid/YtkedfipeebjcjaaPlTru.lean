/-
  The walk of PeerTruth: its inner loops.
-/
import Derived.Test.YtkedfipeebjcjaaPlTells
import Derived.Test.YtkedfipeebjcjaaPlwT
import Derived.Deep.DeepCutAuto
import Derived.Test.YtkedfipeebjcjaaPee8
import Derived.Deep.CutBlock
namespace Go.Proofs.Ytkedfipeebjcjaa
set_option linter.unusedSimpArgs false
set_option linter.unusedVariables false
set_option linter.unnecessarySimpa false
open Go.RowKit

/-- A packet that came, as it lies in a row. -/
structure Cm where
  d : DatD
  A : Option Addr
  c : Nat
def Cm.cells (x : Cm) : List Value := [.int .u64 x.d.pn, .int .u64 x.d.least, .int .u64 x.d.off, .int .u64 x.d.nonce, .int .i64 x.d.ecn, .slice x.A x.d.body.length x.c]
/-- Decode, in one form. -/
theorem DatVal.un {l : List Int} {w w' : World} {e : Ending} (h : DatVal l w w' e) : ∃ A c, e = .returned (.tuple #[.agg #[.int .u64 (PS.decD l).pn, .int .u64 (PS.decD l).least, .int .u64 (PS.decD l).off, .int .u64 (PS.decD l).nonce, .int .i64 (PS.decD l).ecn, .slice A (PS.decD l).body.length c], .int .i64 (PS.decE l)]) ∧ Below w.heap.size w w' := by
  unfold DatVal at h
  unfold PS.decD PS.decE
  cases hd : datP l with
  | error er => rw [hd] at h; exact ⟨none, 0, h.1, h.2⟩
  | ok d => rw [hd] at h; obtain ⟨A, c, h1, _, h3, _⟩ := h; exact ⟨A, c, h1, h3⟩

/-- Where the great loop stands: the receiver, and a row of what came, apart from it. -/
structure TrS (w : World) (p : Nat) (now : Int) (j : Nat) (cl : List Cm) (n : Nat) (A : Option Addr) (c : Nat) (s : PS) (W : World) : Prop where
  ex : ∃ F1 : Nat → Prop, PeP W F1 (fun _ => False) p s ∧ ∀ k, F1 k → w.heap.size ≤ k ∧ k < W.heap.size ∧ (Value.slice A cl.length c).ownBlock ≠ some k
  o : W.ownsRow w.heap.size 30 6 (.slice A cl.length c) cl.length (cl.flatMap Cm.cells)
  tr : s.Truth (cl.map Cm.d) n
  few : s.s.length ≤ j
  cf : cl.length ≤ j
  n0 : 0 ≤ now
  n1 : now ≤ j * 4294967295
  bel : Below w.heap.size w W
theorem TrS.below {w : World} {p : Nat} {now : Int} {j : Nat} {cl : List Cm} {n : Nat} {A : Option Addr} {c : Nat} {s : PS} {W W' : World} (h : TrS w p now j cl n A c s W) (b : Below W.heap.size W W') : TrS w p now j cl n A c s W' := by
  obtain ⟨F1, h1, h2⟩ := h.ex
  exact ⟨⟨F1, h1.below b, fun k hk => ⟨(h2 k hk).1, Nat.lt_of_lt_of_le (h2 k hk).2.1 b.size, (h2 k hk).2.2⟩⟩, own_chg h.o (chg_below b (F := fun _ => False)) (fun _ _ h => h), h.tr, h.few, h.cf, h.n0, h.n1, h.bel.trans (b.mono h.bel.size)⟩
theorem TrS.good {w : World} {p : Nat} {now : Int} {j : Nat} {cl : List Cm} {n : Nat} {A : Option Addr} {c : Nat} {s : PS} {W : World} (h : TrS w p now j cl n A c s W) : s.Good ∧ s.Waits := by
  obtain ⟨F1, h1, -⟩ := h.ex
  exact ⟨h1.good, h1.wt⟩
/-- One of what came. -/
theorem TrS.at_ {w : World} {p : Nat} {now : Int} {j : Nat} {cl : List Cm} {n : Nat} {A : Option Addr} {c : Nat} {s : PS} {W : World} (h : TrS w p now j cl n A c s W) {k : Nat} (hk : k < cl.length) :
    ∃ b off, A = some ⟨b, off, none⟩ ∧ W.cell? ⟨b, off + k * 6, none⟩ = some (.int .u64 cl[k].d.pn) ∧ W.cell? ⟨b, off + k * 6 + 3, none⟩ = some (.int .u64 cl[k].d.nonce) ∧ W.cell? ⟨b, off + k * 6 + 4, none⟩ = some (.int .i64 cl[k].d.ecn) := by
  obtain ⟨b, off, e, hc⟩ := Rd.elem (f := Cm.cells) (k := 6) (fun _ => rfl) (Rd.of_own h.o) (by omega) hk
  exact ⟨b, off, e, hc 0 _ rfl, hc 3 _ rfl, hc 4 _ rfl⟩

theorem TrS.turn {w : World} {p : Nat} {now0 now : Int} {j0 j : Nat} {cl : List Cm} {n n' : Nat} {A : Option Addr} {c : Nat} {s s' : PS} {W W' : World} (S : TrS w p now0 j0 cl n A c s W) {F1 : Nat → Prop}
    (hF : ∀ k, F1 k → w.heap.size ≤ k ∧ k < W.heap.size ∧ (Value.slice A cl.length c).ownBlock ≠ some k) (hP : PeP W' (Grow F1 W) (fun _ => False) p s') (hC : Chg F1 W W') (tr : s'.Truth (cl.map Cm.d) n') (few : s'.s.length ≤ j) (cf : cl.length ≤ j) (n0 : 0 ≤ now) (n1 : now ≤ j * 4294967295) : TrS w p now j cl n' A c s' W' := by
  refine ⟨⟨fun k => Grow F1 W k ∧ k < W'.heap.size, hP.sub (fun k hk e => ⟨e, hk⟩) (fun _ _ e => .inr e), fun k hk => ⟨hk.1.elim (fun e => (hF k e).1) (Nat.le_trans S.bel.size), hk.2, ?_⟩⟩, own_chg S.o hC (fun g e hf => (hF g hf).2.2 e), tr, few, cf, n0, n1, S.bel.trans (hC.below S.bel.size (fun k hk e => by have := (hF k e).1; omega))⟩
  intro e
  have := (S.o.lt k e).2
  rcases hk.1 with h | h
  · exact (hF k h).2.2 e
  · omega
theorem TrS.app {w : World} {p : Nat} {now : Int} {j : Nat} {cl : List Cm} {n' : Nat} {A A' : Option Addr} {c c' : Nat} {s' : PS} {W W' : World} {F7 : Nat → Prop} (x : Cm) (hP : PeP W F7 (fun _ => False) p s')
    (hF : ∀ k, F7 k → w.heap.size ≤ k ∧ k < W.heap.size ∧ (Value.slice A cl.length c).ownBlock ≠ some k) (o : W.ownsRow w.heap.size 30 6 (.slice A cl.length c) cl.length (cl.flatMap Cm.cells)) (bel : Below w.heap.size w W)
    (hg : W.grownBy W' (Value.slice A cl.length c).ownBlock) (o' : W'.ownsRow w.heap.size 30 6 (.slice A' (cl.length + 1) c') (cl.length + 1) (cl.flatMap Cm.cells ++ x.cells)) (k8 : ∀ k, k < W.heap.size → (Value.slice A cl.length c).ownBlock ≠ some k → (Value.slice A' (cl.length + 1) c').ownBlock ≠ some k)
    (tr : s'.Truth ((cl ++ [x]).map Cm.d) n') (few : s'.s.length ≤ j) (cf : cl.length + 1 ≤ j) (n0 : 0 ≤ now) (n1 : now ≤ j * 4294967295) : TrS w p now j (cl ++ [x]) n' A' c' s' W' := by
  have hC : Chg (fun k => (Value.slice A cl.length c).ownBlock = some k) W W' := (Chg.refl _ W).grown hg (fun k e => .inl e)
  have hlen : (cl ++ [x]).length = cl.length + 1 := by simp
  have hfl : (cl ++ [x]).flatMap Cm.cells = cl.flatMap Cm.cells ++ x.cells := by simp
  refine ⟨⟨F7, hP.chg hC (fun k hk e h => e.elim (fun e => (hF k e).2.2 h) id) (fun _ _ h => h) (fun _ _ h => .inr h), fun k hk => ⟨(hF k hk).1, Nat.lt_of_lt_of_le (hF k hk).2.1 hC.size, ?_⟩⟩, ?_, tr, few, by rw [hlen]; exact cf, n0, n1, bel.trans (hC.below bel.size (fun k hk e => by have := (o.lt k e).1; omega))⟩
  · rw [hlen]
    exact k8 k (hF k hk).2.1 (hF k hk).2.2
  · rw [hlen, hfl]
    exact o'
/-- Behind the packet: what it told. -/
structure TrM (w : World) (p : Nat) (now : Int) (j : Nat) (cl : List Cm) (n : Nat) (A : Option Addr) (c : Nat) (s : PS) (o : Option AckD) (A9 : Option Addr) (c9 : Nat) (W : World) : Prop where
  S : TrS w p now (j + 1) cl (n + if o.isSome then 1 else 0) A c s W
  tl : ∀ a, o = some a → PS.IsTrue (cl.map Cm.d) a ∧ AckOk a
  r : Rd W 1 A9 (tellB o).length c9 (U8 (tellB o))

noncomputable def truL2Code : Code := (Try.f4.body.bind (pickCode (isBlk 2))).getD .skip
set_option maxHeartbeats 64000000 in
set_option maxRecDepth 1000000 in
theorem truL2 {u0 u1 u2 u3 u4 u5 u7 u8 u9 u10 u14 u15 u16 u17 u18 u19 u20 u21 u22 u23 u24 u25 u26 u27 u28 u29 u30 u31 u32 u33 u34 u35 u36 u37 u38 u39 u40 u41 u42 u43 u44 u45 u46 u47 u48 u49 u50 u51 u52 u53 u54 u55 u56 u57 u58 u59 u60 u61 u62 u63 u64 u65 u66 u67 u68 u71 u72 u73 u74 u75 u76 u77 u78 u79 u80 u81 u82 u83 u84 u85 u86 u87 u88 u89 u90 u91 u92 u93 u94 u95 u96 u97 u98 u99 u100 u101 u102 u103 u104 u105 u106 u107 u108 u109 u110 u111 u112 u113 u114 u115 u116 u117 u118 u119 u120 u121 u122 u123 u124 u125 u126 u127 u128 u129 u130 u131 u132 u133 u134 u135 u136 u137 u138 u139 u140 u141 u142 u143 u144 u145 u146 u147 u148 u149 u150 u151 u152 u153 u154 u155 u156 u157 u158 u159 u160 u161 u162 u163 u164 u165 u166 u167 u168 u169 u170 u171 u172 u173 u174 u175 u176 u177 u178 u179 u180 u181 u182 u183 u184 u185 u186 u187 u188 u189 u190 u191 u192 u193 u194 u195 u196 u197 u198 u199 u200 u201 u202 u203 u204 u205 u206 u207 u208 u209 u210 u211 u212 u213 u214 u215 u216 u217 u218 u219 u220 u221 u222 u223 u224 u225 u226 u227 u228 u229 u230 u231 u232 u233 : Value} {w : World} {p j n g c c4 : Nat} {now E : Int} {cl : List Cm} {A A4 : Option Addr} {s : PS} {D : DatD} {Q : Exit → Act → World → Prop} {wr : World}
    (S5 : Hid (TrS w p now j cl n A c s wr)) (N5h : Hid (wr.heap[g]? = some (.cells #[.int .u64 D.pn, .int .u64 D.least, .int .u64 D.off, .int .u64 D.nonce, .int .i64 D.ecn, .slice A4 D.body.length c4] 30 (0, 0)))) (hcl : cl.length ≤ 1000)
    (hQ : Hid (∀  (x14 x70 x71 x72 x73 x74 x75 x76 x77 x78 x79 x80 x81 x82 x83 x84 x85 x86 x87 x88 : Value) (wx : World), Hid (Qt wr wx) → Q .normal ⟨#[u0, u1, u2, u3, u4, u5, .slice A cl.length c, u7, u8, u9, u10, .pointer (some ⟨g, 0, none⟩), .int .i64 E, .bool (decide (E = 0) && PS.hadPn (cl.map Cm.d) D.pn), x14, u15, u16, u17, u18, u19, u20, u21, u22, u23, u24, u25, u26, u27, u28, u29, u30, u31, u32, u33, u34, u35, u36, u37, u38, u39, u40, u41, u42, u43, u44, u45, u46, u47, u48, u49, u50, u51, u52, u53, u54, u55, u56, u57, u58, u59, u60, u61, u62, u63, u64, u65, u66, u67, u68, .int .i64 (cl.length : Int), x70, x71, x72, x73, x74, x75, x76, x77, x78, x79, x80, x81, x82, x83, x84, x85, x86, x87, x88, u89, u90, u91, u92, u93, u94, u95, u96, u97, u98, u99, u100, u101, u102, u103, u104, u105, u106, u107, u108, u109, u110, u111, u112, u113, u114, u115, u116, u117, u118, u119, u120, u121, u122, u123, u124, u125, u126, u127, u128, u129, u130, u131, u132, u133, u134, u135, u136, u137, u138, u139, u140, u141, u142, u143, u144, u145, u146, u147, u148, u149, u150, u151, u152, u153, u154, u155, u156, u157, u158, u159, u160, u161, u162, u163, u164, u165, u166, u167, u168, u169, u170, u171, u172, u173, u174, u175, u176, u177, u178, u179, u180, u181, u182, u183, u184, u185, u186, u187, u188, u189, u190, u191, u192, u193, u194, u195, u196, u197, u198, u199, u200, u201, u202, u203, u204, u205, u206, u207, u208, u209, u210, u211, u212, u213, u214, u215, u216, u217, u218, u219, u220, u221, u222, u223, u224, u225, u226, u227, u228, u229, u230, u231, u232, u233], []⟩ wx)) :
    Code.wp Try.prog truL2Code Q ⟨#[u0, u1, u2, u3, u4, u5, .slice A cl.length c, u7, u8, u9, u10, .pointer (some ⟨g, 0, none⟩), .int .i64 E, .bool false, u14, u15, u16, u17, u18, u19, u20, u21, u22, u23, u24, u25, u26, u27, u28, u29, u30, u31, u32, u33, u34, u35, u36, u37, u38, u39, u40, u41, u42, u43, u44, u45, u46, u47, u48, u49, u50, u51, u52, u53, u54, u55, u56, u57, u58, u59, u60, u61, u62, u63, u64, u65, u66, u67, u68, .int .i64 (cl.length : Int), .int .i64 0, u71, u72, u73, u74, u75, u76, u77, u78, u79, u80, u81, u82, u83, u84, u85, u86, u87, u88, u89, u90, u91, u92, u93, u94, u95, u96, u97, u98, u99, u100, u101, u102, u103, u104, u105, u106, u107, u108, u109, u110, u111, u112, u113, u114, u115, u116, u117, u118, u119, u120, u121, u122, u123, u124, u125, u126, u127, u128, u129, u130, u131, u132, u133, u134, u135, u136, u137, u138, u139, u140, u141, u142, u143, u144, u145, u146, u147, u148, u149, u150, u151, u152, u153, u154, u155, u156, u157, u158, u159, u160, u161, u162, u163, u164, u165, u166, u167, u168, u169, u170, u171, u172, u173, u174, u175, u176, u177, u178, u179, u180, u181, u182, u183, u184, u185, u186, u187, u188, u189, u190, u191, u192, u193, u194, u195, u196, u197, u198, u199, u200, u201, u202, u203, u204, u205, u206, u207, u208, u209, u210, u211, u212, u213, u214, u215, u216, u217, u218, u219, u220, u221, u222, u223, u224, u225, u226, u227, u228, u229, u230, u231, u232, u233], []⟩ wr := by
  conv => arg 2; whnf
  rename World => w5
  go_wp2_with fail
  go_loopw [13, 70] (fun ov iv wr => ∃ k : Nat, k ≤ cl.length ∧ iv = .int .i64 k ∧ ov = .bool (decide (E = 0) && PS.hadPn ((cl.map Cm.d).take k) D.pn) ∧ Qt w5 wr) (fun _ i _ => cl.length - (intOf i).toNat)
  case atStart => exact ⟨0, Nat.zero_le _, rfl, by simp [PS.hadPn], Qt.refl _⟩
  case round =>
    obtain ⟨k, hk, rfl, rfl, hq⟩ := hrel
    by_cases hkl : k < cl.length
    ·
      have S6 := Lib.hid (S5.out.below hq.below)
      obtain ⟨bp, op, eA, e0, e3, e4⟩ := S6.out.at_ hkl
      have n6 : wr.heap[g]? = some (.cells #[.int .u64 D.pn, .int .u64 D.least, .int .u64 D.off, .int .u64 D.nonce, .int .i64 D.ecn, .slice A4 D.body.length c4] 30 (0, 0)) := hq.blk N5h.out
      have d0 : wr.cell? ⟨g, 0, none⟩ = some (.int .u64 D.pn) := cell_of_row wr g 0 _ _ _ n6
      have HT : Hid (PS.hadPn ((cl.map Cm.d).take (k + 1)) D.pn = (PS.hadPn ((cl.map Cm.d).take k) D.pn || decide (cl[k].d.pn = D.pn))) := Lib.hid (by rw [PS.hadPn_take _ _ (by simpa using hkl)]; simp)
      clear e3 e4 n6 S6
      generalize cl[k].d.pn = pk at *
      generalize hoff : op + k * 6 = o6 at *
      generalize hQ : PS.hadPn ((cl.map Cm.d).take k) D.pn = Q at *
      clear hQ
      subst eA
      by_cases hE : E = 0
      · have hE1 : (E == 0) = true := by simp [hE]
        have hE2 : decide (E = 0) = true := decide_eq_true hE
        have HE2 := Lib.hid hE2
        rw [hE2, Bool.true_and]
        clear hE hE2
        cases Q
        · by_cases hpn : pk = D.pn
          · have hp1 : (pk == D.pn) = true := by simp [hpn]
            have HP := Lib.hid hpn
            clear hpn
            go_upto_region 17 with fail
            refine wp_region_qt (by kernel_rfl) (by kernel_rfl) ?_
            repeat (go_big_quiet_step (fail))
            refine wpQuiet_nil ?_
            intro wd qd
            go_wp2
            go_roundw
            case rel => exact ⟨k + 1, by omega, by go_num, by rw [HT.out]; simp [HP.out, HE2.out], hq.trans qd⟩
            case measure => simp [intOf]; omega
          · have hp1 : (pk == D.pn) = false := by simp [hpn]
            have HP := Lib.hid hpn
            clear hpn
            go_upto_region 17 with fail
            refine wp_region_qt (by kernel_rfl) (by kernel_rfl) ?_
            repeat (go_big_quiet_step (fail))
            refine wpQuiet_nil ?_
            intro wd qd
            go_wp2
            go_roundw
            case rel => exact ⟨k + 1, by omega, by go_num, by rw [HT.out]; simp [HP.out, HE2.out], hq.trans qd⟩
            case measure => simp [intOf]; omega
        · go_upto_region 17 with fail
          refine wp_region_qt (by kernel_rfl) (by kernel_rfl) ?_
          repeat (go_big_quiet_step (fail))
          refine wpQuiet_nil ?_
          intro wd qd
          go_wp2
          go_roundw
          case rel => exact ⟨k + 1, by omega, by go_num, by rw [HT.out]; simp [HE2.out], hq.trans qd⟩
          case measure => simp [intOf]; omega
      · have hE1 : (E == 0) = false := by simp [hE]
        have hE2 : decide (E = 0) = false := decide_eq_false hE
        have HE2 := Lib.hid hE2
        rw [hE2, Bool.false_and]
        clear hE hE2
        go_upto_region 17 with fail
        refine wp_region_qt (by kernel_rfl) (by kernel_rfl) ?_
        repeat (go_big_quiet_step (fail))
        refine wpQuiet_nil ?_
        intro wd qd
        go_wp2
        go_roundw
        case rel => exact ⟨k + 1, by omega, by go_num, by simp [HE2.out], hq.trans qd⟩
        case measure => simp [intOf]; omega
    · obtain rfl : k = cl.length := by omega
      have HW : Hid ((cl.map Cm.d).take cl.length = cl.map Cm.d) := Lib.hid (by rw [show cl.length = (cl.map Cm.d).length by simp, List.take_length])
      rw [HW.out]
      have HQ := Lib.hid hq
      clear hq
      go_wp2_with fail
      refine hQ.out  _ _ _ _ _ _ _ _ _ _ _ _ _ _ _ _ _ _ _ _ _ ?_
      exact HQ

noncomputable def truL3Code : Code := (Try.f4.body.bind (pickCode (isBlk 4))).getD .skip
set_option maxHeartbeats 64000000 in
set_option maxRecDepth 1000000 in
theorem truL3 {u0 u1 u2 u3 u4 u5 u7 u8 u9 u10 u11 u12 u13 u14 u15 u16 u17 u19 u24 u25 u26 u27 u28 u29 u30 u31 u32 u33 u34 u35 u36 u37 u38 u39 u40 u41 u42 u43 u44 u45 u46 u47 u48 u49 u50 u51 u52 u53 u54 u55 u56 u57 u58 u59 u60 u61 u62 u63 u64 u65 u66 u67 u68 u69 u70 u71 u72 u73 u74 u75 u76 u77 u78 u79 u80 u81 u82 u83 u84 u85 u86 u87 u88 u89 u90 u91 u92 u93 u94 u95 u96 u97 u98 u99 u100 u101 u102 u103 u104 u105 u106 u107 u108 u109 u110 u111 u112 u113 u114 u115 u116 u117 u118 u119 u120 u121 u122 u123 u124 u125 u126 u127 u128 u129 u130 u131 u132 u133 u134 u135 u136 u137 u138 u139 u140 u141 u142 u143 u146 u147 u148 u149 u150 u151 u152 u153 u154 u155 u156 u157 u158 u159 u160 u161 u162 u163 u164 u165 u166 u167 u168 u169 u170 u171 u172 u173 u174 u175 u176 u177 u178 u179 u180 u181 u182 u183 u184 u185 u186 u187 u188 u189 u190 u191 u192 u193 u194 u195 u196 u197 u198 u199 u200 u201 u202 u203 u204 u205 u206 u207 u208 u209 u210 u211 u212 u213 u214 u215 u216 u217 u218 u219 u220 u221 u222 u223 u224 u225 u226 u227 u228 u229 u230 u231 u232 u233 : Value} {w : World} {p j n ga c Kc Kd : Nat} {now tr f : Int} {cl : List Cm} {A KA KB : Option Addr} {s : PS} {L : List Hp} {Q : Exit → Act → World → Prop} {wr : World}
    (SB : Hid (TrS w p now j cl n A c s wr)) (NA : Hid (wr.heap[ga]? = some (.cells #[.slice KA (gotL L).length Kc, .slice KB (markL L).length Kd, .int .u64 tr, .int .u64 (xorL L), .bool (oddL L)] 48 (0, 0)))) (RS : Hid (Rd wr 2 KA (gotL L).length Kc (Ss (gotL L)))) (RM : Hid (Rd wr 2 KB (markL L).length Kd (Ss (markL L)))) (HLL : Hid (L = PS.clm f (cl.map Cm.d))) (OKC : Hid (∀ d ∈ cl.map Cm.d, d.Ok ∧ 0 ≤ d.pn)) (NOD : Hid ((cl.map Cm.d).map (·.pn)).Nodup) (U1 : Hid (U2s (gotL L) ∧ Good (gotL L))) (U2 : Hid (U2s (markL L))) (hcl : cl.length ≤ 1000)
    (hQ : Hid (∀  (x4 x24 x25 x145 x146 x147 x148 x149 x150 x151 x152 x153 x154 x155 x156 x157 x158 x159 x160 x161 x162 x163 x164 x165 x166 x167 x168 x169 x170 x171 x172 x173 x174 x175 x176 x177 x178 x179 x180 x181 x182 x183 x184 x185 x186 x187 x188 x189 x190 x191 x192 x193 x194 x195 x196 x197 x198 x199 x200 x201 x202 x203 x204 x205 : Value) (wx : World), Hid (Qt wr wx) → Q .normal ⟨#[u0, u1, u2, u3, x4, u5, .slice A cl.length c, u7, u8, u9, u10, u11, u12, u13, u14, u15, u16, u17, .pointer (some ⟨ga, 0, none⟩), u19, .int .u64 (xorL L), .bool (oddL L), .bool (PS.trg tr L), .int .u64 (L.length : Int), x24, x25, u26, u27, u28, u29, u30, u31, u32, u33, u34, u35, u36, u37, u38, u39, u40, u41, u42, u43, u44, u45, u46, u47, u48, u49, u50, u51, u52, u53, u54, u55, u56, u57, u58, u59, u60, u61, u62, u63, u64, u65, u66, u67, u68, u69, u70, u71, u72, u73, u74, u75, u76, u77, u78, u79, u80, u81, u82, u83, u84, u85, u86, u87, u88, u89, u90, u91, u92, u93, u94, u95, u96, u97, u98, u99, u100, u101, u102, u103, u104, u105, u106, u107, u108, u109, u110, u111, u112, u113, u114, u115, u116, u117, u118, u119, u120, u121, u122, u123, u124, u125, u126, u127, u128, u129, u130, u131, u132, u133, u134, u135, u136, u137, u138, u139, u140, u141, u142, u143, .int .i64 (cl.length : Int), x145, x146, x147, x148, x149, x150, x151, x152, x153, x154, x155, x156, x157, x158, x159, x160, x161, x162, x163, x164, x165, x166, x167, x168, x169, x170, x171, x172, x173, x174, x175, x176, x177, x178, x179, x180, x181, x182, x183, x184, x185, x186, x187, x188, x189, x190, x191, x192, x193, x194, x195, x196, x197, x198, x199, x200, x201, x202, x203, x204, x205, u206, u207, u208, u209, u210, u211, u212, u213, u214, u215, u216, u217, u218, u219, u220, u221, u222, u223, u224, u225, u226, u227, u228, u229, u230, u231, u232, u233], []⟩ wx)) :
    Code.wp Try.prog truL3Code Q ⟨#[u0, u1, u2, u3, u4, u5, .slice A cl.length c, u7, u8, u9, u10, u11, u12, u13, u14, u15, u16, u17, .pointer (some ⟨ga, 0, none⟩), u19, .int .u64 0, .bool false, .bool false, .int .u64 0, u24, u25, u26, u27, u28, u29, u30, u31, u32, u33, u34, u35, u36, u37, u38, u39, u40, u41, u42, u43, u44, u45, u46, u47, u48, u49, u50, u51, u52, u53, u54, u55, u56, u57, u58, u59, u60, u61, u62, u63, u64, u65, u66, u67, u68, u69, u70, u71, u72, u73, u74, u75, u76, u77, u78, u79, u80, u81, u82, u83, u84, u85, u86, u87, u88, u89, u90, u91, u92, u93, u94, u95, u96, u97, u98, u99, u100, u101, u102, u103, u104, u105, u106, u107, u108, u109, u110, u111, u112, u113, u114, u115, u116, u117, u118, u119, u120, u121, u122, u123, u124, u125, u126, u127, u128, u129, u130, u131, u132, u133, u134, u135, u136, u137, u138, u139, u140, u141, u142, u143, .int .i64 (cl.length : Int), .int .i64 0, u146, u147, u148, u149, u150, u151, u152, u153, u154, u155, u156, u157, u158, u159, u160, u161, u162, u163, u164, u165, u166, u167, u168, u169, u170, u171, u172, u173, u174, u175, u176, u177, u178, u179, u180, u181, u182, u183, u184, u185, u186, u187, u188, u189, u190, u191, u192, u193, u194, u195, u196, u197, u198, u199, u200, u201, u202, u203, u204, u205, u206, u207, u208, u209, u210, u211, u212, u213, u214, u215, u216, u217, u218, u219, u220, u221, u222, u223, u224, u225, u226, u227, u228, u229, u230, u231, u232, u233], []⟩ wr := by
  conv => arg 2; whnf
  rename World => wb
  go_wp2_with fail
  go_loopw [20, 21, 22, 23, 145] (fun sv ov tv zv iv wr => ∃ k : Nat, k ≤ cl.length ∧ iv = .int .i64 k ∧ sv = .int .u64 (xorL (PS.clm f ((cl.map Cm.d).take k))) ∧ ov = .bool (oddL (PS.clm f ((cl.map Cm.d).take k))) ∧ tv = .bool (PS.trg tr (PS.clm f ((cl.map Cm.d).take k))) ∧ zv = .int .u64 ((PS.clm f ((cl.map Cm.d).take k)).length : Int) ∧ Qt wb wr) (fun _ _ _ _ i _ => cl.length - (intOf i).toNat)
  case atStart => exact ⟨0, Nat.zero_le _, rfl, rfl, rfl, rfl, rfl, Qt.refl _⟩
  case round =>
    obtain ⟨k, hk, rfl, rfl, rfl, rfl, rfl, hq⟩ := hrel
    rename World => wr
    have NAr : Hid (wr.heap[ga]? = some (.cells #[.slice KA (gotL L).length Kc, .slice KB (markL L).length Kd, .int .u64 tr, .int .u64 (xorL L), .bool (oddL L)] 48 (0, 0))) := Lib.hid (hq.blk NA.out)
    have na := NAr.out
    have z0 := cell_of_row wr ga 0 _ _ _ na
    have z1 := cell_of_row wr ga 1 _ _ _ na
    have z2 := cell_of_row wr ga 2 _ _ _ na
    have z3 := cell_of_row wr ga 3 _ _ _ na
    have z4 := cell_of_row wr ga 4 _ _ _ na
    clear na
    have SR := Lib.hid (SB.out.below hq.below)
    by_cases hkl : k < cl.length
    · obtain ⟨bp, op, eA, e0, e3, e4⟩ := SR.out.at_ hkl
      have hmem : cl[k].d ∈ cl.map Cm.d := List.mem_map.2 ⟨cl[k], List.getElem_mem hkl, rfl⟩
      have HS := PS.clm_has (f := f) OKC.out NOD.out hmem
      rw [← HLL.out] at HS
      have HT := PS.clm_take f (cl.map Cm.d) (k := k) (by simpa using hkl)
      have hck : (cl.map Cm.d)[k]'(by simpa using hkl) = cl[k].d := by simp
      rw [hck] at HT
      have hdo := OKC.out _ hmem
      have HT := Lib.hid HT
      have HS := Lib.hid HS
      have p0 : 0 ≤ cl[k].d.pn := hdo.2
      have p1 : cl[k].d.pn < 18446744073709551616 := by have := hdo.1.pn; omega
      have hec := hdo.1.ecn
      have hzl : (PS.clm f ((cl.map Cm.d).take k)).length ≤ k := by have := PS.clm_len f ((cl.map Cm.d).take k); rw [List.length_take] at this; omega
      clear hmem hck hdo
      generalize cl[k].d = d at *
      generalize hoff : op + k * 6 = o6 at *
      generalize PS.clm f ((cl.map Cm.d).take k) = Q at *
      subst eA
      by_cases hf : f ≤ d.pn
      · have hfd : decide (f ≤ d.pn) = true := decide_eq_true hf
        have HT2 : Hid (PS.clm f ((cl.map Cm.d).take (k + 1)) = Q ++ [hpOf d]) := Lib.hid (by have := HT.out; rwa [if_pos hf] at this)
        have HN : Hid (∀ q, Calls Try.prog 18 #[.slice KA (gotL L).length Kc, .int .u64 d.pn] (wr.drewN q) fun e w' => e = .returned (.bool true) ∧ Qt (wr.drewN q) w') := Lib.hid (fun q => by
          have h := hasNum_any KA _ Kc (gotL L) d.pn (wr.drewN q) (RS.out.below (hq.trans ⟨q, rfl⟩).below) U1.out.1 p0 p1
          rw [HS.out.1, hfd] at h
          exact h)
        have HM := HS.out.2 hf
        have HM := Lib.hid HM
        have ws : IntKind.u64.wrap ((Q.length : Int) + 1) = (Q.length : Int) + 1 := IntWalk.u64_in _ (by omega)
        clear hf hfd HT
        go_upto_region 37 with fail
        refine wp_region_qt (by kernel_rfl) (by kernel_rfl) ?_
        repeat (first | go_big_quiet_step ((go_at_call 18; exact Qt.callN (HN.out _))) | quiet_step ((go_at_call 18; exact Qt.callN (HN.out _))))
        refine wpQuiet_nil ?_
        intro wd qd
        have hqd := hq.trans qd
        have HN2 : Hid (∀ q, Calls Try.prog 18 #[.slice KB (markL L).length Kd, .int .u64 d.pn] (wd.drewN q) fun e w' => e = .returned (.bool (decide (d.ecn = 3))) ∧ Qt (wd.drewN q) w') := Lib.hid (fun q => by
          have h := hasNum_any KB _ Kd (markL L) d.pn (wd.drewN q) (RM.out.below (hqd.trans ⟨q, rfl⟩).below) U2.out p0 p1
          rw [HM.out] at h
          exact h)
        have e0 := qd.cell e0
        have e3 := qd.cell e3
        have e4 := qd.cell e4
        have z0 := qd.cell z0
        have z1 := qd.cell z1
        have z2 := qd.cell z2
        clear HN
        --<LG
        go_upto_region 40 with fail
        refine wp_region_qt (by kernel_rfl) (by kernel_rfl) ?_
        repeat (first | go_big_quiet_step ((go_at_call 18; exact Qt.callN (HN2.out _))) | quiet_step ((go_at_call 18; exact Qt.callN (HN2.out _))))
        refine wpQuiet_nil ?_
        intro we qe
        have hqe := Lib.hid (hqd.trans qe)
        have e3 := qe.cell e3
        have e4 := qe.cell e4
        have z2 := qe.cell z2
        clear e0 z0 z1 HN2 hqd qd hq qe NAr SR HM
        obtain ⟨ec, hce⟩ : ∃ ec, ec = d.ecn := ⟨_, rfl⟩
        rw [← hce] at e4 hec
        rw [← hce]
        have HE9 := Lib.hid hce
        clear hce
        generalize hXQ : xorL Q = xq at *
        generalize hOQ : oddL Q = ob at *
        generalize hTQ : PS.trg tr Q = tb at *
        have HXQ := Lib.hid hXQ
        have HOQ := Lib.hid hOQ
        have HTQ := Lib.hid hTQ
        clear hXQ hOQ hTQ
        have hec3 : ec = 1 ∨ ec = 2 ∨ ec = 3 := by omega
        clear hec
        rcases hec3 with rfl | rfl | rfl
        all_goals
          go_upto_region 42 with fail
          go_cut [22] from 146 to 205 (fun bv wx => ∃ B : Bool, bv = .bool B ∧ Hid (B = (tb || decide (d.nonce = tr))) ∧ Hid (Qt wb wx) ∧ Hid (Qt we wx))
          case first =>
            cases tb
            · by_cases hn : d.nonce = tr
              · have hn1 : (d.nonce == tr) = true := by simp [hn]
                have HNN := Lib.hid hn
                clear hn
                refine wp_region_qt (by kernel_rfl) (by kernel_rfl) ?_
                repeat (go_big_quiet_step (fail))
                refine wpQuiet_nil ?_
                intro wf qf
                go_wp2
                go_meet
                exact ⟨true, rfl, Lib.hid (by simp [HNN.out]), Lib.hid (hqe.out.trans qf), Lib.hid qf⟩
              · have hn1 : (d.nonce == tr) = false := by simp [hn]
                have HNN := Lib.hid hn
                clear hn
                refine wp_region_qt (by kernel_rfl) (by kernel_rfl) ?_
                repeat (go_big_quiet_step (fail))
                refine wpQuiet_nil ?_
                intro wf qf
                go_wp2
                go_meet
                exact ⟨false, rfl, Lib.hid (by simp [HNN.out]), Lib.hid (hqe.out.trans qf), Lib.hid qf⟩
            · refine wp_region_qt (by kernel_rfl) (by kernel_rfl) ?_
              repeat (go_big_quiet_step (fail))
              refine wpQuiet_nil ?_
              intro wf qf
              go_wp2
              go_meet
              exact ⟨true, rfl, Lib.hid (by simp), Lib.hid (hqe.out.trans qf), Lib.hid qf⟩
          case rest =>
            obtain ⟨B, rfl, HBt, QF, QG⟩ := hcut
            have e4 := QG.out.cell e4
            clear QG e3 z2
            go_wp2
            go_roundw
            case rel => exact ⟨k + 1, by omega, by go_num, by rw [HT2.out, xorL_snoc, HXQ.out]; rfl, by rw [HT2.out, oddL_snoc, HOQ.out]; simp only [hpOf, ← HE9.out]; cases ob <;> rfl, by rw [HT2.out, PS.trg_snoc, HTQ.out, HBt.out]; rfl, by rw [HT2.out]; simp, QF.out⟩
            case measure => simp [intOf]; omega
        --LG>
      · have hfd : decide (f ≤ d.pn) = false := decide_eq_false hf
        have HT2 : Hid (PS.clm f ((cl.map Cm.d).take (k + 1)) = Q) := Lib.hid (by have := HT.out; rwa [if_neg hf] at this)
        have HN : Hid (∀ q, Calls Try.prog 18 #[.slice KA (gotL L).length Kc, .int .u64 d.pn] (wr.drewN q) fun e w' => e = .returned (.bool false) ∧ Qt (wr.drewN q) w') := Lib.hid (fun q => by
          have h := hasNum_any KA _ Kc (gotL L) d.pn (wr.drewN q) (RS.out.below (hq.trans ⟨q, rfl⟩).below) U1.out.1 p0 p1
          rw [HS.out.1, hfd] at h
          exact h)
        clear hf hfd HT
        go_upto_region 37 with fail
        refine wp_region_qt (by kernel_rfl) (by kernel_rfl) ?_
        repeat (first | go_big_quiet_step ((go_at_call 18; exact Qt.callN (HN.out _))) | quiet_step ((go_at_call 18; exact Qt.callN (HN.out _))))
        refine wpQuiet_nil ?_
        intro wd qd
        go_wp2
        go_roundw
        case rel => exact ⟨k + 1, by omega, by go_num, by rw [HT2.out], by rw [HT2.out], by rw [HT2.out], by rw [HT2.out], hq.trans qd⟩
        case measure => simp [intOf]; omega
    · obtain rfl : k = cl.length := by omega
      have hw : (cl.map Cm.d).take cl.length = cl.map Cm.d := by rw [show cl.length = (cl.map Cm.d).length by simp, List.take_length]
      rw [hw, ← HLL.out]
      have HQ := Lib.hid hq
      clear hw hq SR z0 z1 z2 z3 z4
      go_wp2_with fail
      refine hQ.out  _ _ _ _ _ _ _ _ _ _ _ _ _ _ _ _ _ _ _ _ _ _ _ _ _ _ _ _ _ _ _ _ _ _ _ _ _ _ _ _ _ _ _ _ _ _ _ _ _ _ _ _ _ _ _ _ _ _ _ _ _ _ _ _ _ ?_
      exact HQ

end Go.Proofs.Ytkedfipeebjcjaa
