/-
  The walk of PeerTruth: its single statements.
-/
import Derived.Test.YtkedfipeebjcjaaPlTru
namespace Go.Proofs.Ytkedfipeebjcjaa
set_option linter.unusedSimpArgs false
set_option linter.unusedVariables false
set_option linter.unnecessarySimpa false
open Go.RowKit

noncomputable def truR21Code : Code := (Try.f4.body.bind (pickCode (isReg 21))).getD .skip
set_option maxHeartbeats 64000000 in
set_option maxRecDepth 1000000 in
theorem truR21 {u0 u1 u2 u3 u4 u6 u7 u8 u9 u10 u11 u12 u14 u16 u17 u18 u19 u20 u21 u22 u23 u24 u25 u26 u27 u28 u29 u30 u31 u32 u33 u34 u35 u36 u37 u38 u39 u40 u41 u42 u43 u44 u45 u46 u47 u48 u49 u50 u51 u52 u53 u54 u55 u56 u57 u58 u59 u60 u61 u62 u63 u64 u65 u66 u67 u68 u69 u70 u71 u72 u73 u74 u75 u76 u77 u78 u79 u80 u81 u82 u83 u84 u85 u86 u87 u88 u89 u90 u91 u92 u93 u94 u95 u96 u97 u98 u99 u100 u101 u102 u103 u104 u105 u106 u107 u108 u109 u110 u111 u112 u113 u114 u115 u116 u117 u118 u119 u120 u121 u122 u123 u124 u125 u126 u127 u128 u129 u130 u131 u132 u133 u134 u135 u136 u137 u138 u139 u140 u141 u142 u143 u144 u145 u146 u147 u148 u149 u150 u151 u152 u153 u154 u155 u156 u157 u158 u159 u160 u161 u162 u163 u164 u165 u166 u167 u168 u169 u170 u171 u172 u173 u174 u175 u176 u177 u178 u179 u180 u181 u182 u183 u184 u185 u186 u187 u188 u189 u190 u191 u192 u193 u194 u195 u196 u197 u198 u199 u200 u201 u202 u203 u204 u205 u206 u207 u208 u209 u210 u211 u212 u213 u214 u215 u216 u217 u218 u219 u220 u221 u222 u223 u224 u225 u226 u227 u228 u229 u230 u231 u232 u233 : Value} {p : Nat} {O : Bool} {sb : Int} {s1 : PS} {F7 : Nat → Prop} {Q : Exit → Act → World → Prop} {wr : World}
    (P7 : Hid (PeP wr F7 (fun _ => False) p s1))
    (hQ : Hid (∀  (x98 x99 x100 x101 x102 x103 x104 : Value) (wx : World), wx = wr → Q .normal ⟨#[u0, u1, u2, u3, u4, .pointer (some ⟨p, 0, none⟩), u6, u7, u8, u9, u10, u11, u12, .bool O, u14, .int .u64 sb, u16, u17, u18, u19, u20, u21, u22, u23, u24, u25, u26, u27, u28, u29, u30, u31, u32, u33, u34, u35, u36, u37, u38, u39, u40, u41, u42, u43, u44, u45, u46, u47, u48, u49, u50, u51, u52, u53, u54, u55, u56, u57, u58, u59, u60, u61, u62, u63, u64, u65, u66, u67, u68, u69, u70, u71, u72, u73, u74, u75, u76, u77, u78, u79, u80, u81, u82, u83, u84, u85, u86, u87, u88, u89, u90, u91, u92, u93, u94, u95, u96, u97, x98, x99, x100, x101, x102, x103, x104, .bool (decide (sb < s1.bytes) && !O), u106, u107, u108, u109, u110, u111, u112, u113, u114, u115, u116, u117, u118, u119, u120, u121, u122, u123, u124, u125, u126, u127, u128, u129, u130, u131, u132, u133, u134, u135, u136, u137, u138, u139, u140, u141, u142, u143, u144, u145, u146, u147, u148, u149, u150, u151, u152, u153, u154, u155, u156, u157, u158, u159, u160, u161, u162, u163, u164, u165, u166, u167, u168, u169, u170, u171, u172, u173, u174, u175, u176, u177, u178, u179, u180, u181, u182, u183, u184, u185, u186, u187, u188, u189, u190, u191, u192, u193, u194, u195, u196, u197, u198, u199, u200, u201, u202, u203, u204, u205, u206, u207, u208, u209, u210, u211, u212, u213, u214, u215, u216, u217, u218, u219, u220, u221, u222, u223, u224, u225, u226, u227, u228, u229, u230, u231, u232, u233], []⟩ wx)) :
    Code.wp Try.prog truR21Code Q ⟨#[u0, u1, u2, u3, u4, .pointer (some ⟨p, 0, none⟩), u6, u7, u8, u9, u10, u11, u12, .bool O, u14, .int .u64 sb, u16, u17, u18, u19, u20, u21, u22, u23, u24, u25, u26, u27, u28, u29, u30, u31, u32, u33, u34, u35, u36, u37, u38, u39, u40, u41, u42, u43, u44, u45, u46, u47, u48, u49, u50, u51, u52, u53, u54, u55, u56, u57, u58, u59, u60, u61, u62, u63, u64, u65, u66, u67, u68, u69, u70, u71, u72, u73, u74, u75, u76, u77, u78, u79, u80, u81, u82, u83, u84, u85, u86, u87, u88, u89, u90, u91, u92, u93, u94, u95, u96, u97, u98, u99, u100, u101, u102, u103, u104, u105, u106, u107, u108, u109, u110, u111, u112, u113, u114, u115, u116, u117, u118, u119, u120, u121, u122, u123, u124, u125, u126, u127, u128, u129, u130, u131, u132, u133, u134, u135, u136, u137, u138, u139, u140, u141, u142, u143, u144, u145, u146, u147, u148, u149, u150, u151, u152, u153, u154, u155, u156, u157, u158, u159, u160, u161, u162, u163, u164, u165, u166, u167, u168, u169, u170, u171, u172, u173, u174, u175, u176, u177, u178, u179, u180, u181, u182, u183, u184, u185, u186, u187, u188, u189, u190, u191, u192, u193, u194, u195, u196, u197, u198, u199, u200, u201, u202, u203, u204, u205, u206, u207, u208, u209, u210, u211, u212, u213, u214, u215, u216, u217, u218, u219, u220, u221, u222, u223, u224, u225, u226, u227, u228, u229, u230, u231, u232, u233], []⟩ wr := by
  conv => arg 2; whnf
  have K8 := Lib.hid (peer_pbytes wr F7 (fun _ => False) p s1 P7.out)
  by_cases hG : sb < s1.bytes
  · have g1 : decide (sb < s1.bytes) = true := decide_eq_true hG
    rw [g1, Bool.true_and] at hQ
    go_wp2_with fail
    refine K8.out.mono ?_
    rintro e w7' ⟨rfl, rfl⟩
    go_wp2
    refine hQ.out  _ _ _ _ _ _ _ _ ?_
    rfl
  · have g1 : decide (sb < s1.bytes) = false := decide_eq_false hG
    rw [g1, Bool.false_and] at hQ
    go_wp2_with fail
    refine K8.out.mono ?_
    rintro e w7' ⟨rfl, rfl⟩
    go_wp2
    refine hQ.out  _ _ _ _ _ _ _ _ ?_
    rfl

noncomputable def truI105Code : Code := (Try.f4.body.bind (pickCode (isIf 105))).getD .skip
set_option maxHeartbeats 64000000 in
set_option maxRecDepth 1000000 in
theorem truI105 {u0 u1 u2 u3 u4 u5 u7 u8 u9 u10 u12 u13 u14 u15 u16 u17 u18 u19 u20 u21 u22 u23 u24 u25 u26 u27 u28 u29 u30 u31 u32 u33 u34 u35 u36 u37 u38 u39 u40 u41 u42 u43 u44 u45 u46 u47 u48 u49 u50 u51 u52 u53 u54 u55 u56 u57 u58 u59 u60 u61 u62 u63 u64 u65 u66 u67 u68 u69 u70 u71 u72 u73 u74 u75 u76 u77 u78 u79 u80 u81 u82 u83 u84 u85 u86 u87 u88 u89 u90 u91 u92 u93 u94 u95 u96 u97 u98 u99 u100 u101 u102 u103 u104 u106 u107 u108 u109 u110 u111 u112 u113 u114 u115 u116 u117 u118 u119 u120 u121 u122 u123 u124 u125 u126 u127 u128 u129 u130 u131 u132 u133 u134 u135 u136 u137 u138 u139 u140 u141 u142 u143 u144 u145 u146 u147 u148 u149 u150 u151 u152 u153 u154 u155 u156 u157 u158 u159 u160 u161 u162 u163 u164 u165 u166 u167 u168 u169 u170 u171 u172 u173 u174 u175 u176 u177 u178 u179 u180 u181 u182 u183 u184 u185 u186 u187 u188 u189 u190 u191 u192 u193 u194 u195 u196 u197 u198 u199 u200 u201 u202 u203 u204 u205 u206 u207 u208 u209 u210 u211 u212 u213 u214 u215 u216 u217 u218 u219 u220 u221 u222 u223 u224 u225 u226 u227 u228 u229 u230 u231 u232 u233 : Value} {w : World} {p j n g c c4 c7 bb o9 : Nat} {nw sb : Int} {cl : List Cm} {A A4 A7 : Option Addr} {s1 : PS} {o1 : Option AckD} {D : DatD} {B O : Bool} {x : Pk} {F7 : Nat → Prop} {Q : Exit → Act → World → Prop} {wr : World}
    (HB : Hid (B = (decide (sb < s1.bytes) && !O))) (TT : Hid ((¬ sb < s1.bytes ∧ o1 = none ∧ s1.Truth (cl.map Cm.d) n) ∨ (sb < s1.bytes ∧ O = false ∧ s1.Truth (cl.map Cm.d ++ [D]) (n + if o1.isSome then 1 else 0) ∧ ∀ a, o1 = some a → PS.IsTrue (cl.map Cm.d ++ [D]) a ∧ AckOk a))) (P7 : Hid (PeP wr F7 (fun _ => False) p s1)) (hF7 : Hid (∀ k, F7 k → w.heap.size ≤ k ∧ k < wr.heap.size ∧ (Value.slice A cl.length c).ownBlock ≠ some k)) (O7 : Hid (wr.ownsRow w.heap.size 30 6 (.slice A cl.length c) cl.length (cl.flatMap Cm.cells))) (B7 : Hid (Below w.heap.size w wr)) (N7 : Hid (wr.heap[g]? = some (.cells #[.int .u64 D.pn, .int .u64 D.least, .int .u64 D.off, .int .u64 D.nonce, .int .i64 D.ecn, .slice A4 D.body.length c4] 30 (0, 0)))) (X7 : Hid (PkIn wr w.heap.size bb o9 x)) (TD : Hid (Rd wr 1 A7 (tellB o1).length c7 (U8 (tellB o1)))) (ND : Hid (∀ b off, A7 = some ⟨b, off, none⟩ → 0 < (tellB o1).length → (Value.slice A cl.length c).ownBlock ≠ some b)) (FEW : Hid (s1.s.length ≤ j + 1)) (hnw0 : 0 ≤ nw) (hnw1 : nw ≤ (j + 1) * 4294967295) (hcf : cl.length ≤ j) (hj : j ≤ 1000)
    (hQ : Hid (∀ (cl' : List Cm) (A' : Option Addr) (c' : Nat) (x106 x107 x108 x109 : Value) (wx : World), Hid (TrM w p nw j cl' n A' c' s1 o1 A7 c7 wx) ∧ Hid (PkIn wx w.heap.size bb o9 x) ∧ Hid (decide (sb < s1.bytes) = false ∨ (decide (sb < s1.bytes) = true ∧ O = false)) → Q .normal ⟨#[u0, u1, u2, u3, u4, u5, .slice A' cl'.length c', u7, u8, u9, u10, .pointer (some ⟨g, 0, none⟩), u12, u13, u14, u15, u16, u17, u18, u19, u20, u21, u22, u23, u24, u25, u26, u27, u28, u29, u30, u31, u32, u33, u34, u35, u36, u37, u38, u39, u40, u41, u42, u43, u44, u45, u46, u47, u48, u49, u50, u51, u52, u53, u54, u55, u56, u57, u58, u59, u60, u61, u62, u63, u64, u65, u66, u67, u68, u69, u70, u71, u72, u73, u74, u75, u76, u77, u78, u79, u80, u81, u82, u83, u84, u85, u86, u87, u88, u89, u90, u91, u92, u93, u94, u95, u96, u97, u98, u99, u100, u101, u102, u103, u104, .bool B, x106, x107, x108, x109, u110, u111, u112, u113, u114, u115, u116, u117, u118, u119, u120, u121, u122, u123, u124, u125, u126, u127, u128, u129, u130, u131, u132, u133, u134, u135, u136, u137, u138, u139, u140, u141, u142, u143, u144, u145, u146, u147, u148, u149, u150, u151, u152, u153, u154, u155, u156, u157, u158, u159, u160, u161, u162, u163, u164, u165, u166, u167, u168, u169, u170, u171, u172, u173, u174, u175, u176, u177, u178, u179, u180, u181, u182, u183, u184, u185, u186, u187, u188, u189, u190, u191, u192, u193, u194, u195, u196, u197, u198, u199, u200, u201, u202, u203, u204, u205, u206, u207, u208, u209, u210, u211, u212, u213, u214, u215, u216, u217, u218, u219, u220, u221, u222, u223, u224, u225, u226, u227, u228, u229, u230, u231, u232, u233], []⟩ wx)) :
    Code.wp Try.prog truI105Code Q ⟨#[u0, u1, u2, u3, u4, u5, .slice A cl.length c, u7, u8, u9, u10, .pointer (some ⟨g, 0, none⟩), u12, u13, u14, u15, u16, u17, u18, u19, u20, u21, u22, u23, u24, u25, u26, u27, u28, u29, u30, u31, u32, u33, u34, u35, u36, u37, u38, u39, u40, u41, u42, u43, u44, u45, u46, u47, u48, u49, u50, u51, u52, u53, u54, u55, u56, u57, u58, u59, u60, u61, u62, u63, u64, u65, u66, u67, u68, u69, u70, u71, u72, u73, u74, u75, u76, u77, u78, u79, u80, u81, u82, u83, u84, u85, u86, u87, u88, u89, u90, u91, u92, u93, u94, u95, u96, u97, u98, u99, u100, u101, u102, u103, u104, .bool B, u106, u107, u108, u109, u110, u111, u112, u113, u114, u115, u116, u117, u118, u119, u120, u121, u122, u123, u124, u125, u126, u127, u128, u129, u130, u131, u132, u133, u134, u135, u136, u137, u138, u139, u140, u141, u142, u143, u144, u145, u146, u147, u148, u149, u150, u151, u152, u153, u154, u155, u156, u157, u158, u159, u160, u161, u162, u163, u164, u165, u166, u167, u168, u169, u170, u171, u172, u173, u174, u175, u176, u177, u178, u179, u180, u181, u182, u183, u184, u185, u186, u187, u188, u189, u190, u191, u192, u193, u194, u195, u196, u197, u198, u199, u200, u201, u202, u203, u204, u205, u206, u207, u208, u209, u210, u211, u212, u213, u214, u215, u216, u217, u218, u219, u220, u221, u222, u223, u224, u225, u226, u227, u228, u229, u230, u231, u232, u233], []⟩ wr := by
  conv => arg 2; whnf
  obtain ⟨iD, hiD, dz0, dz1, dz2⟩ := info_parts infoData2
  rcases TT.out with ⟨t1, t2, t3⟩ | ⟨t1, t2, t5, t6⟩
  · have hB : B = false := by rw [HB.out, decide_eq_false t1, Bool.false_and]
    subst hB
    have TM : Hid (TrM w p nw j cl n A c s1 o1 A7 c7 wr) := Lib.hid ⟨⟨⟨F7, P7.out, hF7.out⟩, O7.out, by rw [t2]; exact t3, FEW.out, by omega, hnw0, by omega, B7.out⟩, (fun a ha => by rw [t2] at ha; cases ha), TD.out⟩
    have HG1 := Lib.hid t1
    clear t1 t2 t3
    go_wp2_with fail
    refine hQ.out cl A c _ _ _ _ _ ?_
    exact ⟨TM, X7, Lib.hid (.inl (decide_eq_false (by have := HG1.out; omega)))⟩
  · have hB : B = true := by rw [HB.out, decide_eq_true t1, t2]; rfl
    subst hB
    have HG : Hid (decide (sb < s1.bytes) = false ∨ (decide (sb < s1.bytes) = true ∧ O = false)) := Lib.hid (.inr ⟨decide_eq_true t1, t2⟩)
    have T5 := Lib.hid t5
    have T7 := Lib.hid t6
    have dd := N7.out
    have d0 := cell_of_row wr g 0 _ _ _ dd
    have d1 := cell_of_row wr g 1 _ _ _ dd
    have d2 := cell_of_row wr g 2 _ _ _ dd
    have d3 := cell_of_row wr g 3 _ _ _ dd
    have d4 := cell_of_row wr g 4 _ _ _ dd
    have d5 := cell_of_row wr g 5 _ _ _ dd
    have ocp := (Rd.of_own O7.out).cap
    have hsz := B7.out.size
    clear t1 t2 t5 t6 dd
    go_wp2_with (
      at_builtin
      refine wpList_app1 _ rfl (.tmp 106) (.tmp 108) 28 rfl w.heap.size 30 iD (.agg #[.int .u64 0, .int .u64 0, .int .u64 0, .int .u64 0, .int .i64 0, .slice none 0 0]) 6 64 Try.underlying28 hiD dz0 dz1 dz2 rfl (by decide) (.slice A cl.length c) cl.length (cl.flatMap Cm.cells) rfl O7.out #[.int .u64 D.pn, .int .u64 D.least, .int .u64 D.off, .int .u64 D.nonce, .int .i64 D.ecn, .slice A4 D.body.length c4] _ rfl (by simp) rfl (by simp [Value.oneCell']) (by unfold maxLen; omega) (by omega) (by omega) ?_
      intro v8 w8 hown8 hg8 hk8
      obtain ⟨A8, c8, hv8, -⟩ := own_slice hown8
      subst hv8
      have OW8 := Lib.hid hown8
      have G8 := Lib.hid hg8
      have K8' := Lib.hid hk8
      clear hown8 hg8 hk8)
    have C8 : Hid (Chg (fun k => (Value.slice A cl.length c).ownBlock = some k) wr w8) := Lib.hid ((Chg.refl _ wr).grown G8.out (fun k e => .inl e))
    have TM : Hid (TrM w p nw j (cl ++ [⟨D, A4, c4⟩]) n A8 c8 s1 o1 A7 c7 w8) := Lib.hid ⟨TrS.app ⟨D, A4, c4⟩ P7.out hF7.out O7.out B7.out G8.out OW8.out K8'.out (by rw [List.map_append]; exact T5.out) FEW.out (by omega) hnw0 (by omega), (by rw [List.map_append]; exact T7.out), TD.out.chg C8.out (fun b off e hn h => ND.out b off e hn h)⟩
    have X8 : Hid (PkIn w8 w.heap.size bb o9 x) := Lib.hid (X7.out.chg C8.out (fun k hk e => by have := (O7.out.lt k e).1; omega))
    have hlen : (cl ++ [(⟨D, A4, c4⟩ : Cm)]).length = cl.length + 1 := by simp
    have hQ2 := Lib.hid (hQ.out (cl ++ [(⟨D, A4, c4⟩ : Cm)]) A8 c8)
    rw [hlen] at hQ2
    clear hlen OW8 G8 K8' C8 hQ
    have hQ := hQ2
    go_wp2_with fail
    refine hQ.out  _ _ _ _ _ ?_
    exact ⟨TM, X8, HG⟩

noncomputable def truR23Code : Code := (Try.f4.body.bind (pickCode (isReg 23))).getD .skip
set_option maxHeartbeats 64000000 in
set_option maxRecDepth 1000000 in
theorem truR23 {u0 u1 u2 u3 u4 u6 u7 u8 u9 u10 u11 u12 u14 u16 u17 u18 u19 u20 u21 u22 u23 u24 u25 u26 u27 u28 u29 u30 u31 u32 u33 u34 u35 u36 u37 u38 u39 u40 u41 u42 u43 u44 u45 u46 u47 u48 u49 u50 u51 u52 u53 u54 u55 u56 u57 u58 u59 u60 u61 u62 u63 u64 u65 u66 u67 u68 u69 u70 u71 u72 u73 u74 u75 u76 u77 u78 u79 u80 u81 u82 u83 u84 u85 u86 u87 u88 u89 u90 u91 u92 u93 u94 u95 u96 u97 u98 u99 u100 u101 u102 u103 u104 u105 u106 u107 u108 u109 u110 u111 u112 u113 u114 u115 u116 u117 u118 u119 u120 u121 u122 u123 u124 u125 u126 u127 u128 u129 u130 u131 u132 u133 u134 u135 u136 u137 u138 u139 u140 u141 u142 u143 u144 u145 u146 u147 u148 u149 u150 u151 u152 u153 u154 u155 u156 u157 u158 u159 u160 u161 u162 u163 u164 u165 u166 u167 u168 u169 u170 u171 u172 u173 u174 u175 u176 u177 u178 u179 u180 u181 u182 u183 u184 u185 u186 u187 u188 u189 u190 u191 u192 u193 u194 u195 u196 u197 u198 u199 u200 u201 u202 u203 u204 u205 u206 u207 u208 u209 u210 u211 u212 u213 u214 u215 u216 u217 u218 u219 u220 u221 u222 u223 u224 u225 u226 u227 u228 u229 u230 u231 u232 u233 : Value} {p : Nat} {O : Bool} {sb : Int} {s1 : PS} {F8 : Nat → Prop} {Q : Exit → Act → World → Prop} {wr : World}
    (P8 : Hid (PeP wr F8 (fun _ => False) p s1)) (HG : Hid (decide (sb < s1.bytes) = false ∨ (decide (sb < s1.bytes) = true ∧ O = false)))
    (hQ : Hid (∀  (x110 x111 x112 x113 x114 x115 : Value) (wx : World), wx = wr → Q .normal ⟨#[u0, u1, u2, u3, u4, .pointer (some ⟨p, 0, none⟩), u6, u7, u8, u9, u10, u11, u12, .bool O, u14, .int .u64 sb, u16, u17, u18, u19, u20, u21, u22, u23, u24, u25, u26, u27, u28, u29, u30, u31, u32, u33, u34, u35, u36, u37, u38, u39, u40, u41, u42, u43, u44, u45, u46, u47, u48, u49, u50, u51, u52, u53, u54, u55, u56, u57, u58, u59, u60, u61, u62, u63, u64, u65, u66, u67, u68, u69, u70, u71, u72, u73, u74, u75, u76, u77, u78, u79, u80, u81, u82, u83, u84, u85, u86, u87, u88, u89, u90, u91, u92, u93, u94, u95, u96, u97, u98, u99, u100, u101, u102, u103, u104, u105, u106, u107, u108, u109, x110, x111, x112, x113, x114, x115, .bool false, u117, u118, u119, u120, u121, u122, u123, u124, u125, u126, u127, u128, u129, u130, u131, u132, u133, u134, u135, u136, u137, u138, u139, u140, u141, u142, u143, u144, u145, u146, u147, u148, u149, u150, u151, u152, u153, u154, u155, u156, u157, u158, u159, u160, u161, u162, u163, u164, u165, u166, u167, u168, u169, u170, u171, u172, u173, u174, u175, u176, u177, u178, u179, u180, u181, u182, u183, u184, u185, u186, u187, u188, u189, u190, u191, u192, u193, u194, u195, u196, u197, u198, u199, u200, u201, u202, u203, u204, u205, u206, u207, u208, u209, u210, u211, u212, u213, u214, u215, u216, u217, u218, u219, u220, u221, u222, u223, u224, u225, u226, u227, u228, u229, u230, u231, u232, u233], []⟩ wx)) :
    Code.wp Try.prog truR23Code Q ⟨#[u0, u1, u2, u3, u4, .pointer (some ⟨p, 0, none⟩), u6, u7, u8, u9, u10, u11, u12, .bool O, u14, .int .u64 sb, u16, u17, u18, u19, u20, u21, u22, u23, u24, u25, u26, u27, u28, u29, u30, u31, u32, u33, u34, u35, u36, u37, u38, u39, u40, u41, u42, u43, u44, u45, u46, u47, u48, u49, u50, u51, u52, u53, u54, u55, u56, u57, u58, u59, u60, u61, u62, u63, u64, u65, u66, u67, u68, u69, u70, u71, u72, u73, u74, u75, u76, u77, u78, u79, u80, u81, u82, u83, u84, u85, u86, u87, u88, u89, u90, u91, u92, u93, u94, u95, u96, u97, u98, u99, u100, u101, u102, u103, u104, u105, u106, u107, u108, u109, u110, u111, u112, u113, u114, u115, u116, u117, u118, u119, u120, u121, u122, u123, u124, u125, u126, u127, u128, u129, u130, u131, u132, u133, u134, u135, u136, u137, u138, u139, u140, u141, u142, u143, u144, u145, u146, u147, u148, u149, u150, u151, u152, u153, u154, u155, u156, u157, u158, u159, u160, u161, u162, u163, u164, u165, u166, u167, u168, u169, u170, u171, u172, u173, u174, u175, u176, u177, u178, u179, u180, u181, u182, u183, u184, u185, u186, u187, u188, u189, u190, u191, u192, u193, u194, u195, u196, u197, u198, u199, u200, u201, u202, u203, u204, u205, u206, u207, u208, u209, u210, u211, u212, u213, u214, u215, u216, u217, u218, u219, u220, u221, u222, u223, u224, u225, u226, u227, u228, u229, u230, u231, u232, u233], []⟩ wr := by
  conv => arg 2; whnf
  have K9 := Lib.hid (peer_pbytes wr F8 (fun _ => False) p s1 P8.out)
  rcases HG.out with g1 | ⟨g1, g2⟩
  · go_wp2_with fail
    refine K9.out.mono ?_
    rintro e w7' ⟨rfl, rfl⟩
    go_wp2
    refine hQ.out  _ _ _ _ _ _ _ ?_
    rfl
  · subst g2
    go_wp2_with fail
    refine K9.out.mono ?_
    rintro e w7' ⟨rfl, rfl⟩
    go_wp2
    refine hQ.out  _ _ _ _ _ _ _ ?_
    rfl

noncomputable def truR25Code : Code := (Try.f4.body.bind (pickCode (isReg 25))).getD .skip
set_option maxHeartbeats 64000000 in
set_option maxRecDepth 1000000 in
theorem truR25 {u0 u2 u3 u4 u5 u6 u7 u8 u10 u11 u12 u13 u14 u15 u16 u18 u19 u20 u21 u22 u23 u24 u25 u26 u27 u28 u29 u30 u31 u32 u33 u34 u35 u36 u37 u38 u39 u40 u41 u42 u43 u44 u45 u46 u47 u48 u49 u50 u51 u52 u53 u54 u55 u56 u57 u58 u59 u60 u61 u62 u63 u64 u65 u66 u67 u68 u69 u70 u71 u72 u73 u74 u75 u76 u77 u78 u79 u80 u81 u82 u83 u84 u85 u86 u87 u88 u89 u90 u91 u92 u93 u94 u95 u96 u97 u98 u99 u100 u101 u102 u103 u104 u105 u106 u107 u108 u109 u110 u111 u112 u113 u114 u115 u116 u117 u118 u119 u120 u121 u122 u123 u124 u125 u126 u127 u128 u129 u130 u131 u132 u133 u134 u135 u136 u137 u138 u139 u140 u141 u142 u143 u144 u145 u146 u147 u148 u149 u150 u151 u152 u153 u154 u155 u156 u157 u158 u159 u160 u161 u162 u163 u164 u165 u166 u167 u168 u169 u170 u171 u172 u173 u174 u175 u176 u177 u178 u179 u180 u181 u182 u183 u184 u185 u186 u187 u188 u189 u190 u191 u192 u193 u194 u195 u196 u197 u198 u199 u200 u201 u202 u203 u204 u205 u206 u207 u208 u209 u210 u211 u212 u213 u214 u215 u216 u217 u218 u219 u220 u221 u222 u223 u224 u225 u226 u227 u228 u229 u230 u231 u232 u233 : Value} {bb off n1 c1 j o9 BB : Nat} {b1 : Bool} {x : Pk} {Q : Exit → Act → World → Prop} {wr : World}
    (X8 : Hid (PkIn wr BB bb o9 x)) (hoff : off + j * 10 = o9) (hj : j < n1) (hn : n1 ≤ c1) (hc : c1 ≤ 9223372036854775807)
    (hQ : Hid (∀  (x117 x118 x119 x120 x121 x122 x123 x124 : Value) (wx : World), wx = wr → Q .normal ⟨#[u0, .slice (some ⟨bb, off, none⟩) n1 c1, u2, u3, u4, u5, u6, u7, u8, .int .i64 (j : Int), u10, u11, u12, u13, u14, u15, u16, .bool b1, u18, u19, u20, u21, u22, u23, u24, u25, u26, u27, u28, u29, u30, u31, u32, u33, u34, u35, u36, u37, u38, u39, u40, u41, u42, u43, u44, u45, u46, u47, u48, u49, u50, u51, u52, u53, u54, u55, u56, u57, u58, u59, u60, u61, u62, u63, u64, u65, u66, u67, u68, u69, u70, u71, u72, u73, u74, u75, u76, u77, u78, u79, u80, u81, u82, u83, u84, u85, u86, u87, u88, u89, u90, u91, u92, u93, u94, u95, u96, u97, u98, u99, u100, u101, u102, u103, u104, u105, u106, u107, u108, u109, u110, u111, u112, u113, u114, u115, u116, x117, x118, x119, x120, x121, x122, x123, x124, .bool (!b1 && x.tick), u126, u127, u128, u129, u130, u131, u132, u133, u134, u135, u136, u137, u138, u139, u140, u141, u142, u143, u144, u145, u146, u147, u148, u149, u150, u151, u152, u153, u154, u155, u156, u157, u158, u159, u160, u161, u162, u163, u164, u165, u166, u167, u168, u169, u170, u171, u172, u173, u174, u175, u176, u177, u178, u179, u180, u181, u182, u183, u184, u185, u186, u187, u188, u189, u190, u191, u192, u193, u194, u195, u196, u197, u198, u199, u200, u201, u202, u203, u204, u205, u206, u207, u208, u209, u210, u211, u212, u213, u214, u215, u216, u217, u218, u219, u220, u221, u222, u223, u224, u225, u226, u227, u228, u229, u230, u231, u232, u233], []⟩ wx)) :
    Code.wp Try.prog truR25Code Q ⟨#[u0, .slice (some ⟨bb, off, none⟩) n1 c1, u2, u3, u4, u5, u6, u7, u8, .int .i64 (j : Int), u10, u11, u12, u13, u14, u15, u16, .bool b1, u18, u19, u20, u21, u22, u23, u24, u25, u26, u27, u28, u29, u30, u31, u32, u33, u34, u35, u36, u37, u38, u39, u40, u41, u42, u43, u44, u45, u46, u47, u48, u49, u50, u51, u52, u53, u54, u55, u56, u57, u58, u59, u60, u61, u62, u63, u64, u65, u66, u67, u68, u69, u70, u71, u72, u73, u74, u75, u76, u77, u78, u79, u80, u81, u82, u83, u84, u85, u86, u87, u88, u89, u90, u91, u92, u93, u94, u95, u96, u97, u98, u99, u100, u101, u102, u103, u104, u105, u106, u107, u108, u109, u110, u111, u112, u113, u114, u115, u116, u117, u118, u119, u120, u121, u122, u123, u124, u125, u126, u127, u128, u129, u130, u131, u132, u133, u134, u135, u136, u137, u138, u139, u140, u141, u142, u143, u144, u145, u146, u147, u148, u149, u150, u151, u152, u153, u154, u155, u156, u157, u158, u159, u160, u161, u162, u163, u164, u165, u166, u167, u168, u169, u170, u171, u172, u173, u174, u175, u176, u177, u178, u179, u180, u181, u182, u183, u184, u185, u186, u187, u188, u189, u190, u191, u192, u193, u194, u195, u196, u197, u198, u199, u200, u201, u202, u203, u204, u205, u206, u207, u208, u209, u210, u211, u212, u213, u214, u215, u216, u217, u218, u219, u220, u221, u222, u223, u224, u225, u226, u227, u228, u229, u230, u231, u232, u233], []⟩ wr := by
  conv => arg 2; whnf
  have y8 := X8.out.at_.c8
  generalize x.tick = tk at *
  cases b1
  · rw [Bool.not_false, Bool.true_and] at hQ
    go_wp2_with fail
    refine hQ.out  _ _ _ _ _ _ _ _ _ ?_
    rfl
  · rw [Bool.not_true, Bool.false_and] at hQ
    go_wp2_with fail
    refine hQ.out  _ _ _ _ _ _ _ _ _ ?_
    rfl

noncomputable def truI125Code : Code := (Try.f4.body.bind (pickCode (isIf 125))).getD .skip
set_option maxHeartbeats 64000000 in
set_option maxRecDepth 1000000 in
theorem truI125 {u0 u1 u2 u3 u4 u6 u7 u9 u10 u11 u12 u13 u14 u15 u18 u19 u20 u21 u22 u23 u24 u25 u26 u27 u28 u29 u30 u31 u32 u33 u34 u35 u36 u37 u38 u39 u40 u41 u42 u43 u44 u45 u46 u47 u48 u49 u50 u51 u52 u53 u54 u55 u56 u57 u58 u59 u60 u61 u62 u63 u64 u65 u66 u67 u68 u69 u70 u71 u72 u73 u74 u75 u76 u77 u78 u79 u80 u81 u82 u83 u84 u85 u86 u87 u88 u89 u90 u91 u92 u93 u94 u95 u96 u97 u98 u99 u100 u101 u102 u103 u104 u105 u106 u107 u108 u109 u110 u111 u112 u113 u114 u115 u116 u117 u118 u119 u120 u121 u122 u123 u124 u126 u127 u128 u129 u130 u131 u132 u133 u134 u135 u136 u137 u138 u139 u140 u141 u142 u143 u144 u145 u146 u147 u148 u149 u150 u151 u152 u153 u154 u155 u156 u157 u158 u159 u160 u161 u162 u163 u164 u165 u166 u167 u168 u169 u170 u171 u172 u173 u174 u175 u176 u177 u178 u179 u180 u181 u182 u183 u184 u185 u186 u187 u188 u189 u190 u191 u192 u193 u194 u195 u196 u197 u198 u199 u200 u201 u202 u203 u204 u205 u206 u207 u208 u209 u210 u211 u212 u213 u214 u215 u216 u217 u218 u219 u220 u221 u222 u223 u224 u225 u226 u227 u228 u229 u230 u231 u232 u233 : Value} {w : World} {p j n c c7 : Nat} {nw : Int} {cl : List Cm} {A A7 : Option Addr} {s1 : PS} {o1 : Option AckD} {B tk : Bool} {Q : Exit → Act → World → Prop} {wr : World}
    (HB : Hid (B = (!o1.isSome && tk))) (TM : Hid (TrM w p nw j cl n A c s1 o1 A7 c7 wr))
    (hQ : Hid (∀ (s2 : PS) (o2 : Option AckD) (A9 : Option Addr) (c9 : Nat) (x126 x127 x128 x129 x130 x131 : Value) (wx : World), Hid (TrM w p nw j cl n A c s2 o2 A9 c9 wx) → Q .normal ⟨#[u0, u1, u2, u3, u4, .pointer (some ⟨p, 0, none⟩), u6, u7, .int .u64 nw, u9, u10, u11, u12, u13, u14, u15, .slice A9 (tellB o2).length c9, .bool o2.isSome, u18, u19, u20, u21, u22, u23, u24, u25, u26, u27, u28, u29, u30, u31, u32, u33, u34, u35, u36, u37, u38, u39, u40, u41, u42, u43, u44, u45, u46, u47, u48, u49, u50, u51, u52, u53, u54, u55, u56, u57, u58, u59, u60, u61, u62, u63, u64, u65, u66, u67, u68, u69, u70, u71, u72, u73, u74, u75, u76, u77, u78, u79, u80, u81, u82, u83, u84, u85, u86, u87, u88, u89, u90, u91, u92, u93, u94, u95, u96, u97, u98, u99, u100, u101, u102, u103, u104, u105, u106, u107, u108, u109, u110, u111, u112, u113, u114, u115, u116, u117, u118, u119, u120, u121, u122, u123, u124, .bool B, x126, x127, x128, x129, x130, x131, u132, u133, u134, u135, u136, u137, u138, u139, u140, u141, u142, u143, u144, u145, u146, u147, u148, u149, u150, u151, u152, u153, u154, u155, u156, u157, u158, u159, u160, u161, u162, u163, u164, u165, u166, u167, u168, u169, u170, u171, u172, u173, u174, u175, u176, u177, u178, u179, u180, u181, u182, u183, u184, u185, u186, u187, u188, u189, u190, u191, u192, u193, u194, u195, u196, u197, u198, u199, u200, u201, u202, u203, u204, u205, u206, u207, u208, u209, u210, u211, u212, u213, u214, u215, u216, u217, u218, u219, u220, u221, u222, u223, u224, u225, u226, u227, u228, u229, u230, u231, u232, u233], []⟩ wx)) :
    Code.wp Try.prog truI125Code Q ⟨#[u0, u1, u2, u3, u4, .pointer (some ⟨p, 0, none⟩), u6, u7, .int .u64 nw, u9, u10, u11, u12, u13, u14, u15, .slice A7 (tellB o1).length c7, .bool o1.isSome, u18, u19, u20, u21, u22, u23, u24, u25, u26, u27, u28, u29, u30, u31, u32, u33, u34, u35, u36, u37, u38, u39, u40, u41, u42, u43, u44, u45, u46, u47, u48, u49, u50, u51, u52, u53, u54, u55, u56, u57, u58, u59, u60, u61, u62, u63, u64, u65, u66, u67, u68, u69, u70, u71, u72, u73, u74, u75, u76, u77, u78, u79, u80, u81, u82, u83, u84, u85, u86, u87, u88, u89, u90, u91, u92, u93, u94, u95, u96, u97, u98, u99, u100, u101, u102, u103, u104, u105, u106, u107, u108, u109, u110, u111, u112, u113, u114, u115, u116, u117, u118, u119, u120, u121, u122, u123, u124, .bool B, u126, u127, u128, u129, u130, u131, u132, u133, u134, u135, u136, u137, u138, u139, u140, u141, u142, u143, u144, u145, u146, u147, u148, u149, u150, u151, u152, u153, u154, u155, u156, u157, u158, u159, u160, u161, u162, u163, u164, u165, u166, u167, u168, u169, u170, u171, u172, u173, u174, u175, u176, u177, u178, u179, u180, u181, u182, u183, u184, u185, u186, u187, u188, u189, u190, u191, u192, u193, u194, u195, u196, u197, u198, u199, u200, u201, u202, u203, u204, u205, u206, u207, u208, u209, u210, u211, u212, u213, u214, u215, u216, u217, u218, u219, u220, u221, u222, u223, u224, u225, u226, u227, u228, u229, u230, u231, u232, u233], []⟩ wr := by
  conv => arg 2; whnf
  cases B
  · go_wp2_with fail
    refine hQ.out s1 o1 A7 c7 _ _ _ _ _ _ _ ?_
    exact TM
  · have ho1 : o1 = none := by
      cases o1 with
      | none => rfl
      | some a => have := HB.out; simp at this
    subst ho1
    obtain ⟨F8, PR, hF⟩ := TM.out.S.ex
    have KT := Lib.hid (peer_tick wr F8 (fun _ => False) p s1 nw PR)
    have HF8 := Lib.hid hF
    have P8 := Lib.hid PR
    clear PR hF
    go_wp2_with fail
    refine KT.out.mono ?_
    rintro e w8 ⟨tv, hP, hC⟩
    obtain ⟨A8, c8, rfl, r8, n8⟩ := tv.un
    have tt := PS.tick_truth (n := n) (came := cl.map Cm.d) TM.out.S.tr P8.out.good P8.out.wt nw
    have TM2 : Hid (TrM w p nw j cl n A c (s1.tick nw).1 (s1.tick nw).2 A8 c8 w8) := Lib.hid ⟨TrS.turn TM.out.S HF8.out hP hC tt.1 (by rw [PS.tick_few]; exact TM.out.S.few) TM.out.S.cf TM.out.S.n0 TM.out.S.n1, tt.2, r8⟩
    clear tv hP hC r8 n8 KT tt
    generalize (s1.tick nw).1 = s2 at *
    generalize (s1.tick nw).2 = o2 at *
    go_wp2
    refine hQ.out s2 o2 A8 c8 _ _ _ _ _ _ _ ?_
    exact TM2

noncomputable def truR46Code : Code := (Try.f4.body.bind (pickCode (isReg 46))).getD .skip
set_option maxHeartbeats 64000000 in
set_option maxRecDepth 1000000 in
theorem truR46 {u0 u1 u2 u3 u4 u5 u8 u9 u10 u11 u12 u13 u14 u15 u16 u17 u19 u24 u25 u26 u27 u28 u29 u30 u31 u32 u33 u34 u35 u36 u37 u38 u39 u40 u41 u42 u43 u44 u45 u46 u47 u48 u49 u50 u51 u52 u53 u54 u55 u56 u57 u58 u59 u60 u61 u62 u63 u64 u65 u66 u67 u68 u69 u70 u71 u72 u73 u74 u75 u76 u77 u78 u79 u80 u81 u82 u83 u84 u85 u86 u87 u88 u89 u90 u91 u92 u93 u94 u95 u96 u97 u98 u99 u100 u101 u102 u103 u104 u105 u106 u107 u108 u109 u110 u111 u112 u113 u114 u115 u116 u117 u118 u119 u120 u121 u122 u123 u124 u125 u126 u127 u128 u129 u130 u131 u132 u133 u134 u135 u136 u137 u138 u139 u140 u141 u142 u143 u144 u145 u146 u147 u148 u149 u150 u151 u152 u153 u154 u155 u156 u157 u158 u159 u160 u161 u162 u163 u164 u165 u166 u167 u168 u169 u170 u171 u172 u173 u174 u175 u176 u177 u178 u179 u180 u181 u182 u183 u184 u185 u186 u187 u188 u189 u190 u191 u192 u193 u194 u195 u196 u197 u198 u199 u200 u201 u202 u203 u204 u205 u206 u207 u208 u209 u210 u211 u212 u213 u214 u215 u216 u217 u218 u219 u220 u221 u222 u223 u224 u225 u226 u227 u228 u229 u230 u231 u232 u233 : Value} {ga n c Kc Kd : Nat} {tr : Int} {cl : List Cm} {A KA KB : Option Addr} {L : List Hp} {Q : Exit → Act → World → Prop} {wr : World}
    (NA : Hid (wr.heap[ga]? = some (.cells #[.slice KA (gotL L).length Kc, .slice KB (markL L).length Kd, .int .u64 tr, .int .u64 (xorL L), .bool (oddL L)] 48 (0, 0)))) (RS : Hid (Rd wr 2 KA (gotL L).length Kc (Ss (gotL L)))) (U1 : Hid (U2s (gotL L) ∧ Good (gotL L))) (CNT : Hid (sz (gotL L) = L.length)) (hnl : n + 1 ≤ cl.length)
    (hQ : Hid (∀  (x206 x207 x208 x209 x210 x211 x212 x213 x214 x215 x216 x217 x218 x219 x220 x221 x222 x223 x224 x225 x226 x227 x228 x229 x230 x231 : Value) (wx : World), Hid (Qt wr wx) → Q .normal ⟨#[u0, u1, u2, u3, u4, u5, .slice A cl.length c, .int .i64 ((n : Int) + 1), u8, u9, u10, u11, u12, u13, u14, u15, u16, u17, .pointer (some ⟨ga, 0, none⟩), u19, .int .u64 (xorL L), .bool (oddL L), .bool true, .int .u64 (L.length : Int), u24, u25, u26, u27, u28, u29, u30, u31, u32, u33, u34, u35, u36, u37, u38, u39, u40, u41, u42, u43, u44, u45, u46, u47, u48, u49, u50, u51, u52, u53, u54, u55, u56, u57, u58, u59, u60, u61, u62, u63, u64, u65, u66, u67, u68, u69, u70, u71, u72, u73, u74, u75, u76, u77, u78, u79, u80, u81, u82, u83, u84, u85, u86, u87, u88, u89, u90, u91, u92, u93, u94, u95, u96, u97, u98, u99, u100, u101, u102, u103, u104, u105, u106, u107, u108, u109, u110, u111, u112, u113, u114, u115, u116, u117, u118, u119, u120, u121, u122, u123, u124, u125, u126, u127, u128, u129, u130, u131, u132, u133, u134, u135, u136, u137, u138, u139, u140, u141, u142, u143, u144, u145, u146, u147, u148, u149, u150, u151, u152, u153, u154, u155, u156, u157, u158, u159, u160, u161, u162, u163, u164, u165, u166, u167, u168, u169, u170, u171, u172, u173, u174, u175, u176, u177, u178, u179, u180, u181, u182, u183, u184, u185, u186, u187, u188, u189, u190, u191, u192, u193, u194, u195, u196, u197, u198, u199, u200, u201, u202, u203, u204, u205, x206, x207, x208, x209, x210, x211, x212, x213, x214, x215, x216, x217, x218, x219, x220, x221, x222, x223, x224, x225, x226, x227, x228, x229, x230, x231, .bool false, u233], []⟩ wx)) :
    Code.wp Try.prog truR46Code Q ⟨#[u0, u1, u2, u3, u4, u5, .slice A cl.length c, .int .i64 ((n : Int) + 1), u8, u9, u10, u11, u12, u13, u14, u15, u16, u17, .pointer (some ⟨ga, 0, none⟩), u19, .int .u64 (xorL L), .bool (oddL L), .bool true, .int .u64 (L.length : Int), u24, u25, u26, u27, u28, u29, u30, u31, u32, u33, u34, u35, u36, u37, u38, u39, u40, u41, u42, u43, u44, u45, u46, u47, u48, u49, u50, u51, u52, u53, u54, u55, u56, u57, u58, u59, u60, u61, u62, u63, u64, u65, u66, u67, u68, u69, u70, u71, u72, u73, u74, u75, u76, u77, u78, u79, u80, u81, u82, u83, u84, u85, u86, u87, u88, u89, u90, u91, u92, u93, u94, u95, u96, u97, u98, u99, u100, u101, u102, u103, u104, u105, u106, u107, u108, u109, u110, u111, u112, u113, u114, u115, u116, u117, u118, u119, u120, u121, u122, u123, u124, u125, u126, u127, u128, u129, u130, u131, u132, u133, u134, u135, u136, u137, u138, u139, u140, u141, u142, u143, u144, u145, u146, u147, u148, u149, u150, u151, u152, u153, u154, u155, u156, u157, u158, u159, u160, u161, u162, u163, u164, u165, u166, u167, u168, u169, u170, u171, u172, u173, u174, u175, u176, u177, u178, u179, u180, u181, u182, u183, u184, u185, u186, u187, u188, u189, u190, u191, u192, u193, u194, u195, u196, u197, u198, u199, u200, u201, u202, u203, u204, u205, u206, u207, u208, u209, u210, u211, u212, u213, u214, u215, u216, u217, u218, u219, u220, u221, u222, u223, u224, u225, u226, u227, u228, u229, u230, u231, u232, u233], []⟩ wr := by
  conv => arg 2; whnf
  have KC : Hid (Calls Try.prog 19 #[.slice KA (gotL L).length Kc] wr fun e w' => e = .returned (.int .u64 (L.length : Int)) ∧ Qt wr w') := Lib.hid (by
    have h := countNums_any KA _ Kc (gotL L) wr RS.out U1.out.1 U1.out.2
    rw [sumTo_sz, CNT.out] at h
    exact h)
  have hd1 : decide ((cl.length : Int) < (n : Int) + 1) = false := decide_eq_false (by omega)
  have hd2 : decide (cl.length < n + 1) = false := decide_eq_false (by omega)
  have na := NA.out
  have z0 := cell_of_row wr ga 0 _ _ _ na
  have z1 := cell_of_row wr ga 1 _ _ _ na
  have z2 := cell_of_row wr ga 2 _ _ _ na
  have z3 := cell_of_row wr ga 3 _ _ _ na
  have z4 := cell_of_row wr ga 4 _ _ _ na
  clear na hnl
  go_wp2_with fail
  refine KC.out.mono ?_
  rintro e wq ⟨rfl, qq⟩
  have z3 := qq.cell z3
  have z4 := qq.cell z4
  have QQ := Lib.hid qq
  clear KC z0 z1 z2 qq
  go_wp2
  refine hQ.out  _ _ _ _ _ _ _ _ _ _ _ _ _ _ _ _ _ _ _ _ _ _ _ _ _ _ _ ?_
  exact QQ

end Go.Proofs.Ytkedfipeebjcjaa
